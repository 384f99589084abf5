/- Layer 7: the byte whose code comes next. -/
import Derived.Test.YtclhmlgbhlmekaaHBook
import Derived.Test.YtclhmlgbhlmekaaHb
namespace Go.Proofs.Ytclhmlgbhlmekaa
open Go.RowKit
set_option linter.unusedVariables false
set_option linter.unusedSimpArgs false
/-- the byte whose code comes next, behind k bits; and where it ends -/
def oneG (E : List Ent) (f : Nat → Bool) (N a : Nat) : Nat → Nat → Option (Nat × Nat)
  | 0, k => none
  | m + 1, k => if N < a + k + 1 then none else match findE E (k + 1) (nm f a (k + 1)) with
    | some x => some (x.2.2, a + k + 1)
    | none => oneG E f N a m (k + 1)
def oneP (E : List Ent) (f : Nat → Bool) (N a : Nat) : Option (Nat × Nat) := oneG E f N a 56 0
theorem wpList_look {w : World} {b : Nat} {ops : Array Oper} {rest : List Oper} {o : Oper} {a : Act} {Q : Exit → Act → World → Prop}
    (hg : o.guard = none) (m x : Operand) (hop : o.op = Op.lookup 107 m x true) (k c : Nat) (v : Value) (ok : Bool)
    (hm : a.eval m = .map (some b)) (hx : a.eval x = keyV k c) (hrun : (Instr.lookup 107 (.map (some b)) (keyV k c) true).run Try.prog w = .ok (.tuple #[v, .bool ok]) w)
    (hK : wpList Try.prog ops Q rest (a.put o.dst (.tuple #[v, .bool ok])) w) : wpList Try.prog ops Q (o :: rest) a w := by
  refine wpList_plain hg fun K' hK' => ?_
  unfold Oper.wp
  simp [execOp, hop, hm, hx, hrun, Result.andThen]
  exact hK' _ _ hK
theorem look_some {S : Nat → Prop} {W w : World} {b : Nat} {E : List Ent} {M : List Thing} (h : St S W w (mapT b E :: M)) (k c : Nat) (x : Ent) (hr : findE E k c = some x) :
    (Instr.lookup 107 (.map (some b)) (keyV k c) true).run Try.prog w = .ok (.tuple #[.int .u8 x.2.2, .bool true]) w := by
  have := run_lookup h k c
  rw [hr] at this; exact this
theorem look_none {S : Nat → Prop} {W w : World} {b : Nat} {E : List Ent} {M : List Thing} (h : St S W w (mapT b E :: M)) (k c : Nat) (hr : findE E k c = none) :
    (Instr.lookup 107 (.map (some b)) (keyV k c) true).run Try.prog w = .ok (.tuple #[.int .u8 0, .bool false]) w := by
  have := run_lookup h k c
  rw [hr] at this; exact this
set_option maxRecDepth 20000 in
set_option maxHeartbeats 2000000 in
theorem one_st {S : Nat → Prop} {W w : World} {M : List Thing} {b mb a : Nat} {s : ByteArray} {E : List Ent} (h : St S W w (brT b s a :: mapT mb E :: M)) (ha : a ≤ 8 * s.size) (hs : s.size ≤ 140737488355328) (R : Option (Nat × Nat)) (hR : R = oneP E (sb s.data.toList) (8 * s.size) a) :
    Calls Try.prog 54 #[.pointer (some ⟨b, 0, none⟩), .map (some mb)] w fun e w' => ∃ x a' : Nat, a' ≤ 8 * s.size ∧ e = .returned (.tuple #[.int .u8 x, .bool R.isSome]) ∧ (∀ y, R = some y → x = y.1 ∧ a' = y.2) ∧ St S W w' (brT b s a' :: mapT mb E :: M) := by
  have HR : Hid (R = oneG E (sb s.data.toList) (8 * s.size) a (56 - 0) 0) := Lib.hid hR
  clear hR
  go_enter Try.func54, Try.ntmps54
  go_wp2_with fail
  go_loopw [6, 12] (fun v6 v12 wr => ∃ k : Nat, k ≤ 56 ∧ v6 = .int .u64 (nm (sb s.data.toList) a k : Nat) ∧ v12 = .int .u8 k ∧ a + k ≤ 8 * s.size ∧ Hid (R = oneG E (sb s.data.toList) (8 * s.size) a (56 - k) k) ∧ St S W wr (brT b s (a + k) :: mapT mb E :: M)) (fun _ v12 _ => 56 - (intOf v12).toNat)
  case atStart => exact ⟨0, by omega, rfl, rfl, by omega, HR, h⟩
  case round =>
    clear h HR
    obtain ⟨k, hk, rfl, rfl, hak, HR, h⟩ := hrel
    by_cases hlt : k < 56
    · have hl1 : (k : Int) < 56 := by omega
      have E1 : 56 - k = (56 - (k + 1)) + 1 := by omega
      have hR := HR.out
      rw [E1, oneG] at hR
      by_cases hN : 8 * s.size < a + k + 1
      · rw [if_pos hN] at hR
        have HT := Lib.hid (btake_end h hak hs 1 (by omega) (by omega))
        have HRR := Lib.hid hR
        clear hR HR E1
        generalize nm (sb s.data.toList) a k = x at *
        go_wp2_with fail
        refine HT.out.mono ?_
        rintro _ w2 ⟨rfl, x2⟩
        go_wp2_with fail
        go_ret2
        rw [HRR.out]
        exact ⟨0, a + k, hak, rfl, (fun y hy => nomatch hy), h.ext x2⟩
      · rw [if_neg hN] at hR
        have HT := Lib.hid (btake_st h hs 1 (by omega) (by omega))
        have hnl := nm_lt (sb s.data.toList) a k
        have hp : 2 ^ k ≤ 2 ^ 55 := Nat.pow_le_pow_right (by omega) (by omega)
        have e1 : nm (sb s.data.toList) (a + k) 1 = (sb s.data.toList (a + k)).toNat := by simp [nm]
        have e2 : nm (sb s.data.toList) a (k + 1) = nm (sb s.data.toList) a k * 2 + (sb s.data.toList (a + k)).toNat := rfl
        have hb : (sb s.data.toList (a + k)).toNat ≤ 1 := Bool.toNat_le _
        rw [e1] at HT
        generalize (sb s.data.toList (a + k)).toNat = bit at HT e2 hb
        generalize hx : nm (sb s.data.toList) a k = x at *
        have HE := Lib.hid e2
        have hxb : x < 36028797018963968 := by omega
        have hw1 : IntKind.u64.wrap ((x : Int) * 2) = (x : Int) * 2 := by rw [IntKind.wrap_u64]; omega
        have hor : bits .or .u64 ((x : Int) * 2) (bit : Int) = ((nm (sb s.data.toList) a (k + 1) : Nat) : Int) := by
          rw [e2, show (x : Int) * 2 = ((x * 2 : Nat) : Int) by omega, u64_or_nat _ _ (by omega) (by omega), nat_join 1 (x * 2) bit (by omega) (by omega)]
        have hk8 : IntKind.u8.wrap ((k : Int) + 1) = (k : Int) + 1 := by rw [IntKind.wrap_u8]; omega
        obtain ⟨c, hc⟩ : ∃ c, c = nm (sb s.data.toList) a (k + 1) := ⟨_, rfl⟩
        rw [← hc] at hR hor HE e2
        have HC0 := Lib.hid hc
        clear hc
        cases hr : findE E (k + 1) c with
        | some y =>
          rw [hr] at hR
          have HRR : Hid (R = some (y.2.2, a + k + 1)) := Lib.hid hR
          have HF := Lib.hid hr
          clear hR HR E1 hr e1 e2 h hx hp hnl
          obtain ⟨y1, y2, y3⟩ := y
          simp only at HRR
          go_wp2_with fail
          refine HT.out.mono ?_
          rintro _ w2 ⟨rfl, h2⟩
          go_wp2_with (refine wpList_look rfl _ _ rfl (k + 1) c (.int .u8 y3) true rfl rfl (look_some (h2.pull 1) (k + 1) c _ HF.out) ?_)
          go_ret2
          rw [HRR.out]
          exact ⟨y3, a + k + 1, by omega, rfl, (fun y hy => by cases hy; exact ⟨rfl, rfl⟩), h2⟩
        | none =>
          rw [hr] at hR
          have HRR : Hid (R = oneG E (sb s.data.toList) (8 * s.size) a (56 - (k + 1)) (k + 1)) := Lib.hid hR
          have HF := Lib.hid hr
          clear hR HR E1 hr e1 e2 h hx hp hnl
          go_wp2_with fail
          refine HT.out.mono ?_
          rintro _ w2 ⟨rfl, h2⟩
          have HC : Hid (c = nm (sb s.data.toList) a (k + 1)) := HC0
          go_wp2_with (refine wpList_look rfl _ _ rfl (k + 1) c (.int .u8 0) false rfl rfl (look_none (h2.pull 1) (k + 1) c HF.out) ?_)
          rw [HC.out]
          exact ⟨⟨k + 1, by omega, rfl, by go_num, by omega, HRR, h2⟩, by simp only [intOf]; omega⟩
    · obtain rfl : k = 56 := by omega
      have hl1 : ¬ ((56 : Nat) : Int) < 56 := by omega
      have HRR : Hid (R = none) := Lib.hid (by rw [HR.out]; rfl)
      clear HR
      generalize nm (sb s.data.toList) a 56 = x at *
      go_wp2_with fail
      go_ret2
      rw [HRR.out]
      refine ⟨0, a + 56, hak, rfl, ?_, h⟩
      simp
end Go.Proofs.Ytclhmlgbhlmekaa
