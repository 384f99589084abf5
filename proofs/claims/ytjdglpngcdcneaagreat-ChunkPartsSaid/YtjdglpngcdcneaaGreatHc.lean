/- Texts of this work, put together: DPure, DZig, DWalk, DPrint, RPure, RWalk, RWalk2, RAdd, RUn, RUn2. -/
import Derived.Test.YtjdglpngcdcneaaGreatHa
import Derived.Deep.QuietTactic
import Derived.BigQuiet
/- Steps: plain. -/
namespace Go.Proofs.YtjdglpngcdcneaaGreat
set_option linter.unusedVariables false
/-- a list of n: the first i by f, then nothing -/
def mapTo (f : Nat → Nat) (i n : Nat) : List Nat := (List.range i).map f ++ List.replicate (n - i) 0
theorem mapTo_len (f : Nat → Nat) (i n : Nat) (h : i ≤ n) : (mapTo f i n).length = n := by simp [mapTo]; omega
theorem mapTo_zero (f : Nat → Nat) (n : Nat) : mapTo f 0 n = List.replicate n 0 := by simp [mapTo]
theorem mapTo_all (f : Nat → Nat) (n : Nat) : mapTo f n n = (List.range n).map f := by simp [mapTo]
theorem mapTo_set (f : Nat → Nat) (i n : Nat) (h : i < n) : (mapTo f i n).set i (f i) = mapTo f (i + 1) n := by
  unfold mapTo
  rw [List.set_append_right _ _ (by simp), List.length_map, List.length_range, Nat.sub_self, show n - i = (n - (i + 1)) + 1 by omega, List.replicate_succ, List.set_cons_zero, List.range_succ, List.map_append, List.append_assoc]
  rfl
/-- the step from last to n -/
def dl (last n : Nat) : Nat := if (n + 18446744073709551616 - last) % 18446744073709551616 < 9223372036854775808 then 2 * ((n + 18446744073709551616 - last) % 18446744073709551616) else 2 * (18446744073709551616 - (n + 18446744073709551616 - last) % 18446744073709551616) - 1
/-- a step on from last -/
def sm (last u : Nat) : Nat := if u % 2 = 0 then (last + u / 2) % 18446744073709551616 else (last + 18446744073709551616 - u / 2 - 1) % 18446744073709551616
theorem dl_lt (last n : Nat) (h : last < 18446744073709551616) : dl last n < 18446744073709551616 := by unfold dl; split <;> omega
theorem sm_lt (last u : Nat) : sm last u < 18446744073709551616 := by unfold sm; split <;> omega
theorem sm_dl (last n : Nat) (h : last < 18446744073709551616) (hn : n < 18446744073709551616) : sm last (dl last n) = n := by
  unfold sm dl
  split <;> split <;> omega
theorem dl_sm (last u : Nat) (h : last < 18446744073709551616) (hu : u < 18446744073709551616) : dl last (sm last u) = u := by
  unfold sm dl
  split <;> split <;> omega
def prev (l : List Nat) (i : Nat) : Nat := if i = 0 then 0 else l.getD (i - 1) 0
theorem prev_succ (l : List Nat) (i : Nat) : prev l (i + 1) = l.getD i 0 := by simp [prev]
def stepAt (l : List Nat) (i : Nat) : Nat := dl (prev l i) (l.getD i 0)
def deltas (l : List Nat) : List Nat := (List.range l.length).map (stepAt l)
def sumTo (d : List Nat) : Nat → Nat
  | 0 => 0
  | i + 1 => sm (sumTo d i) (d.getD i 0)
def sums (d : List Nat) : List Nat := (List.range d.length).map fun i => sumTo d (i + 1)
theorem deltas_len (l : List Nat) : (deltas l).length = l.length := by simp [deltas]
theorem sums_len (l : List Nat) : (sums l).length = l.length := by simp [sums]
theorem map_range_get (f : Nat → Nat) (n i : Nat) (h : i < n) : ((List.range n).map f).getD i 0 = f i := by simp [h]
theorem deltas_get (l : List Nat) (i : Nat) (h : i < l.length) : (deltas l).getD i 0 = stepAt l i := map_range_get (stepAt l) l.length i h
theorem sums_get (l : List Nat) (i : Nat) (h : i < l.length) : (sums l).getD i 0 = sumTo l (i + 1) := map_range_get (fun i => sumTo l (i + 1)) l.length i h
theorem sumTo_lt (d : List Nat) : ∀ i, sumTo d i < 18446744073709551616
  | 0 => by simp [sumTo]
  | i + 1 => sm_lt _ _
def AllLt (l : List Nat) : Prop := ∀ i, i < l.length → l.getD i 0 < 18446744073709551616
theorem prev_lt (l : List Nat) (h : AllLt l) (i : Nat) (hi : i ≤ l.length) : prev l i < 18446744073709551616 := by
  cases i with
  | zero => simp [prev]
  | succ i => rw [prev_succ]; exact h i (by omega)
theorem deltas_lt (l : List Nat) (h : AllLt l) : AllLt (deltas l) := fun i hi => by
  rw [deltas_len] at hi
  rw [deltas_get l i hi]
  exact dl_lt _ _ (prev_lt l h i (by omega))
theorem sums_lt (l : List Nat) : AllLt (sums l) := fun i hi => by
  rw [sums_len] at hi
  rw [sums_get l i hi]
  exact sumTo_lt _ _
theorem ext_getD {l m : List Nat} (hl : l.length = m.length) (h : ∀ i, i < l.length → l.getD i 0 = m.getD i 0) : l = m := by
  apply List.ext_getElem hl
  intro i h1 h2
  have := h i h1
  rw [List.getD_eq_getElem?_getD, List.getD_eq_getElem?_getD, List.getElem?_eq_getElem h1, List.getElem?_eq_getElem h2] at this
  exact this
theorem sums_deltas (l : List Nat) (h : AllLt l) : sums (deltas l) = l := by
  have key : ∀ i, i ≤ l.length → sumTo (deltas l) i = prev l i := by
    intro i
    induction i with
    | zero => intro _; simp [sumTo, prev]
    | succ i ih =>
      intro hi
      rw [sumTo, ih (by omega), deltas_get l i (by omega), prev_succ]
      exact sm_dl _ _ (prev_lt l h i (by omega)) (h i (by omega))
  apply ext_getD (by rw [sums_len, deltas_len])
  intro i hi
  rw [sums_len, deltas_len] at hi
  rw [sums_get _ _ (by rw [deltas_len]; exact hi), key (i + 1) (by omega), prev_succ]
theorem deltas_sums (d : List Nat) (h : AllLt d) : deltas (sums d) = d := by
  apply ext_getD (by rw [deltas_len, sums_len])
  intro i hi
  rw [deltas_len, sums_len] at hi
  rw [deltas_get _ _ (by rw [sums_len]; exact hi)]
  unfold stepAt
  rw [sums_get _ _ hi]
  have hp : prev (sums d) i = sumTo d i := by
    cases i with
    | zero => simp [prev, sumTo]
    | succ i => rw [prev_succ, sums_get _ _ (by omega)]
  rw [hp, sumTo]
  exact dl_sm _ _ (sumTo_lt d i) (h i hi)
/-- all numbers' bytes -/
def vbs (l : List Nat) : List UInt8 := l.flatMap vb
def vbl (l : List Nat) : List UInt8 := vb l.length ++ vbs l
theorem vbs_snoc (l : List Nat) (n : Nat) : vbs (l ++ [n]) = vbs l ++ vb n := by simp [vbs]
theorem vbs_len_le (l : List Nat) (h : AllLt l) : (vbs l).length ≤ 10 * l.length := by
  have : ∀ k, k ≤ l.length → (vbs (l.take k)).length ≤ 10 * k := by
    intro k
    induction k with
    | zero => intro _; simp [vbs]
    | succ k ih =>
      intro hk
      have h1 : l.take (k + 1) = l.take k ++ [l.getD k 0] := by
        rw [List.take_succ_eq_append_getElem (by omega), List.getD_eq_getElem?_getD, List.getElem?_eq_getElem (by omega)]; rfl
      have := vb_len10 _ (h k (by omega))
      rw [h1, vbs_snoc, List.length_append]
      have := ih (by omega)
      omega
  have := this l.length (Nat.le_refl _)
  rwa [List.take_length] at this
end Go.Proofs.YtjdglpngcdcneaaGreat

/- Layer 3: a number with a sign, without one. -/
namespace Go.Proofs.YtjdglpngcdcneaaGreat
open Go.RowKit
set_option linter.unusedVariables false
set_option linter.unusedSimpArgs false
def zigI (n : Int) : Nat := if 0 ≤ n then (2 * n).toNat else (-2 * n - 1).toNat
def zagI (u : Nat) : Int := if u % 2 = 0 then ((u / 2 : Nat) : Int) else -((u / 2 : Nat) : Int) - 1
theorem zigI_lt (n : Int) (h : -9223372036854775808 ≤ n ∧ n < 9223372036854775808) : zigI n < 18446744073709551616 := by unfold zigI; split <;> omega
theorem zagI_lt (u : Nat) (h : u < 18446744073709551616) : -9223372036854775808 ≤ zagI u ∧ zagI u < 9223372036854775808 := by unfold zagI; split <;> omega
theorem zag_zig (n : Int) : zagI (zigI n) = n := by unfold zagI zigI; split <;> split <;> omega
theorem zig_zag (u : Nat) : zigI (zagI u) = u := by unfold zagI zigI; split <;> split <;> omega
theorem dl_zig (last n : Nat) (h : last < 18446744073709551616) (x : Int) (hx : x = if (n + 18446744073709551616 - last) % 18446744073709551616 < 9223372036854775808 then (((n + 18446744073709551616 - last) % 18446744073709551616 : Nat) : Int) else (((n + 18446744073709551616 - last) % 18446744073709551616 : Nat) : Int) - 18446744073709551616) : zigI x = dl last n := by
  subst hx; unfold zigI dl
  split <;> split <;> omega
theorem xor_ones (x : Nat) (h : x < 2 ^ 64) : x ^^^ (2 ^ 64 - 1) = 2 ^ 64 - (x + 1) := by
  apply Nat.eq_of_testBit_eq
  intro i
  rw [Nat.testBit_xor, Nat.testBit_two_pow_sub_one, Nat.testBit_two_pow_sub_succ h]
  by_cases hi : i < 64
  · simp [hi]
  · simp [hi]
    exact Nat.testBit_lt_two_pow (Nat.lt_of_lt_of_le h (Nat.pow_le_pow_right (by omega) (by omega)))
theorem zig_eq (n : Int) (hn : -9223372036854775808 ≤ n ∧ n < 9223372036854775808) :
    bits BinOp.xor IntKind.u64 (IntKind.u64.wrap (wrap64 (n * 2))) (IntKind.u64.wrap (n / 9223372036854775808)) = (zigI n : Nat) := by
  have e1 : IntKind.u64.wrap (wrap64 (n * 2)) = (n * 2) % 18446744073709551616 := by
    rw [IntKind.wrap_u64]; unfold wrap64; omega
  rw [e1, IntKind.wrap_u64]
  by_cases h0 : 0 ≤ n
  · obtain ⟨k, rfl⟩ : ∃ k : Nat, n = k := ⟨n.toNat, by omega⟩
    have e2 : (k : Int) / 9223372036854775808 % 18446744073709551616 = ((0 : Nat) : Int) := by omega
    have e3 : (k : Int) * 2 % 18446744073709551616 = ((2 * k : Nat) : Int) := by omega
    rw [e2, e3, u64_xor_nat _ _ (by omega) (by omega), Nat.xor_zero]
    unfold zigI
    rw [if_pos h0]; omega
  · have e2 : n / 9223372036854775808 % 18446744073709551616 = ((2 ^ 64 - 1 : Nat) : Int) := by omega
    obtain ⟨x, hx⟩ : ∃ x : Nat, (x : Int) = n * 2 % 18446744073709551616 := ⟨(n * 2 % 18446744073709551616).toNat, by omega⟩
    rw [e2, ← hx, u64_xor_nat _ _ (by omega) (by omega), xor_ones x (by omega)]
    unfold zigI
    rw [if_neg h0]; omega
theorem xor0_i64 (a : Nat) (h : a < 9223372036854775808) : bits BinOp.xor IntKind.i64 (a : Int) 0 = a := by
  show IntKind.i64.wrap ((BitVec.ofInt 64 (a : Int) ^^^ BitVec.ofInt 64 0).toNat : Int) = _
  have e : BitVec.ofInt 64 (a : Int) ^^^ BitVec.ofInt 64 0 = BitVec.ofNat 64 a := by simp
  rw [e, BitVec.toNat_ofNat, Nat.mod_eq_of_lt (by omega)]
  rw [IntKind.wrap_i64]; omega
theorem xor1_i64 (a : Nat) (h : a < 9223372036854775808) : bits BinOp.xor IntKind.i64 (a : Int) (-1) = -(a : Int) - 1 := by
  show IntKind.i64.wrap ((BitVec.ofInt 64 (a : Int) ^^^ BitVec.ofInt 64 (-1)).toNat : Int) = _
  have e : BitVec.ofInt 64 (-1) = BitVec.ofNat 64 (2 ^ 64 - 1) := by decide
  rw [e, BitVec.ofInt_natCast, BitVec.toNat_xor, BitVec.toNat_ofNat, BitVec.toNat_ofNat, Nat.mod_eq_of_lt (by omega), Nat.mod_eq_of_lt (by omega), xor_ones a (by omega)]
  rw [IntKind.wrap_i64]; omega
theorem zag_eq (u : Nat) (hu : u < 18446744073709551616) :
    bits BinOp.xor IntKind.i64 ((u : Int) / 2) (wrap64 (-wrap64 (bits BinOp.and IntKind.u64 (u : Int) 1))) = zagI u := by
  have e1 : bits BinOp.and IntKind.u64 (u : Int) 1 = ((u % 2 : Nat) : Int) := by
    rw [show (1 : Int) = ((1 : Nat) : Int) from rfl, u64_and_nat u 1 hu (by omega), Nat.and_one_is_mod]
  have e2 : (u : Int) / 2 = ((u / 2 : Nat) : Int) := by omega
  rw [e1, e2]
  unfold zagI
  by_cases h : u % 2 = 0
  · rw [h, if_pos rfl, show wrap64 (-wrap64 ((0 : Nat) : Int)) = 0 from by unfold wrap64; omega, xor0_i64 _ (by omega)]
  · rw [show u % 2 = 1 by omega, if_neg (by omega), show wrap64 (-wrap64 ((1 : Nat) : Int)) = -1 from by unfold wrap64; omega, xor1_i64 _ (by omega)]
set_option maxHeartbeats 1000000 in
theorem zig_any (n : Int) (hn : -9223372036854775808 ≤ n ∧ n < 9223372036854775808) (w : World) :
    Calls Tryz.prog 103 #[.int .i64 n] w fun e w' => e = .returned (.int .u64 (zigI n : Nat)) ∧ w = w' := by
  go_enter Tryz.func103, Tryz.ntmps103
  go_wp2
  go_ret
  refine ⟨?_, rfl⟩
  rw [← zig_eq n hn]; rfl
set_option maxHeartbeats 1000000 in
theorem zag_any (u : Nat) (hu : u < 18446744073709551616) (w : World) :
    Calls Tryz.prog 104 #[.int .u64 u] w fun e w' => e = .returned (.int .i64 (zagI u)) ∧ w = w' := by
  go_enter Tryz.func104, Tryz.ntmps104
  go_wp2
  go_ret
  refine ⟨?_, rfl⟩
  rw [← zag_eq u hu]; rfl
end Go.Proofs.YtjdglpngcdcneaaGreat

/- Layer 3: steps and sums. -/
namespace Go.Proofs.YtjdglpngcdcneaaGreat
open Go.RowKit
set_option linter.unusedVariables false
set_option linter.unusedSimpArgs false
section
variable {S : Nat → Prop} {W w : World} {M : List Thing}
theorem run_make_nums (n : Nat) (hn : n ≤ 4200000) (w : World) : (Instr.makeSlice 46 (.int .i64 (n : Int)) (.int .i64 (n : Int))).run Tryz.prog w = .ok (.slice (some ⟨w.heap.size, 0, none⟩) n n) (w.alloc (.cells (numsV (List.replicate n 0)).toArray 34)) := by
  obtain ⟨i0, hi, hz0, hz1, hz2⟩ := info_parts u64_info
  rw [run_make w 46 34 i0 _ Tryz.underlying46 hi hz0 .i64 .i64 n n (by omega) (by omega) (by rw [hz2]; omega) (by omega), hz1]
  simp only [Value.cells, Nat.mul_one, Int.toNat_natCast, zeros]
theorem zig_dl_any (n last : Nat) (h : last < 18446744073709551616) (hn : n < 18446744073709551616) (w : World) :
    Calls Tryz.prog 103 #[.int .i64 (wrap64 (IntKind.u64.wrap ((n : Int) - last)))] w fun e w' => e = .returned (.int .u64 (dl last n : Nat)) ∧ w = w' := by
  have e : zigI (wrap64 (IntKind.u64.wrap ((n : Int) - last))) = dl last n := by
    apply dl_zig last n h
    rw [IntKind.wrap_u64]; unfold wrap64
    split <;> omega
  rw [← e]
  refine zig_any _ ?_ w
  unfold wrap64; omega
set_option maxRecDepth 20000 in
set_option maxHeartbeats 4000000 in
theorem deltas_st (h : St S W w M) (A : Option Addr) (ca : Nat) (l : List Nat) (hl : l.length ≤ 4200000) (hr : NRow w A l) (ha : AllLt l) :
    Calls Tryz.prog 95 #[.slice A l.length ca] w fun e w' => ∃ g, e = .returned (.slice (some ⟨g, 0, none⟩) l.length l.length) ∧ St S W w' (nlT (.slice (some ⟨g, 0, none⟩) l.length l.length) (deltas l) :: M) ∧ Ext w w' := by
  have hmk := run_make_nums l.length hl
  obtain ⟨m, hm⟩ : ∃ m, m = l.length := ⟨_, rfl⟩
  have ha2 : ∀ i, i < m → l.getD i 0 < 18446744073709551616 := fun i hi => ha i (by omega)
  have hr2 : ∀ i, i < m → ∃ b off, A = some ⟨b, off, none⟩ ∧ w.cell? ⟨b, off + i, none⟩ = some (.int .u64 (l.getD i 0 : Nat)) := fun i hi => hr i (by omega)
  have HD := Lib.hid (show deltas l = mapTo (stepAt l) m m by rw [mapTo_all, hm]; rfl)
  rw [← hm] at hmk hl ⊢
  have HM := Lib.hid hm
  clear hm ha hr
  go_enter Tryz.func95, Tryz.ntmps95
  go_wp2_with fail
  have h2 := h.made 34 1 m m (numsV (List.replicate m 0)).toArray (Nat.le_refl _) (by unfold maxLen; omega) (by simp [numsV])
  have g2 := (St.start noB w).made 34 1 m m (numsV (List.replicate m 0)).toArray (Nat.le_refl _) (by unfold maxLen; omega) (by simp [numsV])
  simp only [Nat.mul_one, List.take_toArray] at h2 g2
  clear hmk h
  generalize w.alloc (.cells (numsV (List.replicate m 0)).toArray 34) = w1 at h2 g2 ⊢
  generalize w.heap.size = x at h2 g2 ⊢
  go_loopw [4, 12] (fun vl vi wr => ∃ i : Nat, i ≤ m ∧ vl = .int .u64 (prev l i : Nat) ∧ vi = .int .i64 i ∧ St S W wr (ownT 34 1 (.slice (some ⟨x, 0, none⟩) m m) m (numsV (mapTo (stepAt l) i m)) :: M) ∧ St noB w wr [ownT 34 1 (.slice (some ⟨x, 0, none⟩) m m) m (numsV (mapTo (stepAt l) i m))]) (fun _ vi _ => m - (intOf vi).toNat)
  case atStart => exact ⟨0, by omega, rfl, rfl, by rw [mapTo_zero]; simpa [numsV] using h2, by rw [mapTo_zero]; simpa [numsV] using g2⟩
  case round =>
    clear h2 g2
    obtain ⟨i, hi, rfl, rfl, h, g⟩ := hrel
    by_cases hlt : i < m
    · obtain ⟨b, off, rfl, hc⟩ := hr2 i hlt
      have hc2 := g.ends.cell hc
      have hb := ha2 i hlt
      have hp : prev l i < 18446744073709551616 := by
        cases i with
        | zero => simp [prev]
        | succ i => rw [prev_succ]; exact ha2 i (by omega)
      have HS := Lib.hid (mapTo_set (stepAt l) i m hlt)
      have HP := Lib.hid (prev_succ l i)
      have kc := h.own.cell i (by omega)
      rw [numsV_get _ _ (by rw [mapTo_len _ _ _ hi]; exact hlt)] at kc
      have kf := h.own.free i
      generalize (mapTo (stepAt l) i m).getD i 0 = old at kc
      have HSA := Lib.hid (show stepAt l i = dl (prev l i) (l.getD i 0) from rfl)
      generalize prev l i = last at hp HSA ⊢
      generalize l.getD i 0 = n at hb hc hc2 HSA HP
      clear hc ha2 hr2
      have HZ := Lib.hid (zig_dl_any n last hp hb)
      rw [← HSA.out] at HZ
      have h5 := h.stored i (.int .u64 (stepAt l i : Nat))
      have g5 := g.stored i (.int .u64 (stepAt l i : Nat))
      rw [numsV_set, HS.out] at h5 g5
      generalize stepAt l i = d at HZ h5 g5
      go_wp2_with (go_at_call 103; refine (HZ.out _).mono ?_; rintro e w3 ⟨rfl, rfl⟩)
      go_roundw
      case rel => first | exact ⟨i + 1, by omega, by rw [HP.out], by go_num, h5, g5⟩ | ((repeat apply Exists.intro); exact ⟨⟨i + 1, by omega, by rw [HP.out], by go_num, h5, g5⟩, rfl⟩)
      case measure => simp [intOf]; omega
    · obtain rfl : i = m := by omega
      go_wp2_with fail
      go_ret
      refine ⟨x, rfl, ?_, g.ends⟩
      rw [HD.out]
      unfold nlT
      rw [mapTo_len _ _ _ (Nat.le_refl _)]
      exact h
theorem sum_eq (last u : Nat) (h : last < 18446744073709551616) (hu : u < 18446744073709551616) : IntKind.u64.wrap ((last : Int) + IntKind.u64.wrap (zagI u)) = ((sm last u : Nat) : Int) := by
  rw [IntKind.wrap_u64, IntKind.wrap_u64]
  unfold zagI sm
  split <;> omega
set_option maxRecDepth 20000 in
set_option maxHeartbeats 4000000 in
theorem sums_st (h : St S W w M) (A : Option Addr) (ca : Nat) (l : List Nat) (hl : l.length ≤ 4200000) (hr : NRow w A l) (ha : AllLt l) :
    Calls Tryz.prog 97 #[.slice A l.length ca] w fun e w' => ∃ g, e = .returned (.slice (some ⟨g, 0, none⟩) l.length l.length) ∧ St S W w' (nlT (.slice (some ⟨g, 0, none⟩) l.length l.length) (sums l) :: M) ∧ Ext w w' := by
  have hmk := run_make_nums l.length hl
  obtain ⟨m, hm⟩ : ∃ m, m = l.length := ⟨_, rfl⟩
  have ha2 : ∀ i, i < m → l.getD i 0 < 18446744073709551616 := fun i hi => ha i (by omega)
  have hr2 : ∀ i, i < m → ∃ b off, A = some ⟨b, off, none⟩ ∧ w.cell? ⟨b, off + i, none⟩ = some (.int .u64 (l.getD i 0 : Nat)) := fun i hi => hr i (by omega)
  have HD := Lib.hid (show sums l = mapTo (fun i => sumTo l (i + 1)) m m by rw [mapTo_all, hm]; rfl)
  rw [← hm] at hmk hl ⊢
  have HM := Lib.hid hm
  clear hm ha hr
  go_enter Tryz.func97, Tryz.ntmps97
  go_wp2_with fail
  have h2 := h.made 34 1 m m (numsV (List.replicate m 0)).toArray (Nat.le_refl _) (by unfold maxLen; omega) (by simp [numsV])
  have g2 := (St.start noB w).made 34 1 m m (numsV (List.replicate m 0)).toArray (Nat.le_refl _) (by unfold maxLen; omega) (by simp [numsV])
  simp only [Nat.mul_one, List.take_toArray] at h2 g2
  clear hmk h
  generalize w.alloc (.cells (numsV (List.replicate m 0)).toArray 34) = w1 at h2 g2 ⊢
  generalize w.heap.size = x at h2 g2 ⊢
  go_loopw [4, 12] (fun vl vi wr => ∃ i : Nat, i ≤ m ∧ vl = .int .u64 (sumTo l i : Nat) ∧ vi = .int .i64 i ∧ St S W wr (ownT 34 1 (.slice (some ⟨x, 0, none⟩) m m) m (numsV (mapTo (fun i => sumTo l (i + 1)) i m)) :: M) ∧ St noB w wr [ownT 34 1 (.slice (some ⟨x, 0, none⟩) m m) m (numsV (mapTo (fun i => sumTo l (i + 1)) i m))]) (fun _ vi _ => m - (intOf vi).toNat)
  case atStart => exact ⟨0, by omega, rfl, rfl, by rw [mapTo_zero]; simpa [numsV] using h2, by rw [mapTo_zero]; simpa [numsV] using g2⟩
  case round =>
    clear h2 g2
    obtain ⟨i, hi, rfl, rfl, h, g⟩ := hrel
    by_cases hlt : i < m
    · obtain ⟨b, off, rfl, hc⟩ := hr2 i hlt
      have hc2 := g.ends.cell hc
      have hb := ha2 i hlt
      have hp := sumTo_lt l i
      have HS := Lib.hid (mapTo_set (fun i => sumTo l (i + 1)) i m hlt)
      have kc := h.own.cell i (by omega)
      rw [numsV_get _ _ (by rw [mapTo_len _ _ _ hi]; exact hlt)] at kc
      have kf := h.own.free i
      generalize (mapTo (fun i => sumTo l (i + 1)) i m).getD i 0 = old at kc
      have HSA := Lib.hid (sum_eq (sumTo l i) (l.getD i 0) hp hb)
      change Hid (_ = ((sumTo l (i + 1) : Nat) : Int)) at HSA
      generalize sumTo l i = last at hp HSA ⊢
      generalize l.getD i 0 = n at hb hc hc2 HSA
      clear hc ha2 hr2
      have HZ := Lib.hid (zag_any n hb)
      have h5 := h.stored i (.int .u64 (sumTo l (i + 1) : Nat))
      have g5 := g.stored i (.int .u64 (sumTo l (i + 1) : Nat))
      rw [numsV_set, HS.out] at h5 g5
      have heq := HSA.out
      obtain ⟨d, hd⟩ : ∃ d, d = sumTo l (i + 1) := ⟨_, rfl⟩
      have HDd := Lib.hid hd
      rw [← hd] at heq h5 g5
      clear hd
      go_wp2_with (go_at_call 104; refine (HZ.out _).mono ?_; rintro e w3 ⟨rfl, rfl⟩)
      go_roundw
      case rel => first | exact ⟨i + 1, by omega, by rw [HDd.out], by go_num, h5, g5⟩ | ((repeat apply Exists.intro); exact ⟨⟨i + 1, by omega, by rw [HDd.out], by go_num, h5, g5⟩, rfl⟩)
      case measure => simp [intOf]; omega
    · obtain rfl : i = m := by omega
      go_wp2_with fail
      go_ret
      refine ⟨x, rfl, ?_, g.ends⟩
      rw [HD.out]
      unfold nlT
      rw [mapTo_len _ _ _ (Nat.le_refl _)]
      exact h
theorem step_up (last n : Nat) (h : last < 18446744073709551616) (hn : n < 18446744073709551616) (hs : IntKind.u64.wrap ((n : Int) - last) < 9223372036854775808) :
    IntKind.u64.wrap (2 * IntKind.u64.wrap ((n : Int) - last)) = (dl last n : Nat) := by
  rw [IntKind.wrap_u64] at hs
  rw [IntKind.wrap_u64, IntKind.wrap_u64]
  unfold dl; split <;> omega
theorem step_down (last n : Nat) (h : last < 18446744073709551616) (hn : n < 18446744073709551616) (hs : ¬ IntKind.u64.wrap ((n : Int) - last) < 9223372036854775808) :
    IntKind.u64.wrap (IntKind.u64.wrap (2 * IntKind.u64.wrap (IntKind.u64.wrap ((last : Int) - n) - 1)) + 1) = (dl last n : Nat) := by
  rw [IntKind.wrap_u64] at hs
  simp only [IntKind.wrap_u64]
  unfold dl; split <;> omega
set_option maxRecDepth 20000 in
set_option maxHeartbeats 4000000 in
theorem rdeltas_st (h : St S W w M) (A : Option Addr) (ca : Nat) (l : List Nat) (hl : l.length ≤ 4200000) (hr : NRow w A l) (ha : AllLt l) :
    Calls Tryz.prog 44 #[.slice A l.length ca] w fun e w' => ∃ v, e = .returned v ∧ St S W w' (nlT v (deltas l) :: M) ∧ Ext w w' := by
  obtain ⟨m, hm⟩ : ∃ m, m = l.length := ⟨_, rfl⟩
  have ha2 : ∀ i, i < m → l.getD i 0 < 18446744073709551616 := fun i hi => ha i (by omega)
  have hr2 : ∀ i, i < m → ∃ b off, A = some ⟨b, off, none⟩ ∧ w.cell? ⟨b, off + i, none⟩ = some (.int .u64 (l.getD i 0 : Nat)) := fun i hi => hr i (by omega)
  have HD := Lib.hid (show deltas l = (List.range m).map (stepAt l) by rw [hm]; rfl)
  rw [← hm] at hl ⊢
  clear hm ha hr
  have h2 := h.nilOwn 34 1
  have g2 := (St.start noB w).nilOwn 34 1
  clear h
  go_enter Tryz.func44, Tryz.ntmps44
  go_wp2_with fail
  go_loopw [3, 4, 5] (fun vo vl vi wr => ∃ i : Nat, ∃ v, i ≤ m ∧ vo = v ∧ vl = .int .u64 (prev l i : Nat) ∧ vi = .int .i64 i ∧ St S W wr (ownT 34 1 v i (numsV ((List.range i).map (stepAt l))) :: M) ∧ St noB w wr [ownT 34 1 v i (numsV ((List.range i).map (stepAt l)))]) (fun _ _ vi _ => m - (intOf vi).toNat)
  case atStart => exact ⟨0, _, by omega, rfl, rfl, rfl, h2, g2⟩
  case round =>
    clear h2 g2
    obtain ⟨i, v, hi, rfl, rfl, rfl, h, g⟩ := hrel
    obtain ⟨A3, c3, rfl⟩ := h.own.form
    by_cases hlt : i < m
    · obtain ⟨b, off, rfl, hc⟩ := hr2 i hlt
      have hc2 := g.ends.cell hc
      have hb := ha2 i hlt
      have hp : prev l i < 18446744073709551616 := by
        cases i with
        | zero => simp [prev]
        | succ i => rw [prev_succ]; exact ha2 i (by omega)
      have HP := Lib.hid (prev_succ l i)
      have HSA := Lib.hid (show stepAt l i = dl (prev l i) (l.getD i 0) from rfl)
      have HR := Lib.hid (show (List.range (i + 1)).map (stepAt l) = (List.range i).map (stepAt l) ++ [stepAt l i] by rw [List.range_succ, List.map_append]; rfl)
      generalize prev l i = last at hp HSA ⊢
      generalize l.getD i 0 = n at hb hc hc2 HSA HP
      have HC := Lib.hid hc
      clear hc ha2 hr2
      have hli : (i : Int) < (m : Int) := by omega
      have hl0 : (0 : Int) ≤ (i : Int) := by omega
      have ka1 := fun a : After wr => (After.ext a).cell hc2
      clear hc2
      go_wp2_with fail
      (refine wp_region_after (by kernel_rfl) (by kernel_rfl) ?_; (repeat (first | go_big_quiet_skip | (go_big_quiet_want; first | (fail; simp only [Act.put, List.setIfInBounds_toArray, List.set_cons_succ, List.set_cons_zero]; go_big_quiet_on) | (go_big_quiet_op; first | go_big_quiet_on | (apply Exists.intro; refine ⟨fun _ => ?_, ?_⟩; (· (fail)); go_big_quiet_on))))); refine wpQuiet_nil ?_; rintro _ ⟨y, rfl⟩)
      have h5 := h.ext y.ext
      have g5 := g.ext y.ext
      have hc3 := ka1 y
      clear ka1 h g

      by_cases hsm : IntKind.u64.wrap ((n : Int) - last) < 9223372036854775808
      · have e1 := Lib.hid (step_up last n hp hb hsm)
        go_wp2_with (at_builtin; refine wpList_push2 rfl _ _ _ rfl 34 (.int .u64 0) 1 8 Tryz.underlying46 u64_info rfl (by decide) h5 g5 rfl rfl rfl (by intro u hu; simp at hu; subst hu; rfl) (by unfold maxLen; omega) (by omega) ?_; intro A' c' w6 h6 g6; have hc6 := g6.ends.cell HC.out)
        have h7 : St S W w6 (ownT 34 1 (.slice A' (i + 1) c') (i + 1) (numsV ((List.range (i + 1)).map (stepAt l))) :: M) := by
          rw [HR.out, numsV_append, HSA.out]; rw [e1.out] at h6; exact h6
        have g7 : St noB w w6 [ownT 34 1 (.slice A' (i + 1) c') (i + 1) (numsV ((List.range (i + 1)).map (stepAt l)))] := by
          rw [HR.out, numsV_append, HSA.out]; rw [e1.out] at g6; exact g6
        go_roundw
        case rel => first | exact ⟨i + 1, _, by omega, rfl, by rw [HP.out], by go_num, h7, g7⟩ | ((repeat apply Exists.intro); exact ⟨⟨i + 1, _, by omega, rfl, by rw [HP.out], by go_num, h7, g7⟩, rfl⟩)
        case measure => simp [intOf]; omega
      · have e1 := Lib.hid (step_down last n hp hb hsm)
        go_wp2_with (at_builtin; refine wpList_push2 rfl _ _ _ rfl 34 (.int .u64 0) 1 8 Tryz.underlying46 u64_info rfl (by decide) h5 g5 rfl rfl rfl (by intro u hu; simp at hu; subst hu; rfl) (by unfold maxLen; omega) (by omega) ?_; intro A' c' w6 h6 g6; have hc6 := g6.ends.cell HC.out)
        have h7 : St S W w6 (ownT 34 1 (.slice A' (i + 1) c') (i + 1) (numsV ((List.range (i + 1)).map (stepAt l))) :: M) := by
          rw [HR.out, numsV_append, HSA.out]; rw [e1.out] at h6; exact h6
        have g7 : St noB w w6 [ownT 34 1 (.slice A' (i + 1) c') (i + 1) (numsV ((List.range (i + 1)).map (stepAt l)))] := by
          rw [HR.out, numsV_append, HSA.out]; rw [e1.out] at g6; exact g6
        go_roundw
        case rel => first | exact ⟨i + 1, _, by omega, rfl, by rw [HP.out], by go_num, h7, g7⟩ | ((repeat apply Exists.intro); exact ⟨⟨i + 1, _, by omega, rfl, by rw [HP.out], by go_num, h7, g7⟩, rfl⟩)
        case measure => simp [intOf]; omega
    · obtain rfl : i = m := by omega
      go_wp2_with fail
      go_ret
      refine ⟨_, rfl, ?_, g.ends⟩
      rw [HD.out]
      unfold nlT
      rw [List.length_map, List.length_range]
      exact h
theorem sum_even (last u : Nat) (h : last < 18446744073709551616) (hu : u < 18446744073709551616) (h2 : u % 2 = 0) : IntKind.u64.wrap ((last : Int) + (u : Int) / 2) = ((sm last u : Nat) : Int) := by
  rw [IntKind.wrap_u64]; unfold sm; split <;> omega
theorem sum_odd (last u : Nat) (h : last < 18446744073709551616) (hu : u < 18446744073709551616) (h2 : ¬ u % 2 = 0) : IntKind.u64.wrap (IntKind.u64.wrap ((last : Int) - (u : Int) / 2) - 1) = ((sm last u : Nat) : Int) := by
  rw [IntKind.wrap_u64, IntKind.wrap_u64]; unfold sm; split <;> omega
end
end Go.Proofs.YtjdglpngcdcneaaGreat

/- Layers 2 and 3: lists printed and read. -/
namespace Go.Proofs.YtjdglpngcdcneaaGreat
open Go.RowKit
set_option linter.unusedVariables false
set_option linter.unusedSimpArgs false
theorem take_snoc (l : List Nat) (i : Nat) (h : i < l.length) : l.take (i + 1) = l.take i ++ [l.getD i 0] := by
  rw [List.take_succ_eq_append_getElem h, List.getD_eq_getElem?_getD, List.getElem?_eq_getElem h]; rfl
theorem d_bytes_append (a b : List UInt8) : (⟨a.toArray⟩ : ByteArray) ++ ⟨b.toArray⟩ = ⟨(a ++ b).toArray⟩ := by
  apply ByteArray.ext
  apply Array.toList_inj.1
  rw [ByteArray.data_append, Array.toList_append]
theorem d_bytes_size (a : List UInt8) : (⟨a.toArray⟩ : ByteArray).size = a.length := rfl
theorem bytes_list (a : List UInt8) : (⟨a.toArray⟩ : ByteArray).data.toList = a := by simp
section
variable {A : Option Addr} {ca : Nat} {l : List Nat}
set_option maxRecDepth 20000 in
set_option maxHeartbeats 4000000 in
theorem vprintlist_any (w : World) (hl : l.length ≤ 1000000) (hr : NRow w A l) (ha : AllLt l) :
    Calls Tryz.prog 94 #[.slice A l.length ca] w fun e w' => e = .returned (.string ⟨(vbl l).toArray⟩) ∧ Ext w w' := by
  obtain ⟨m, hm⟩ : ∃ m, m = l.length := ⟨_, rfl⟩
  have ha2 : ∀ i, i < m → l.getD i 0 < 18446744073709551616 := fun i hi => ha i (by omega)
  have hr2 : ∀ i, i < m → ∃ b off, A = some ⟨b, off, none⟩ ∧ w.cell? ⟨b, off + i, none⟩ = some (.int .u64 (l.getD i 0 : Nat)) := fun i hi => hr i (by omega)
  have HT : Hid (∀ i, i < m → vb m ++ vbs (l.take (i + 1)) = (vb m ++ vbs (l.take i)) ++ vb (l.getD i 0)) := Lib.hid (fun i hi => by rw [take_snoc l i (by omega), vbs_snoc, List.append_assoc])
  have HD := Lib.hid (show vbl l = vb m ++ vbs (l.take m) by rw [hm, List.take_length]; rfl)
  have h10 := vb_len10 m (by omega)
  rw [← hm] at hl ⊢
  clear hm ha hr
  go_enter Tryz.func94, Tryz.ntmps94
  have HP := Lib.hid (fun w => vprint_any m (by omega) w)
  go_wp2_with (first
    | (go_at_call 34; refine (HP.out _).mono ?_; rintro e w1 ⟨rfl, x1⟩; have h := (St.start noB w).newWr.ext x1; have HTX := Lib.hid (text_st h ⟨(vb m).toArray⟩ (by rw [d_bytes_size]; simp; omega)))
    | (go_at_call 17; refine HTX.out.mono ?_; rintro e w2 ⟨rfl, h2⟩))
  rw [List.nil_append] at h2
  generalize w.heap.size = x at h2 ⊢
  clear HTX h
  go_loopw [13] (fun vi wr => ∃ i : Nat, i ≤ m ∧ vi = .int .i64 i ∧ (vb m ++ vbs (l.take i)).length ≤ 10 + 10 * i ∧ St noB w wr [wrT x (vb m ++ vbs (l.take i))]) (fun vi _ => m - (intOf vi).toNat)
  case atStart => exact ⟨0, by omega, rfl, by simp [vbs]; omega, by simpa [vbs] using h2⟩
  case round =>
    clear h2
    obtain ⟨i, hi, rfl, hlen, h⟩ := hrel
    by_cases hlt : i < m
    · obtain ⟨b, off, rfl, hc⟩ := hr2 i hlt
      have hc2 := h.ends.cell hc
      have hb := ha2 i hlt
      have HE := Lib.hid (HT.out i hlt)
      generalize l.getD i 0 = n at hb hc hc2 HE
      have hn10 := vb_len10 n hb
      have HP2 := Lib.hid (fun w => vprint_any n hb w)
      clear hc ha2 hr2
      have hlen2 : (vb m ++ vbs (l.take (i + 1))).length ≤ 10 + 10 * (i + 1) := by rw [HE.out, List.length_append]; omega
      go_wp2_with (first
        | (go_at_call 34; refine (HP2.out _).mono ?_; rintro e w3 ⟨rfl, x3⟩; have HTX := Lib.hid (text_st (h.ext x3) ⟨(vb n).toArray⟩ (by rw [d_bytes_size]; omega)))
        | (go_at_call 17; refine HTX.out.mono ?_; rintro e w4 ⟨rfl, h4⟩))
      rw [← HE.out] at h4
      go_roundw
      case rel => first | exact ⟨i + 1, by omega, by go_num, hlen2, h4⟩ | ((repeat apply Exists.intro); exact ⟨⟨i + 1, by omega, by go_num, hlen2, h4⟩, rfl⟩)
      case measure => simp [intOf]; omega
    · obtain rfl : i = m := by omega
      have HS := Lib.hid (str_st h)
      go_wp2_with (go_at_call 21; refine HS.out.mono ?_; rintro e w3 ⟨rfl, rfl⟩)
      go_ret
      rw [HD.out]
      exact ⟨rfl, h.ends⟩
set_option maxRecDepth 20000 in
set_option maxHeartbeats 4000000 in
theorem rprintlist_any (w : World) (hl : l.length ≤ 1000000) (hr : NRow w A l) (ha : AllLt l) :
    Calls Tryz.prog 43 #[.slice A l.length ca] w fun e w' => e = .returned (.string ⟨(vbl l).toArray⟩) ∧ Ext w w' := by
  obtain ⟨m, hm⟩ : ∃ m, m = l.length := ⟨_, rfl⟩
  have ha2 : ∀ i, i < m → l.getD i 0 < 18446744073709551616 := fun i hi => ha i (by omega)
  have hr2 : ∀ i, i < m → ∃ b off, A = some ⟨b, off, none⟩ ∧ w.cell? ⟨b, off + i, none⟩ = some (.int .u64 (l.getD i 0 : Nat)) := fun i hi => hr i (by omega)
  have HT : Hid (∀ i, i < m → vb m ++ vbs (l.take (i + 1)) = (vb m ++ vbs (l.take i)) ++ vb (l.getD i 0)) := Lib.hid (fun i hi => by rw [take_snoc l i (by omega), vbs_snoc, List.append_assoc])
  have HD := Lib.hid (show vbl l = vb m ++ vbs (l.take m) by rw [hm, List.take_length]; rfl)
  have h10 := vb_len10 m (by omega)
  rw [← hm] at hl ⊢
  clear hm ha hr
  go_enter Tryz.func43, Tryz.ntmps43
  have HP := Lib.hid (fun w => rprint_any m (by omega) w)
  go_wp2_with (go_at_call 42; refine (HP.out _).mono ?_; rintro e w1 ⟨rfl, x1⟩)
  go_loopw [3, 4] (fun vs vi wr => ∃ (i : Nat) (s : ByteArray), i ≤ m ∧ s.size ≤ 10 + 10 * i ∧ vs = .string s ∧ vi = .int .i64 i ∧ Hid (s = ⟨(vb m ++ vbs (l.take i)).toArray⟩) ∧ Ext w wr) (fun _ vi _ => m - (intOf vi).toNat)
  case atStart => exact ⟨0, _, by omega, by rw [d_bytes_size]; omega, rfl, rfl, Lib.hid (by simp [vbs]), x1⟩
  case round =>
    clear x1
    obtain ⟨i, s, hi, hss, rfl, rfl, HS, x⟩ := hrel
    by_cases hlt : i < m
    · obtain ⟨b, off, rfl, hc⟩ := hr2 i hlt
      have hc2 := x.cell hc
      have hb := ha2 i hlt
      have HE := Lib.hid (HT.out i hlt)
      generalize l.getD i 0 = n at hb hc hc2 HE
      have HP2 := Lib.hid (fun w => rprint_any n hb w)
      have HS2 : Hid (s ++ ⟨(vb n).toArray⟩ = ⟨(vb m ++ vbs (l.take (i + 1))).toArray⟩) := Lib.hid (by rw [HS.out, d_bytes_append, HE.out])
      have htz : (⟨(vb n).toArray⟩ : ByteArray).size ≤ 10 := by rw [d_bytes_size]; exact vb_len10 n hb
      generalize (⟨(vb n).toArray⟩ : ByteArray) = t at HP2 HS2 htz
      have hst : (s ++ t).size ≤ 10 + 10 * (i + 1) := by rw [ByteArray.size_append]; omega
      clear hc ha2 hr2 HS
      go_wp2_with (go_at_call 42; refine (HP2.out _).mono ?_; rintro e w3 ⟨rfl, x3⟩)
      have x4 := x.trans x3
      go_roundw
      case rel => first | exact ⟨i + 1, _, by omega, hst, rfl, by go_num, HS2, x4⟩ | ((repeat apply Exists.intro); exact ⟨⟨i + 1, _, by omega, hst, rfl, by go_num, HS2, x4⟩, rfl⟩)
      case measure => simp [intOf]; omega
    · obtain rfl : i = m := by omega
      go_wp2_with fail
      go_ret
      rw [HD.out, ← HS.out]
      exact ⟨rfl, x⟩
end
section
variable {S : Nat → Prop} {W w : World} {M : List Thing}
set_option maxHeartbeats 2000000 in
theorem dprint_any (A : Option Addr) (ca : Nat) (l : List Nat) (w : World) (hl : l.length ≤ 1000000) (hr : NRow w A l) (ha : AllLt l) :
    Calls Tryz.prog 66 #[.slice A l.length ca] w fun e w' => e = .returned (.string ⟨(vbl (deltas l)).toArray⟩) ∧ Ext w w' := by
  have H1 := Lib.hid (deltas_st (St.start noB w) A ca l (by omega) hr ha)
  have hz := deltas_len l
  have hda := deltas_lt l ha
  clear hr ha
  obtain ⟨d, hd⟩ : ∃ d, d = deltas l := ⟨_, rfl⟩
  rw [← hd] at H1 hz hda ⊢
  clear hd
  rw [← hz] at H1 hl
  have HV := Lib.hid (fun (A : Option Addr) (ca : Nat) (w : World) (hr : NRow w A d) => vprintlist_any (ca := ca) w hl hr hda)
  generalize (⟨(vbl d).toArray⟩ : ByteArray) = r at HV ⊢
  clear hda
  go_enter Tryz.func66, Tryz.ntmps66
  rw [← hz]
  clear hz
  go_wp2_with (first
    | (go_at_call 95; refine H1.out.mono ?_; rintro e w1 ⟨g, rfl, h1, x1⟩)
    | (go_at_call 94; refine (HV.out _ _ _ (Own.nrow h1.own rfl)).mono ?_; rintro e w2 ⟨rfl, x2⟩))
  go_ret
  exact ⟨rfl, x1.trans x2⟩
set_option maxHeartbeats 2000000 in
theorem drprint_any (A : Option Addr) (ca : Nat) (l : List Nat) (w : World) (hl : l.length ≤ 1000000) (hr : NRow w A l) (ha : AllLt l) :
    Calls Tryz.prog 25 #[.slice A l.length ca] w fun e w' => e = .returned (.string ⟨(vbl (deltas l)).toArray⟩) ∧ Ext w w' := by
  have H1 := Lib.hid (rdeltas_st (St.start noB w) A ca l (by omega) hr ha)
  have hz := deltas_len l
  have hda := deltas_lt l ha
  clear hr ha
  obtain ⟨d, hd⟩ : ∃ d, d = deltas l := ⟨_, rfl⟩
  rw [← hd] at H1 hz hda ⊢
  clear hd
  rw [← hz] at H1 hl
  have HV := Lib.hid (fun (A : Option Addr) (ca : Nat) (w : World) (hr : NRow w A d) => rprintlist_any (ca := ca) w hl hr hda)
  generalize (⟨(vbl d).toArray⟩ : ByteArray) = r at HV ⊢
  clear hda
  go_enter Tryz.func25, Tryz.ntmps25
  rw [← hz]
  clear hz
  go_wp2_with (first
    | (go_at_call 44; refine H1.out.mono ?_; rintro e w1 ⟨v, rfl, h1, x1⟩; obtain ⟨A1, c1, rfl⟩ := h1.own.form)
    | (go_at_call 43; refine (HV.out _ _ _ (Own.nrow h1.own rfl)).mono ?_; rintro e w2 ⟨rfl, x2⟩))
  go_ret
  exact ⟨rfl, x1.trans x2⟩
/-- what a list's bytes are read as -/
def drl (l : List UInt8) (a : Nat) (most : Int) : List Nat × Nat × Nat := (if (vrl l a most).2.1 = 0 then sums (vrl l a most).1 else [], (vrl l a most).2)
end
end Go.Proofs.YtjdglpngcdcneaaGreat

/- Runs: plain. -/
namespace Go.Proofs.YtjdglpngcdcneaaGreat
set_option linter.unusedVariables false
abbrev Rn := Nat × Nat
def packStep (p : List Rn) (v : Nat) : List Rn := match p.getLast? with
  | some r => if r.1 = v then p.dropLast ++ [(r.1, r.2 + 1)] else p ++ [(v, 1)]
  | none => p ++ [(v, 1)]
theorem packStep_nil (v : Nat) : packStep [] v = [(v, 1)] := rfl
theorem packStep_snoc (q : List Rn) (u c v : Nat) : packStep (q ++ [(u, c)]) v = if u = v then q ++ [(u, c + 1)] else q ++ [(u, c)] ++ [(v, 1)] := by
  unfold packStep; rw [List.getLast?_concat]; simp
def pk (l : List Nat) : List Rn := l.foldl packStep []
def expand (p : List Rn) : List Nat := p.flatMap fun r => List.replicate r.2 r.1
theorem expand_snoc (p : List Rn) (v c : Nat) : expand (p ++ [(v, c)]) = expand p ++ List.replicate c v := by simp [expand]
theorem expand_len_snoc (p : List Rn) (v c : Nat) : (expand (p ++ [(v, c)])).length = (expand p).length + c := by simp [expand_snoc]
theorem expand_step (p : List Rn) (v : Nat) : expand (packStep p v) = expand p ++ [v] := by
  rcases List.eq_nil_or_concat p with rfl | ⟨q, ⟨u, c⟩, rfl⟩
  · rfl
  · simp only [List.concat_eq_append]
    rw [packStep_snoc]
    split
    · rename_i h; subst h
      rw [expand_snoc, expand_snoc, List.replicate_succ', List.append_assoc]
    · rw [expand_snoc]; rfl
theorem foldl_expand (l : List Nat) : ∀ p, expand (l.foldl packStep p) = expand p ++ l := by
  induction l with
  | nil => intro p; simp
  | cons v l ih => intro p; rw [List.foldl_cons, ih, expand_step]; simp
theorem expand_pk (l : List Nat) : expand (pk l) = l := by unfold pk; rw [foldl_expand]; rfl
theorem pk_snoc (l : List Nat) (v : Nat) : pk (l ++ [v]) = packStep (pk l) v := by unfold pk; rw [List.foldl_append]; rfl
theorem pk_take (l : List Nat) (i : Nat) (h : i < l.length) : pk (l.take (i + 1)) = packStep (pk (l.take i)) (l.getD i 0) := by
  rw [← pk_snoc]
  congr 1
  rw [List.take_succ_eq_append_getElem h, List.getD_eq_getElem?_getD, List.getElem?_eq_getElem h]; rfl
/-- counts that are not 0, neighbours that are unlike -/
def okR : List Rn → Prop
  | [] => True
  | r :: p => 1 ≤ r.2 ∧ (∀ s, p.head? = some s → r.1 ≠ s.1) ∧ okR p
theorem okR_snoc (p : List Rn) (v c : Nat) : okR (p ++ [(v, c)]) ↔ okR p ∧ 1 ≤ c ∧ (∀ r, p.getLast? = some r → r.1 ≠ v) := by
  induction p with
  | nil => simp [okR]
  | cons r p ih =>
    cases p with
    | nil => simp [okR]; intro _; exact And.comm
    | cons s p =>
      rw [List.cons_append, okR, ih, List.getLast?_cons_cons]
      simp only [okR, List.cons_append, List.head?_cons]
      constructor
      · rintro ⟨h1, h2, h3, h4, h5⟩; exact ⟨⟨h1, h2, h3⟩, h4, h5⟩
      · rintro ⟨⟨h1, h2, h3⟩, h4, h5⟩; exact ⟨h1, h2, h3, h4, h5⟩
theorem ok_step (p : List Rn) (v : Nat) (h : okR p) : okR (packStep p v) := by
  rcases List.eq_nil_or_concat p with rfl | ⟨q, ⟨u, c⟩, rfl⟩
  · rw [packStep_nil]; simp [okR]
  · simp only [List.concat_eq_append] at h ⊢
    rw [packStep_snoc]
    split
    · rw [okR_snoc] at h ⊢; exact ⟨h.1, by omega, h.2.2⟩
    · rename_i hne
      rw [okR_snoc (q ++ [(u, c)])]
      exact ⟨h, by omega, by rw [List.getLast?_concat]; rintro r ⟨⟩; exact hne⟩
theorem ok_fold (l : List Nat) : ∀ p, okR p → okR (l.foldl packStep p) := by
  induction l with
  | nil => intro p h; exact h
  | cons v l ih => intro p h; exact ih _ (ok_step p v h)
theorem ok_pk (l : List Nat) : okR (pk l) := ok_fold l [] trivial
theorem fold_rep (q : List Rn) (v : Nat) (h : ∀ r, q.getLast? = some r → r.1 ≠ v) : ∀ c, (List.replicate (c + 1) v).foldl packStep q = q ++ [(v, c + 1)]
  | 0 => by
    show packStep q v = _
    rcases List.eq_nil_or_concat q with rfl | ⟨p, ⟨u, d⟩, rfl⟩
    · rfl
    · simp only [List.concat_eq_append] at h ⊢
      rw [packStep_snoc, if_neg (h (u, d) (by rw [List.getLast?_concat]))]
  | c + 1 => by
    rw [List.replicate_succ', List.foldl_append, fold_rep q v h c]
    show packStep _ v = _
    rw [packStep_snoc, if_pos rfl]
theorem pk_expand (p : List Rn) (h : okR p) : pk (expand p) = p := by
  have key : ∀ (n : Nat) (p : List Rn), p.length = n → okR p → pk (expand p) = p := by
    intro n
    induction n with
    | zero => intro p hp _; rw [List.eq_nil_of_length_eq_zero hp]; rfl
    | succ n ih =>
      intro p hp h
      rcases List.eq_nil_or_concat p with rfl | ⟨q, ⟨v, c⟩, rfl⟩
      · simp at hp
      · simp only [List.concat_eq_append] at hp h ⊢
        rw [okR_snoc] at h
        have hq := ih q (by simpa using hp) h.1
        obtain ⟨c, rfl⟩ : ∃ d, c = d + 1 := ⟨c - 1, by omega⟩
        rw [expand_snoc]
        show (expand q ++ _).foldl packStep [] = _
        rw [List.foldl_append]
        show (List.replicate (c + 1) v).foldl packStep (pk (expand q)) = _
        rw [hq, fold_rep q v h.2.2 c]
  exact key _ p rfl h
theorem len_le_expand (p : List Rn) (h : okR p) : p.length ≤ (expand p).length := by
  induction p with
  | nil => simp
  | cons r p ih =>
    have h2 := ih h.2.2
    have h1 := h.1
    simp only [expand, List.flatMap_cons, List.length_append, List.length_replicate, List.length_cons] at h2 ⊢
    omega
theorem count_le_expand (p : List Rn) : ∀ r ∈ p, r.2 ≤ (expand p).length := by
  induction p with
  | nil => intro r h; cases h
  | cons s p ih =>
    intro r h
    simp only [expand, List.flatMap_cons, List.length_append, List.length_replicate]
    rcases List.mem_cons.1 h with rfl | h
    · omega
    · have := ih r h; simp only [expand] at this; omega
/-- the list that runs are, of at most 'most' numbers -/
def un (most : Nat) : List Rn → List Nat → List Nat × Nat
  | [], acc => (acc, 0)
  | r :: p, acc => if r.2 = 0 ∨ acc.getLast? = some r.1 then ([], 3) else if most < acc.length + r.2 then ([], 4) else un most p (acc ++ List.replicate r.2 r.1)
theorem un_ok (most : Nat) : ∀ (p q : List Rn), okR (q ++ p) → (expand (q ++ p)).length ≤ most → un most p (expand q) = (expand (q ++ p), 0)
  | [], q, _, _ => by rw [un, List.append_nil]
  | (v, c) :: p, q, h, hm => by
    have e : q ++ (v, c) :: p = (q ++ [(v, c)]) ++ p := by simp
    rw [e] at h hm
    have hpre : okR (q ++ [(v, c)]) := by
      clear hm e
      induction q with
      | nil => exact ⟨h.1, by simp, trivial⟩
      | cons s q ih =>
        refine ⟨h.1, ?_, ih h.2.2⟩
        have h2 := h.2.1
        cases q with
        | nil => simpa using h2
        | cons t q => simpa using h2
    have h2 := (okR_snoc q v c).1 hpre
    have hlast : ¬ (expand q).getLast? = some v := by
      rcases List.eq_nil_or_concat q with rfl | ⟨q', ⟨u, d⟩, rfl⟩
      · simp [expand]
      · simp only [List.concat_eq_append] at h2 ⊢
        have hd := ((okR_snoc q' u d).1 h2.1).2.1
        obtain ⟨d, rfl⟩ : ∃ k, d = k + 1 := ⟨d - 1, by omega⟩
        rw [expand_snoc, List.replicate_succ', ← List.append_assoc, List.getLast?_concat]
        have := h2.2.2 (u, d + 1) (by rw [List.getLast?_concat])
        simpa using this
    have hlen : (expand q).length + c ≤ most := by
      have : (expand (q ++ [(v, c)] ++ p)).length = (expand q).length + c + (expand p).length := by simp [expand]; omega
      omega
    rw [un, if_neg (by rintro (h3 | h3); exact absurd h3 (by show c ≠ 0; omega); exact hlast h3), if_neg (by show ¬ most < _ + c; omega)]
    show un most p (expand q ++ List.replicate c v) = _
    rw [← expand_snoc, un_ok most p (q ++ [(v, c)]) h hm, e]
theorem un_pk (l : List Nat) (most : Nat) (h : l.length ≤ most) : un most (pk l) [] = (l, 0) := by
  have := un_ok most (pk l) [] (ok_pk l) (by rw [List.nil_append, expand_pk]; exact h)
  rw [List.nil_append, expand_pk] at this
  exact this
/-- what was unpacked: its runs are those -/
theorem un_zero (most : Nat) : ∀ (p q : List Rn), okR q → (un most p (expand q)).2 = 0 → okR (q ++ p) ∧ (un most p (expand q)).1 = expand (q ++ p)
  | [], q, hq, _ => by rw [List.append_nil]; exact ⟨hq, rfl⟩
  | (v, c) :: p, q, hq, h => by
    rw [un] at h ⊢
    split at h
    · simp at h
    · rename_i h1
      rw [if_neg h1]
      split at h
      · simp at h
      · rename_i h2
        rw [if_neg h2]
        have h1c : ¬ c = 0 := fun e => h1 (.inl e)
        have h1l : ¬ (expand q).getLast? = some v := fun e => h1 (.inr e)
        have e : (expand q ++ List.replicate c v) = expand (q ++ [(v, c)]) := (expand_snoc q v c).symm
        have hok : okR (q ++ [(v, c)]) := by
          rw [okR_snoc]
          refine ⟨hq, by omega, ?_⟩
          rcases List.eq_nil_or_concat q with rfl | ⟨q', ⟨u, d⟩, rfl⟩
          · intro r hr; simp at hr
          · simp only [List.concat_eq_append] at hq h1l ⊢
            intro r hr
            rw [List.getLast?_concat] at hr
            cases hr
            have hd := ((okR_snoc q' u d).1 hq).2.1
            obtain ⟨d, rfl⟩ : ∃ k, d = k + 1 := ⟨d - 1, by omega⟩
            rw [expand_snoc, List.replicate_succ', ← List.append_assoc, List.getLast?_concat] at h1l
            intro hu; exact h1l (by rw [← hu])
        have e2 : q ++ (v, c) :: p = (q ++ [(v, c)]) ++ p := by simp
        show okR (q ++ (v, c) :: p) ∧ (un most p (expand q ++ List.replicate c v)).1 = _
        change (un most p (expand q ++ List.replicate c v)).2 = 0 at h
        rw [e] at h ⊢
        rw [e2]
        exact un_zero most p (q ++ [(v, c)]) hok h
end Go.Proofs.YtjdglpngcdcneaaGreat

/- Layer 4: runs of a list. -/
namespace Go.Proofs.YtjdglpngcdcneaaGreat
open Go.RowKit Go.WideShapes
set_option linter.unusedVariables false
set_option linter.unusedSimpArgs false
def runsV (p : List Rn) : List Value := p.flatMap fun r => [.int .u64 r.1, .int .u64 r.2]
theorem runsV_len (p : List Rn) : (runsV p).length = p.length * 2 := by
  induction p with
  | nil => rfl
  | cons r p ih => simp only [runsV, List.flatMap_cons, List.length_append, List.length_cons, List.length_nil] at ih ⊢; omega
theorem runsV_append (p q : List Rn) : runsV (p ++ q) = runsV p ++ runsV q := by simp [runsV]
theorem runsV_one (p : List Rn) : ∀ u ∈ runsV p, u.oneCell' = true := by
  intro u hu; simp only [runsV, List.mem_flatMap] at hu; obtain ⟨r, _, h⟩ := hu; simp at h; rcases h with rfl | rfl <;> rfl
theorem runsV_get0 (p : List Rn) (i : Nat) (h : i < p.length) : (runsV p)[i * 2]? = some (.int .u64 ((p.getD i (0, 0)).1 : Nat)) := by
  induction p generalizing i with
  | nil => simp at h
  | cons r p ih =>
    cases i with
    | zero => rfl
    | succ i =>
      have := ih i (by simpa using h)
      rw [show (i + 1) * 2 = i * 2 + 1 + 1 by omega]
      simpa [runsV] using this
theorem runsV_get1 (p : List Rn) (i : Nat) (h : i < p.length) : (runsV p)[i * 2 + 1]? = some (.int .u64 ((p.getD i (0, 0)).2 : Nat)) := by
  induction p generalizing i with
  | nil => simp at h
  | cons r p ih =>
    cases i with
    | zero => rfl
    | succ i =>
      have := ih i (by simpa using h)
      rw [show (i + 1) * 2 + 1 = i * 2 + 1 + 1 + 1 by omega]
      simpa [runsV] using this
theorem runsV_more (q : List Rn) (u c : Nat) : (runsV (q ++ [(u, c)])).set (q.length * 2 + 1) (.int .u64 ((c : Int) + 1)) = runsV (q ++ [(u, c + 1)]) := by
  rw [runsV_append, runsV_append, List.set_append_right _ _ (by rw [runsV_len]; omega), runsV_len, Nat.add_sub_cancel_left]
  rfl
theorem last_get (q : List Rn) (r : Rn) : (q ++ [r]).getD q.length (0, 0) = r := by simp
theorem r_info : (Tryz.prog.info? 65).map (fun i => (i.zero, i.size, i.bytes)) = some (some (.agg #[.int .u64 0, .int .u64 0]), 2, 16) := by kernel_rfl
section
variable {S : Nat → Prop} {W w : World} {M : List Thing}
set_option maxRecDepth 20000 in
set_option maxHeartbeats 4000000 in
theorem pack_st (h : St S W w M) (A : Option Addr) (ca : Nat) (l : List Nat) (m : Nat) (hm : l.length = m) (hl : m ≤ 1000000) (hr : NRow w A l) (ha : AllLt l) :
    Calls Tryz.prog 33 #[.slice A m ca] w fun e w' => ∃ A' n c', e = .returned (.slice A' n c') ∧ n = (pk l).length ∧ St S W w' (ownT 65 2 (.slice A' n c') n (runsV (pk l)) :: M) := by
  have ha2 : ∀ i, i < m → l.getD i 0 < 18446744073709551616 := fun i hi => ha i (by omega)
  have hr2 : ∀ i, i < m → ∃ b off, A = some ⟨b, off, none⟩ ∧ w.cell? ⟨b, off + i, none⟩ = some (.int .u64 (l.getD i 0 : Nat)) := fun i hi => hr i (by omega)
  have HT : Hid (∀ i, i < m → pk (l.take (i + 1)) = packStep (pk (l.take i)) (l.getD i 0)) := Lib.hid (fun i hi => pk_take l i (by omega))
  have HX : Hid (∀ i, i ≤ m → (expand (pk (l.take i))).length = i) := Lib.hid (fun i hi => by rw [expand_pk, List.length_take]; omega)
  have HD := Lib.hid (show pk l = pk (l.take m) by rw [← hm, List.take_length])
  clear hm ha hr
  have h2 := h.nilOwn 65 2
  have g2 := (St.start noB w).nilOwn 65 2
  clear h
  go_enter Tryz.func33, Tryz.ntmps33
  go_wp2_with fail
  go_loopw [2, 8] (fun vo vi wr => ∃ (i n : Nat) (v : Value), i ≤ m ∧ vo = v ∧ vi = .int .i64 i ∧ Hid (n = (pk (l.take i)).length) ∧ n ≤ i ∧ St S W wr (ownT 65 2 v n (runsV (pk (l.take i))) :: M) ∧ St noB w wr [ownT 65 2 v n (runsV (pk (l.take i)))]) (fun _ vi _ => m - (intOf vi).toNat)
  case atStart => exact ⟨0, 0, _, by omega, rfl, rfl, Lib.hid rfl, by omega, h2, g2⟩
  case round =>
    clear h2 g2
    obtain ⟨i, n, v, hi, rfl, rfl, HN, hni, h, g⟩ := hrel
    by_cases hlt : i < m
    · obtain ⟨b, off, rfl, hc⟩ := hr2 i hlt
      have hc2 := g.ends.cell hc
      have hb := ha2 i hlt
      have HE := Lib.hid (HT.out i hlt)
      have hex := HX.out i hi
      generalize l.getD i 0 = x at hb hc hc2 HE
      have HC := Lib.hid hc
      clear hc ha2 hr2 HT HX
      generalize pk (l.take i) = p at HE HN hex h g
      rcases List.eq_nil_or_concat p with rfl | ⟨q, ⟨u, c⟩, rfl⟩
      · have hn : n = 0 := HN.out
        subst hn
        obtain ⟨A3, c3, rfl⟩ := h.own.form
        have HP := Lib.hid (show pk (l.take (i + 1)) = [] ++ [(x, 1)] by rw [HE.out]; rfl)
        have HN2 : Hid (0 + 1 = (pk (l.take (i + 1))).length) := Lib.hid (by rw [HP.out, List.length_append]; first | rfl | (rw [HK.out]; simp))
        clear HE HN
        go_wp2_with (at_builtin; refine wpList_push2 rfl _ _ _ rfl 65 (.agg #[.int .u64 0, .int .u64 0]) 2 16 Tryz.underlying61 r_info rfl (by decide) h g rfl rfl rfl (by intro u hu; simp at hu; rcases hu with rfl | rfl <;> rfl) (by unfold maxLen; omega) (by omega) ?_; intro A' c' w6 h6 g6)
        have e6 : runsV (pk (l.take (i + 1))) = runsV ([]: List Rn) ++ #[Value.int .u64 (x : Nat), Value.int .u64 1].toList := by rw [HP.out, runsV_append]; rfl
        rw [← e6] at h6 g6
        go_roundw
        case rel => first | exact ⟨i + 1, 0 + 1, _, by omega, rfl, by go_num, HN2, by omega, h6, g6⟩ | ((repeat apply Exists.intro); exact ⟨⟨i + 1, 0 + 1, _, by omega, rfl, by go_num, HN2, by omega, h6, g6⟩, rfl⟩)
        case measure => simp [intOf]; omega
      · simp only [List.concat_eq_append] at HE HN hex h g
        have hn : n = q.length + 1 := by have := HN.out; simpa using this
        subst hn
        have hcc : c ≤ i := by have := count_le_expand (q ++ [(u, c)]) (u, c) (by simp); omega
        obtain ⟨g3, c3, hv, _⟩ := h.own.slice (by omega)
        subst hv
        have k0 := h.own.cell (q.length * 2) (by omega)
        rw [runsV_get0 _ _ (by simp), last_get] at k0
        have k1 := h.own.cell (q.length * 2 + 1) (by omega)
        rw [runsV_get1 _ _ (by simp), last_get] at k1
        have kf := h.own.free (q.length * 2 + 1)
        have HS := Lib.hid (runsV_more q u c)
        have h5 := h.stored (q.length * 2 + 1) (.int .u64 ((c : Int) + 1))
        have g5 := g.stored (q.length * 2 + 1) (.int .u64 ((c : Int) + 1))
        rw [HS.out] at h5 g5
        have HQ := Lib.hid (packStep_snoc q u c x)
        obtain ⟨k, hk⟩ : ∃ k, k = q.length := ⟨_, rfl⟩
        rw [← hk] at k0 k1 kf h5 g5 h g hni ⊢
        simp only at k0 k1
        have HK := Lib.hid hk
        clear hk
        by_cases hux : u = x
        · subst hux
          have HP := Lib.hid (show pk (l.take (i + 1)) = q ++ [(u, c + 1)] by rw [HE.out, HQ.out, if_pos rfl])
          rw [← HP.out] at h5 g5
          have HN2 : Hid (k + 1 = (pk (l.take (i + 1))).length) := Lib.hid (by rw [HP.out, HK.out]; simp)
          clear HE HQ HN
          go_wp2_with fail
          go_roundw
          case rel => first | exact ⟨i + 1, k + 1, _, by omega, rfl, by go_num, HN2, by omega, h5, g5⟩ | ((repeat apply Exists.intro); exact ⟨⟨i + 1, k + 1, _, by omega, rfl, by go_num, HN2, by omega, h5, g5⟩, rfl⟩)
          case measure => simp [intOf]; omega
        · have hne : ((u : Int) == (x : Int)) = false := by rw [beq_eq_false_iff_ne]; omega
          have HP := Lib.hid (show pk (l.take (i + 1)) = (q ++ [(u, c)]) ++ [(x, 1)] by rw [HE.out, HQ.out, if_neg hux])
          have HN2 : Hid ((k + 1) + 1 = (pk (l.take (i + 1))).length) := Lib.hid (by rw [HP.out, List.length_append]; first | rfl | (rw [HK.out]; simp))
          clear HE HN
          go_wp2_with (at_builtin; refine wpList_push2 rfl _ _ _ rfl 65 (.agg #[.int .u64 0, .int .u64 0]) 2 16 Tryz.underlying61 r_info rfl (by decide) h g rfl rfl rfl (by intro u hu; simp at hu; rcases hu with rfl | rfl <;> rfl) (by unfold maxLen; omega) (by omega) ?_; intro A' c' w6 h6 g6)
          have e6 : runsV (pk (l.take (i + 1))) = runsV (q ++ [(u, c)]) ++ #[Value.int .u64 (x : Nat), Value.int .u64 1].toList := by rw [HP.out, runsV_append]; rfl
          rw [← e6] at h6 g6
          go_roundw
          case rel => first | exact ⟨i + 1, (k + 1) + 1, _, by omega, rfl, by go_num, HN2, by omega, h6, g6⟩ | ((repeat apply Exists.intro); exact ⟨⟨i + 1, (k + 1) + 1, _, by omega, rfl, by go_num, HN2, by omega, h6, g6⟩, rfl⟩)
          case measure => simp [intOf]; omega
    · obtain rfl : i = m := by omega
      obtain ⟨A3, c3, rfl⟩ := h.own.form
      go_wp2_with fail
      go_ret
      rw [HD.out]
      exact ⟨_, _, _, rfl, HN.out, h⟩
end
end Go.Proofs.YtjdglpngcdcneaaGreat

/- Layer 4: the document's runs of a list. -/
namespace Go.Proofs.YtjdglpngcdcneaaGreat
open Go.RowKit Go.WideShapes
set_option linter.unusedVariables false
set_option linter.unusedSimpArgs false
theorem rr_info : (Tryz.prog.info? 85).map (fun i => (i.zero, i.size, i.bytes)) = some (some (.agg #[.int .u64 0, .int .u64 0]), 2, 16) := by kernel_rfl
theorem packStep_last (p : List Rn) (v : Nat) : ∃ q c, packStep p v = q ++ [(v, c)] := by
  rcases List.eq_nil_or_concat p with rfl | ⟨q, ⟨u, c⟩, rfl⟩
  · exact ⟨[], 1, rfl⟩
  · simp only [List.concat_eq_append]
    rw [packStep_snoc]
    split
    · rename_i h; exact ⟨q, c + 1, by rw [h]⟩
    · exact ⟨q ++ [(u, c)], 1, rfl⟩
section
variable {S : Nat → Prop} {W w : World} {M : List Thing}
set_option maxRecDepth 20000 in
set_option maxHeartbeats 4000000 in
theorem rpack_st (h : St S W w M) (A : Option Addr) (ca : Nat) (l : List Nat) (m : Nat) (hm : l.length = m) (hl : m ≤ 1000000) (hr : NRow w A l) (ha : AllLt l) :
    Calls Tryz.prog 41 #[.slice A m ca] w fun e w' => ∃ A' n c', e = .returned (.slice A' n c') ∧ n = (pk l).length ∧ St S W w' (ownT 85 2 (.slice A' n c') n (runsV (pk l)) :: M) := by
  have ha2 : ∀ i, i < m → l.getD i 0 < 18446744073709551616 := fun i hi => ha i (by omega)
  have hr2 : ∀ i, i < m → ∃ b off, A = some ⟨b, off, none⟩ ∧ w.cell? ⟨b, off + i, none⟩ = some (.int .u64 (l.getD i 0 : Nat)) := fun i hi => hr i (by omega)
  have HT : Hid (∀ i, i < m → pk (l.take (i + 1)) = packStep (pk (l.take i)) (l.getD i 0)) := Lib.hid (fun i hi => pk_take l i (by omega))
  have HX : Hid (∀ i, i ≤ m → (expand (pk (l.take i))).length = i) := Lib.hid (fun i hi => by rw [expand_pk, List.length_take]; omega)
  have HD := Lib.hid (show pk l = pk (l.take m) by rw [← hm, List.take_length])
  clear hm ha hr
  have h2 := h.nilOwn 85 2
  have g2 := (St.start noB w).nilOwn 85 2
  clear h
  go_enter Tryz.func41, Tryz.ntmps41
  go_wp2_with fail
  go_loopw [3, 4] (fun vo vi wr => ∃ (i n : Nat) (v : Value), i ≤ m ∧ vo = v ∧ vi = .int .i64 i ∧ Hid (n = (pk (l.take i)).length) ∧ n ≤ i ∧ St S W wr (ownT 85 2 v n (runsV (pk (l.take i))) :: M) ∧ St noB w wr [ownT 85 2 v n (runsV (pk (l.take i)))]) (fun _ vi _ => m - (intOf vi).toNat)
  case atStart => exact ⟨0, 0, _, by omega, rfl, rfl, Lib.hid rfl, by omega, h2, g2⟩
  case round =>
    clear h2 g2
    obtain ⟨i, n, v, hi, rfl, rfl, HN, hni, h, g⟩ := hrel
    by_cases hlt : i < m
    · obtain ⟨b, off, rfl, hc⟩ := hr2 i hlt
      have hc2 := g.ends.cell hc
      have HE := Lib.hid (HT.out i hlt)
      have hex := HX.out i hi
      have hb := ha2 i hlt
      have hli : (i : Int) < (m : Int) := by omega
      have hl0 : (0 : Int) ≤ (i : Int) := by omega
      cases i with
      | zero =>
        generalize l.getD 0 0 = x at hb hc hc2 HE
        have HC := Lib.hid hc
        have hn : n = 0 := HN.out
        subst hn
        obtain ⟨A3, c3, rfl⟩ := h.own.form
        have HP := Lib.hid (show pk (l.take (0 + 1)) = [] ++ [(x, 1)] by rw [HE.out]; rfl)
        rw [List.take_zero, show pk [] = ([] : List Rn) from rfl] at h g
        have h0 := h
        have g0 := g
        clear hc ha2 hr2 HT HX h g
        go_wp2_with fail
        (refine wp_region_after (by kernel_rfl) (by kernel_rfl) ?_; (repeat (first | go_big_quiet_skip | (go_big_quiet_want; first | (fail; simp only [Act.put, List.setIfInBounds_toArray, List.set_cons_succ, List.set_cons_zero]; go_big_quiet_on) | (go_big_quiet_op; first | go_big_quiet_on | (apply Exists.intro; refine ⟨fun _ => ?_, ?_⟩; (· (fail)); go_big_quiet_on))))); refine wpQuiet_nil ?_; rintro _ ⟨y, rfl⟩)
        have h := h0.ext y.ext
        have g := g0.ext y.ext
        have hc3 := g.ends.cell HC.out
        simp only [Nat.add_zero] at hc3
        clear h0 g0
        have HN2 : Hid (0 + 1 = (pk (l.take (0 + 1))).length) := Lib.hid (by rw [HP.out, List.length_append]; first | rfl | (rw [HK.out]; simp))
        clear HE HN
        go_wp2_with (at_builtin; refine wpList_push2 rfl _ _ _ rfl 85 (.agg #[.int .u64 0, .int .u64 0]) 2 16 Tryz.underlying83 rr_info rfl (by decide) h g rfl rfl rfl (by intro u hu; simp at hu; rcases hu with rfl | rfl <;> rfl) (by unfold maxLen; omega) (by omega) ?_; intro A' c' w6 h6 g6)
        have e6 : runsV (pk (l.take (0 + 1))) = runsV ([]: List Rn) ++ #[Value.int .u64 (x : Nat), Value.int .u64 1].toList := by rw [HP.out, runsV_append]; rfl
        rw [← e6] at h6 g6
        go_roundw
        case rel => first | exact ⟨0 + 1, 0 + 1, _, by omega, rfl, by go_num, HN2, by omega, h6, g6⟩ | ((repeat apply Exists.intro); exact ⟨⟨0 + 1, 0 + 1, _, by omega, rfl, by go_num, HN2, by omega, h6, g6⟩, rfl⟩)
        case measure => first | (simp [intOf]; done) | (simp [intOf]; omega)
      | succ j =>
        obtain ⟨b', off', e', hcy⟩ := hr2 j (by omega)
        cases e'
        have hcy2 := g.ends.cell hcy
        have hyb := ha2 j (by omega)
        have HEj := Lib.hid (HT.out j (by omega))
        obtain ⟨q, c, hq⟩ := packStep_last (pk (l.take j)) (l.getD j 0)
        rw [← HEj.out] at hq
        rw [hq] at HN HE hex h g
        generalize l.getD (j + 1) 0 = x at hb hc hc2 HE
        generalize l.getD j 0 = u at hcy hcy2 hyb HE HN hex h g
        have HC := Lib.hid hc
        clear hc hcy ha2 hr2 HT HX HEj hq
        have hn : n = q.length + 1 := by have := HN.out; simpa using this
        subst hn
        have hcc : c ≤ j + 1 := by have := count_le_expand (q ++ [(u, c)]) (u, c) (by simp); omega
        obtain ⟨g3, c3, hv, _⟩ := h.own.slice (by omega)
        subst hv
        have hji : (j : Int) < (m : Int) := by omega
        have hj0 : (0 : Int) ≤ (j : Int) := by omega
        have hj1 : ((j + 1 : Nat) : Int) - 1 = (j : Int) := by omega
        have ka1 := fun a : After wr => (After.ext a).cell hc2
        have ka2 := fun a : After wr => (After.ext a).cell hcy2
        have h0 := h
        have g0 := g
        clear h g hc2 hcy2
        go_wp2_with fail
        (refine wp_region_after (by kernel_rfl) (by kernel_rfl) ?_; (repeat (first | go_big_quiet_skip | (go_big_quiet_want; first | (fail; simp only [Act.put, List.setIfInBounds_toArray, List.set_cons_succ, List.set_cons_zero]; go_big_quiet_on) | (go_big_quiet_op; first | go_big_quiet_on | (apply Exists.intro; refine ⟨fun _ => ?_, ?_⟩; (· (fail)); go_big_quiet_on))))); refine wpQuiet_nil ?_; rintro _ ⟨y, rfl⟩)
        have h := h0.ext y.ext
        have g := g0.ext y.ext
        have hc3 := g.ends.cell HC.out
        clear ka1 ka2 h0 g0
        have k1 := h.own.cell (q.length * 2 + 1) (by omega)
        rw [runsV_get1 _ _ (by simp), last_get] at k1
        have kf := h.own.free (q.length * 2 + 1)
        have HS := Lib.hid (runsV_more q u c)
        have h5 := h.stored (q.length * 2 + 1) (.int .u64 ((c : Int) + 1))
        have g5 := g.stored (q.length * 2 + 1) (.int .u64 ((c : Int) + 1))
        rw [HS.out] at h5 g5
        have HQ := Lib.hid (packStep_snoc q u c x)
        obtain ⟨k, hk⟩ : ∃ k, k = q.length := ⟨_, rfl⟩
        rw [← hk] at k1 kf h5 g5 h g hni ⊢
        simp only at k1
        have HK := Lib.hid hk
        clear hk
        by_cases hux : u = x
        · subst hux
          have HP := Lib.hid (show pk (l.take (j + 1 + 1)) = q ++ [(u, c + 1)] by rw [HE.out, HQ.out, if_pos rfl])
          rw [← HP.out] at h5 g5
          have HN2 : Hid (k + 1 = (pk (l.take (j + 1 + 1))).length) := Lib.hid (by rw [HP.out, HK.out]; simp)
          clear HE HQ HN
          go_wp2_with fail
          go_roundw
          case rel => first | exact ⟨j + 1 + 1, k + 1, _, by omega, rfl, by go_num, HN2, by omega, h5, g5⟩ | ((repeat apply Exists.intro); exact ⟨⟨j + 1 + 1, k + 1, _, by omega, rfl, by go_num, HN2, by omega, h5, g5⟩, rfl⟩)
          case measure => simp [intOf]; omega
        · have hne : ((u : Int) == (x : Int)) = false := by rw [beq_eq_false_iff_ne]; omega
          have hne2 : ((x : Int) == (u : Int)) = false := by rw [beq_eq_false_iff_ne]; omega
          have HP := Lib.hid (show pk (l.take (j + 1 + 1)) = (q ++ [(u, c)]) ++ [(x, 1)] by rw [HE.out, HQ.out, if_neg hux])
          have HN2 : Hid ((k + 1) + 1 = (pk (l.take ((j + 1) + 1))).length) := Lib.hid (by rw [HP.out, List.length_append]; first | rfl | (rw [HK.out]; simp))
          clear HE HN
          go_wp2_with (at_builtin; refine wpList_push2 rfl _ _ _ rfl 85 (.agg #[.int .u64 0, .int .u64 0]) 2 16 Tryz.underlying83 rr_info rfl (by decide) h g rfl rfl rfl (by intro u hu; simp at hu; rcases hu with rfl | rfl <;> rfl) (by unfold maxLen; omega) (by omega) ?_; intro A' c' w6 h6 g6)
          have e6 : runsV (pk (l.take ((j + 1) + 1))) = runsV (q ++ [(u, c)]) ++ #[Value.int .u64 (x : Nat), Value.int .u64 1].toList := by rw [HP.out, runsV_append]; rfl
          rw [← e6] at h6 g6
          go_roundw
          case rel => first | exact ⟨(j + 1) + 1, (k + 1) + 1, _, by omega, rfl, by go_num, HN2, by omega, h6, g6⟩ | ((repeat apply Exists.intro); exact ⟨⟨(j + 1) + 1, (k + 1) + 1, _, by omega, rfl, by go_num, HN2, by omega, h6, g6⟩, rfl⟩)
          case measure => first | (simp [intOf]; done) | (simp [intOf]; omega)
    · obtain rfl : i = m := by omega
      obtain ⟨A3, c3, rfl⟩ := h.own.form
      go_wp2_with fail
      go_ret
      rw [HD.out]
      exact ⟨_, _, _, rfl, HN.out, h⟩
end
end Go.Proofs.YtjdglpngcdcneaaGreat

/- Layer 4: runs unpacked. -/
namespace Go.Proofs.YtjdglpngcdcneaaGreat
open Go.RowKit Go.WideShapes
set_option linter.unusedVariables false
set_option linter.unusedSimpArgs false
/-- m numbers that a call owns -/
abbrev mlT (v : Value) (m : Nat) (l : List Nat) : Thing := ownT 34 1 v m (numsV l)
/-- runs in memory -/
def RRow (w : World) (A : Option Addr) (p : List Rn) : Prop := ∀ i, i < p.length → ∃ b off, A = some ⟨b, off, none⟩ ∧ w.cell? ⟨b, off + i * 2, none⟩ = some (.int .u64 ((p.getD i (0, 0)).1 : Nat)) ∧ w.cell? ⟨b, off + i * 2 + 1, none⟩ = some (.int .u64 ((p.getD i (0, 0)).2 : Nat))
theorem RRow.ext {w w' : World} {A : Option Addr} {p : List Rn} (h : RRow w A p) (x : Ext w w') : RRow w' A p := fun i hi => by
  obtain ⟨b, off, e, h0, h1⟩ := h i hi
  exact ⟨b, off, e, x.cell h0, x.cell h1⟩
theorem Own.rrow {w : World} {t : TypeId} {A : Option Addr} {n cap : Nat} {p : List Rn} (h : Own w t 2 (.slice A n cap) n (runsV p)) (hl : p.length = n) : RRow w A p := by
  intro i hi
  obtain ⟨g, c, e, _⟩ := h.slice (by omega)
  cases e
  exact ⟨g, 0, rfl, by rw [Nat.zero_add, Own.cell h (i * 2) (by omega), runsV_get0 p i hi], by rw [Nat.zero_add, Own.cell h (i * 2 + 1) (by omega), runsV_get1 p i hi]⟩
section
variable {S : Nat → Prop} {W w : World} {M : List Thing}
theorem getLast_getD (l : List Nat) (k : Nat) (h : l.length = k + 1) (v : Nat) : l.getLast? = some v ↔ l.getD k 0 = v := by
  rw [List.getLast?_eq_getElem?, h, Nat.add_sub_cancel, List.getD_eq_getElem?_getD, List.getElem?_eq_getElem (by omega)]
  simp
set_option maxRecDepth 20000 in
set_option maxHeartbeats 4000000 in
theorem add_zero (h : St S W w M) (A : Option Addr) (n ca : Nat) (xv xc : Nat) (hxc : xc = 0) (most : Int) :
    Calls Tryz.prog 88 #[.slice A n ca, .agg #[.int .u64 xv, .int .u64 xc], .int .i64 most] w fun e w' => e = .returned (.tuple #[.slice none 0 0, .int .i64 3]) ∧ St S W w' M := by
  have h1 := h.alloc #[Value.int .u64 xv, Value.int .u64 xc] 65
  have kx0 : ∀ a : After (w.alloc (.cells #[Value.int .u64 xv, Value.int .u64 xc] 65)), a.w.cell? ⟨w.heap.size, 0, none⟩ = some (.int .u64 xv) := fun a => (After.ext a).cell (cell_of_heap h1.blk 0)
  have kx1 : ∀ a : After (w.alloc (.cells #[Value.int .u64 xv, Value.int .u64 xc] 65)), a.w.cell? ⟨w.heap.size, 1, none⟩ = some (.int .u64 xc) := fun a => (After.ext a).cell (cell_of_heap h1.blk 1)
  have hz : ((xc : Int) == 0) = true := by rw [hxc]; rfl
  clear hxc
  go_enter Tryz.func88, Tryz.ntmps88
  go_wp2_with fail
  (refine wp_region_after (by kernel_rfl) (by kernel_rfl) ?_; (repeat (first | go_big_quiet_skip | (go_big_quiet_want; first | (fail; simp only [Act.put, List.setIfInBounds_toArray, List.set_cons_succ, List.set_cons_zero]; go_big_quiet_on) | (go_big_quiet_op; first | go_big_quiet_on | (apply Exists.intro; refine ⟨fun _ => ?_, ?_⟩; (· (fail)); go_big_quiet_on))))); refine wpQuiet_nil ?_; rintro _ ⟨y, rfl⟩)
  go_wp2_with fail
  go_ret2
  exact ⟨rfl, (h1.ext y.ext).drop⟩
set_option maxRecDepth 20000 in
set_option maxHeartbeats 4000000 in
theorem add_same (A : Option Addr) (n ca : Nat) (xv xc : Nat) (hxc : xc ≠ 0) (most : Int) (acc : List Nat) (h : St S W w (mlT (.slice A n ca) n acc :: M)) (hn : acc.length = n) (hnb : n ≤ 1000000) (hs : acc.getLast? = some xv) :
    Calls Tryz.prog 88 #[.slice A n ca, .agg #[.int .u64 xv, .int .u64 xc], .int .i64 most] w fun e w' => e = .returned (.tuple #[.slice none 0 0, .int .i64 3]) ∧ St S W w' M := by
  obtain ⟨k, rfl⟩ : ∃ k, n = k + 1 := ⟨n - 1, by cases acc with | nil => simp at hs | cons a l => simp at hn; omega⟩
  have hx := (getLast_getD acc k hn xv).1 hs
  have h1 := h.alloc #[Value.int .u64 xv, Value.int .u64 xc] 65
  have kx0 : ∀ a : After (w.alloc (.cells #[Value.int .u64 xv, Value.int .u64 xc] 65)), a.w.cell? ⟨w.heap.size, 0, none⟩ = some (.int .u64 xv) := fun a => (After.ext a).cell (cell_of_heap h1.blk 0)
  have kx1 : ∀ a : After (w.alloc (.cells #[Value.int .u64 xv, Value.int .u64 xc] 65)), a.w.cell? ⟨w.heap.size, 1, none⟩ = some (.int .u64 xc) := fun a => (After.ext a).cell (cell_of_heap h1.blk 1)
  have hz : ((xc : Int) == 0) = false := by rw [beq_eq_false_iff_ne]; omega
  have hown := h.own
  obtain ⟨g3, hA, hc⟩ := hown.numAt hn k (by omega)
  subst hA
  rw [hx] at hc
  have x1 : Ext w (w.alloc (.cells #[Value.int .u64 xv, Value.int .u64 xc] 65)) := (Mut.refl _ _).alloc _
  have kl : ∀ a : After (w.alloc (.cells #[Value.int .u64 xv, Value.int .u64 xc] 65)), a.w.cell? ⟨g3, k, none⟩ = some (.int .u64 xv) := fun a => (After.ext a).cell (x1.cell hc)
  have hk0 : (0 : Int) < (k : Int) + 1 := by omega
  have hk1 : (k : Int) + 1 - 1 = (k : Int) := by omega
  have hkk : (k : Int) < (k : Int) + 1 := by omega
  have hk2 : (0 : Int) ≤ (k : Int) := by omega
  clear hxc hn hs hx hown hc
  go_enter Tryz.func88, Tryz.ntmps88
  go_wp2_with fail
  (refine wp_region_after (by kernel_rfl) (by kernel_rfl) ?_; (repeat (first | go_big_quiet_skip | (go_big_quiet_want; first | (fail; simp only [Act.put, List.setIfInBounds_toArray, List.set_cons_succ, List.set_cons_zero]; go_big_quiet_on) | (go_big_quiet_op; first | go_big_quiet_on | (apply Exists.intro; refine ⟨fun _ => ?_, ?_⟩; (· (fail)); go_big_quiet_on))))); refine wpQuiet_nil ?_; rintro _ ⟨y, rfl⟩)
  go_wp2_with fail
  go_ret2
  exact ⟨rfl, (h1.ext y.ext).drop.drop⟩
set_option maxRecDepth 20000 in
set_option maxHeartbeats 4000000 in
theorem add_go (A : Option Addr) (n ca : Nat) (xv xc : Nat) (hxc : xc ≠ 0) (hv : xv < 18446744073709551616) (hc64 : xc < 18446744073709551616) (most : Nat) (hmb : most ≤ 1000000) (hnm : n ≤ most) (acc : List Nat) (h : St S W w (mlT (.slice A n ca) n acc :: M)) (hn : acc.length = n) (hs : acc.getLast? ≠ some xv) :
    Calls Tryz.prog 88 #[.slice A n ca, .agg #[.int .u64 xv, .int .u64 xc], .int .i64 most] w fun e w' => ∃ (v : Value) (er : Int), e = .returned (.tuple #[v, .int .i64 er]) ∧
      (n + xc ≤ most → er = 0 ∧ ∃ A' c', v = .slice A' (n + xc) c' ∧ St S W w' (mlT (.slice A' (n + xc) c') (n + xc) (acc ++ List.replicate xc xv) :: M)) ∧ (most < n + xc → er = 4 ∧ St S W w' M) := by
  cases n with
  | zero =>
    have h1 := h.alloc #[Value.int .u64 xv, Value.int .u64 xc] 65
    have kx0 : ∀ a : After (w.alloc (.cells #[Value.int .u64 xv, Value.int .u64 xc] 65)), a.w.cell? ⟨w.heap.size, 0, none⟩ = some (.int .u64 xv) := fun a => (After.ext a).cell (cell_of_heap h1.blk 0)
    have kx1 : ∀ a : After (w.alloc (.cells #[Value.int .u64 xv, Value.int .u64 xc] 65)), a.w.cell? ⟨w.heap.size, 1, none⟩ = some (.int .u64 xc) := fun a => (After.ext a).cell (cell_of_heap h1.blk 1)
    have hz : ((xc : Int) == 0) = false := by rw [beq_eq_false_iff_ne]; omega
    have hown := h.own
    clear hxc hn hs hown
    have hk0 : ¬ (0 : Int) < ((0 : Nat) : Int) := by omega
    go_enter Tryz.func88, Tryz.ntmps88
    go_wp2_with fail
    (refine wp_region_after (by kernel_rfl) (by kernel_rfl) ?_; (repeat (first | go_big_quiet_skip | (go_big_quiet_want; first | (fail; simp only [Act.put, List.setIfInBounds_toArray, List.set_cons_succ, List.set_cons_zero]; go_big_quiet_on) | (go_big_quiet_op; first | go_big_quiet_on | (apply Exists.intro; refine ⟨fun _ => ?_, ?_⟩; (· (fail)); go_big_quiet_on))))); refine wpQuiet_nil ?_; rintro _ ⟨y, rfl⟩)
    have h2 := h1.ext y.ext
    clear kx0 kx1 h
    have c0 := cell_of_heap h2.blk 0
    have c1 := cell_of_heap h2.blk 1
    change y.w.cell? _ = some (.int .u64 xv) at c0
    change y.w.cell? _ = some (.int .u64 xc) at c1
    generalize w.heap.size = bx at h2 c0 c1 ⊢
    by_cases hlong : most < 0 + xc
    · have hg : (most : Int) - (0 : Nat) < xc := by omega
      go_wp2_with fail
      go_ret2
      exact ⟨_, 4, rfl, fun hh => absurd hlong (by omega), fun _ => ⟨rfl, h2.drop.drop⟩⟩
    · have hg : ¬ (most : Int) - (0 : Nat) < xc := by omega
      have h3 := h2.swap
      clear h1 h2
      go_wp2_with fail
      clear c0 c1
      go_loopw [0, 39] (fun vl vj wr => ∃ (j kk : Nat) (v : Value), vl = v ∧ vj = .int .u64 j ∧ j ≤ xc ∧ Hid (kk = 0 + j) ∧ kk ≤ most ∧ St S W wr (mlT v kk (acc ++ List.replicate j xv) :: blkT bx #[Value.int .u64 xv, Value.int .u64 xc] 65 :: M)) (fun _ vj _ => xc - (intOf vj).toNat)
      case atStart => exact ⟨0, 0, _, rfl, rfl, by omega, Lib.hid (by omega), by omega, by simpa using h3⟩
      case round =>
        clear h3
        obtain ⟨j, kk, v, rfl, rfl, hj, HKJ, hkm, h⟩ := hrel
        obtain ⟨A3, c3, rfl⟩ := h.own.form
        by_cases hlt : j < xc
        · have c0 := cell_of_heap h.swap.blk 0
          change wr.cell? _ = some (.int .u64 xv) at c0
          go_wp2_with (at_builtin; refine wpList_push rfl _ _ _ rfl 34 (.int .u64 0) 1 8 Tryz.underlying46 u64_info rfl (by decide) h rfl rfl rfl (numsV_one [xv]) (by unfold maxLen; omega) (by omega) ?_; intro A' c' w6 h6)
          have h7 : St S W w6 (mlT (.slice A' (kk + 1) c') (kk + 1) (acc ++ List.replicate (j + 1) xv) :: blkT bx #[Value.int .u64 xv, Value.int .u64 xc] 65 :: M) := by
            have e : numsV (acc ++ List.replicate (j + 1) xv) = numsV (acc ++ List.replicate j xv) ++ #[Value.int .u64 (xv : Nat)].toList := by
              rw [List.replicate_succ', ← List.append_assoc, numsV_append]; rfl
            unfold mlT
            rw [e]; exact h6
          have hkm2 : kk + 1 ≤ most := by have := HKJ.out; omega
          have hkj2 : Hid (kk + 1 = 0 + (j + 1)) := Lib.hid (by have := HKJ.out; omega)
          go_roundw
          case rel => first | exact ⟨j + 1, kk + 1, _, rfl, by go_num, by omega, hkj2, hkm2, h7⟩ | ((repeat apply Exists.intro); exact ⟨⟨j + 1, kk + 1, _, rfl, by go_num, by omega, hkj2, hkm2, h7⟩, rfl⟩)
          case measure => simp [intOf]; omega
        · obtain rfl : j = xc := by omega
          go_wp2_with fail
          go_ret2
          have HK2 := HKJ.out
          rw [HK2] at h
          rw [HK2]
          exact ⟨_, 0, rfl, fun _ => ⟨rfl, _, _, rfl, h.swap.drop⟩, fun hh => absurd hh hlong⟩
  | succ k =>
    have hx : ¬ acc.getD k 0 = xv := fun e => hs ((getLast_getD acc k hn xv).2 e)
    have h1 := h.alloc #[Value.int .u64 xv, Value.int .u64 xc] 65
    have kx0 : ∀ a : After (w.alloc (.cells #[Value.int .u64 xv, Value.int .u64 xc] 65)), a.w.cell? ⟨w.heap.size, 0, none⟩ = some (.int .u64 xv) := fun a => (After.ext a).cell (cell_of_heap h1.blk 0)
    have kx1 : ∀ a : After (w.alloc (.cells #[Value.int .u64 xv, Value.int .u64 xc] 65)), a.w.cell? ⟨w.heap.size, 1, none⟩ = some (.int .u64 xc) := fun a => (After.ext a).cell (cell_of_heap h1.blk 1)
    have hz : ((xc : Int) == 0) = false := by rw [beq_eq_false_iff_ne]; omega
    have hown := h.own
    obtain ⟨g3, hA, hc⟩ := hown.numAt hn k (by omega)
    subst hA
    generalize acc.getD k 0 = z at hx hc
    have x1 : Ext w (w.alloc (.cells #[Value.int .u64 xv, Value.int .u64 xc] 65)) := (Mut.refl _ _).alloc _
    have kl : ∀ a : After (w.alloc (.cells #[Value.int .u64 xv, Value.int .u64 xc] 65)), a.w.cell? ⟨g3, k, none⟩ = some (.int .u64 z) := fun a => (After.ext a).cell (x1.cell hc)
    have hk0 : (0 : Int) < (k : Int) + 1 := by omega
    have hk1 : (k : Int) + 1 - 1 = (k : Int) := by omega
    have hkk : (k : Int) < (k : Int) + 1 := by omega
    have hk2 : (0 : Int) ≤ (k : Int) := by omega
    have hzx : ((z : Int) == (xv : Int)) = false := by rw [beq_eq_false_iff_ne]; omega
    clear hxc hn hs hx hown hc
    go_enter Tryz.func88, Tryz.ntmps88
    go_wp2_with fail
    (refine wp_region_after (by kernel_rfl) (by kernel_rfl) ?_; (repeat (first | go_big_quiet_skip | (go_big_quiet_want; first | (fail; simp only [Act.put, List.setIfInBounds_toArray, List.set_cons_succ, List.set_cons_zero]; go_big_quiet_on) | (go_big_quiet_op; first | go_big_quiet_on | (apply Exists.intro; refine ⟨fun _ => ?_, ?_⟩; (· (fail)); go_big_quiet_on))))); refine wpQuiet_nil ?_; rintro _ ⟨y, rfl⟩)
    clear kl
    have h2 := h1.ext y.ext
    clear kx0 kx1 h
    have c0 := cell_of_heap h2.blk 0
    have c1 := cell_of_heap h2.blk 1
    change y.w.cell? _ = some (.int .u64 xv) at c0
    change y.w.cell? _ = some (.int .u64 xc) at c1
    generalize w.heap.size = bx at h2 c0 c1 ⊢
    by_cases hlong : most < (k + 1) + xc
    · have hg : (most : Int) - ((k + 1) : Nat) < xc := by omega
      go_wp2_with fail
      go_ret2
      exact ⟨_, 4, rfl, fun hh => absurd hlong (by omega), fun _ => ⟨rfl, h2.drop.drop⟩⟩
    · have hg : ¬ (most : Int) - ((k + 1) : Nat) < xc := by omega
      have h3 := h2.swap
      clear h1 h2
      go_wp2_with fail
      clear c0 c1
      go_loopw [0, 39] (fun vl vj wr => ∃ (j kk : Nat) (v : Value), vl = v ∧ vj = .int .u64 j ∧ j ≤ xc ∧ Hid (kk = (k + 1) + j) ∧ kk ≤ most ∧ St S W wr (mlT v kk (acc ++ List.replicate j xv) :: blkT bx #[Value.int .u64 xv, Value.int .u64 xc] 65 :: M)) (fun _ vj _ => xc - (intOf vj).toNat)
      case atStart => exact ⟨0, (k + 1), _, rfl, rfl, by omega, Lib.hid (by omega), by omega, by simpa using h3⟩
      case round =>
        clear h3
        obtain ⟨j, kk, v, rfl, rfl, hj, HKJ, hkm, h⟩ := hrel
        obtain ⟨A3, c3, rfl⟩ := h.own.form
        by_cases hlt : j < xc
        · have c0 := cell_of_heap h.swap.blk 0
          change wr.cell? _ = some (.int .u64 xv) at c0
          go_wp2_with (at_builtin; refine wpList_push rfl _ _ _ rfl 34 (.int .u64 0) 1 8 Tryz.underlying46 u64_info rfl (by decide) h rfl rfl rfl (numsV_one [xv]) (by unfold maxLen; omega) (by omega) ?_; intro A' c' w6 h6)
          have h7 : St S W w6 (mlT (.slice A' (kk + 1) c') (kk + 1) (acc ++ List.replicate (j + 1) xv) :: blkT bx #[Value.int .u64 xv, Value.int .u64 xc] 65 :: M) := by
            have e : numsV (acc ++ List.replicate (j + 1) xv) = numsV (acc ++ List.replicate j xv) ++ #[Value.int .u64 (xv : Nat)].toList := by
              rw [List.replicate_succ', ← List.append_assoc, numsV_append]; rfl
            unfold mlT
            rw [e]; exact h6
          have hkm2 : kk + 1 ≤ most := by have := HKJ.out; omega
          have hkj2 : Hid (kk + 1 = (k + 1) + (j + 1)) := Lib.hid (by have := HKJ.out; omega)
          go_roundw
          case rel => first | exact ⟨j + 1, kk + 1, _, rfl, by go_num, by omega, hkj2, hkm2, h7⟩ | ((repeat apply Exists.intro); exact ⟨⟨j + 1, kk + 1, _, rfl, by go_num, by omega, hkj2, hkm2, h7⟩, rfl⟩)
          case measure => simp [intOf]; omega
        · obtain rfl : j = xc := by omega
          go_wp2_with fail
          go_ret2
          have HK2 := HKJ.out
          rw [HK2] at h
          rw [HK2]
          exact ⟨_, 0, rfl, fun _ => ⟨rfl, _, _, rfl, h.swap.drop⟩, fun hh => absurd hh hlong⟩
end
end Go.Proofs.YtjdglpngcdcneaaGreat

/- Layer 4: runs unpacked. -/
namespace Go.Proofs.YtjdglpngcdcneaaGreat
open Go.RowKit Go.WideShapes
set_option linter.unusedVariables false
set_option linter.unusedSimpArgs false
def AllR (p : List Rn) : Prop := ∀ i, i < p.length → (p.getD i (0, 0)).1 < 18446744073709551616 ∧ (p.getD i (0, 0)).2 < 18446744073709551616
theorem drop_cons (p : List Rn) (i : Nat) (h : i < p.length) : p.drop i = p.getD i (0, 0) :: p.drop (i + 1) := by
  rw [List.drop_eq_getElem_cons h, List.getD_eq_getElem?_getD, List.getElem?_eq_getElem h]; rfl
/-- what runs are unpacked to -/
def unI (p : List Rn) (most : Int) : List Nat × Nat := if most < 0 then ([], 1) else un most.toNat p []
section
variable {S : Nat → Prop} {W w : World} {M : List Thing}
end
end Go.Proofs.YtjdglpngcdcneaaGreat

/- Layer 4: the document's runs unpacked. -/
namespace Go.Proofs.YtjdglpngcdcneaaGreat
open Go.RowKit Go.WideShapes
set_option linter.unusedVariables false
set_option linter.unusedSimpArgs false
section
variable {S : Nat → Prop} {W w : World} {M : List Thing}
end
end Go.Proofs.YtjdglpngcdcneaaGreat
