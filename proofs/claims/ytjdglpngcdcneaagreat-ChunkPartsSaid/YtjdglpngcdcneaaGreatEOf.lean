/- Layer 21: the places of a thread's events. -/
import Derived.Test.YtjdglpngcdcneaaGreatECheck
namespace Go.Proofs.YtjdglpngcdcneaaGreat
open Go.RowKit Go.WideShapes
set_option linter.unusedVariables false
set_option linter.unusedSimpArgs false
set_option linter.unusedSectionVars false
theorem ix_info : (Tryz.prog.info? 3).map (fun i => (i.zero, i.size, i.bytes)) = some (some (.int .i64 0), 1, 8) := by kernel_rfl
def ixV (l : List Nat) : List Value := l.map fun n => .int .i64 (n : Nat)
theorem ixV_len (l : List Nat) : (ixV l).length = l.length := by simp [ixV]
theorem ixV_append (l m : List Nat) : ixV (l ++ m) = ixV l ++ ixV m := by simp [ixV]
theorem ixV_get (l : List Nat) (i : Nat) (h : i < l.length) : (ixV l)[i]? = some (.int .i64 (l.getD i 0 : Nat)) := by simp [ixV, h]
theorem ixV_one (l : List Nat) : ∀ u ∈ ixV l, u.oneCell' = true := by
  intro u hu
  simp only [ixV, List.mem_map] at hu
  obtain ⟨n, _, rfl⟩ := hu
  rfl
def ofK (l : List Ev) (t : Int) (i : Nat) : List Nat := (List.range i).filter fun j => decide ((l.getD j default).th = t)
def ofE (l : List Ev) (t : Int) : List Nat := ofK l t l.length
theorem ofK_zero (l : List Ev) (t : Int) : ofK l t 0 = [] := rfl
theorem ofK_yes (l : List Ev) (t : Int) (i : Nat) (h : (l.getD i default).th = t) : ofK l t (i + 1) = ofK l t i ++ [i] := by
  unfold ofK
  rw [List.range_succ, List.filter_append, List.filter_cons, if_pos (decide_eq_true h)]
  rfl
theorem ofK_no (l : List Ev) (t : Int) (i : Nat) (h : ¬ (l.getD i default).th = t) : ofK l t (i + 1) = ofK l t i := by
  unfold ofK
  rw [List.range_succ, List.filter_append, List.filter_cons, if_neg (by rw [decide_eq_true_eq]; exact h)]
  simp
theorem ofK_len (l : List Ev) (t : Int) (i : Nat) : (ofK l t i).length ≤ i := by
  unfold ofK
  exact Nat.le_trans (List.length_filter_le _ _) (by simp)
section
variable {S : Nat → Prop} {W w : World} {M : List Thing}
set_option maxRecDepth 20000 in
set_option maxHeartbeats 4000000 in
theorem of_st (h : St S W w M) (A : Option Addr) (ca n : Nat) (l : List Ev) (hn : l.length = n) (hl : n ≤ 1000000) (t : Int) (hr : ∀ w', St S W w' M → ERow w' A l) :
    Calls Tryz.prog 19 #[.slice A n ca, .int .i64 t] w fun e w' => ∃ A' c', e = .returned (.slice A' (ofE l t).length c') ∧ St S W w' (ownT 3 1 (.slice A' (ofE l t).length c') (ofE l t).length (ixV (ofE l t)) :: M) := by
  have HL := Lib.hid hn
  have HE : Hid (ofE l t = ofK l t n) := Lib.hid (by rw [← hn]; rfl)
  rw [HE.out]
  have h1 := h.nilOwn 3 1
  go_enter Tryz.func19, Tryz.ntmps19
  go_wp2_with fail
  clear HE
  go_loopw [4, 9] (fun v4 v9 wr => ∃ (i : Nat) (v : Value), i ≤ n ∧ v4 = v ∧ v9 = .int .i64 i ∧ St S W wr (ownT 3 1 v (ofK l t i).length (ixV (ofK l t i)) :: M)) (fun _ v9 _ => n - (intOf v9).toNat)
  case atStart => exact ⟨0, _, by omega, rfl, rfl, h1⟩
  case round =>
    clear h h1
    obtain ⟨i, v, hi, rfl, rfl, h⟩ := hrel
    obtain ⟨A2, c2, rfl⟩ := h.own.form
    by_cases hlt : i < n
    · have hlti : (i : Int) < (n : Int) := by omega
      have hl0 : (0 : Int) ≤ (i : Int) := by omega
      have hlen := ofK_len l t i
      obtain ⟨b, off, rfl, c0, c1, c2', c3, c4⟩ := (hr _ h.drop) i (by rw [HL.out]; exact hlt)
      have HY := Lib.hid (ofK_yes l t i)
      have HN := Lib.hid (ofK_no l t i)
      generalize l.getD i default = ev at *
      obtain ⟨th, kd, rg, tk, vl⟩ := ev
      dsimp only at c0 c1 c2' c3 c4
      have h5 := h.alloc (evA th kd rg tk vl) 36
      have k0 : _ = some (Value.int .i64 th) := cell_of_heap h5.blk 0
      have h6 := h5.drop
      clear h5
      change St S W (wr.alloc (.cells #[.int .i64 th, .int .i64 kd, .int .i64 rg, .int .u64 tk, .int .u64 vl] 36)) _ at h6
      by_cases ht : th = t
      · have hY := HY.out ht
        have htb : (th == t) = true := by rw [beq_iff_eq]; exact ht
        clear HY HN
        generalize ofK l t i = q at *
        subst ht
        go_wp2_with (at_builtin; refine wpList_push rfl _ _ _ rfl 3 (.int .i64 0) 1 8 Tryz.underlying49 ix_info rfl (by decide) h6 rfl (by rw [World.size_alloc]; rfl) rfl (ixV_one [i]) (by unfold maxLen; omega) (by omega) ?_; intro A' c' w6 h7)
        have h8 : St S W w6 (ownT 3 1 (.slice A' (q.length + 1) c') (ofK l th (i + 1)).length (ixV (ofK l th (i + 1))) :: M) := by
          rw [hY, ixV_append, List.length_append]; exact h7
        go_roundw
        case rel => first | exact ⟨i + 1, _, by omega, rfl, by go_num, h8⟩ | ((repeat apply Exists.intro); exact ⟨⟨i + 1, _, by omega, rfl, by go_num, h8⟩, rfl⟩)
        case measure => simp [intOf]; omega
      · have hN := HN.out ht
        have htb : (th == t) = false := by rw [beq_eq_false_iff_ne]; exact ht
        have h7 : St S W (wr.alloc (.cells #[.int .i64 th, .int .i64 kd, .int .i64 rg, .int .u64 tk, .int .u64 vl] 36)) (ownT 3 1 (.slice A2 (ofK l t i).length c2) (ofK l t (i + 1)).length (ixV (ofK l t (i + 1))) :: M) := by rw [hN]; exact h6
        clear HY HN
        go_wp2_with fail
        exact ⟨⟨i + 1, _, by omega, rfl, by go_num, h7⟩, by simp only [intOf]; omega⟩
    · obtain rfl : i = n := by omega
      have hlti : ¬ (i : Int) < (i : Int) := by omega
      go_wp2_with fail
      go_ret
      exact ⟨_, _, rfl, h⟩
end
end Go.Proofs.YtjdglpngcdcneaaGreat
