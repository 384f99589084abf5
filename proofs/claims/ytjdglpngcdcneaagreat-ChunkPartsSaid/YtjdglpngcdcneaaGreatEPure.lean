/- Layer 21: events, and which may be. -/
import Derived.Test.YtjdglpngcdcneaaGreatHa
import Derived.Test.YtjdglpngcdcneaaGreatHe
import Derived.Laws.StructEq
namespace Go.Proofs.YtjdglpngcdcneaaGreat
open Go.RowKit Go.WideShapes
set_option linter.unusedVariables false
set_option linter.unusedSimpArgs false
set_option linter.unusedSectionVars false
structure Ev where
  th : Int
  kd : Int
  rg : Int
  tk : Nat
  vl : Nat
deriving DecidableEq, Inhabited
def in64 (n : Int) : Prop := -9223372036854775808 ≤ n ∧ n < 9223372036854775808
structure EvOK (e : Ev) : Prop where
  th : in64 e.th
  kd : in64 e.kd
  rg : in64 e.rg
  tk : e.tk < 18446744073709551616
  vl : e.vl < 18446744073709551616
def evC (e : Ev) : List Value := [.int .i64 e.th, .int .i64 e.kd, .int .i64 e.rg, .int .u64 e.tk, .int .u64 e.vl]
def evV (e : Ev) : Value := .agg #[.int .i64 e.th, .int .i64 e.kd, .int .i64 e.rg, .int .u64 e.tk, .int .u64 e.vl]
def evsV (l : List Ev) : List Value := l.flatMap evC
theorem evC_len (e : Ev) : (evC e).length = 5 := rfl
theorem evC_one (e : Ev) : ∀ u ∈ evC e, u.oneCell' = true := by
  intro u hu
  simp only [evC, List.mem_cons, List.not_mem_nil, or_false] at hu
  rcases hu with rfl | rfl | rfl | rfl | rfl <;> rfl
theorem evsV_len (l : List Ev) : (evsV l).length = l.length * 5 := flat_len evC_len l
/-- which kinds name a ticket, a ring, a value -/
def tickB (k : Int) : Bool := decide (1 ≤ k ∧ k ≤ 4 ∨ k = 13)
def ringB (k : Int) : Bool := decide (1 ≤ k ∧ k ≤ 7 ∨ k = 13)
def valB (k : Int) : Bool := decide (8 ≤ k ∧ k ≤ 10 ∨ k = 12)
def bareE (e : Ev) : Ev := ⟨e.th, e.kd, if ringB e.kd then e.rg else 0, if tickB e.kd then e.tk else 0, if valB e.kd then e.vl else 0⟩
def rightE (e : Ev) : Prop := (1 ≤ e.kd ∧ e.kd ≤ 15) ∧ e = bareE e ∧ 0 ≤ e.th ∧ e.th < 8 ∧ 0 ≤ e.rg ∧ e.rg < 8 ∧ e.tk < 4611686018427387904
instance (e : Ev) : Decidable (rightE e) := by unfold rightE; infer_instance
def nmB : Nat → ByteArray
  | 0 => ⟨#[99, 108, 97, 105, 109]⟩
  | 1 => ⟨#[112, 117, 98, 108, 105, 115, 104]⟩
  | 2 => ⟨#[116, 97, 107, 101]⟩
  | 3 => ⟨#[114, 101, 108, 101, 97, 115, 101]⟩
  | 4 => ⟨#[110, 111]⟩
  | 5 => ⟨#[115, 104, 117, 116]⟩
  | 6 => ⟨#[116, 105, 109, 101]⟩
  | 7 => ⟨#[99, 108, 111, 99, 107]⟩
  | 8 => ⟨#[100, 114, 97, 119]⟩
  | 9 => ⟨#[114, 101, 97, 100]⟩
  | 10 => ⟨#[101, 110, 100]⟩
  | 11 => ⟨#[115, 101, 101]⟩
  | 12 => ⟨#[99, 108, 111, 115, 101]⟩
  | 13 => ⟨#[104, 97, 108, 116]⟩
  | 14 => ⟨#[115, 112, 105, 110]⟩
  | _ => ⟨#[]⟩
def nameE (k : Int) : ByteArray := if 1 ≤ k ∧ k ≤ 15 then nmB (k - 1).toNat else ⟨#[]⟩
theorem nmB_ne (i : Nat) (h : i < 15) : (nmB i).toList ≠ [] := by
  match i, h with
  | 0, _ | 1, _ | 2, _ | 3, _ | 4, _ | 5, _ | 6, _ | 7, _ | 8, _ | 9, _ | 10, _ | 11, _ | 12, _ | 13, _ | 14, _ => rw [ByteArray.toList_eq]; simp [nmB]
theorem nameE_ne (k : Int) : (nameE k).toList ≠ [] ↔ 1 ≤ k ∧ k ≤ 15 := by
  unfold nameE
  split
  · rename_i h; exact ⟨fun _ => h, fun _ => nmB_ne _ (by omega)⟩
  · rename_i h; exact ⟨fun c => absurd (by rw [ByteArray.toList_eq]) c, fun c => absurd c h⟩
section
variable (w : World)
set_option maxHeartbeats 1000000 in
theorem tickets_any (k : Int) : Calls Tryz.prog 91 #[.int .i64 k] w fun e w' => e = .returned (.bool (tickB k)) ∧ w = w' := by
  go_enter Tryz.func91, Tryz.ntmps91
  by_cases h1 : 1 ≤ k
  · by_cases h2 : k ≤ 4
    · have e : tickB k = true := by unfold tickB; exact decide_eq_true (by omega)
      rw [e]
      go_wp2
      go_ret
      exact ⟨rfl, rfl⟩
    · by_cases h3 : k = 13
      · subst h3
        have e : tickB 13 = true := by decide
        rw [e]
        go_wp2
        go_ret
        exact ⟨rfl, rfl⟩
      · have e : tickB k = false := by unfold tickB; exact decide_eq_false (by omega)
        have h4 : (k == 13) = false := by rw [beq_eq_false_iff_ne]; exact h3
        rw [e]
        go_wp2
        go_ret
        exact ⟨rfl, rfl⟩
  · have e : tickB k = false := by unfold tickB; exact decide_eq_false (by omega)
    have h4 : (k == 13) = false := by rw [beq_eq_false_iff_ne]; omega
    rw [e]
    go_wp2
    go_ret
    exact ⟨rfl, rfl⟩
set_option maxHeartbeats 1000000 in
theorem rings_any (k : Int) : Calls Tryz.prog 90 #[.int .i64 k] w fun e w' => e = .returned (.bool (ringB k)) ∧ w = w' := by
  have HT := Lib.hid (tickets_any w k)
  by_cases h1 : tickB k = true
  · have e : ringB k = true := by unfold tickB at h1; unfold ringB; have := of_decide_eq_true h1; exact decide_eq_true (by omega)
    rw [e]
    rw [h1] at HT
    clear e h1
    go_enter Tryz.func90, Tryz.ntmps90
    go_wp2_with fail
    refine HT.out.mono ?_
    rintro _ _ ⟨rfl, rfl⟩
    go_wp2_with fail
    go_ret
    exact ⟨rfl, rfl⟩
  · rw [Bool.not_eq_true] at h1
    have h2 : ¬ (1 ≤ k ∧ k ≤ 4 ∨ k = 13) := by unfold tickB at h1; exact of_decide_eq_false h1
    rw [h1] at HT
    clear h1
    by_cases h3 : 5 ≤ k
    · by_cases h4 : k ≤ 7
      · have e : ringB k = true := by unfold ringB; exact decide_eq_true (by omega)
        rw [e]
        clear h2
        go_enter Tryz.func90, Tryz.ntmps90
        go_wp2_with fail
        refine HT.out.mono ?_
        rintro _ _ ⟨rfl, rfl⟩
        go_wp2_with fail
        go_ret
        exact ⟨rfl, rfl⟩
      · have e : ringB k = decide (k ≤ 7) := by unfold ringB; exact decide_eq_decide.2 (by omega)
        rw [e]
        clear h2 h4
        go_enter Tryz.func90, Tryz.ntmps90
        go_wp2_with fail
        refine HT.out.mono ?_
        rintro _ _ ⟨rfl, rfl⟩
        go_wp2_with fail
        go_ret
        exact ⟨rfl, rfl⟩
    · have e : ringB k = false := by unfold ringB; exact decide_eq_false (by omega)
      rw [e]
      clear h2
      go_enter Tryz.func90, Tryz.ntmps90
      go_wp2_with fail
      refine HT.out.mono ?_
      rintro _ _ ⟨rfl, rfl⟩
      go_wp2_with fail
      go_ret
      exact ⟨rfl, rfl⟩
set_option maxHeartbeats 1000000 in
theorem values_any (k : Int) : Calls Tryz.prog 92 #[.int .i64 k] w fun e w' => e = .returned (.bool (valB k)) ∧ w = w' := by
  go_enter Tryz.func92, Tryz.ntmps92
  by_cases h1 : 8 ≤ k
  · by_cases h2 : k ≤ 10
    · have e : valB k = true := by unfold valB; exact decide_eq_true (by omega)
      rw [e]
      go_wp2
      go_ret
      exact ⟨rfl, rfl⟩
    · by_cases h3 : k = 12
      · subst h3
        have e : valB 12 = true := by decide
        rw [e]
        go_wp2
        go_ret
        exact ⟨rfl, rfl⟩
      · have e : valB k = false := by unfold valB; exact decide_eq_false (by omega)
        have h4 : (k == 12) = false := by rw [beq_eq_false_iff_ne]; exact h3
        rw [e]
        go_wp2
        go_ret
        exact ⟨rfl, rfl⟩
  · have e : valB k = false := by unfold valB; exact decide_eq_false (by omega)
    have h4 : (k == 12) = false := by rw [beq_eq_false_iff_ne]; omega
    rw [e]
    go_wp2
    go_ret
    exact ⟨rfl, rfl⟩
theorem cell_new (c : Array Value) (t : TypeId) (i : Nat) : (w.alloc (.cells c t)).cell? ⟨w.heap.size, i, none⟩ = c[i]? := cell_of_heap (((St.start noB w).alloc c t).blk) i
set_option maxHeartbeats 2000000 in
theorem names_any : Calls Tryz.prog 89 #[] w fun e w' => ∃ g, e = .returned (.slice (some ⟨g, 0, none⟩) 15 15) ∧ Ext w w' ∧ ∀ i, i < 15 → w'.cell? ⟨g, i, none⟩ = some (.string (nmB i)) := by
  go_enter Tryz.func89, Tryz.ntmps89
  go_wp2
  go_ret
  refine ⟨_, rfl, ((St.start noB w).alloc _ _).ends, fun i hi => ?_⟩
  rw [cell_new]
  match i, hi with
  | 0, _ | 1, _ | 2, _ | 3, _ | 4, _ | 5, _ | 6, _ | 7, _ | 8, _ | 9, _ | 10, _ | 11, _ | 12, _ | 13, _ | 14, _ => rfl
set_option maxHeartbeats 2000000 in
theorem name_any (k : Int) : Calls Tryz.prog 56 #[.int .i64 k] w fun e w' => e = .returned (.string (nameE k)) ∧ Ext w w' := by
  have HN := Lib.hid (names_any w)
  have hx : Ext w w := Mut.refl noB w
  by_cases h1 : k < 1
  · have e : nameE k = ⟨#[]⟩ := by unfold nameE; rw [if_neg (by omega)]
    rw [e]
    clear e
    go_enter Tryz.func56, Tryz.ntmps56
    go_wp2
    go_ret
    exact ⟨rfl, hx⟩
  · by_cases h2 : 15 < k
    · have e : nameE k = ⟨#[]⟩ := by unfold nameE; rw [if_neg (by omega)]
      rw [e]
      clear e
      go_enter Tryz.func56, Tryz.ntmps56
      go_wp2
      go_ret
      exact ⟨rfl, hx⟩
    · obtain ⟨m, rfl⟩ : ∃ m : Nat, k = m + 1 := ⟨(k - 1).toNat, by omega⟩
      have e : nameE ((m : Int) + 1) = nmB m := by unfold nameE; rw [if_pos (by omega)]; congr 1; omega
      rw [e]
      have e1 : (m : Int) + 1 - 1 = (m : Int) := by omega
      have h5 : (m : Int) < 15 := by omega
      obtain ⟨s, hs'⟩ : ∃ s, nmB m = s := ⟨_, rfl⟩
      rw [hs']
      have HS := Lib.hid hs'
      clear e hs'
      go_enter Tryz.func56, Tryz.ntmps56
      go_wp2_with fail
      refine HN.out.mono ?_
      rintro _ w1 ⟨g, rfl, x1, hc⟩
      have hs := hc m (by omega)
      clear hc
      rw [HS.out] at hs
      go_wp2_with fail
      go_ret
      exact ⟨rfl, x1⟩
end
end Go.Proofs.YtjdglpngcdcneaaGreat
