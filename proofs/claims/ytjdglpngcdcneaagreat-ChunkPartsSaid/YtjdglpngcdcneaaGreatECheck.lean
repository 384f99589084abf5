/- Layer 21: the first event that may not be. -/
import Derived.Test.YtjdglpngcdcneaaGreatEChk
namespace Go.Proofs.YtjdglpngcdcneaaGreat
open Go.RowKit Go.WideShapes
set_option linter.unusedVariables false
set_option linter.unusedSimpArgs false
set_option linter.unusedSectionVars false
/-- events in memory -/
def ERow (w : World) (A : Option Addr) (l : List Ev) : Prop := ∀ i, i < l.length → ∃ b off, A = some ⟨b, off, none⟩ ∧ w.cell? ⟨b, off + i * 5, none⟩ = some (.int .i64 (l.getD i default).th) ∧ w.cell? ⟨b, off + i * 5 + 1, none⟩ = some (.int .i64 (l.getD i default).kd) ∧ w.cell? ⟨b, off + i * 5 + 2, none⟩ = some (.int .i64 (l.getD i default).rg) ∧ w.cell? ⟨b, off + i * 5 + 3, none⟩ = some (.int .u64 ((l.getD i default).tk : Nat)) ∧ w.cell? ⟨b, off + i * 5 + 4, none⟩ = some (.int .u64 ((l.getD i default).vl : Nat))
theorem ERow.ext {w w' : World} {A : Option Addr} {l : List Ev} (h : ERow w A l) (x : Ext w w') : ERow w' A l := fun i hi => by
  obtain ⟨b, off, e, h0, h1, h2, h3, h4⟩ := h i hi
  exact ⟨b, off, e, x.cell h0, x.cell h1, x.cell h2, x.cell h3, x.cell h4⟩
def badE (l : List Ev) : Option Nat := l.findIdx? fun e => !decide (rightE e)
def checkE (l : List Ev) : Nat × Nat := if 65536 < l.length then (0, 4) else match badE l with | some i => (i, 3) | none => (0, 0)
theorem badE_some (l : List Ev) (i : Nat) (hi : i < l.length) (h1 : ∀ j, j < i → rightE (l.getD j default)) (h2 : ¬ rightE (l.getD i default)) : badE l = some i := by
  unfold badE
  rw [List.findIdx?_eq_some_iff_getElem]
  rw [List.getD_eq_getElem?_getD, List.getElem?_eq_getElem hi] at h2
  refine ⟨hi, by simpa using h2, fun j hj => ?_⟩
  have := h1 j hj
  rw [List.getD_eq_getElem?_getD, List.getElem?_eq_getElem (by omega)] at this
  simpa using this
theorem badE_none (l : List Ev) (h1 : ∀ j, j < l.length → rightE (l.getD j default)) : badE l = none := by
  unfold badE
  rw [List.findIdx?_eq_none_iff]
  intro x hx
  obtain ⟨j, hj, rfl⟩ := List.mem_iff_getElem.1 hx
  have := h1 j hj
  rw [List.getD_eq_getElem?_getD, List.getElem?_eq_getElem hj] at this
  simpa using this
set_option maxRecDepth 20000 in
set_option maxHeartbeats 4000000 in
theorem check_any (A : Option Addr) (ca n : Nat) (l : List Ev) (w : World) (hn : l.length = n) (hl : n ≤ 1000000) (hr : ERow w A l) :
    Calls Tryz.prog 16 #[.slice A n ca] w fun e w' => e = .returned (.tuple #[.int .i64 (checkE l).1, .int .i64 (checkE l).2]) ∧ Ext w w' := by
  obtain ⟨R, hR⟩ : ∃ R, checkE l = R := ⟨_, rfl⟩
  rw [hR]
  by_cases h0 : 65536 < n
  · have h0i : (65536 : Int) < (n : Int) := by omega
    obtain rfl : R = (0, 4) := by rw [← hR]; unfold checkE; rw [if_pos (by omega)]
    clear hR
    go_enter Tryz.func16, Tryz.ntmps16
    go_wp2
    go_ret2
    exact ⟨rfl, Mut.refl noB w⟩
  · have h0i : ¬ (65536 : Int) < (n : Int) := by omega
    have HR : Hid ((match badE l with | some i => (i, 3) | none => (0, 0)) = R) := Lib.hid (by rw [← hR]; unfold checkE; rw [if_neg (by omega)])
    have HS := Lib.hid (badE_some l)
    have HN := Lib.hid (badE_none l)
    have HL := Lib.hid hn
    clear hR
    go_enter Tryz.func16, Tryz.ntmps16
    go_wp2_with fail
    go_loopw [11] (fun v11 wr => ∃ i : Nat, v11 = .int .i64 i ∧ i ≤ n ∧ Hid (∀ j, j < i → rightE (l.getD j default)) ∧ Ext w wr) (fun v11 _ => n - (intOf v11).toNat)
    case atStart => exact ⟨0, rfl, by omega, Lib.hid (fun j hj => absurd hj (by omega)), Mut.refl noB w⟩
    case round =>
      obtain ⟨i, rfl, hi, HA, x⟩ := hrel
      by_cases hlt : i < n
      · have hlti : (i : Int) < (n : Int) := by omega
        have hl0 : (0 : Int) ≤ (i : Int) := by omega
        obtain ⟨b, off, rfl, c0, c1, c2, c3, c4⟩ := (hr.ext x) i (by rw [HL.out]; exact hlt)
        have HS2 : Hid (¬ rightE (l.getD i default) → badE l = some i) := Lib.hid (fun c => HS.out i (by rw [HL.out]; exact hlt) HA.out c)
        have HA2 : Hid (rightE (l.getD i default) → ∀ j, j < i + 1 → rightE (l.getD j default)) := Lib.hid (fun c j hj => by
          by_cases e : j = i
          · rw [e]; exact c
          · exact HA.out j (by omega))
        have HRt := Lib.hid (fun w => right_any w (l.getD i default))
        generalize l.getD i default = ev at *
        obtain ⟨th, kd, rg, tk, vl⟩ := ev
        dsimp only [evV] at c0 c1 c2 c3 c4 HRt
        have h5 := ((St.start noB w).ext x).alloc (evA th kd rg tk vl) 36
        have HX := Lib.hid h5.ends
        clear h5
        go_wp2_with fail
        change Hid (Ext w (wr.alloc (.cells #[.int .i64 th, .int .i64 kd, .int .i64 rg, .int .u64 tk, .int .u64 vl] 36))) at HX
        generalize wr.alloc (.cells #[.int .i64 th, .int .i64 kd, .int .i64 rg, .int .u64 tk, .int .u64 vl] 36) = w5 at HX ⊢
        generalize wr.heap.size = bb
        refine (HRt.out _).mono ?_
        rintro _ w6 ⟨rfl, x6⟩
        by_cases hrt : rightE ⟨th, kd, rg, tk, vl⟩
        · rw [decide_eq_true hrt]
          have HA3 := Lib.hid (HA2.out hrt)
          clear HA2 HS2 hrt HRt HA
          go_wp2_with fail
          exact ⟨⟨i + 1, by go_num, by omega, HA3, HX.out.trans x6⟩, by simp only [intOf]; omega⟩
        · rw [decide_eq_false hrt]
          have hR := HR.out
          rw [HS2.out hrt] at hR
          obtain rfl : R = (i, 3) := hR.symm
          clear HA2 HS2 hrt HRt hR HR
          go_wp2_with fail
          go_ret2
          exact ⟨rfl, HX.out.trans x6⟩
      · obtain rfl : i = n := by omega
        have hlti : ¬ (i : Int) < (i : Int) := by omega
        have hb := HN.out (fun j hj => HA.out j (by have := HL.out; omega))
        have hR := HR.out
        rw [hb] at hR
        obtain rfl : R = (0, 0) := hR.symm
        clear hR hb
        go_wp2_with fail
        go_ret2
        exact ⟨rfl, x⟩
end Go.Proofs.YtjdglpngcdcneaaGreat
