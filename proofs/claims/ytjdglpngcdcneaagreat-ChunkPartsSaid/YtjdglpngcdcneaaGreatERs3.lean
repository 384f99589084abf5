/- Layer 21, the document's: Print; events as cells. -/
import Derived.Test.YtjdglpngcdcneaaGreatERs2
import Derived.Test.YtjdglpngcdcneaaGreatHRefK
namespace Go.Proofs.YtjdglpngcdcneaaGreat
open Go.RowKit Go.WideShapes
set_option linter.unusedVariables false
set_option linter.unusedSimpArgs false
set_option linter.unusedSectionVars false
set_option maxRecDepth 20000 in
set_option maxHeartbeats 8000000 in
theorem rprn_any (A : Option Addr) (ca n : Nat) (l : List Ev) (w : World) (hn : l.length = n) (hn6 : n ≤ 120) (hr : ERow w A l) (hA : AllE l) :
    Calls Tryz.prog 11 #[.slice A n ca] w fun e w' => e = .returned (.string ⟨(printE l).toArray⟩) ∧ Ext w w' := by
  have HS := Lib.hid (rstrs_any A ca n l w hn (by omega) hr hA)
  have hsz := streams_len l hA (by omega)
  obtain ⟨ss, hss⟩ : ∃ q : ByteArray, q = ⟨(streamsP l).toArray⟩ := ⟨_, rfl⟩
  have hz : ss.size ≤ 8000 := by rw [hss, bytes_size]; omega
  have HP := Lib.hid (fun w => rpack_any ss hz w)
  rw [show ss.data.toList = streamsP l by rw [hss], show packP (streamsP l) = printE l from rfl] at HP
  rw [← hss] at HS
  clear hss hz hsz hA hr hn
  go_enter Tryz.func11, Tryz.ntmps11
  go_wp2_with fail
  refine HS.out.mono ?_
  rintro _ w1 ⟨rfl, x1⟩
  go_wp2_with fail
  refine (HP.out w1).mono ?_
  rintro _ w2 ⟨rfl, x2⟩
  go_wp2_with fail
  go_ret
  exact ⟨rfl, x1.trans x2⟩
theorem ERow.none {w : World} {A : Option Addr} {p : List Ev} (h : ERow w A p) : A = Option.none → p.length = 0 := by
  intro e
  rcases Nat.eq_zero_or_pos p.length with h0 | h0
  · exact h0
  · obtain ⟨b, off, e2, _⟩ := h 0 h0
    rw [e] at e2; cases e2
theorem evsV_one (l : List Ev) : ∀ u ∈ evsV l, u.oneCell' = true := by
  intro u hu
  obtain ⟨e, _, h⟩ := List.mem_flatMap.1 hu
  exact evC_one e u h
theorem ERow.cells {w : World} {A : Option Addr} {p : List Ev} (h : ERow w A p) : ∀ ad, A = some ad → ∀ j u, (evsV p)[j]? = some u → w.cell? (ad.add j) = some u := by
  intro ad e j u hj
  have hl : j < p.length * 5 := by
    rcases Nat.lt_or_ge j (evsV p).length with h | h
    · rwa [evsV_len] at h
    · rw [List.getElem?_eq_none h] at hj; cases hj
  obtain ⟨b, off, e2, h0, h1, h2, h3, h4⟩ := h (j / 5) (by omega)
  rw [e] at e2
  cases e2
  rw [add_plain]
  have hg := flat_get evC_len p (j / 5) (by omega) (j % 5) (by omega)
  rw [show j / 5 * 5 + j % 5 = j by omega] at hg
  rw [show (evsV p)[j]? = (p.flatMap evC)[j]? from rfl, hg] at hj
  rw [show off + j = off + j / 5 * 5 + j % 5 by omega]
  have : j % 5 < 5 := by omega
  clear hg hl e
  generalize j / 5 = i at *
  generalize j % 5 = q at *
  match q, this with
  | 0, _ => rw [Nat.add_zero]; rw [h0]; exact hj
  | 1, _ => rw [h1]; exact hj
  | 2, _ => rw [h2]; exact hj
  | 3, _ => rw [h3]; exact hj
  | 4, _ => rw [h4]; exact hj
end Go.Proofs.YtjdglpngcdcneaaGreat
