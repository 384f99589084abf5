/- Layer 21: what is printed is read as it was (plain). -/
import Derived.Test.YtjdglpngcdcneaaGreatEBack2
namespace Go.Proofs.YtjdglpngcdcneaaGreat
open Go.RowKit Go.WideShapes
set_option linter.unusedVariables false
set_option linter.unusedSimpArgs false
set_option linter.unusedSectionVars false
theorem part_all (l : List Ev) (at' : List Nat) (P : Int → Bool) (V : Ev → Nat) : part l at' P V = (inE P l at').map fun i => V (l.getD i default) := rfl
theorem evs_ext (l m : List Ev) (h : l.length = m.length) (hj : ∀ j, j < l.length → l.getD j default = m.getD j default) : l = m := by
  apply List.ext_getElem h
  intro i h1 h2
  have := hj i h1
  rw [List.getD_eq_getElem?_getD, List.getD_eq_getElem?_getD, List.getElem?_eq_getElem h1, List.getElem?_eq_getElem h2] at this
  exact this
theorem stepF_back (l : List Ev) (hA : AllE l) (hl : l.length ≤ 65536) (t j : Nat) (hj : j < 4) (H more : List UInt8) :
    stepF (strm 0 0 0 j) (H ++ (strm 0 0 0 j).B (part l (ofE l (t : Int)) (strm 0 0 0 j).P (strm 0 0 0 j).V) ++ more) (ofE l (t : Int)) (l.map (stE t j), H.length) =
      some (l.map (stE t (j + 1)), H.length + ((strm 0 0 0 j).B (part l (ofE l (t : Int)) (strm 0 0 0 j).P (strm 0 0 0 j).V)).length) := by
  have hB := back_ok j hj
  have hC := fun e he => strm_cut j hj e he
  generalize strm 0 0 0 j = x at *
  have hin : inE x.P (l.map (stE t j)) (ofE l (t : Int)) = inE x.P l (ofE l (t : Int)) := by
    unfold inE
    apply List.filter_congr
    intro i hi
    have hi2 := (ofE_mem l t i).1 hi
    rw [getD_map l _ i hi2.1, stE_yes t j _ hi2.2]
    exact (hC _ (hA i hi2.1).1).2.2
  unfold stepF
  dsimp only
  rw [hin]
  have hpl : (part l (ofE l (t : Int)) x.P x.V).length = (inE x.P l (ofE l (t : Int))).length := by rw [part_all, List.length_map]
  have hlt := part_lt l (ofE l (t : Int)) x.P x.V hA (ofE_in l _) hB.vlt
  have hle : (part l (ofE l (t : Int)) x.P x.V).length ≤ 1000000 := Nat.le_trans (part_len _ _ _ _) (Nat.le_trans (of_len l _) (by omega))
  have hb := hB.back H _ more hlt hle
  rw [hpl] at hb
  rw [hb]
  dsimp only
  rw [if_pos ⟨rfl, hpl⟩]
  congr 2
  rw [part_all, zip_map_self]
  have hnd : (inE x.P l (ofE l (t : Int))).Nodup := by unfold inE; exact List.filter_sublist.nodup (ofE_nodup l t)
  have hmem : ∀ i, i ∈ inE x.P l (ofE l (t : Int)) ↔ (i < l.length ∧ (l.getD i default).th = (t : Int)) ∧ x.P (l.getD i default).kd = true := fun i => by
    unfold inE
    rw [List.mem_filter, ofE_mem]
  apply evs_ext
  · rw [setAll_len, List.length_map, List.length_map]
  · intro k hk
    rw [setAll_len, List.length_map] at hk
    rw [setAll_get x.U (fun i => x.V (l.getD i default)) _ _ hnd (fun i hi => by rw [List.length_map]; exact ((hmem i).1 hi).1.1) k, getD_map l _ k hk, getD_map l _ k hk]
    have hc := hC _ (hA k hk).1
    by_cases ht : (l.getD k default).th = (t : Int)
    · rw [stE_yes t j _ ht, stE_yes t (j + 1) _ ht]
      rw [hc.2.2] at hc
      rw [← hc.2.1]
      by_cases hp : x.P (l.getD k default).kd = true
      · rw [if_pos ((hmem k).2 ⟨⟨hk, ht⟩, hp⟩), if_pos hp]
      · rw [if_neg (fun q => hp ((hmem k).1 q).2), if_neg hp]
    · rw [if_neg (fun q => ht ((hmem k).1 q).1.2), stE_no t j _ ht, stE_no t (j + 1) _ ht]
theorem fillJ_back (l : List Ev) (hA : AllE l) (hl : l.length ≤ 65536) (t : Nat) (L X Y : List UInt8) (hL : L = X ++ laid l (ofE l (t : Int)) 4 ++ Y) : ∀ j, j ≤ 4 →
    fillJ L (ofE l (t : Int)) j (l.map (stE t 0), X.length) = some (l.map (stE t j), X.length + (laid l (ofE l (t : Int)) j).length)
  | 0, _ => by simp [fillJ, laid]
  | j + 1, hj => by
    rw [fillJ, fillJ_back l hA hl t L X Y hL j (by omega), Option.bind_some]
    have h1 : ∃ more, L = (X ++ laid l (ofE l (t : Int)) j) ++ (strm 0 0 0 j).B (part l (ofE l (t : Int)) (strm 0 0 0 j).P (strm 0 0 0 j).V) ++ more := by
      rw [hL]
      match j, hj with
      | 0, _ | 1, _ | 2, _ | 3, _ => simp only [laid, List.append_assoc, List.nil_append]; exact ⟨_, rfl⟩
    obtain ⟨more, h1⟩ := h1
    have h2 := stepF_back l hA hl t j (by omega) (X ++ laid l (ofE l (t : Int)) j) more
    rw [← h1, List.length_append] at h2
    rw [h2, laid, List.length_append, Nat.add_assoc]
theorem ofE_map (l : List Ev) (f : Ev → Ev) (hf : ∀ e, (f e).th = e.th) (t : Int) : ofE (l.map f) t = ofE l t := by
  unfold ofE ofK
  rw [List.length_map]
  apply List.filter_congr
  intro i hi
  rw [List.mem_range] at hi
  rw [getD_map l f i hi, hf]
theorem thrsJ_back (l : List Ev) (hA : AllE l) (hl : l.length ≤ 65536) (X Y L : List UInt8) (hL : L = X ++ lays l 8 ++ Y) : ∀ t, t ≤ 8 →
    thrsJ L t (l.map (stE 0 0), X.length) = some (l.map (stE t 0), X.length + (lays l t).length)
  | 0, _ => by simp [thrsJ, lays]
  | t + 1, ht => by
    rw [thrsJ, thrsJ_back l hA hl X Y L hL t (by omega), Option.bind_some]
    dsimp only
    rw [ofE_map l _ (stE_th t 0)]
    have hnext : l.map (stE t 4) = l.map (stE (t + 1) 0) := by
      apply List.map_congr_left
      intro e _
      exact stE_next t e
    by_cases h0 : (ofE l (t : Int)).length = 0
    · rw [if_pos h0, lays_succ, if_pos h0, List.append_nil, ← hnext]
      congr 2
      apply evs_ext
      · rw [List.length_map, List.length_map]
      · intro k hk
        rw [List.length_map] at hk
        rw [getD_map l _ k hk, getD_map l _ k hk]
        rw [stE_no t 4]
        intro c
        have := (ofE_mem l (t : Int) k).2 ⟨hk, c⟩
        rw [List.eq_nil_of_length_eq_zero h0] at this
        cases this
    · rw [if_neg h0]
      have hpre : ∃ Z, lays l 8 = lays l (t + 1) ++ Z := by
        have : ∀ d, t + 1 + d ≤ 8 → ∃ Z, lays l (t + 1 + d) = lays l (t + 1) ++ Z := fun d => by
          induction d with
          | zero => intro _; exact ⟨[], by simp⟩
          | succ d ih =>
            intro hd
            obtain ⟨Z, hZ⟩ := ih (by omega)
            rw [← Nat.add_assoc, lays_succ, hZ, List.append_assoc]
            exact ⟨_, rfl⟩
        have := this (7 - t) (by omega)
        rwa [show t + 1 + (7 - t) = 8 by omega] at this
      obtain ⟨Z, hZ⟩ := hpre
      have h2 := fillJ_back l hA hl t L (X ++ lays l t) (Z ++ Y) (by rw [hL, hZ, lays_succ, if_neg h0, laid_all]; simp) 4 (by omega)
      rw [List.length_append] at h2
      rw [h2, hnext, laid_all, lays_succ, if_neg h0, List.length_append, Nat.add_assoc]
theorem stE_0 (l : List Ev) (hA : AllE l) : (thr l).map evOfTh = l.map (stE 0 0) := by
  apply evs_ext
  · simp [thr]
  · intro k hk
    have hk : k < l.length := by simpa [thr] using hk
    have hr := (hA k hk).1
    have e1 : ((thr l).map evOfTh).getD k default = evOfTh (l.getD k default).th.toNat := by simp [thr, hk]
    have hth : ((smallN (l.getD k default).th.toNat : Nat) : Int) = (l.getD k default).th := by
      rw [smallN_lt1 _ (by have := hr.2.2.2.1; omega)]
      have := hr.2.2.1
      omega
    rw [e1, getD_map l _ k hk]
    unfold evOfTh stE
    rw [hth, if_neg (by have := hr.2.2.1; omega)]
    split <;> rfl
theorem stE_8 (l : List Ev) (hA : AllE l) : l.map (stE 8 0) = l := by
  apply evs_ext
  · simp
  · intro k hk
    have hk : k < l.length := by simpa using hk
    have hr := (hA k hk).1
    rw [getD_map l _ k hk]
    unfold stE
    rw [if_pos (by have := hr.2.2.2.1; omega)]
/-- what is laid is unpacked as it was -/
theorem unpackedP_back (l : List Ev) (hA : AllE l) (hl : l.length ≤ 65536) (most : Nat) (hm : l.length ≤ most) : unpackedP (streamsP l) most = some l := by
  unfold unpackedP
  rw [streams_eq]
  have h1 := rrl_most_rbl (thr l) (lays l 8) (thr_lt l hA) (by rw [thr_len]; omega) most (by rw [thr_len]; exact hm)
  rw [h1]
  dsimp only
  rw [if_pos rfl, stE_0 l hA]
  have h2 := thrsJ_back l hA hl (rbl (pk (thr l))) [] (rbl (pk (thr l)) ++ lays l 8) (by simp) 8 (by omega)
  rw [h2, stE_8 l hA]
  rfl
theorem unpackedP_long (l : List Ev) (hA : AllE l) (hl : l.length ≤ 65536) (most : Nat) (hm : most < l.length) : unpackedP (streamsP l) most = none := by
  unfold unpackedP
  rw [streams_eq]
  have h1 := rrl_long (thr l) (lays l 8) (thr_lt l hA) (by rw [thr_len]; omega) most (by rw [thr_len]; exact hm)
  rw [if_neg h1]
end Go.Proofs.YtjdglpngcdcneaaGreat
