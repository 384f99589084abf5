/- Layer 21: answers that the document fixes. -/
import Derived.Test.YtjdglpngcdcneaaGreatERead
import Derived.Test.YtjdglpngcdcneaaGreatEBack3
import Derived.Test.YtjdglpngcdcneaaGreatERf4
namespace Go.Proofs.YtjdglpngcdcneaaGreat
open Go.RowKit Go.WideShapes
set_option linter.unusedVariables false
set_option linter.unusedSimpArgs false
set_option linter.unusedSectionVars false
theorem packP_len (l : List UInt8) (hl : l.length < 134217728) : (packP l).length ≤ 5148 + 8 * l.length := by
  have h56 := lenT_text hl
  unfold packP
  rw [List.length_append, List.length_append, pack_len]
  have h1 := vb_len10 l.length (by omega)
  generalize lenT (cntF l) = t at *
  have h8 : ∀ i, t i < 256 := fun i => by have := h56 i; omega
  have ha := lensL_lt h8
  have hll : (lensL t).length = 256 := by simp [lensL]
  generalize lensL t = ll at *
  have h2 := rbsH_len (pk ll) (allR_pk _ ha (by omega))
  have h3 : (pk ll).length ≤ ll.length := by
    have := len_le_expand (pk ll) (ok_pk ll)
    rwa [expand_pk] at this
  have h4 := vb_len10 (pk ll).length (by omega)
  have h5 := bitsP_len (L := t) (C := codT t) (fun i => by have := h56 i; omega) l
  unfold rbl
  rw [List.length_append]
  omega
theorem streams_small (l : List Ev) (hA : AllE l) (hl : l.length ≤ 65536) : (streamsP l).length ≤ 3670346 := by
  have := streams_len l hA hl
  omega
theorem allE_of (l : List Ev) (hc : checkE l = (0, 0)) (hv : ∀ i, i < l.length → (l.getD i default).vl < 18446744073709551616) : AllE l ∧ l.length ≤ 65536 :=
  ⟨fun i hi => ⟨((check_ok l).1 hc).2 i hi, hv i hi⟩, ((check_ok l).1 hc).1⟩
theorem rdE_back (l : List Ev) (hc : checkE l = (0, 0)) (hv : ∀ i, i < l.length → (l.getD i default).vl < 18446744073709551616) (most : Nat) (hm : l.length ≤ most) (hm6 : most ≤ 65536) : rdE (printE l) most = (l, 0) := by
  obtain ⟨hA, hl⟩ := allE_of l hc hv
  have hs := streams_small l hA hl
  have hu := unpackP_pack (streamsP l) (by omega) 4194304 (by omega)
  unfold rdE
  rw [if_neg (by omega)]
  unfold printE
  rw [hu]
  dsimp only
  rw [if_neg (by omega), unpackedP_back l hA hl most hm]
  dsimp only
  rw [if_pos ⟨hc, rfl⟩]
theorem rdE_long (l : List Ev) (hc : checkE l = (0, 0)) (hv : ∀ i, i < l.length → (l.getD i default).vl < 18446744073709551616) (most : Nat) (hm : most < l.length) : rdE (printE l) most = ([], 3) := by
  obtain ⟨hA, hl⟩ := allE_of l hc hv
  have hs := streams_small l hA hl
  have hu := unpackP_pack (streamsP l) (by omega) 4194304 (by omega)
  unfold rdE
  rw [if_neg (by omega)]
  unfold printE
  rw [hu]
  dsimp only
  rw [if_neg (by omega), unpackedP_long l hA hl most hm]
theorem rdE_neg (s : List UInt8) (most : Int) (h : most < 0) : rdE s most = ([], 1) := by
  unfold rdE
  rw [if_pos (.inl h)]
theorem read_ok (s : ByteArray) (hs : s.size ≤ 520000) (most : Int) (hm : -9223372036854775808 ≤ most ∧ most < 9223372036854775808) (w : World) (l : List Ev) (n : Nat) (h : rdE s.data.toList most = (l, 0)) (hn : l.length = n) :
    Calls Tryz.prog 12 #[.string s, .int .i64 most] w fun e w' => ∃ x0, e = .returned (.tuple #[.slice (some ⟨x0, 0, none⟩) n n, .int .i64 0]) ∧ St noB w w' [ownT 36 5 (.slice (some ⟨x0, 0, none⟩) n n) n (evsV l)] := by
  refine (read_any s hs most hm w).mono ?_
  intro e w' hr
  rw [h] at hr
  rcases hr with ⟨l', n', x0, e1, e2, e3, e4, e5, e6, e7⟩ | ⟨c, e1, e2, _⟩
  · cases e1
    obtain rfl : n' = n := by omega
    exact ⟨x0, e6, e7⟩
  · injection e1 with _ e3
    omega
theorem read_no (s : ByteArray) (hs : s.size ≤ 520000) (most : Int) (hm : -9223372036854775808 ≤ most ∧ most < 9223372036854775808) (w : World) (c : Nat) (h : rdE s.data.toList most = ([], c)) (hc : c ≠ 0) :
    Calls Tryz.prog 12 #[.string s, .int .i64 most] w fun e w' => e = .returned (.tuple #[.slice none 0 0, .int .i64 c]) ∧ Ext w w' := by
  refine (read_any s hs most hm w).mono ?_
  intro e w' hr
  rw [h] at hr
  rcases hr with ⟨l', n', x0, e1, _⟩ | ⟨c', e1, e2, e3, e4⟩
  · injection e1 with _ e3
    exact absurd e3 hc
  · injection e1 with _ e5
    subst e5
    exact ⟨e3, e4⟩
def haltsE : List Ev := [⟨0, 14, 0, 0, 0⟩, ⟨0, 14, 0, 0, 0⟩]
theorem streams_halts : streamsP haltsE = [1, 0, 1, 1, 14, 1, 0, 0, 0] := by
  have e0 : ofE haltsE ((0 : Nat) : Int) = [0, 1] := by decide
  have e1 : ofE haltsE ((1 : Nat) : Int) = [] := by decide
  have e2 : ofE haltsE ((2 : Nat) : Int) = [] := by decide
  have e3 : ofE haltsE ((3 : Nat) : Int) = [] := by decide
  have e4 : ofE haltsE ((4 : Nat) : Int) = [] := by decide
  have e5 : ofE haltsE ((5 : Nat) : Int) = [] := by decide
  have e6 : ofE haltsE ((6 : Nat) : Int) = [] := by decide
  have e7 : ofE haltsE ((7 : Nat) : Int) = [] := by decide
  have p0 : part haltsE [0, 1] P0 V0 = [14, 14] := by decide
  have p1 : part haltsE [0, 1] P1 V1 = [] := by decide
  have p2 : part haltsE [0, 1] P2 V2 = [] := by decide
  have p3 : part haltsE [0, 1] P3 V3 = [] := by decide
  have q0 : pk [14, 14] = [(14, 2)] := by decide
  have q1 : pk [] = [] := by decide
  have q2 : pk [0, 0] = [(0, 2)] := by decide
  have hl : lays haltsE 8 = [1, 14, 1, 0, 0, 0] := by
    rw [lays_succ haltsE 7, lays_succ haltsE 6, lays_succ haltsE 5, lays_succ haltsE 4, lays_succ haltsE 3, lays_succ haltsE 2, lays_succ haltsE 1, lays_succ haltsE 0, e0, e1, e2, e3, e4, e5, e6, e7]
    simp only [List.length_nil, List.length_cons, if_true, List.append_nil, layE, p0, p1, p2, p3, q0, q1]
    simp [lays, rbl, rbs, dbl, vbl, deltas, vbs, vb_small]
  rw [streams_eq, hl, show thr haltsE = [0, 0] from by decide, q2]
  simp [rbl, rbs, vb_small]
theorem erow_blk {g : Nat} {t : TypeId} {w : World} {c : Array Value} (l : List Ev) (h : w.heap[g]? = some (.cells c t)) (hc : c = (evsV l).toArray) : ERow w (some ⟨g, 0, none⟩) l := fun i hi => by
  have hg := fun j (hj : j < 5) => (cell_of_heap h (i * 5 + j)).trans ((by rw [hc]; simp : c[i * 5 + j]? = (evsV l)[i * 5 + j]?).trans (flat_get evC_len l i hi j hj))
  exact ⟨g, 0, rfl, by rw [Nat.zero_add]; exact hg 0 (by omega), by rw [Nat.zero_add]; exact hg 1 (by omega), by rw [Nat.zero_add]; exact hg 2 (by omega), by rw [Nat.zero_add]; exact hg 3 (by omega), by rw [Nat.zero_add]; exact hg 4 (by omega)⟩
theorem halts_any (w : World) : Calls Tryz.prog 14 #[] w fun e w' => ∃ g, e = .returned (.slice (some ⟨g, 0, none⟩) 2 2) ∧ Ext w w' ∧ ERow w' (some ⟨g, 0, none⟩) haltsE := by
  go_enter Tryz.func14, Tryz.ntmps14
  go_wp2_with fail
  go_ret
  have h := (St.start noB w).alloc (evsV haltsE).toArray 36
  exact ⟨_, rfl, h.ends, erow_blk haltsE h.blk rfl⟩
end Go.Proofs.YtjdglpngcdcneaaGreat
