/- Layer 21: streams are unpacked (plain). -/
import Derived.Test.YtjdglpngcdcneaaGreatEFill
import Derived.Laws.MakeOwn
namespace Go.Proofs.YtjdglpngcdcneaaGreat
open Go.RowKit Go.WideShapes
set_option linter.unusedVariables false
set_option linter.unusedSimpArgs false
set_option linter.unusedSectionVars false
def zeroEv : Ev := ⟨0, 0, 0, 0, 0⟩
theorem evs_zero (n : Nat) : madeCells #[.int .i64 0, .int .i64 0, .int .i64 0, .int .u64 0, .int .u64 0] (n * 5) = (evsV (List.replicate n zeroEv)).toArray := by
  apply Array.ext
  · simp [size_madeCells, evsV_len]
  · intro i h1 h2
    rw [size_madeCells] at h1
    have hg := flat_get evC_len (List.replicate n zeroEv) (i / 5) (by simp; omega) (i % 5) (by omega)
    rw [show i / 5 * 5 + i % 5 = i by omega, show (List.replicate n zeroEv).getD (i / 5) default = zeroEv by
      rw [List.getD_eq_getElem?_getD, List.getElem?_replicate, if_pos (by omega)]; rfl] at hg
    have h3 : (evsV (List.replicate n zeroEv)).toArray[i]? = (evC zeroEv)[i % 5]? := by simpa [evsV] using hg
    rw [Array.getElem?_eq_getElem h2] at h3
    apply Option.some.inj
    rw [h3]
    have : i % 5 < 5 := by omega
    simp only [madeCells, Array.getElem_map, Array.getElem_range]
    match i % 5, this with
    | 0, _ | 1, _ | 2, _ | 3, _ | 4, _ => rfl
theorem run_make_evs (n : Nat) (hn : n ≤ 1000000) (w : World) : (Instr.makeSlice 22 (.int .i64 (n : Int)) (.int .i64 (n : Int))).run Tryz.prog w = .ok (.slice (some ⟨w.heap.size, 0, none⟩) n n) (w.alloc (.cells (evsV (List.replicate n zeroEv)).toArray 36)) := by
  obtain ⟨i0, hi, hz0, hz1, hz2⟩ := info_parts ev_info
  rw [run_make w 22 36 i0 _ Tryz.underlying22 hi hz0 .i64 .i64 n n (by omega) (by omega) (by rw [hz2]; omega) (by omega), hz1]
  simp only [Value.cells, Int.toNat_natCast, evs_zero]
/-- threads that are read, so far -/
def thrTo (ths : List Nat) (i : Nat) : List Ev := (ths.take i).map (fun t => ⟨(smallN t : Nat), 0, 0, 0, 0⟩) ++ List.replicate (ths.length - i) zeroEv
def evOfTh (t : Nat) : Ev := ⟨(smallN t : Nat), 0, 0, 0, 0⟩
theorem thrTo_len (ths : List Nat) (i : Nat) (h : i ≤ ths.length) : (thrTo ths i).length = ths.length := by simp [thrTo]; omega
theorem thrTo_zero (ths : List Nat) : thrTo ths 0 = List.replicate ths.length zeroEv := by simp [thrTo]
theorem thrTo_all (ths : List Nat) : thrTo ths ths.length = ths.map evOfTh := by simp [thrTo, evOfTh]
theorem thrTo_get (ths : List Nat) (i : Nat) (h : i < ths.length) : (thrTo ths i).getD i default = zeroEv := by
  unfold thrTo
  rw [List.getD_eq_getElem?_getD, List.getElem?_append_right (by simp; omega)]
  rw [List.getElem?_replicate, if_pos (by simp; omega)]; rfl
theorem thrTo_succ (ths : List Nat) (i : Nat) (h : i < ths.length) : thrTo ths (i + 1) = (thrTo ths i).set i (evOfTh (ths.getD i 0)) := by
  unfold thrTo
  have e : ((ths.take i).map (fun t => (⟨(smallN t : Nat), 0, 0, 0, 0⟩ : Ev))).length = i := by simp; omega
  rw [List.set_append_right _ _ (by omega), e, Nat.sub_self, show ths.length - i = (ths.length - (i + 1)) + 1 by omega, List.replicate_succ, List.set_cons_zero, List.take_succ_eq_append_getElem h, List.map_append, List.append_assoc]
  simp [evOfTh, h]
theorem thrTo_vl (ths : List Nat) : VLok (ths.map evOfTh) := fun i => by
  rw [List.getD_eq_getElem?_getD]
  rcases Nat.lt_or_ge i ths.length with h | h
  · rw [List.getElem?_eq_getElem (by simpa using h)]; simp [evOfTh]
  · rw [List.getElem?_eq_none (by simpa using h)]; simp [default, instInhabitedEv.default]
theorem rls_most (l : List UInt8) (most : Nat) : ∀ (n a : Nat) (acc : List Nat), acc.length ≤ most → (rls l most n a acc).1.length ≤ most
  | 0, a, acc, h1 => by simpa [rls] using h1
  | n + 1, a, acc, h1 => by
    rw [rls]
    split
    · split
      · simp
      · split
        · simp
        · exact rls_most l most n _ _ (by rw [List.length_append, List.length_replicate]; omega)
    · simp
theorem rrl_most (l : List UInt8) (a most : Nat) : (rrl l a most).1.length ≤ most := by
  unfold rrl
  rw [if_neg (by omega)]
  split
  · rw [Int.toNat_natCast]; exact rls_most l most _ _ [] (by simp)
  · simp
def thrsJ (L : List UInt8) : Nat → List Ev × Nat → Option (List Ev × Nat)
  | 0, s => some s
  | t + 1, s => (thrsJ L t s).bind fun s => if (ofE s.1 (t : Int)).length = 0 then some s else fillJ L (ofE s.1 (t : Int)) 4 s
theorem thrsJ_none (L : List UInt8) (t : Nat) (s : List Ev × Nat) (h : thrsJ L t s = none) (ht : t ≤ 8) : thrsJ L 8 s = none := by
  have : ∀ d, thrsJ L (t + d) s = none := fun d => by
    induction d with
    | zero => exact h
    | succ d ih => rw [← Nat.add_assoc, thrsJ, ih]; rfl
  have := this (8 - t)
  rwa [show t + (8 - t) = 8 by omega] at this
def unpackedP (L : List UInt8) (most : Int) : Option (List Ev) :=
  if (rrl L 0 most).2.1 = 0 then (thrsJ L 8 ((rrl L 0 most).1.map evOfTh, (rrl L 0 most).2.2)).map (·.1) else none
end Go.Proofs.YtjdglpngcdcneaaGreat
