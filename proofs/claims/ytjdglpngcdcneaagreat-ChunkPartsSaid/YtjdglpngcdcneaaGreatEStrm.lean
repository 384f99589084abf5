/- Layer 21: the j-th stream, by what its functions do. -/
import Derived.Test.YtjdglpngcdcneaaGreatEStr2
import Derived.Shelf.Abstract
namespace Go.Proofs.YtjdglpngcdcneaaGreat
open Go.RowKit Go.WideShapes
set_option linter.unusedVariables false
set_option linter.unusedSimpArgs false
set_option linter.unusedSectionVars false
structure Strm where
  fh : Nat
  cap : Array Value
  fl : Nat
  fr : Nat
  fg : Nat
  fs : Nat
  P : Int → Bool
  V : Ev → Nat
  B : List Nat → List UInt8
  R : List UInt8 → Nat → Int → List Nat × Nat × Nat
  U : Ev → Nat → Ev
def strC (x : Strm) : Array Value := #[.func (.func x.fh) #[] x.cap, fnV x.fl, fnV x.fr, fnV x.fg, fnV x.fs]
/-- what the closures have captured -/
def CapOK (b1 b2 b3 : Nat) (w : World) : Prop :=
  w.cell? ⟨b1, 0, none⟩ = some (fnV 62) ∧ w.cell? ⟨b2, 0, none⟩ = some (fnV 65) ∧ w.cell? ⟨b3, 0, none⟩ = some (fnV 70)
theorem CapOK.ext {b1 b2 b3 : Nat} {w w' : World} (h : CapOK b1 b2 b3 w) (x : Ext w w') : CapOK b1 b2 b3 w' := ⟨x.cell h.1, x.cell h.2.1, x.cell h.2.2⟩
structure EntOK (x : Strm) : Prop where
  h : ∀ (args : Array Value) (w : World), (callFunc x.fh args).run Tryz.prog w = .ok (.enter x.fh args) w
  l : ∀ (args : Array Value) (w : World), (callFunc x.fl args).run Tryz.prog w = .ok (.enter x.fl args) w
  g : ∀ (args : Array Value) (w : World), (callFunc x.fg args).run Tryz.prog w = .ok (.enter x.fg args) w
  r : ∀ (args : Array Value) (w : World), (callFunc x.fr args).run Tryz.prog w = .ok (.enter x.fr args) w
  s : ∀ (args : Array Value) (w : World), (callFunc x.fs args).run Tryz.prog w = .ok (.enter x.fs args) w
structure LayOK (x : Strm) (b1 b2 b3 : Nat) : Prop where
  has : ∀ w (k : Int), CapOK b1 b2 b3 w → Calls Tryz.prog x.fh (#[.int .i64 k] ++ x.cap) w fun e w' => e = .returned (.bool (x.P k)) ∧ Ext w w'
  lay : ∀ w (A : Option Addr) (ca n : Nat) (l : List Nat), l.length = n → n ≤ 1000000 → NRow w A l → AllLt l → Calls Tryz.prog x.fl #[.slice A n ca] w fun e w' => e = .returned (.string ⟨(x.B l).toArray⟩) ∧ Ext w w'
  len : ∀ l : List Nat, AllLt l → l.length ≤ 1000000 → (x.B l).length ≤ 10 + 13 * l.length
  vlt : ∀ e : Ev, rightE e → e.vl < 18446744073709551616 → x.V e < 18446744073709551616
  get : ∀ w (e : Ev), rightE e → Calls Tryz.prog x.fg #[evV e] w fun r w' => r = .returned (.int .u64 (x.V e : Nat)) ∧ Ext w w'
def strm0 (b1 b2 b3 : Nat) : Strm := ⟨58, #[], 18, 53, 59, 60, P0, V0, fun l => rbl (pk l), rrl, fun e n => ⟨e.th, (smallN n : Nat), e.rg, e.tk, e.vl⟩⟩
def strm1 (b1 b2 b3 : Nat) : Strm := ⟨93, #[.pointer (some ⟨b1, 0, none⟩)], 18, 53, 63, 64, P1, V1, fun l => rbl (pk l), rrl, fun e n => ⟨e.th, e.kd, (smallN n : Nat), e.tk, e.vl⟩⟩
def strm2 (b1 b2 b3 : Nat) : Strm := ⟨93, #[.pointer (some ⟨b2, 0, none⟩)], 66, 67, 68, 69, P2, V2, dbl, drl, fun e n => ⟨e.th, e.kd, e.rg, n, e.vl⟩⟩
def strm3 (b1 b2 b3 : Nat) : Strm := ⟨93, #[.pointer (some ⟨b3, 0, none⟩)], 66, 67, 71, 72, P3, V3, dbl, drl, fun e n => ⟨e.th, e.kd, e.rg, e.tk, n⟩⟩
def strm (b1 b2 b3 : Nat) : Nat → Strm
  | 0 => strm0 b1 b2 b3
  | 1 => strm1 b1 b2 b3
  | 2 => strm2 b1 b2 b3
  | _ => strm3 b1 b2 b3
theorem strA_cell (b1 b2 b3 j i : Nat) (hj : j < 4) (hi : i < 5) : (strA b1 b2 b3)[j * 5 + i]? = (strC (strm b1 b2 b3 j))[i]? := by
  match j, hj with
  | 0, _ | 1, _ | 2, _ | 3, _ =>
    match i, hi with
    | 0, _ | 1, _ | 2, _ | 3, _ | 4, _ => rfl
theorem right_kd {e : Ev} (h : rightE e) : e.kd = (V0 e : Nat) ∧ V0 e < 16 := by
  have := h.1
  unfold V0
  omega
theorem right_rg {e : Ev} (h : rightE e) : e.rg = (V1 e : Nat) ∧ V1 e < 8 := by
  have := h.2.2.2.2
  unfold V1
  omega
theorem rbs_short (p : List Rn) (ha : ∀ i, i < p.length → (p.getD i (0, 0)).1 < 18446744073709551616 ∧ (p.getD i (0, 0)).2 ≤ 2097152) : (rbs p).length ≤ 13 * p.length := by
  have : ∀ k, k ≤ p.length → (rbs (p.take k)).length ≤ 13 * k := by
    intro k
    induction k with
    | zero => intro _; simp [rbs]
    | succ k ih =>
      intro hk
      have h1 := ha k (by omega)
      have h2 := vb_len10 _ h1.1
      have h3 := vb_len_le 2 ((p.getD k (0, 0)).2 - 1) (by omega)
      have := ih (by omega)
      rw [rbs_take p k (by omega), List.length_append, List.length_append]; omega
  have := this p.length (Nat.le_refl _)
  rwa [List.take_length] at this
theorem expand_count (p : List Rn) (i : Nat) (h : i < p.length) : (p.getD i (0, 0)).2 ≤ (expand p).length := by
  induction p generalizing i with
  | nil => simp at h
  | cons r p ih =>
    have e : (expand (r :: p)).length = r.2 + (expand p).length := by simp [expand]
    rw [e]
    cases i with
    | zero => simp
    | succ i =>
      have := ih i (by simpa using h)
      rw [List.getD_cons_succ]; omega
theorem rbl_short (l : List Nat) (ha : AllLt l) (hl : l.length ≤ 1000000) : (rbl (pk l)).length ≤ 10 + 13 * l.length := by
  have h1 := len_le_expand (pk l) (ok_pk l)
  rw [expand_pk] at h1
  have h2 := rbs_short (pk l) (fun i hi => ⟨(allR_pk l ha hl i hi).1, by have := expand_count (pk l) i hi; rw [expand_pk] at this; omega⟩)
  have h3 := vb_len10 (pk l).length (by omega)
  rw [rbl, List.length_append]; omega
theorem dbl_short (l : List Nat) (ha : AllLt l) (hl : l.length ≤ 1000000) : (dbl l).length ≤ 10 + 13 * l.length := by
  have h2 := vbs_len_le (deltas l) (deltas_lt l ha)
  rw [deltas_len] at h2
  have h3 := vb_len10 l.length (by omega)
  rw [dbl, vbl, List.length_append, deltas_len]; omega
theorem lay_ok (b1 b2 b3 j : Nat) (hj : j < 4) : LayOK (strm b1 b2 b3 j) b1 b2 b3 := by
  match j, hj with
  | 0, _ =>
    refine ⟨fun w k h => (has0_any k w).mono fun e w' h => ⟨h.1, h.2 ▸ Mut.refl noB w⟩, fun w A ca n l hn hl hr ha => runprint_any A ca n l w hn hl hr ha, rbl_short, fun e h _ => (by have := right_kd h; show V0 e < _; omega), fun w e h => ?_⟩
    have := right_kd h
    exact getk_any e (V0 e) this.1 (by omega) w
  | 1, _ =>
    refine ⟨fun w k h => hasr_any b1 k w h.1, fun w A ca n l hn hl hr ha => runprint_any A ca n l w hn hl hr ha, rbl_short, fun e h _ => (by have := right_rg h; show V1 e < _; omega), fun w e h => ?_⟩
    have := right_rg h
    exact getr_any e (V1 e) this.1 (by omega) w
  | 2, _ =>
    refine ⟨fun w k h => hast_any b2 k w h.2.1, fun w A ca n l hn hl hr ha => ?_, dbl_short, fun e h _ => (by have := h.2.2.2.2.2.2; show e.tk < _; omega), fun w e h => gett_any e w⟩
    subst hn
    exact dprint_any A ca l w hl hr ha
  | 3, _ =>
    refine ⟨fun w k h => hasv_any b3 k w h.2.2, fun w A ca n l hn hl hr ha => ?_, dbl_short, fun e h hv => hv, fun w e h => getv_any e w⟩
    subst hn
    exact dprint_any A ca l w hl hr ha
theorem ent_ok (b1 b2 b3 j : Nat) (hj : j < 4) : EntOK (strm b1 b2 b3 j) := by
  match j, hj with
  | 0, _ => exact ⟨enters_of Tryz.func58 (by kernel_rfl) rfl, enters_of Tryz.func18 (by kernel_rfl) rfl, enters_of Tryz.func59 (by kernel_rfl) rfl, enters_of Tryz.func53 (by kernel_rfl) rfl, enters_of Tryz.func60 (by kernel_rfl) rfl⟩
  | 1, _ => exact ⟨enters_of Tryz.func93 (by kernel_rfl) rfl, enters_of Tryz.func18 (by kernel_rfl) rfl, enters_of Tryz.func63 (by kernel_rfl) rfl, enters_of Tryz.func53 (by kernel_rfl) rfl, enters_of Tryz.func64 (by kernel_rfl) rfl⟩
  | 2, _ => exact ⟨enters_of Tryz.func93 (by kernel_rfl) rfl, enters_of Tryz.func66 (by kernel_rfl) rfl, enters_of Tryz.func68 (by kernel_rfl) rfl, enters_of Tryz.func67 (by kernel_rfl) rfl, enters_of Tryz.func69 (by kernel_rfl) rfl⟩
  | 3, _ => exact ⟨enters_of Tryz.func93 (by kernel_rfl) rfl, enters_of Tryz.func66 (by kernel_rfl) rfl, enters_of Tryz.func71 (by kernel_rfl) rfl, enters_of Tryz.func67 (by kernel_rfl) rfl, enters_of Tryz.func72 (by kernel_rfl) rfl⟩
end Go.Proofs.YtjdglpngcdcneaaGreat
