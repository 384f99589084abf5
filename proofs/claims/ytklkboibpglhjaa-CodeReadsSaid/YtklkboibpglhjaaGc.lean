/- Texts of this work, put together: CPrg, CWrit, CWrit2, CPrint, CRead, CRead2. -/
import Derived.Test.YtklkboibpglhjaaGb
import Derived.Test.YtklkboibpglhjaaGa
import Derived.StillTailTactics
import Derived.Deep.LoopGhost
import Derived.Deep.RegionHeld3
import Derived.Deep.RegionLaw
/- Layer 9: programs, plain, and in memory. -/
namespace Go.Proofs.Ytklkboibpglhjaa
open Go.RowKit Go.WideShapes
set_option linter.unusedVariables false
set_option linter.unusedSimpArgs false
set_option linter.unusedSectionVars false
structure Ins where
  op : Int
  a : Int
  b : Int
  c : Int
  d : Int
  k : Nat
deriving DecidableEq
instance : Inhabited Ins := ⟨⟨0, 0, 0, 0, 0, 0⟩⟩
structure Rng where
  kd : Int
  cp : Int
  rd : Int
deriving DecidableEq
instance : Inhabited Rng := ⟨⟨0, 0, 0⟩⟩
structure Prg where
  rings : List Rng
  ths : List (List Ins)
deriving DecidableEq
def insC (x : Ins) : List Value := [.int .i64 x.op, .int .i64 x.a, .int .i64 x.b, .int .i64 x.c, .int .i64 x.d, .int .u64 x.k]
def rngC (r : Rng) : List Value := [.int .i64 r.kd, .int .i64 r.cp, .int .i64 r.rd]
theorem insC_len (x : Ins) : (insC x).length = 6 := rfl
theorem rngC_len (x : Rng) : (rngC x).length = 3 := rfl
theorem insC_one (l : List Ins) : ∀ u ∈ l.flatMap insC, u.oneCell' = true := by
  intro u hu; simp only [List.mem_flatMap] at hu; obtain ⟨r, _, h⟩ := hu; simp [insC] at h; rcases h with rfl | rfl | rfl | rfl | rfl | rfl <;> rfl
theorem rngC_one (l : List Rng) : ∀ u ∈ l.flatMap rngC, u.oneCell' = true := by
  intro u hu; simp only [List.mem_flatMap] at hu; obtain ⟨r, _, h⟩ := hu; simp [rngC] at h; rcases h with rfl | rfl | rfl <;> rfl
section
variable {α : Type} [Inhabited α] {enc : α → List Value} {size : Nat}
theorem flat_len (hk : ∀ x, (enc x).length = size) (l : List α) : (l.flatMap enc).length = l.length * size := by
  induction l with
  | nil => simp
  | cons x l ih => rw [List.flatMap_cons, List.length_append, ih, hk, List.length_cons, Nat.succ_mul, Nat.add_comm]
theorem flat_get (hk : ∀ x, (enc x).length = size) (l : List α) (i : Nat) (h : i < l.length) (j : Nat) (hj : j < size) : (l.flatMap enc)[i * size + j]? = (enc (l.getD i default))[j]? := by
  induction l generalizing i with
  | nil => simp at h
  | cons x l ih =>
    rw [List.flatMap_cons]
    cases i with
    | zero => rw [Nat.zero_mul, Nat.zero_add, List.getElem?_append_left (by rw [hk]; exact hj)]; rfl
    | succ i =>
      rw [List.getElem?_append_right (by rw [hk, Nat.succ_mul]; omega), hk, show (i + 1) * size + j - size = i * size + j by rw [Nat.succ_mul]; omega, ih i (by simpa using h)]
      rfl
/-- elements in memory -/
def GRow (size : Nat) (enc : α → List Value) (w : World) (A : Option Addr) (l : List α) : Prop :=
  ∀ i, i < l.length → ∃ b off, A = some ⟨b, off, none⟩ ∧ ∀ j v, (enc (l.getD i default))[j]? = some v → w.cell? ⟨b, off + i * size + j, none⟩ = some v
theorem GRow.ext {w w' : World} {A : Option Addr} {l : List α} (h : GRow size enc w A l) (x : Ext w w') : GRow size enc w' A l := fun i hi => by
  obtain ⟨b, off, e, hc⟩ := h i hi
  exact ⟨b, off, e, fun j v hj => x.cell (hc j v hj)⟩
theorem GRow.own (hk : ∀ x, (enc x).length = size) {w : World} {e : TypeId} {A : Option Addr} {n c : Nat} {l : List α} (h : Own w e size (.slice A n c) n (l.flatMap enc)) (hl : l.length = n) : GRow size enc w A l := fun i hi => by
  obtain ⟨g, c', e', _⟩ := h.slice (by omega)
  cases e'
  refine ⟨g, 0, rfl, fun j v hj => ?_⟩
  have hjs : j < size := by
    rcases Nat.lt_or_ge j size with h | h
    · exact h
    · rw [List.getElem?_eq_none (by rw [hk]; exact h)] at hj; cases hj
  have hin : i * size + j < n * size := by
    have : (i + 1) * size ≤ n * size := Nat.mul_le_mul_right _ (by omega)
    rw [Nat.succ_mul] at this; omega
  rw [Nat.zero_add, Own.cell h (i * size + j) hin, flat_get hk l i (by omega) j hjs]; exact hj
theorem GRow.cells (hk : ∀ x, (enc x).length = size) (hs : 0 < size) {w : World} {A : Option Addr} {l : List α} (h : GRow size enc w A l) : ∀ ad, A = some ad → ∀ j u, (l.flatMap enc)[j]? = some u → w.cell? (ad.add j) = some u := by
  intro ad e j u hj
  rcases Nat.lt_or_ge j (l.length * size) with hl | hl
  · have hq : j / size < l.length := by rw [Nat.div_lt_iff_lt_mul hs]; exact hl
    obtain ⟨b, off, e2, hc⟩ := h (j / size) hq
    rw [e] at e2
    cases e2
    have hjj : j / size * size + j % size = j := by rw [Nat.mul_comm]; exact Nat.div_add_mod j size
    have := hc (j % size) u (by rw [← flat_get hk l _ hq _ (Nat.mod_lt _ hs), hjj]; exact hj)
    rw [add_plain, ← hjj, ← Nat.add_assoc]; exact this
  · rw [List.getElem?_eq_none (by rw [flat_len hk]; exact hl)] at hj; cases hj
theorem GRow.none {w : World} {A : Option Addr} {l : List α} (h : GRow size enc w A l) : A = Option.none → l.length = 0 := by
  intro e
  rcases Nat.eq_zero_or_pos l.length with h0 | h0
  · exact h0
  · obtain ⟨b, off, e2, hc⟩ := h 0 h0
    rw [e] at e2; cases e2
theorem ArgRow.grow {rep : α → List Value → Prop} (hr : ∀ a cs, rep a cs → cs = enc a) {w : World} {A : Option Addr} {len : Nat} {l : List α} (h : ArgRow rep size w A len l) : GRow size enc w A l := fun i hi => by
  rcases h.2 with h2 | ⟨b, off, hA, hc⟩
  · have := h.1; omega
  · obtain ⟨cs, h1, h2, h3⟩ := hc i l[i] (List.getElem?_eq_getElem hi)
    obtain rfl := hr _ _ h1
    have hg : l.getD i default = l[i] := by rw [List.getD_eq_getElem?_getD, List.getElem?_eq_getElem hi]; rfl
    exact ⟨b, off, hA, fun j v hj => by rw [hg] at hj; rw [Nat.add_assoc]; exact h3 j v hj⟩
end
/-- threads in memory -/
def TRow (w : World) (B : Option Addr) (ts : List (List Ins)) : Prop :=
  ∀ i, i < ts.length → ∃ b off, B = some ⟨b, off, none⟩ ∧ ∃ A c, w.cell? ⟨b, off + i, none⟩ = some (.slice A (ts.getD i []).length c) ∧ GRow 6 insC w A (ts.getD i []) ∧ (ts.getD i []).length ≤ c ∧ (ts.getD i []).length ≤ maxLen
theorem TRow.ext {w w' : World} {B : Option Addr} {ts : List (List Ins)} (h : TRow w B ts) (x : Ext w w') : TRow w' B ts := fun i hi => by
  obtain ⟨b, off, e, A, c, h1, h2, h3⟩ := h i hi
  exact ⟨b, off, e, A, c, x.cell h1, h2.ext x, h3⟩
/-- a program in memory -/
structure PRow (w : World) (A B : Option Addr) (p : Prg) : Prop where
  rg : GRow 3 rngC w A p.rings
  th : TRow w B p.ths
theorem PRow.ext {w w' : World} {A B : Option Addr} {p : Prg} (h : PRow w A B p) (x : Ext w w') : PRow w' A B p := ⟨h.rg.ext x, h.th.ext x⟩
theorem rngs6 {w : World} {A : Option Addr} {l : List Rng} (h : GRow 3 rngC w A l) (i : Nat) (hi : i < l.length) : ∃ b off, A = some ⟨b, off, none⟩ ∧ w.cell? ⟨b, off + i * 3, none⟩ = some (.int .i64 (l.getD i default).kd) ∧ w.cell? ⟨b, off + i * 3 + 1, none⟩ = some (.int .i64 (l.getD i default).cp) ∧ w.cell? ⟨b, off + i * 3 + 2, none⟩ = some (.int .i64 (l.getD i default).rd) := by
  obtain ⟨b, off, e, h⟩ := h i hi
  exact ⟨b, off, e, h 0 _ rfl, h 1 _ rfl, h 2 _ rfl⟩
theorem ins6 {w : World} {A : Option Addr} {l : List Ins} (h : GRow 6 insC w A l) (i : Nat) (hi : i < l.length) : ∃ b off, A = some ⟨b, off, none⟩ ∧ w.cell? ⟨b, off + i * 6, none⟩ = some (.int .i64 (l.getD i default).op) ∧ w.cell? ⟨b, off + i * 6 + 1, none⟩ = some (.int .i64 (l.getD i default).a) ∧ w.cell? ⟨b, off + i * 6 + 2, none⟩ = some (.int .i64 (l.getD i default).b)
    ∧ w.cell? ⟨b, off + i * 6 + 3, none⟩ = some (.int .i64 (l.getD i default).c) ∧ w.cell? ⟨b, off + i * 6 + 4, none⟩ = some (.int .i64 (l.getD i default).d) ∧ w.cell? ⟨b, off + i * 6 + 5, none⟩ = some (.int .u64 (l.getD i default).k) := by
  obtain ⟨b, off, e, h⟩ := h i hi
  exact ⟨b, off, e, h 0 _ rfl, h 1 _ rfl, h 2 _ rfl, h 3 _ rfl, h 4 _ rfl, h 5 _ rfl⟩
/-- numbers within their types -/
def Ins.ok (x : Ins) : Prop := (-9223372036854775808 ≤ x.op ∧ x.op < 9223372036854775808) ∧ (-9223372036854775808 ≤ x.a ∧ x.a < 9223372036854775808) ∧ (-9223372036854775808 ≤ x.b ∧ x.b < 9223372036854775808) ∧ (-9223372036854775808 ≤ x.c ∧ x.c < 9223372036854775808) ∧ (-9223372036854775808 ≤ x.d ∧ x.d < 9223372036854775808) ∧ x.k < 18446744073709551616
def Prg.ok (p : Prg) : Prop := ∀ l ∈ p.ths, ∀ x ∈ l, x.ok
def rightI (x : Ins) : Bool := rightB x.op x.a x.b x.c x.d x.k
def rngB (r : Rng) : Bool := decide (0 ≤ r.kd) && decide (r.kd ≤ 255) && decide (0 ≤ r.cp) && decide (r.cp ≤ 255) && decide (0 ≤ r.rd) && decide (r.rd ≤ 255)
def thB (l : List Ins) : Bool := decide (l.length ≤ 256) && l.all rightI
def writtenB (p : Prg) : Bool := decide (p.rings.length ≤ 8) && decide (p.ths.length ≤ 8) && p.rings.all rngB && p.ths.all thB
/-- a program's bytes -/
def by8 (x : Int) : UInt8 := UInt8.ofNat (x % 256).toNat
theorem bv_by8 (x : Int) : bv (by8 x) = .int .u8 (x % 256) := by
  unfold bv by8
  congr 1
  have h1 : (x % 256).toNat < 256 := by omega
  rw [UInt8.toNat_ofNat', Nat.mod_eq_of_lt h1]
  omega
def insB (x : Ins) : List UInt8 := [by8 x.op, by8 x.a, by8 x.b, by8 x.c, by8 x.d] ++ vb x.k
def thBy (l : List Ins) : List UInt8 := vb l.length ++ l.flatMap insB
def rngBy (r : Rng) : List UInt8 := [by8 r.kd, by8 r.cp, by8 r.rd]
def prB (p : Prg) : List UInt8 := (by8 p.rings.length :: p.rings.flatMap rngBy) ++ (by8 p.ths.length :: p.ths.flatMap thBy)
theorem flat_take {α β : Type} [Inhabited α] (f : α → List β) (l : List α) (i : Nat) (h : i < l.length) : (l.take (i + 1)).flatMap f = (l.take i).flatMap f ++ f (l.getD i default) := by
  rw [List.take_succ_eq_append_getElem h, List.flatMap_append, List.flatMap_singleton, List.getD_eq_getElem?_getD, List.getElem?_eq_getElem h]; rfl
/-- what is ahead of i, and i -/
theorem all_take {α : Type} [Inhabited α] (q : α → Bool) (l : List α) (i : Nat) (h : i < l.length) : (l.take (i + 1)).all q = ((l.take i).all q && q (l.getD i default)) := by
  rw [List.take_succ_eq_append_getElem h, List.getD_eq_getElem?_getD, List.getElem?_eq_getElem h, List.all_append]
  simp only [List.all_cons, List.all_nil, Bool.and_true, Option.getD_some]
theorem all_not {α : Type} [Inhabited α] (q : α → Bool) (l : List α) (i : Nat) (h : i < l.length) (hq : q (l.getD i default) = false) : l.all q = false := by
  rw [List.getD_eq_getElem?_getD, List.getElem?_eq_getElem h] at hq
  rw [List.all_eq_false]
  exact ⟨l[i], List.getElem_mem h, by simp at hq; simp [hq]⟩
end Go.Proofs.Ytklkboibpglhjaa

/- Layer 9: may a program be written? -/
namespace Go.Proofs.Ytklkboibpglhjaa
open Go.RowKit Go.WideShapes
set_option linter.unusedVariables false
set_option linter.unusedSimpArgs false
theorem wrong_any (x : Ins) (hx : x.ok) (w : World) : Calls Try.prog 50 #[instrV x.op x.a x.b x.c x.d x.k] w fun e w' => e = .returned (.bool (!rightI x)) ∧ Ext w w' := by
  have HR := Lib.hid (fun w => right_any x.op x.a x.b x.c x.d x.k hx.1 w)
  change Hid (∀ w, Calls _ _ _ _ fun e w' => e = .returned (.bool (rightI x)) ∧ Ext w w') at HR
  generalize rightI x = r at HR ⊢
  obtain ⟨op, a, b, c, d, k⟩ := x
  simp only at HR ⊢
  unfold instrV at HR ⊢
  have h1 := (St.start noB w).alloc #[Value.int .i64 op, Value.int .i64 a, Value.int .i64 b, Value.int .i64 c, Value.int .i64 d, Value.int .u64 k] 24
  go_enter Try.func50, Try.ntmps50
  go_wp2_with (go_at_call 15; refine (HR.out _).mono ?_; rintro e w1 ⟨rfl, x1⟩)
  go_ret
  exact ⟨rfl, (h1.ext x1).ends⟩
def badAt (l : List Ins) (i : Nat) : Prop := ∀ j, j < i → rightI (l.getD j default) = true
theorem badAt_all (l : List Ins) (n : Nat) (hl : l.length = n) (h : badAt l n) : l.all rightI = true := by
  rw [List.all_eq_true]
  intro x hx
  obtain ⟨j, hj, rfl⟩ := List.getElem_of_mem hx
  have := h j (by omega)
  rwa [List.getD_eq_getElem?_getD, List.getElem?_eq_getElem hj] at this
set_option maxRecDepth 20000 in
set_option maxHeartbeats 4000000 in
theorem indexf_any (A : Option Addr) (ca n : Nat) (l : List Ins) (hl : l.length = n) (hn : n ≤ 9223372036854775807) (w : World) (hr : GRow 6 insC w A l) (hok : ∀ x ∈ l, x.ok) :
    Calls Try.prog 57 #[.slice A n ca, .func (.func 50) #[] #[]] w fun e w' => (∃ i : Int, e = .returned (.int .i64 i) ∧ -1 ≤ i ∧ (decide (0 ≤ i) = !(l.all rightI))) ∧ Ext w w' := by
  have HG := Lib.hid (fun w' (x : Ext w w') i (hi : i < n) => ins6 (hr.ext x) i (by omega))
  have HO := Lib.hid (fun i (hi : i < n) => hok (l.getD i default) (by rw [List.getD_eq_getElem?_getD, List.getElem?_eq_getElem (by omega)]; exact List.getElem_mem _))
  have HL := Lib.hid hl
  clear hr hok hl
  go_enter Try.func57, Try.ntmps57
  go_wp2_with fail
  go_loopw [8] (fun vi wr => ∃ i : Nat, vi = .int .i64 i ∧ i ≤ n ∧ Hid (badAt l i) ∧ Ext w wr) (fun vi _ => n - (intOf vi).toNat)
  case atStart => exact ⟨0, rfl, Nat.zero_le _, Lib.hid (fun j hj => by omega), Mut.refl _ _⟩
  case round =>
    obtain ⟨i, rfl, hi, HB, hx⟩ := hrel
    by_cases hlt : i < n
    · obtain ⟨b, off, rfl, k0, k1, k2, k3, k4, k5⟩ := HG.out wr hx i hlt
      have hq := wrong_any (l.getD i default) (HO.out i hlt)
      obtain ⟨x, hxx⟩ : ∃ x, l.getD i default = x := ⟨_, rfl⟩
      rw [hxx] at k0 k1 k2 k3 k4 k5 hq
      have HX := Lib.hid hxx
      have HQ := Lib.hid hq
      clear hxx hq
      obtain ⟨op, a, bb, c, d, k⟩ := x
      simp only at k0 k1 k2 k3 k4 k5 HQ
      cases hrr : rightI ⟨op, a, bb, c, d, k⟩ with
      | false =>
        rw [hrr] at HQ
        have HRR := Lib.hid hrr
        clear hrr
        go_wp2_with (go_at_call 50; refine (HQ.out _).mono ?_; rintro e w1 ⟨rfl, x1⟩)
        go_ret
        refine ⟨⟨_, rfl, by omega, ?_⟩, hx.trans x1⟩
        rw [all_not rightI l i (by rw [HL.out]; exact hlt) (by rw [HX.out]; exact HRR.out)]
        simp
      | true =>
        rw [hrr] at HQ
        have HRR := Lib.hid hrr
        clear hrr
        go_wp2_with (go_at_call 50; refine (HQ.out _).mono ?_; rintro e w1 ⟨rfl, x1⟩)
        have hx2 := hx.trans x1
        have HB2 : Hid (badAt l (i + 1)) := Lib.hid (fun j hj => by
          by_cases e : j = i
          · subst e; rw [HX.out]; exact HRR.out
          · exact HB.out j (by omega))
        go_roundw
        case rel => first | exact ⟨i + 1, by go_num, by omega, HB2, hx2⟩ | ((repeat apply Exists.intro); exact ⟨⟨i + 1, by go_num, by omega, HB2, hx2⟩, rfl⟩)
        case measure => first | (simp [intOf]; done) | (simp [intOf]; omega)
    · obtain rfl : i = n := by omega
      go_wp2_with fail
      go_ret
      refine ⟨⟨_, rfl, by omega, ?_⟩, hx⟩
      rw [badAt_all l i HL.out HB.out]
      simp
theorem contains_any (A : Option Addr) (ca n : Nat) (l : List Ins) (hl : l.length = n) (hn : n ≤ 9223372036854775807) (w : World) (hr : GRow 6 insC w A l) (hok : ∀ x ∈ l, x.ok) :
    Calls Try.prog 49 #[.slice A n ca, .func (.func 50) #[] #[]] w fun e w' => e = .returned (.bool (!(l.all rightI))) ∧ Ext w w' := by
  have HI := Lib.hid (indexf_any A ca n l hl hn w hr hok)
  clear hr hok hl
  go_enter Try.func49, Try.ntmps49
  go_wp2_with (go_at_call 57; refine HI.out.mono ?_; rintro e w1 ⟨⟨i, rfl, hi, hd⟩, x1⟩)
  go_ret
  rw [← hd]
  exact ⟨rfl, x1⟩
end Go.Proofs.Ytklkboibpglhjaa

/- Layer 9: may a program be written: told. -/
namespace Go.Proofs.Ytklkboibpglhjaa
open Go.RowKit Go.WideShapes
set_option linter.unusedVariables false
set_option linter.unusedSimpArgs false
theorem take_last {α : Type} [Inhabited α] (q : α → Bool) (l : List α) (n : Nat) (h : l.length = n) : (l.take n).all q = l.all q := by rw [← h, List.take_length]
def isWritten (p : Prg) (b : Bool) : Prop := writtenB p = b
theorem isW0 (p : Prg) (n m : Nat) (hn : p.rings.length = n) (hm : p.ths.length = m) (h : 8 < n ∨ 8 < m) : writtenB p = false := by
  unfold writtenB
  rcases h with h | h
  · rw [decide_eq_false (by omega)]; simp
  · rw [decide_eq_false (show ¬ p.ths.length ≤ 8 by omega)]; simp
theorem isW1 (p : Prg) (i : Nat) (hi : i < p.rings.length) (h : rngB (p.rings.getD i default) = false) : writtenB p = false := by
  unfold writtenB; rw [all_not rngB p.rings i hi h]; simp
theorem isW2 (p : Prg) (i : Nat) (hi : i < p.ths.length) (h : thB (p.ths.getD i default) = false) : writtenB p = false := by
  unfold writtenB; rw [all_not thB p.ths i hi h]; simp
theorem isW3 (p : Prg) (n m : Nat) (hn : p.rings.length = n) (hm : p.ths.length = m) (h1 : n ≤ 8) (h2 : m ≤ 8) (ha : (p.rings.take n).all rngB = true) (hb : (p.ths.take m).all thB = true) : writtenB p = true := by
  unfold writtenB
  rw [take_last _ _ _ hn] at ha
  rw [take_last _ _ _ hm] at hb
  rw [ha, hb, decide_eq_true (by omega), decide_eq_true (by omega)]; rfl
theorem isR (p : Prg) (i : Nat) (hi : i < p.rings.length) (h : (p.rings.take i).all rngB = true) (h2 : rngB (p.rings.getD i default) = true) : (p.rings.take (i + 1)).all rngB = true := by
  rw [all_take rngB _ _ hi, h, h2]; rfl
theorem isT (p : Prg) (i : Nat) (hi : i < p.ths.length) (h : (p.ths.take i).all thB = true) (h2 : thB (p.ths.getD i default) = true) : (p.ths.take (i + 1)).all thB = true := by
  rw [all_take thB _ _ hi, h, h2]; rfl
theorem rng_neg (r : Rng) (h : r.kd < 0 ∨ r.cp < 0 ∨ r.rd < 0) : rngB r = false := by
  unfold rngB
  rcases h with h | h | h
  · rw [decide_eq_false (by omega)]; simp
  · rw [decide_eq_false (show ¬ 0 ≤ r.cp by omega)]; simp
  · rw [decide_eq_false (show ¬ 0 ≤ r.rd by omega)]; simp
theorem rng_big (r : Rng) (h : 255 < r.kd ∨ 255 < r.cp ∨ 255 < r.rd) : rngB r = false := by
  unfold rngB
  rcases h with h | h | h
  · rw [decide_eq_false (show ¬ r.kd ≤ 255 by omega)]; simp
  · rw [decide_eq_false (show ¬ r.cp ≤ 255 by omega)]; simp
  · rw [decide_eq_false (show ¬ r.rd ≤ 255 by omega)]; simp
theorem rng_fine (r : Rng) (h : ¬ (r.kd < 0 ∨ r.cp < 0 ∨ r.rd < 0)) (h2 : ¬ (255 < r.kd ∨ 255 < r.cp ∨ 255 < r.rd)) : rngB r = true := by
  unfold rngB
  rw [decide_eq_true (by omega), decide_eq_true (by omega), decide_eq_true (by omega), decide_eq_true (by omega), decide_eq_true (by omega), decide_eq_true (by omega)]; rfl
theorem th_long (l : List Ins) (h : 256 < l.length) : thB l = false := by unfold thB; rw [decide_eq_false (by omega)]; rfl
theorem th_fine (l : List Ins) (h : ¬ 256 < l.length) : thB l = l.all rightI := by unfold thB; rw [decide_eq_true (by omega)]; rfl
set_option maxRecDepth 20000 in
set_option maxHeartbeats 4000000 in
theorem written_any (A B : Option Addr) (ca cb n m : Nat) (p : Prg) (hn : p.rings.length = n) (hm : p.ths.length = m) (w : World) (hr : PRow w A B p) (hok : p.ok) :
    Calls Try.prog 34 #[.agg #[.slice A n ca, .slice B m cb]] w fun e w' => e = .returned (.bool (writtenB p)) ∧ Ext w w' := by
  by_cases h8 : 8 < n ∨ 8 < m
  · rw [isW0 p n m hn hm h8]
    clear hr hok
    have h1 := (St.start noB w).alloc #[Value.slice A n ca, Value.slice B m cb] 35
    by_cases h8n : 8 < n
    · have hg : ((n : Nat) : Int) > 8 := by omega
      go_enter Try.func34, Try.ntmps34
      go_wp2_with fail
      go_ret
      exact ⟨rfl, h1.ends⟩
    · have hg : ¬ ((n : Nat) : Int) > 8 := by omega
      have hg2 : ((m : Nat) : Int) > 8 := by omega
      go_enter Try.func34, Try.ntmps34
      go_wp2_with fail
      go_ret
      exact ⟨rfl, h1.ends⟩
  · have HG := Lib.hid (fun w' (x : Ext w w') i (hi : i < n) => rngs6 (hr.rg.ext x) i (by omega))
    have HT := Lib.hid (fun w' (x : Ext w w') i (hi : i < m) => hr.th.ext x i (by omega))
    have HK := Lib.hid (fun i (hi : i < m) => hok (p.ths.getD i []) (by rw [List.getD_eq_getElem?_getD, List.getElem?_eq_getElem (by omega)]; exact List.getElem_mem _))
    have HN := Lib.hid hn
    have HM := Lib.hid hm
    have hg : ¬ ((n : Nat) : Int) > 8 := by omega
    have hg2 : ¬ ((m : Nat) : Int) > 8 := by omega
    obtain ⟨R, HR⟩ : ∃ R, Hid (writtenB p = R) := ⟨_, Lib.hid rfl⟩
    rw [HR.out]
    clear hr hok hn hm h8
    have h1 := (St.start noB w).alloc #[Value.slice A n ca, Value.slice B m cb] 35
    have hb := h1.blk
    go_enter Try.func34, Try.ntmps34
    go_wp2_with fail
    generalize w.heap.size = pb at h1 hb ⊢
    generalize w.alloc (.cells #[Value.slice A n ca, Value.slice B m cb] 35) = w1 at h1 hb ⊢
    go_loopw [20] (fun vi wr => ∃ i : Nat, vi = .int .i64 i ∧ i ≤ n ∧ Hid ((p.rings.take i).all rngB = true) ∧ St noB w wr [blkT pb #[Value.slice A n ca, Value.slice B m cb] 35]) (fun vi _ => n - (intOf vi).toNat)
    case atStart => exact ⟨0, rfl, Nat.zero_le _, Lib.hid rfl, h1⟩
    case round =>
      clear h1 hb
      obtain ⟨i, rfl, hi, HB, h⟩ := hrel
      by_cases hlt : i < n
      · obtain ⟨b, off, rfl, k0, k1, k2⟩ := HG.out wr h.ends i hlt
        obtain ⟨r, hrr⟩ : ∃ r, p.rings.getD i default = r := ⟨_, rfl⟩
        rw [hrr] at k0 k1 k2
        have HX := Lib.hid hrr
        clear hrr
        obtain ⟨kd, cp, rd⟩ := r
        simp only at k0 k1 k2
        have hli : (i : Int) < (n : Int) := by omega
        have h2 := h.alloc #[Value.int .i64 kd, Value.int .i64 cp, Value.int .i64 rd] 70
        have hx := h2.drop
        clear h h2
        go_wp2_with fail
        all_goals first
          | (go_ret; refine ⟨?_, hx.ends⟩; rw [← HR.out]; refine congrArg _ (congrArg _ (Eq.symm (isW1 p i (by rw [HN.out]; exact hlt) ?_))); rw [HX.out]; first | exact rng_neg _ (by simp only; omega) | exact rng_big _ (by simp only; omega))
          | (have hf : rngB ⟨kd, cp, rd⟩ = true := rng_fine _ (by simp only; omega) (by simp only; omega)
             have HB2 : Hid ((p.rings.take (i + 1)).all rngB = true) := Lib.hid (isR p i (by rw [HN.out]; exact hlt) HB.out (by rw [HX.out]; exact hf))
             go_roundw
             case rel => first | exact ⟨i + 1, by go_num, by omega, HB2, hx⟩ | ((repeat apply Exists.intro); exact ⟨⟨i + 1, by go_num, by omega, HB2, hx⟩, rfl⟩)
             case measure => first | (simp [intOf]; done) | (simp [intOf]; omega))
          | (have hf : rngB ⟨kd, cp, rd⟩ = true := rng_fine _ (by simp only; omega) (by simp only; omega)
             have HB2 : Hid ((p.rings.take (i + 1)).all rngB = true) := Lib.hid (isR p i (by rw [HN.out]; exact hlt) HB.out (by rw [HX.out]; exact hf))
             first | exact ⟨⟨i + 1, by go_num, by omega, HB2, hx⟩, by simp [intOf]; omega⟩ | ((repeat apply Exists.intro); exact ⟨⟨i + 1, by go_num, by omega, HB2, hx⟩, rfl⟩))
      · obtain rfl : i = n := by omega
        have hb := cell_of_heap h.blk 1
        change wr.cell? _ = some (Value.slice B m cb) at hb
        go_wp2_with fail
        clear hb
        go_loopw [46] (fun vi wr => ∃ q : Nat, vi = .int .i64 q ∧ q ≤ m ∧ Hid ((p.ths.take q).all thB = true) ∧ St noB w wr [blkT pb #[Value.slice A i ca, Value.slice B m cb] 35]) (fun vi _ => m - (intOf vi).toNat)
        case atStart => exact ⟨0, rfl, Nat.zero_le _, Lib.hid rfl, h⟩
        case round =>
          clear h
          obtain ⟨j, rfl, hj, HB3, h⟩ := hrel
          by_cases hlt : j < m
          · obtain ⟨b, off, rfl, A2, c2, k0, hrow, _, _⟩ := HT.out _ h.ends j hlt
            have hok := HK.out j hlt
            obtain ⟨l, hll⟩ : ∃ l, p.ths.getD j [] = l := ⟨_, rfl⟩
            rw [hll] at k0 hrow hok
            have HX := Lib.hid hll
            clear hll
            obtain ⟨z, hz⟩ : ∃ z, l.length = z := ⟨_, rfl⟩
            rw [hz] at k0
            have hlj : (j : Int) < (m : Int) := by omega
            by_cases h256 : 256 < z
            · have hf := th_long l (by omega)
              have HF := Lib.hid (isW2 p j (by rw [HM.out]; exact hlt) (show thB (p.ths.getD j []) = false by rw [HX.out]; exact hf))
              have hg3 : ((z : Nat) : Int) > 256 := by omega
              clear hf hz hok hrow
              go_wp2_with fail
              go_ret
              rw [← HR.out, HF.out]
              exact ⟨rfl, h.ends⟩
            · have HC := Lib.hid (contains_any A2 c2 z l hz (by omega) _ hrow hok)
              have HF := Lib.hid (th_fine l (by omega))
              have hg3 : ¬ ((z : Nat) : Int) > 256 := by omega
              clear hz hok hrow
              cases hal : l.all rightI with
              | false =>
                rw [hal] at HC
                have HAL := Lib.hid hal
                clear hal
                go_wp2_with (go_at_call 49; refine HC.out.mono ?_; rintro e w1 ⟨rfl, x1⟩)
                go_ret
                rw [← HR.out, isW2 p j (by rw [HM.out]; exact hlt) (show thB (p.ths.getD j []) = false by rw [HX.out, HF.out]; exact HAL.out)]
                exact ⟨rfl, h.ends.trans x1⟩
              | true =>
                rw [hal] at HC
                have HAL := Lib.hid hal
                clear hal
                go_wp2_with (go_at_call 49; refine HC.out.mono ?_; rintro e w1 ⟨rfl, x1⟩)
                have hx := h.ext x1
                have HB2 : Hid ((p.ths.take (j + 1)).all thB = true) := Lib.hid (isT p j (by rw [HM.out]; exact hlt) HB3.out (show thB (p.ths.getD j []) = true by rw [HX.out, HF.out]; exact HAL.out))
                go_roundw
                case rel => first | exact ⟨j + 1, by go_num, by omega, HB2, hx⟩ | ((repeat apply Exists.intro); exact ⟨⟨j + 1, by go_num, by omega, HB2, hx⟩, rfl⟩)
                case measure => first | (simp [intOf]; done) | (simp [intOf]; omega)
          · obtain rfl : j = m := by omega
            go_wp2_with fail
            go_ret
            rw [← HR.out, isW3 p _ _ HN.out HM.out (by omega) (by omega) HB.out HB3.out]
            exact ⟨rfl, h.ends⟩
end Go.Proofs.Ytklkboibpglhjaa

/- Layer 9: a program printed. -/
namespace Go.Proofs.Ytklkboibpglhjaa
open Go.RowKit Go.WideShapes
set_option linter.unusedVariables false
set_option linter.unusedSimpArgs false
theorem insB_len (x : Ins) (h : x.k < 18446744073709551616) : (insB x).length ≤ 15 := by
  unfold insB; have := vb_len10 x.k h; simp; omega
theorem written_few (p : Prg) (h : writtenB p = true) : p.rings.length ≤ 8 ∧ p.ths.length ≤ 8 := by
  unfold writtenB at h
  simp only [Bool.and_eq_true, decide_eq_true_eq] at h
  exact ⟨h.1.1.1, h.1.1.2⟩
theorem written_short (p : Prg) (h : writtenB p = true) (q : Nat) (hq : q < p.ths.length) (l : List Ins) (hl : p.ths.getD q [] = l) : l.length ≤ 256 := by
  unfold writtenB at h
  simp only [Bool.and_eq_true, List.all_eq_true] at h
  have := h.2 l (by rw [← hl, List.getD_eq_getElem?_getD, List.getElem?_eq_getElem hq]; exact List.getElem_mem _)
  unfold thB at this
  simp only [Bool.and_eq_true, decide_eq_true_eq] at this
  exact this.1
theorem alloc_size (w : World) (o : Obj) : w.heap.size + 1 = (w.alloc o).heap.size := by rw [show (w.alloc o).heap = w.heap.push o from rfl, Array.size_push]
theorem put_row {S : Nat → Prop} {W w : World} {L : List Thing} {b : Nat} {l : List UInt8} (h : St S W w (wrT b l :: L)) (m : List UInt8) (n : Nat) (hn : m.length = n) (cs : Array Value) (hcs : cs = (bytesV m).toArray) (t : TypeId) (g : Nat) (hg : g = w.heap.size) (hs : l.length + m.length ≤ 140737488355328) :
    Calls Try.prog 35 #[.pointer (some ⟨b, 0, none⟩), .slice (some ⟨g, 0, none⟩) n n] (w.alloc (.cells cs t)) fun e w' => e = .returned (.tuple #[]) ∧ St S W w' (wrT b (l ++ m) :: L) := by
  have h2 := h.alloc cs t
  subst hn hcs hg
  refine (put_st h2.swap m ⟨w.heap.size, 0, none⟩ m.length (fun i hi => ?_) hs).mono fun e w' ⟨he, h3⟩ => ⟨he, h3.swap.drop⟩
  rw [add_plain, Nat.zero_add]
  exact cells_of_row (l := m) h2.blk i hi
set_option maxRecDepth 20000 in
set_option maxHeartbeats 8000000 in
theorem cprint_any (A B : Option Addr) (ca cb n m : Nat) (p : Prg) (hn : p.rings.length = n) (hm : p.ths.length = m) (w : World) (hr : PRow w A B p) (hok : p.ok) :
    Calls Try.prog 18 #[.agg #[.slice A n ca, .slice B m cb]] w fun e w' => e = .returned (.tuple #[.string (if writtenB p then ⟨(prB p).toArray⟩ else ⟨#[]⟩), .int .i64 (if writtenB p then 0 else 1)]) ∧ Ext w w' := by
  have hall := (St.start noB w).alloc #[Value.slice A n ca, Value.slice B m cb] 35
  have HW := Lib.hid (written_any A B ca cb n m p hn hm _ (hr.ext hall.ends) hok)
  cases hw : writtenB p with
  | false =>
    rw [hw] at HW
    clear hw hr hok hn hm
    go_enter Try.func18, Try.ntmps18
    go_wp2_with (first
      | (refine wpList_load_row rfl _ _ rfl w.heap.size rfl 35 #[Value.slice A n ca, Value.slice B m cb] (0, 0) _ (heap_alloc_self _ _) Try.underlying35 rfl (by kernel_rfl) ?_)
      | (go_at_call 34; refine HW.out.mono ?_; rintro e w1 ⟨rfl, x1⟩))
    go_ret2
    exact ⟨rfl, hall.ends.trans x1⟩
  | true =>
    rw [hw] at HW
    have HWB := Lib.hid hw
    have h88 := written_few p hw
    rw [hn, hm] at h88
    obtain ⟨hn8, hm8⟩ := h88
    clear hw
    have HG := Lib.hid (fun w' (x : Ext w w') i (hi : i < n) => rngs6 (hr.rg.ext x) i (by omega))
    have HT := Lib.hid (fun w' (x : Ext w w') i (hi : i < m) => hr.th.ext x i (by omega))
    have HK := Lib.hid (fun i (hi : i < m) => hok (p.ths.getD i []) (by rw [List.getD_eq_getElem?_getD, List.getElem?_eq_getElem (by omega)]; exact List.getElem_mem _))
    have HN := Lib.hid hn
    have HM := Lib.hid hm
    clear hr hok hn hm
    go_enter Try.func18, Try.ntmps18
    go_wp2_with (refine wpList_load_row rfl _ _ rfl w.heap.size rfl 35 #[Value.slice A n ca, Value.slice B m cb] (0, 0) _ (heap_alloc_self _ _) Try.underlying35 rfl (by kernel_rfl) ?_)
    refine HW.out.mono ?_
    rintro e w1 ⟨rfl, x1⟩
    have h1 := (hall.ext x1).newWr
    generalize w.heap.size = pb at h1 ⊢
    have hc0 := cell_of_heap h1.swap.blk 0
    change World.cell? _ _ = some (Value.slice A n ca) at hc0
    go_wp2_with fail
    refine (put_row h1 [by8 n] 1 rfl _ (by first | (simp [bytesV, bv_by8]; done) | (simp [bytesV, bv_by8]; omega)) _ _ (by first | with_reducible rfl | exact alloc_size _ _) (by simp)).mono ?_
    rintro e w2 ⟨rfl, h2⟩
    clear hc0
    generalize w1.heap.size = wb at h1 h2 ⊢
    rw [List.nil_append] at h2
    have hc0 := cell_of_heap h2.swap.blk 0
    change World.cell? _ _ = some (Value.slice A n ca) at hc0
    clear h1 HW hall
    go_wp2_with fail
    clear hc0
    go_loopw [23] (fun vi wr => ∃ (i : Nat) (l : List UInt8), vi = .int .i64 i ∧ i ≤ n ∧ Hid (l = by8 n :: (p.rings.take i).flatMap rngBy) ∧ l.length = 1 + 3 * i ∧ St noB w wr [wrT wb l, blkT pb #[Value.slice A n ca, Value.slice B m cb] 35]) (fun vi _ => n - (intOf vi).toNat)
    case atStart => exact ⟨0, _, rfl, Nat.zero_le _, Lib.hid rfl, rfl, h2⟩
    case round =>
      clear h2
      obtain ⟨i, l, rfl, hi, HB, hl, h⟩ := hrel
      by_cases hlt : i < n
      · obtain ⟨b, off, rfl, k0, k1, k2⟩ := HG.out wr h.ends i hlt
        have hli : (i : Int) < (n : Int) := by omega
        obtain ⟨r, hrr⟩ : ∃ r, p.rings.getD i default = r := ⟨_, rfl⟩
        rw [hrr] at k0 k1 k2
        have HX := Lib.hid hrr
        clear hrr
        obtain ⟨kd, cp, rd⟩ := r
        simp only at k0 k1 k2
        have h2 := (h.alloc #[Value.int .i64 kd, Value.int .i64 cp, Value.int .i64 rd] 70).swap
        go_wp2_with fail
        refine (put_row h2 [by8 kd, by8 cp, by8 rd] 3 rfl _ (by first | (simp [bytesV, bv_by8]; done) | (simp [bytesV, bv_by8]; omega)) _ _ (by first | with_reducible rfl | exact alloc_size _ _) (by simp; omega)).mono ?_
        rintro e w3 ⟨rfl, h3⟩
        have h4 := h3.swap.drop
        have HB2 : Hid (l ++ [by8 kd, by8 cp, by8 rd] = by8 n :: (p.rings.take (i + 1)).flatMap rngBy) := Lib.hid (by
          rw [flat_take rngBy p.rings i (by rw [HN.out]; exact hlt), HX.out, HB.out]; rfl)
        clear h h2 h3
        go_wp2_with fail
        go_roundw
        case rel => first | exact ⟨i + 1, _, by go_num, by omega, HB2, by simp; omega, h4⟩ | ((repeat apply Exists.intro); exact ⟨⟨i + 1, _, by go_num, by omega, HB2, by simp; omega, h4⟩, rfl⟩)
        case measure => first | (simp [intOf]; done) | (simp [intOf]; omega)
      · obtain rfl : i = n := by omega
        have hb := cell_of_heap h.swap.blk 1
        change wr.cell? _ = some (Value.slice B m cb) at hb
        go_wp2_with fail
        refine (put_row h [by8 m] 1 rfl _ (by first | (simp [bytesV, bv_by8]; done) | (simp [bytesV, bv_by8]; omega)) _ _ (by first | with_reducible rfl | exact alloc_size _ _) (by simp; omega)).mono ?_
        rintro e w2 ⟨rfl, h2⟩
        clear hb h
        have hb := cell_of_heap h2.swap.blk 1
        change w2.cell? _ = some (Value.slice B m cb) at hb
        go_wp2_with fail
        clear hb
        obtain ⟨L0, hL0⟩ : ∃ L0, l ++ [by8 m] = L0 := ⟨_, rfl⟩
        rw [hL0] at h2
        have hll : L0.length = 2 + 3 * i := by rw [← hL0]; simp; omega
        have HL0 := Lib.hid hL0
        clear hL0
        go_loopw [48] (fun vi wr => ∃ (q : Nat) (l : List UInt8), vi = .int .i64 q ∧ q ≤ m ∧ Hid (l = L0 ++ (p.ths.take q).flatMap thBy) ∧ l.length ≤ 2 + 3 * i + 4000 * q ∧ St noB w wr [wrT wb l, blkT pb #[Value.slice A i ca, Value.slice B m cb] 35]) (fun vi _ => m - (intOf vi).toNat)
        case atStart => exact ⟨0, _, rfl, Nat.zero_le _, Lib.hid (by simp), by omega, h2⟩
        case round =>
          clear h2
          obtain ⟨q, l2, rfl, hq, HB3, hl2, h⟩ := hrel
          by_cases hlt : q < m
          · obtain ⟨b, off, rfl, A2, c2, k0, hrow, _, _⟩ := HT.out w (Mut.refl _ _) q hlt
            replace k0 := h.ends.cell k0
            have hok := HK.out q hlt
            obtain ⟨ll, hll⟩ : ∃ l, p.ths.getD q [] = l := ⟨_, rfl⟩
            rw [hll] at k0 hrow hok
            have h256 : ll.length ≤ 256 := written_short p HWB.out q (by rw [HM.out]; exact hlt) ll hll
            have HX := Lib.hid hll
            clear hll
            obtain ⟨z, hz⟩ : ∃ z, ll.length = z := ⟨_, rfl⟩
            rw [hz] at k0 h256
            have hlj : (q : Int) < (m : Int) := by omega
            have HI := Lib.hid (fun w' (x : Ext w w') i (hi : i < z) => ins6 (hrow.ext x) i (by omega))
            have HO := Lib.hid (fun i (hi : i < z) => hok (ll.getD i default) (by rw [List.getD_eq_getElem?_getD, List.getElem?_eq_getElem (by omega)]; exact List.getElem_mem _))
            have HZ := Lib.hid hz
            have hz10 := vb_len10 z (by omega)
            have HV := Lib.hid (vprint_any z (by omega) wr)
            clear hz hok hrow
            go_wp2_with fail
            refine HV.out.mono ?_
            rintro e w3 ⟨rfl, x3⟩
            have h3 := h.ext x3
            go_wp2_with fail
            refine (text_st h3 ⟨(vb z).toArray⟩ (by rw [show (⟨(vb z).toArray⟩ : ByteArray).size = (vb z).length from rfl]; omega)).mono ?_
            rintro e w4 ⟨rfl, h4⟩
            rw [show (⟨(vb z).toArray⟩ : ByteArray).data.toList = vb z from rfl] at h4
            clear k0 h h3
            go_wp2_with fail
            go_loopw [59] (fun vi wr => ∃ (j : Nat) (l : List UInt8), vi = .int .i64 j ∧ j ≤ z ∧ Hid (l = l2 ++ vb z ++ (ll.take j).flatMap insB) ∧ l.length ≤ 2 + 3 * i + 4000 * q + 10 + 15 * j ∧ St noB w wr [wrT wb l, blkT pb #[Value.slice A i ca, Value.slice (some ⟨b, off, none⟩) m cb] 35]) (fun vi _ => z - (intOf vi).toNat)
            case atStart => exact ⟨0, _, rfl, Nat.zero_le _, Lib.hid (by simp), by rw [List.length_append]; omega, h4⟩
            case round =>
              clear h4
              obtain ⟨j, l3, rfl, hj, HB4, hl3, h⟩ := hrel
              by_cases hlt2 : j < z
              · obtain ⟨b2, off2, rfl, k0, k1, k2, k3, k4, k5⟩ := HI.out wr h.ends j hlt2
                have hxk := (HO.out j hlt2).2.2.2.2.2
                have hin := insB_len _ hxk
                obtain ⟨x, hxx⟩ : ∃ x, ll.getD j default = x := ⟨_, rfl⟩
                rw [hxx] at k0 k1 k2 k3 k4 k5 hxk hin
                have HX2 := Lib.hid hxx
                clear hxx
                obtain ⟨op, a, bb, c, d, k⟩ := x
                simp only at k0 k1 k2 k3 k4 k5 hxk
                have hlz : (j : Int) < (z : Int) := by omega
                have h2 := (h.alloc #[Value.int .i64 op, Value.int .i64 a, Value.int .i64 bb, Value.int .i64 c, Value.int .i64 d, Value.int .u64 k] 24).swap
                go_wp2_with fail
                refine (put_row h2 [by8 op, by8 a, by8 bb, by8 c, by8 d] 5 rfl _ (by first | (simp [bytesV, bv_by8]; done) | (simp [bytesV, bv_by8]; omega)) _ _ (by first | with_reducible rfl | exact alloc_size _ _) (by simp; omega)).mono ?_
                rintro e w3 ⟨rfl, h3⟩
                have hc := cell_of_heap h3.swap.blk 5
                change w3.cell? _ = some (Value.int .u64 k) at hc
                clear h h2
                have HV := Lib.hid (vprint_any k hxk w3)
                go_wp2_with fail
                refine HV.out.mono ?_
                rintro e w4 ⟨rfl, x4⟩
                have h4 := h3.ext x4
                have hlk := vb_len10 k hxk
                clear hc h3 HV
                go_wp2_with fail
                refine (text_st h4 ⟨(vb k).toArray⟩ (by rw [show (⟨(vb k).toArray⟩ : ByteArray).size = (vb k).length from rfl]; simp; omega)).mono ?_
                rintro e w5 ⟨rfl, h5⟩
                have h6 := h5.swap.drop
                have HB5 : Hid (l3 ++ [by8 op, by8 a, by8 bb, by8 c, by8 d] ++ vb k = l2 ++ vb z ++ (ll.take (j + 1)).flatMap insB) := Lib.hid (by
                  rw [flat_take insB ll j (by rw [HZ.out]; exact hlt2), HX2.out, HB4.out]; simp [insB])
                have hl5 : (l3 ++ [by8 op, by8 a, by8 bb, by8 c, by8 d] ++ vb k).length ≤ 2 + 3 * i + 4000 * q + 10 + 15 * (j + 1) := by simp; omega
                rw [show (⟨(vb k).toArray⟩ : ByteArray).data.toList = vb k from rfl] at h6
                clear h4 h5
                go_wp2_with fail
                go_roundw
                case rel => first | exact ⟨j + 1, _, by go_num, by omega, HB5, hl5, h6⟩ | ((repeat apply Exists.intro); exact ⟨⟨j + 1, _, by go_num, by omega, HB5, hl5, h6⟩, rfl⟩)
                case measure => first | (simp [intOf]; done) | (simp [intOf]; omega)
              · obtain rfl : j = z := by omega
                have HB6 : Hid (l3 = L0 ++ (p.ths.take (q + 1)).flatMap thBy) := Lib.hid (by
                  rw [flat_take thBy p.ths q (by rw [HM.out]; exact hlt), show p.ths.getD q default = ll from HX.out, HB4.out, HB3.out, ← HZ.out, List.take_length]; simp [thBy])
                go_wp2_with fail
                go_roundw
                case rel => first | exact ⟨q + 1, _, by go_num, by omega, HB6, by omega, h⟩ | ((repeat apply Exists.intro); exact ⟨⟨q + 1, _, by go_num, by omega, HB6, by omega, h⟩, rfl⟩)
                case measure => first | (simp [intOf]; done) | (simp [intOf]; omega)
          · obtain rfl : q = m := by omega
            go_wp2_with fail
            refine (str_st h).mono ?_
            rintro e w6 ⟨rfl, rfl⟩
            have hx := h.ends
            clear h
            go_wp2_with fail
            go_ret2
            refine ⟨?_, hx⟩
            rw [HB3.out, ← HL0.out, HB.out]
            have e1 : List.take i p.rings = p.rings := by rw [← HN.out, List.take_length]
            have e2 : List.take q p.ths = p.ths := by rw [← HM.out, List.take_length]
            rw [e1, e2]
            show _ = Ending.returned (.tuple #[.string ⟨(prB p).toArray⟩, .int .i64 0])
            unfold prB
            rw [HN.out, HM.out]
            simp
end Go.Proofs.Ytklkboibpglhjaa

/- Layer 9: a program's parts read. -/
namespace Go.Proofs.Ytklkboibpglhjaa
open Go.RowKit Go.WideShapes
set_option linter.unusedVariables false
set_option linter.unusedSimpArgs false
/-- where a reader stands, and whether a part couldn't be read -/
structure RS where
  at_ : Nat
  bad : Bool
deriving DecidableEq
def rdB (l : List UInt8) (t : RS) : Nat × RS := ((l.getD t.at_ 0).toNat, ⟨min (t.at_ + 1) l.length, t.bad || decide (l.length ≤ t.at_)⟩)
def rdN (l : List UInt8) (t : RS) : Nat × RS := ((vrd l t.at_).1, ⟨(vrd l t.at_).2.2, t.bad || decide (¬ (vrd l t.at_).2.1 = 0)⟩)
def rdI (l : List UInt8) (t : RS) : Ins × RS :=
  let (o, t1) := rdB l t
  let (a, t2) := rdB l t1
  let (b, t3) := rdB l t2
  let (c, t4) := rdB l t3
  let (d, t5) := rdB l t4
  let (k, t6) := rdN l t5
  (⟨o, a, b, c, d, k⟩, t6)
def rdIs (l : List UInt8) : Nat → RS → List Ins → List Ins × RS
  | 0, t, acc => (acc, t)
  | n + 1, t, acc => if t.bad then (acc, t) else rdIs l n (rdI l t).2 (acc ++ [(rdI l t).1])
def rdT1 (l : List UInt8) (t : RS) : List Ins × RS :=
  let (n, t1) := rdN l t
  rdIs l n ⟨t1.at_, t1.bad || decide (256 < n)⟩ []
def rsT (cb rb : Nat) (s : ByteArray) (t : RS) : List Thing := [blkT cb #[.pointer (some ⟨rb, 0, none⟩), .bool t.bad] 83, rdT rb s t.at_]
theorem results_one {P : Program} {fn : Func} {p : Tmp} {ty : TypeId} (h : fn.results = #[.cell p ty]) (tmps : Array Value) (w : World) (g : Nat) (t : TypeId) (cs : Array Value) (fr : Nat × Nat) (d : TypeDesc)
    (hp : tmps.getD p undef = .pointer (some ⟨g, 0, none⟩)) (hg : w.heap[g]? = some (.cells cs t fr))
    (hu : P.underlying ty = some d) (hd : (match d with | .struct _ | .array _ _ => true | _ => false) = true) (hi : (P.info? ty).map (·.size) = some cs.size) :
    (results fn tmps).run P w = .ok (.agg cs) w := by
  rw [Array.getD_eq_getD_getElem?] at hp
  simp only [results, h]
  simp [Sem.run_bind, Result.andThen, hp, asAddr, run_loadVar_row w g t ty cs fr d hg hu hd hi]
theorem rdB_le (l : List UInt8) (t : RS) (h : t.at_ ≤ l.length) : (rdB l t).2.at_ ≤ l.length := Nat.min_le_right _ _
theorem rdN_le (l : List UInt8) (t : RS) (h : t.at_ ≤ l.length) : (rdN l t).2.at_ ≤ l.length := (vrd_facts l t.at_ h).2.2.2
section
variable {S : Nat → Prop} {W w : World} {M : List Thing} {cb rb : Nat} {s : ByteArray} {t : RS}
set_option maxRecDepth 20000 in
set_option maxHeartbeats 2000000 in
theorem rbyte_st (h : St S W w (blkT cb #[.pointer (some ⟨rb, 0, none⟩), .bool t.bad] 83 :: rdT rb s t.at_ :: M)) (hs : s.size ≤ maxLen) (ha : t.at_ ≤ s.size) :
    Calls Try.prog 45 #[.pointer (some ⟨cb, 0, none⟩)] w fun e w' => e = .returned (.int .i64 (rdB s.data.toList t).1) ∧ St S W w' (blkT cb #[.pointer (some ⟨rb, 0, none⟩), .bool (rdB s.data.toList t).2.bad] 83 :: rdT rb s (rdB s.data.toList t).2.at_ :: M) := by
  obtain ⟨a, bad⟩ := t
  unfold rdB
  simp only at h ha ⊢
  have hc0 := cell_of_heap h.blk 0
  have hc1 := cell_of_heap h.blk 1
  change w.cell? _ = some (Value.pointer (some ⟨rb, 0, none⟩)) at hc0
  change w.cell? _ = some (Value.bool bad) at hc1
  rw [show s.data.toList.length = s.size from by simp]
  by_cases hlt : a < s.size
  · have HB := Lib.hid (byte_st h.swap hs hlt)
    have hg : s.data.toList.getD a 0 = s[a] := by rw [List.getD_eq_getElem?_getD, List.getElem?_eq_getElem (by simpa using hlt)]; rfl
    rw [hg, Nat.min_eq_left (by omega), decide_eq_false (by omega)]
    generalize s[a] = c at HB ⊢
    clear h hg
    go_enter Try.func45, Try.ntmps45
    go_wp2_with fail
    refine HB.out.mono ?_
    rintro e w1 ⟨rfl, h1⟩
    have h2 := h1.swap
    have hc0 := cell_of_heap h2.blk 0
    have hc1 := cell_of_heap h2.blk 1
    have hf1 := free_of_heap h2.blk 1
    change w1.cell? _ = some (Value.pointer (some ⟨rb, 0, none⟩)) at hc0
    change w1.cell? _ = some (Value.bool bad) at hc1
    cases bad with
    | false =>
      have h3 := h2.set 1 (.bool false)
      clear h1 h2
      go_wp2_with fail
      go_ret
      exact ⟨ret_iv (by have := c.toNat_lt; unfold wrap64; omega), h3⟩
    | true =>
      have h3 := h2.set 1 (.bool true)
      clear h1 h2
      go_wp2_with fail
      go_ret
      exact ⟨ret_iv (by have := c.toNat_lt; unfold wrap64; omega), h3⟩
  · obtain rfl : a = s.size := by omega
    have HB := Lib.hid (byte_end_st h.swap hs rfl)
    have hg : s.data.toList.getD s.size 0 = 0 := by rw [List.getD_eq_getElem?_getD, List.getElem?_eq_none (by simp)]; rfl
    rw [hg, Nat.min_eq_right (by omega), decide_eq_true (by omega), Bool.or_true]
    clear h hg
    go_enter Try.func45, Try.ntmps45
    go_wp2_with fail
    refine HB.out.mono ?_
    rintro e w1 ⟨rfl, h1⟩
    have h2 := h1.swap
    have hc0 := cell_of_heap h2.blk 0
    have hc1 := cell_of_heap h2.blk 1
    have hf1 := free_of_heap h2.blk 1
    change w1.cell? _ = some (Value.pointer (some ⟨rb, 0, none⟩)) at hc0
    change w1.cell? _ = some (Value.bool bad) at hc1
    have h3 := h2.set 1 (.bool true)
    cases bad with
    | false =>
      clear h1 h2
      go_wp2_with fail
      go_ret
      exact ⟨by simp, h3⟩
    | true =>
      clear h1 h2
      go_wp2_with fail
      go_ret
      exact ⟨by simp, h3⟩
set_option maxRecDepth 20000 in
set_option maxHeartbeats 2000000 in
theorem rnum_st (h : St S W w (blkT cb #[.pointer (some ⟨rb, 0, none⟩), .bool t.bad] 83 :: rdT rb s t.at_ :: M)) (hs : s.size ≤ 140737488351232) (ha : t.at_ ≤ s.size) :
    Calls Try.prog 55 #[.pointer (some ⟨cb, 0, none⟩)] w fun e w' => e = .returned (.int .u64 (rdN s.data.toList t).1) ∧ St S W w' (blkT cb #[.pointer (some ⟨rb, 0, none⟩), .bool (rdN s.data.toList t).2.bad] 83 :: rdT rb s (rdN s.data.toList t).2.at_ :: M) := by
  obtain ⟨a, bad⟩ := t
  unfold rdN
  simp only at h ha ⊢
  have hc0 := cell_of_heap h.blk 0
  have hc1 := cell_of_heap h.blk 1
  change w.cell? _ = some (Value.pointer (some ⟨rb, 0, none⟩)) at hc0
  change w.cell? _ = some (Value.bool bad) at hc1
  have HB := Lib.hid (vread_st h.swap hs ha)
  have hf := vrd_facts s.data.toList a (by simpa using ha)
  generalize vrd s.data.toList a = T at HB hf ⊢
  obtain ⟨n, er, a2⟩ := T
  obtain ⟨hn, her, hen, hel⟩ := hf
  simp only at HB hn her hen hel ⊢
  clear h
  go_enter Try.func55, Try.ntmps55
  go_wp2_with fail
  refine HB.out.mono ?_
  rintro e w1 ⟨rfl, h1⟩
  have h2 := h1.swap
  have hc0 := cell_of_heap h2.blk 0
  have hc1 := cell_of_heap h2.blk 1
  have hf1 := free_of_heap h2.blk 1
  change w1.cell? _ = some (Value.pointer (some ⟨rb, 0, none⟩)) at hc0
  change w1.cell? _ = some (Value.bool bad) at hc1
  cases bad with
  | false =>
    by_cases he : er = 0
    · subst he
      have h3 := h2.set 1 (.bool false)
      clear h1 h2
      go_wp2_with fail
      go_ret
      exact ⟨rfl, h3⟩
    · have hne : ((er : Int) != 0) = true := by rw [bne_iff_ne]; omega
      have h3 := h2.set 1 (.bool true)
      have HE := Lib.hid he
      clear h1 h2 he
      go_wp2_with fail
      go_ret
      rw [decide_eq_true HE.out]
      exact ⟨rfl, h3⟩
  | true =>
    have h3 := h2.set 1 (.bool true)
    clear h1 h2
    go_wp2_with fail
    go_ret
    exact ⟨rfl, h3⟩
set_option maxRecDepth 20000 in
set_option maxHeartbeats 4000000 in
theorem rinstr_st (h : St S W w (blkT cb #[.pointer (some ⟨rb, 0, none⟩), .bool t.bad] 83 :: rdT rb s t.at_ :: M)) (hs : s.size ≤ 140737488351232) (ha : t.at_ ≤ s.size) :
    Calls Try.prog 56 #[.pointer (some ⟨cb, 0, none⟩)] w fun e w' => e = .returned (.agg (insC (rdI s.data.toList t).1).toArray) ∧ St S W w' (blkT cb #[.pointer (some ⟨rb, 0, none⟩), .bool (rdI s.data.toList t).2.bad] 83 :: rdT rb s (rdI s.data.toList t).2.at_ :: M) := by
  have hsl : s.data.toList.length = s.size := by simp
  go_enter Try.func56, Try.ntmps56
  have h0 := (h.alloc #[Value.int .i64 0, Value.int .i64 0, Value.int .i64 0, Value.int .i64 0, Value.int .i64 0, Value.int .u64 0] 24).swap.under (fun _ ht => ht.swap)
  have e0 : rdI s.data.toList t = rdI s.data.toList t := rfl
  conv at e0 => rhs; unfold rdI
  simp only at e0
  have E0 := Lib.hid e0
  clear e0 h
  generalize hR : rdI s.data.toList t = R at E0 ⊢
  clear hR
  have g1 := rdB_le s.data.toList t (by rw [hsl]; exact ha)
  have H1 := Lib.hid (rbyte_st h0 (by unfold maxLen; omega) ha)
  generalize rdB s.data.toList t = q1 at E0 H1 g1
  rw [hsl] at g1
  go_wp2_with fail
  refine H1.out.mono ?_
  rintro e w1 ⟨rfl, h1⟩
  clear h0 H1
  have g2 := rdB_le s.data.toList q1.2 (by rw [hsl]; exact g1)
  have H1 := Lib.hid (rbyte_st h1 (by unfold maxLen; omega) g1)
  generalize rdB s.data.toList q1.2 = q2 at E0 H1 g2
  rw [hsl] at g2
  clear h1
  go_wp2_with fail
  refine H1.out.mono ?_
  rintro e w2 ⟨rfl, h1⟩
  clear H1
  have g3 := rdB_le s.data.toList q2.2 (by rw [hsl]; exact g2)
  have H1 := Lib.hid (rbyte_st h1 (by unfold maxLen; omega) g2)
  generalize rdB s.data.toList q2.2 = q3 at E0 H1 g3
  rw [hsl] at g3
  clear h1
  go_wp2_with fail
  refine H1.out.mono ?_
  rintro e w3 ⟨rfl, h1⟩
  clear H1
  have g4 := rdB_le s.data.toList q3.2 (by rw [hsl]; exact g3)
  have H1 := Lib.hid (rbyte_st h1 (by unfold maxLen; omega) g3)
  generalize rdB s.data.toList q3.2 = q4 at E0 H1 g4
  rw [hsl] at g4
  clear h1
  go_wp2_with fail
  refine H1.out.mono ?_
  rintro e w4 ⟨rfl, h1⟩
  clear H1
  have g5 := rdB_le s.data.toList q4.2 (by rw [hsl]; exact g4)
  have H1 := Lib.hid (rbyte_st h1 (by unfold maxLen; omega) g4)
  generalize rdB s.data.toList q4.2 = q5 at E0 H1 g5
  rw [hsl] at g5
  clear h1
  go_wp2_with fail
  refine H1.out.mono ?_
  rintro e w5 ⟨rfl, h1⟩
  clear H1
  obtain ⟨o, t1⟩ := q1
  obtain ⟨a, t2⟩ := q2
  obtain ⟨b, t3⟩ := q3
  obtain ⟨c, t4⟩ := q4
  obtain ⟨d, t5⟩ := q5
  simp only at *
  have h2 := (h1.alloc #[Value.int .i64 o, Value.int .i64 a, Value.int .i64 b, Value.int .i64 c, Value.int .i64 d, Value.int .u64 0] 24).swap.under (fun _ ht => ht.swap)
  have H1 := Lib.hid (rnum_st h2 hs g5)
  generalize rdN s.data.toList t5 = q6 at E0 H1
  obtain ⟨k, t6⟩ := q6
  simp only at E0 H1
  clear h1
  generalize w.heap.size = x at h2 H1 ⊢
  go_wp2_with fail
  refine H1.out.mono ?_
  rintro e w6 ⟨rfl, h3⟩
  generalize w5.heap.size = y at h3 ⊢
  have hc5 := cell_of_heap (h3.pull 2).blk 5
  have hf5 := free_of_heap (h3.pull 2).blk 5
  change w6.cell? _ = some (Value.int .u64 0) at hc5
  have h4 := (h3.pull 2).set 5 (.int .u64 k)
  change St S W _ (blkT y #[Value.int .i64 o, Value.int .i64 a, Value.int .i64 b, Value.int .i64 c, Value.int .i64 d, Value.int .u64 k] 24 :: blkT cb _ _ :: rdT rb s _ :: blkT x _ _ :: M) at h4
  clear h2 H1 h3
  generalize hw7 : w6.setCell ⟨y, 5, none⟩ (.int .u64 k) = w7 at h4
  have hx7 := (h4.pull 3).blk
  have h5 := (h4.pull 3).row #[Value.int .i64 o, Value.int .i64 a, Value.int .i64 b, Value.int .i64 c, Value.int .i64 d, Value.int .u64 k]
  have h6 := h5.swap.drop
  have hy7 := h4.blk
  go_wp2_with (first
    | (refine wpList_load_row rfl _ _ rfl y rfl 24 #[Value.int .i64 o, Value.int .i64 a, Value.int .i64 b, Value.int .i64 c, Value.int .i64 d, Value.int .u64 k] (0, 0) _ hy7 Try.underlying24 rfl (by kernel_rfl) ?_)
    | (refine wpList_store_row rfl _ _ _ rfl x #[Value.int .i64 o, Value.int .i64 a, Value.int .i64 b, Value.int .i64 c, Value.int .i64 d, Value.int .u64 k] rfl rfl 24 _ hx7 (by kernel_rfl) rfl (by simp [Value.oneCell']) ?_))
  refine bodyPost_ret_by (results_one rfl _ _ x 24 _ (0, 0) _ rfl h5.blk Try.underlying24 rfl (by kernel_rfl)) rfl ?_
  rw [E0.out]
  exact ⟨rfl, (h5.drop.swap.under (fun _ ht => ht.swap)).pull 2 |>.drop⟩
theorem ins_info : (Try.prog.info? 24).map (fun i => (i.zero, i.size, i.bytes)) = some (some (.agg #[.int .i64 0, .int .i64 0, .int .i64 0, .int .i64 0, .int .i64 0, .int .u64 0]), 6, 48) := by kernel_rfl
theorem rdI_le (l : List UInt8) (t : RS) (h : t.at_ ≤ l.length) : (rdI l t).2.at_ ≤ l.length := by
  unfold rdI
  exact rdN_le l _ (rdB_le l _ (rdB_le l _ (rdB_le l _ (rdB_le l _ (rdB_le l _ h)))))
theorem rdIs_bad (l : List UInt8) (n : Nat) (a : Nat) (acc : List Ins) : rdIs l n ⟨a, true⟩ acc = (acc, ⟨a, true⟩) := by cases n <;> rfl
theorem rdIs_go (l : List UInt8) (n : Nat) (a : Nat) (acc : List Ins) : rdIs l (n + 1) ⟨a, false⟩ acc = rdIs l n (rdI l ⟨a, false⟩).2 (acc ++ [(rdI l ⟨a, false⟩).1]) := rfl
set_option maxRecDepth 20000 in
set_option maxHeartbeats 4000000 in
theorem rthread_st (h : St S W w (blkT cb #[.pointer (some ⟨rb, 0, none⟩), .bool t.bad] 83 :: rdT rb s t.at_ :: M)) (hs : s.size ≤ 140737488351232) (ha : t.at_ ≤ s.size) :
    Calls Try.prog 46 #[.pointer (some ⟨cb, 0, none⟩)] w fun e w' => ∃ A c n, e = .returned (.slice A n c) ∧ (rdT1 s.data.toList t).1.length = n ∧ n ≤ 256 ∧ St S W w' (ownT 24 6 (.slice A n c) n ((rdT1 s.data.toList t).1.flatMap insC) :: blkT cb #[.pointer (some ⟨rb, 0, none⟩), .bool (rdT1 s.data.toList t).2.bad] 83 :: rdT rb s (rdT1 s.data.toList t).2.at_ :: M) := by
  have hsl : s.data.toList.length = s.size := by simp
  have HR := Lib.hid (show rdT1 s.data.toList t = rdIs s.data.toList (rdN s.data.toList t).1 ⟨(rdN s.data.toList t).2.at_, (rdN s.data.toList t).2.bad || decide (256 < (rdN s.data.toList t).1)⟩ [] from rfl)
  generalize rdT1 s.data.toList t = R at HR ⊢
  have H1 := Lib.hid (rnum_st h hs ha)
  have g1 := rdN_le s.data.toList t (by rw [hsl]; exact ha)
  have hn64 := (vrd_facts s.data.toList t.at_ (by rw [hsl]; exact ha)).1
  change (rdN s.data.toList t).1 < _ at hn64
  generalize rdN s.data.toList t = q at HR H1 g1 hn64
  obtain ⟨n, ⟨a1, bad1⟩⟩ := q
  simp only at HR H1 g1 hn64
  rw [hsl] at g1
  clear h
  go_enter Try.func46, Try.ntmps46
  go_wp2_with fail
  refine H1.out.mono ?_
  rintro e w1 ⟨rfl, h1⟩
  have hc1 := cell_of_heap h1.blk 1
  have hf1 := free_of_heap h1.blk 1
  change w1.cell? _ = some (Value.bool bad1) at hc1
  cases bad1 with
  | true =>
    rw [Bool.true_or] at HR
    have h3 := h1.set 1 (.bool true)
    change St S W _ (blkT cb #[.pointer (some ⟨rb, 0, none⟩), .bool true] 83 :: rdT rb s a1 :: M) at h3
    have HC := Lib.hid (show n ≤ 256 ∨ true = true from .inr rfl)
    have h4 := h3.nilOwn 24 6
    generalize hwx : w1.setCell ⟨cb, 1, none⟩ (.bool true) = wx at h4
    clear h1 H1 h3
    go_wp2_with fail
    try rw [hwx]
    clear hc1 hf1 hwx
    try clear hgt
    go_loopw [2, 4] (fun vl vk wr => ∃ (k : Nat) (st : RS) (acc : List Ins) (A : Option Addr) (c : Nat), vl = .slice A k c ∧ vk = .int .u64 k ∧ k ≤ n ∧ (k = 0 ∨ n ≤ 256) ∧ (n ≤ 256 ∨ st.bad = true) ∧ Hid (acc.length = k) ∧ st.at_ ≤ s.size ∧ Hid (R = rdIs s.data.toList (n - k) st acc) ∧ St S W wr (ownT 24 6 (.slice A k c) k (acc.flatMap insC) :: blkT cb #[.pointer (some ⟨rb, 0, none⟩), .bool st.bad] 83 :: rdT rb s st.at_ :: M)) (fun _ vk _ => n - (intOf vk).toNat)
    case atStart => exact ⟨0, ⟨a1, true⟩, [], none, 0, rfl, rfl, Nat.zero_le _, .inl rfl, (by first | exact HC.out | exact .inr rfl), Lib.hid rfl, g1, HR, h4⟩
    case round =>
      clear h4 HR HC
      obtain ⟨k, ⟨at2, bad2⟩, acc, A, c, rfl, rfl, hk, hk0, hn2, HL, hat, HR, h⟩ := hrel
      simp only at hn2 hat HR h
      have hcb := cell_of_heap h.swap.blk 1
      change wr.cell? _ = some (Value.bool bad2) at hcb
      by_cases hlt : k < n
      · have hlz : (k : Int) < (n : Int) := by omega
        cases bad2 with
        | true =>
          go_wp2_with fail
          go_ret
          have hR := HR.out
          rw [rdIs_bad] at hR
          rw [hR]
          exact ⟨_, _, _, rfl, HL.out, by omega, h⟩
        | false =>
          have hR := HR.out
          rw [show n - k = (n - (k + 1)) + 1 by omega, rdIs_go] at hR
          have h256 : n ≤ 256 := by rcases hn2 with h | h; exact h; cases h
          have H1 := Lib.hid (rinstr_st (t := ⟨at2, false⟩) (h.swap.under (fun _ ht => ht.swap)) hs hat)
          have g2 := rdI_le s.data.toList ⟨at2, false⟩ (by rw [hsl]; exact hat)
          generalize rdI s.data.toList ⟨at2, false⟩ = q at hR H1 g2
          rw [hsl] at g2
          obtain ⟨⟨o, xa, xb, xc, xd, xk⟩, ⟨a3, b3⟩⟩ := q
          simp only [insC] at hR H1 g2
          have HR2 := Lib.hid hR
          clear HR hR h hn2
          go_wp2_with fail
          refine H1.out.mono ?_
          rintro e w2 ⟨rfl, h2⟩
          have h3 : St S W w2 (ownT 24 6 (.slice A k c) k (acc.flatMap insC) :: blkT cb _ _ :: rdT rb s a3 :: M) := h2.pull 2
          clear H1 h2 hcb
          go_wp2_with (at_builtin; refine wpList_push rfl _ _ _ rfl 24 (.agg #[.int .i64 0, .int .i64 0, .int .i64 0, .int .i64 0, .int .i64 0, .int .u64 0]) 6 48 Try.underlying51 ins_info rfl (by decide) h3 rfl rfl rfl (by simp [Value.oneCell']) (by unfold maxLen; omega) (by omega) ?_; intro A' c' w3 h4)
          rw [show acc.flatMap insC ++ _ = (acc ++ [(⟨o, xa, xb, xc, xd, xk⟩ : Ins)]).flatMap insC from by simp [insC]] at h4
          have HL2 : Hid ((acc ++ [(⟨o, xa, xb, xc, xd, xk⟩ : Ins)]).length = k + 1) := Lib.hid (by simp [HL.out])
          clear h3
          go_wp2_with fail
          go_roundw
          case rel => first | exact ⟨k + 1, ⟨a3, b3⟩, _, A', c', rfl, by go_num, by omega, .inr h256, .inl h256, HL2, g2, HR2, h4⟩ | ((repeat apply Exists.intro); exact ⟨⟨k + 1, ⟨a3, b3⟩, _, A', c', rfl, by go_num, by omega, .inr h256, .inl h256, HL2, g2, HR2, h4⟩, rfl⟩)
          case measure => first | (simp [intOf]; done) | (simp [intOf]; omega)
      · obtain rfl : k = n := by omega
        have hlz : ¬ (k : Int) < (k : Int) := by omega
        go_wp2_with fail
        go_ret
        have hR := HR.out
        rw [Nat.sub_self] at hR
        have hR : R = (acc, ⟨at2, bad2⟩) := hR
        rw [hR]
        exact ⟨_, _, _, rfl, HL.out, by omega, h⟩
  | false =>
    rw [Bool.false_or] at HR
    by_cases hq : n ≤ 256
    · rw [decide_eq_false (by omega)] at HR
      have h3 := h1.set 1 (.bool false)
      change St S W _ (blkT cb #[.pointer (some ⟨rb, 0, none⟩), .bool false] 83 :: rdT rb s a1 :: M) at h3
      have HC := Lib.hid (show n ≤ 256 ∨ false = true from .inl hq)
      have hgt : decide ((256 : Int) < (n : Int)) = false := decide_eq_false (by omega)
      clear hq
      have h4 := h3.nilOwn 24 6
      generalize hwx : w1.setCell ⟨cb, 1, none⟩ (.bool false) = wx at h4
      clear h1 H1 h3
      go_wp2_with fail
      try rw [hwx]
      clear hc1 hf1 hwx
      try clear hgt
      go_loopw [2, 4] (fun vl vk wr => ∃ (k : Nat) (st : RS) (acc : List Ins) (A : Option Addr) (c : Nat), vl = .slice A k c ∧ vk = .int .u64 k ∧ k ≤ n ∧ (k = 0 ∨ n ≤ 256) ∧ (n ≤ 256 ∨ st.bad = true) ∧ Hid (acc.length = k) ∧ st.at_ ≤ s.size ∧ Hid (R = rdIs s.data.toList (n - k) st acc) ∧ St S W wr (ownT 24 6 (.slice A k c) k (acc.flatMap insC) :: blkT cb #[.pointer (some ⟨rb, 0, none⟩), .bool st.bad] 83 :: rdT rb s st.at_ :: M)) (fun _ vk _ => n - (intOf vk).toNat)
      case atStart => exact ⟨0, ⟨a1, false⟩, [], none, 0, rfl, rfl, Nat.zero_le _, .inl rfl, (by first | exact HC.out | exact .inr rfl), Lib.hid rfl, g1, HR, h4⟩
      case round =>
        clear h4 HR HC
        obtain ⟨k, ⟨at2, bad2⟩, acc, A, c, rfl, rfl, hk, hk0, hn2, HL, hat, HR, h⟩ := hrel
        simp only at hn2 hat HR h
        have hcb := cell_of_heap h.swap.blk 1
        change wr.cell? _ = some (Value.bool bad2) at hcb
        by_cases hlt : k < n
        · have hlz : (k : Int) < (n : Int) := by omega
          cases bad2 with
          | true =>
            go_wp2_with fail
            go_ret
            have hR := HR.out
            rw [rdIs_bad] at hR
            rw [hR]
            exact ⟨_, _, _, rfl, HL.out, by omega, h⟩
          | false =>
            have hR := HR.out
            rw [show n - k = (n - (k + 1)) + 1 by omega, rdIs_go] at hR
            have h256 : n ≤ 256 := by rcases hn2 with h | h; exact h; cases h
            have H1 := Lib.hid (rinstr_st (t := ⟨at2, false⟩) (h.swap.under (fun _ ht => ht.swap)) hs hat)
            have g2 := rdI_le s.data.toList ⟨at2, false⟩ (by rw [hsl]; exact hat)
            generalize rdI s.data.toList ⟨at2, false⟩ = q at hR H1 g2
            rw [hsl] at g2
            obtain ⟨⟨o, xa, xb, xc, xd, xk⟩, ⟨a3, b3⟩⟩ := q
            simp only [insC] at hR H1 g2
            have HR2 := Lib.hid hR
            clear HR hR h hn2
            go_wp2_with fail
            refine H1.out.mono ?_
            rintro e w2 ⟨rfl, h2⟩
            have h3 : St S W w2 (ownT 24 6 (.slice A k c) k (acc.flatMap insC) :: blkT cb _ _ :: rdT rb s a3 :: M) := h2.pull 2
            clear H1 h2 hcb
            go_wp2_with (at_builtin; refine wpList_push rfl _ _ _ rfl 24 (.agg #[.int .i64 0, .int .i64 0, .int .i64 0, .int .i64 0, .int .i64 0, .int .u64 0]) 6 48 Try.underlying51 ins_info rfl (by decide) h3 rfl rfl rfl (by simp [Value.oneCell']) (by unfold maxLen; omega) (by omega) ?_; intro A' c' w3 h4)
            rw [show acc.flatMap insC ++ _ = (acc ++ [(⟨o, xa, xb, xc, xd, xk⟩ : Ins)]).flatMap insC from by simp [insC]] at h4
            have HL2 : Hid ((acc ++ [(⟨o, xa, xb, xc, xd, xk⟩ : Ins)]).length = k + 1) := Lib.hid (by simp [HL.out])
            clear h3
            go_wp2_with fail
            go_roundw
            case rel => first | exact ⟨k + 1, ⟨a3, b3⟩, _, A', c', rfl, by go_num, by omega, .inr h256, .inl h256, HL2, g2, HR2, h4⟩ | ((repeat apply Exists.intro); exact ⟨⟨k + 1, ⟨a3, b3⟩, _, A', c', rfl, by go_num, by omega, .inr h256, .inl h256, HL2, g2, HR2, h4⟩, rfl⟩)
            case measure => first | (simp [intOf]; done) | (simp [intOf]; omega)
        · obtain rfl : k = n := by omega
          have hlz : ¬ (k : Int) < (k : Int) := by omega
          go_wp2_with fail
          go_ret
          have hR := HR.out
          rw [Nat.sub_self] at hR
          have hR : R = (acc, ⟨at2, bad2⟩) := hR
          rw [hR]
          exact ⟨_, _, _, rfl, HL.out, by omega, h⟩
    · rw [decide_eq_true (by omega)] at HR
      have h3 := h1.set 1 (.bool true)
      change St S W _ (blkT cb #[.pointer (some ⟨rb, 0, none⟩), .bool true] 83 :: rdT rb s a1 :: M) at h3
      have HC := Lib.hid (show n ≤ 256 ∨ true = true from .inr rfl)
      have hgt : decide ((256 : Int) < (n : Int)) = true := decide_eq_true (by omega)
      clear hq
      have h4 := h3.nilOwn 24 6
      generalize hwx : w1.setCell ⟨cb, 1, none⟩ (.bool true) = wx at h4
      clear h1 H1 h3
      go_wp2_with fail
      try rw [hwx]
      clear hc1 hf1 hwx
      try clear hgt
      go_loopw [2, 4] (fun vl vk wr => ∃ (k : Nat) (st : RS) (acc : List Ins) (A : Option Addr) (c : Nat), vl = .slice A k c ∧ vk = .int .u64 k ∧ k ≤ n ∧ (k = 0 ∨ n ≤ 256) ∧ (n ≤ 256 ∨ st.bad = true) ∧ Hid (acc.length = k) ∧ st.at_ ≤ s.size ∧ Hid (R = rdIs s.data.toList (n - k) st acc) ∧ St S W wr (ownT 24 6 (.slice A k c) k (acc.flatMap insC) :: blkT cb #[.pointer (some ⟨rb, 0, none⟩), .bool st.bad] 83 :: rdT rb s st.at_ :: M)) (fun _ vk _ => n - (intOf vk).toNat)
      case atStart => exact ⟨0, ⟨a1, true⟩, [], none, 0, rfl, rfl, Nat.zero_le _, .inl rfl, (by first | exact HC.out | exact .inr rfl), Lib.hid rfl, g1, HR, h4⟩
      case round =>
        clear h4 HR HC
        obtain ⟨k, ⟨at2, bad2⟩, acc, A, c, rfl, rfl, hk, hk0, hn2, HL, hat, HR, h⟩ := hrel
        simp only at hn2 hat HR h
        have hcb := cell_of_heap h.swap.blk 1
        change wr.cell? _ = some (Value.bool bad2) at hcb
        by_cases hlt : k < n
        · have hlz : (k : Int) < (n : Int) := by omega
          cases bad2 with
          | true =>
            go_wp2_with fail
            go_ret
            have hR := HR.out
            rw [rdIs_bad] at hR
            rw [hR]
            exact ⟨_, _, _, rfl, HL.out, by omega, h⟩
          | false =>
            have hR := HR.out
            rw [show n - k = (n - (k + 1)) + 1 by omega, rdIs_go] at hR
            have h256 : n ≤ 256 := by rcases hn2 with h | h; exact h; cases h
            have H1 := Lib.hid (rinstr_st (t := ⟨at2, false⟩) (h.swap.under (fun _ ht => ht.swap)) hs hat)
            have g2 := rdI_le s.data.toList ⟨at2, false⟩ (by rw [hsl]; exact hat)
            generalize rdI s.data.toList ⟨at2, false⟩ = q at hR H1 g2
            rw [hsl] at g2
            obtain ⟨⟨o, xa, xb, xc, xd, xk⟩, ⟨a3, b3⟩⟩ := q
            simp only [insC] at hR H1 g2
            have HR2 := Lib.hid hR
            clear HR hR h hn2
            go_wp2_with fail
            refine H1.out.mono ?_
            rintro e w2 ⟨rfl, h2⟩
            have h3 : St S W w2 (ownT 24 6 (.slice A k c) k (acc.flatMap insC) :: blkT cb _ _ :: rdT rb s a3 :: M) := h2.pull 2
            clear H1 h2 hcb
            go_wp2_with (at_builtin; refine wpList_push rfl _ _ _ rfl 24 (.agg #[.int .i64 0, .int .i64 0, .int .i64 0, .int .i64 0, .int .i64 0, .int .u64 0]) 6 48 Try.underlying51 ins_info rfl (by decide) h3 rfl rfl rfl (by simp [Value.oneCell']) (by unfold maxLen; omega) (by omega) ?_; intro A' c' w3 h4)
            rw [show acc.flatMap insC ++ _ = (acc ++ [(⟨o, xa, xb, xc, xd, xk⟩ : Ins)]).flatMap insC from by simp [insC]] at h4
            have HL2 : Hid ((acc ++ [(⟨o, xa, xb, xc, xd, xk⟩ : Ins)]).length = k + 1) := Lib.hid (by simp [HL.out])
            clear h3
            go_wp2_with fail
            go_roundw
            case rel => first | exact ⟨k + 1, ⟨a3, b3⟩, _, A', c', rfl, by go_num, by omega, .inr h256, .inl h256, HL2, g2, HR2, h4⟩ | ((repeat apply Exists.intro); exact ⟨⟨k + 1, ⟨a3, b3⟩, _, A', c', rfl, by go_num, by omega, .inr h256, .inl h256, HL2, g2, HR2, h4⟩, rfl⟩)
            case measure => first | (simp [intOf]; done) | (simp [intOf]; omega)
        · obtain rfl : k = n := by omega
          have hlz : ¬ (k : Int) < (k : Int) := by omega
          go_wp2_with fail
          go_ret
          have hR := HR.out
          rw [Nat.sub_self] at hR
          have hR : R = (acc, ⟨at2, bad2⟩) := hR
          rw [hR]
          exact ⟨_, _, _, rfl, HL.out, by omega, h⟩
end
end Go.Proofs.Ytklkboibpglhjaa

/- Layer 9: a program read. -/
namespace Go.Proofs.Ytklkboibpglhjaa
open Go.RowKit Go.WideShapes
set_option linter.unusedVariables false
set_option linter.unusedSimpArgs false
def rdR (l : List UInt8) (t : RS) : Rng × RS :=
  let (a, t1) := rdB l t
  let (b, t2) := rdB l t1
  let (c, t3) := rdB l t2
  (⟨a, b, c⟩, t3)
def rdRs (l : List UInt8) : Nat → RS → List Rng → List Rng × RS
  | 0, t, acc => (acc, t)
  | n + 1, t, acc => if t.bad then (acc, t) else rdRs l n (rdR l t).2 (acc ++ [(rdR l t).1])
def rdTs (l : List UInt8) : Nat → RS → List (List Ins) → List (List Ins) × RS
  | 0, t, acc => (acc, t)
  | n + 1, t, acc => if t.bad then (acc, t) else rdTs l n (rdT1 l t).2 (acc ++ [(rdT1 l t).1])
def rdFin (l : List UInt8) (rs : List Rng) (Y : List (List Ins) × RS) : Option Prg :=
  if Y.2.bad || decide (Y.2.at_ < l.length) || !writtenB ⟨rs, Y.1⟩ then none else some ⟨rs, Y.1⟩
def rdAll (l : List UInt8) : Option Prg :=
  rdFin l (rdRs l (rdB l ⟨0, false⟩).1 (rdB l ⟨0, false⟩).2 []).1 (rdTs l (rdB l (rdRs l (rdB l ⟨0, false⟩).1 (rdB l ⟨0, false⟩).2 []).2).1 (rdB l (rdRs l (rdB l ⟨0, false⟩).1 (rdB l ⟨0, false⟩).2 []).2).2 [])
theorem rdAll_eq (l : List UInt8) : rdAll l = rdFin l (rdRs l (rdB l ⟨0, false⟩).1 (rdB l ⟨0, false⟩).2 []).1 (rdTs l (rdB l (rdRs l (rdB l ⟨0, false⟩).1 (rdB l ⟨0, false⟩).2 []).2).1 (rdB l (rdRs l (rdB l ⟨0, false⟩).1 (rdB l ⟨0, false⟩).2 []).2).2 []) := rfl
theorem rdRs_bad (l : List UInt8) (n : Nat) (a : Nat) (acc : List Rng) : rdRs l n ⟨a, true⟩ acc = (acc, ⟨a, true⟩) := by cases n <;> rfl
theorem rdRs_go (l : List UInt8) (n : Nat) (a : Nat) (acc : List Rng) : rdRs l (n + 1) ⟨a, false⟩ acc = rdRs l n (rdR l ⟨a, false⟩).2 (acc ++ [(rdR l ⟨a, false⟩).1]) := rfl
theorem rdTs_bad (l : List UInt8) (n : Nat) (a : Nat) (acc : List (List Ins)) : rdTs l n ⟨a, true⟩ acc = (acc, ⟨a, true⟩) := by cases n <;> rfl
theorem rdTs_go (l : List UInt8) (n : Nat) (a : Nat) (acc : List (List Ins)) : rdTs l (n + 1) ⟨a, false⟩ acc = rdTs l n (rdT1 l ⟨a, false⟩).2 (acc ++ [(rdT1 l ⟨a, false⟩).1]) := rfl
theorem rdB_lt (l : List UInt8) (t : RS) : (rdB l t).1 < 256 := (l.getD t.at_ 0).toNat_lt
theorem rdIs_le (l : List UInt8) : ∀ (n : Nat) (t : RS) (acc : List Ins), t.at_ ≤ l.length → (rdIs l n t acc).2.at_ ≤ l.length
  | 0, t, acc, h => h
  | n + 1, t, acc, h => by
    unfold rdIs
    split
    · exact h
    · exact rdIs_le l n _ _ (rdI_le l t h)
theorem rdT1_le (l : List UInt8) (t : RS) (h : t.at_ ≤ l.length) : (rdT1 l t).2.at_ ≤ l.length := by
  unfold rdT1
  exact rdIs_le l _ _ _ (rdN_le l t h)
theorem rdR_le (l : List UInt8) (t : RS) (h : t.at_ ≤ l.length) : (rdR l t).2.at_ ≤ l.length := by
  unfold rdR
  exact rdB_le l _ (rdB_le l _ (rdB_le l _ h))
theorem rng_info : (Try.prog.info? 70).map (fun i => (i.zero, i.size, i.bytes)) = some (some (.agg #[.int .i64 0, .int .i64 0, .int .i64 0]), 3, 24) := by kernel_rfl
theorem ths_info : (Try.prog.info? 51).map (fun i => (i.zero, i.size, i.bytes)) = some (some (.slice none 0 0), 1, 24) := by kernel_rfl
/-- one of the things of a list -/
theorem Things.mem {S : Nat → Prop} {W w : World} : ∀ {L : List Thing} {all : Nat → Prop} {t : Thing}, Things S W w L all → t ∈ L → ∃ fp, t.holds w fp
  | u :: L, all, t, ⟨fp, rest, h1, h2, _⟩, ht => by
    rcases List.mem_cons.1 ht with rfl | ht
    · exact ⟨fp, h1⟩
    · exact Things.mem h2 ht
theorem St.mem {S : Nat → Prop} {W w : World} {L : List Thing} {t : Thing} (h : St S W w L) (ht : t ∈ L) : ∃ fp, t.holds w fp := by
  obtain ⟨_, _, h⟩ := h; exact h.mem ht
theorem Things.under {S : Nat → Prop} {W w : World} {t : Thing} {L M : List Thing} {all : Nat → Prop} (h : Things S W w (t :: L) all) (hLM : ∀ all, Things S W w L all → Things S W w M all) : Things S W w (t :: M) all := by
  obtain ⟨fp, rest, h1, h2, h3, h4, h5⟩ := h
  exact ⟨fp, rest, h1, hLM _ h2, h3, h4, h5⟩
/-- the threads' rows, the last one first -/
def innT : List (Value × List Ins) → List Thing := fun p => p.map fun q => ownT 24 6 q.1 q.2.length (q.2.flatMap insC)
theorem PRow.empty (w : World) (A B : Option Addr) : PRow w A B ⟨[], []⟩ := ⟨fun i hi => by simp at hi, fun i hi => by simp at hi⟩
theorem setRow_same {w : World} {b : Nat} {c : Array Value} {t : TypeId} {fr : Nat × Nat} (h : w.heap[b]? = some (.cells c t fr)) : w.setRow b c = w := by
  unfold World.setRow
  congr 1
  apply Array.ext_getElem?
  intro i
  rw [Array.getElem?_modify]
  by_cases e : b = i
  · subst e; rw [if_pos rfl, h]; rfl
  · rw [if_neg e]
theorem Own.capOk {w : World} {e : TypeId} {size : Nat} {A : Option Addr} {n c : Nat} {xs : List Value} (h : Own w e size (.slice A n c) n xs) : n ≤ c ∧ n ≤ maxLen := by
  rcases h.2 with ⟨e, hn⟩ | ⟨g, cap, cur, e, _, hh, hnc, hcm, _⟩
  · subst hn; unfold maxLen; omega
  · cases e; omega
theorem TRow.of {w : World} {A2 : Option Addr} {j c2 : Nat} {ps : List (Value × List Ins)} (h1 : Own w 51 1 (.slice A2 j c2) j (ps.reverse.map Prod.fst)) (h2 : ∀ q ∈ ps, Own w 24 6 q.1 q.2.length (q.2.flatMap insC)) : TRow w A2 (ps.reverse.map Prod.snd) := by
  have hlen : ps.length = j := by have := h1.len; simpa using this
  intro i hi
  rw [List.length_map, List.length_reverse] at hi
  obtain ⟨g, c', e, _⟩ := h1.slice (by omega)
  cases e
  have hc := Own.cell h1 i (by omega)
  have hir : i < ps.reverse.length := by simpa using hi
  rw [List.getElem?_map, List.getElem?_eq_getElem hir] at hc
  have hm : ps.reverse[i] ∈ ps := by rw [← List.mem_reverse]; exact List.getElem_mem hir
  have ho := h2 _ hm
  obtain ⟨A3, c3, e3⟩ := ho.form
  rw [e3] at ho
  have hg : (ps.reverse.map Prod.snd).getD i [] = ps.reverse[i].2 := by
    rw [List.getD_eq_getElem?_getD, List.getElem?_map, List.getElem?_eq_getElem hir]; rfl
  refine ⟨g, 0, rfl, A3, c3, ?_, ?_⟩
  · rw [hg, Nat.zero_add, hc, ← e3]; rfl
  · rw [hg]; exact ⟨GRow.own insC_len ho rfl, ho.capOk.1, ho.capOk.2⟩
theorem rdI_ok (l : List UInt8) (t : RS) (h : t.at_ ≤ l.length) : (rdI l t).1.ok := by
  have hb : ∀ t, ((rdB l t).1 : Int) < 256 := fun t => by have := rdB_lt l t; omega
  have hk : (rdI l t).1.k < 18446744073709551616 := (vrd_facts l _ (rdB_le l _ (rdB_le l _ (rdB_le l _ (rdB_le l _ (rdB_le l _ h)))))).1
  refine ⟨?_, ?_, ?_, ?_, ?_, hk⟩
  all_goals (constructor <;> first | exact Int.le_trans (by decide) (Int.natCast_nonneg _) | exact Int.lt_trans (hb _) (by decide))
theorem rdIs_ok (l : List UInt8) : ∀ (n : Nat) (t : RS) (acc : List Ins), t.at_ ≤ l.length → (∀ x ∈ acc, x.ok) → ∀ x ∈ (rdIs l n t acc).1, x.ok
  | 0, t, acc, h, ha => ha
  | n + 1, t, acc, h, ha => by
    unfold rdIs
    split
    · exact ha
    · exact rdIs_ok l n _ _ (rdI_le l t h) (fun x hx => by
        rcases List.mem_append.1 hx with hx | hx
        · exact ha x hx
        · rw [List.mem_singleton.1 hx]; exact rdI_ok l t h)
theorem rdT1_ok (l : List UInt8) (t : RS) (h : t.at_ ≤ l.length) : ∀ x ∈ (rdT1 l t).1, x.ok := by
  unfold rdT1
  exact rdIs_ok l _ _ _ (rdN_le l t h) (fun x hx => by cases hx)
set_option maxRecDepth 20000 in
set_option maxHeartbeats 8000000 in
theorem cread_any (s : ByteArray) (hs : s.size ≤ 140737488351232) (w : World) :
    Calls Try.prog 24 #[.string s] w fun e w' => (∃ A B ca cb n m p, e = .returned (.tuple #[.agg #[.slice A n ca, .slice B m cb], .int .i64 (if (rdAll s.data.toList).isSome then 0 else 3)]) ∧ p = (rdAll s.data.toList).getD ⟨[], []⟩ ∧ p.rings.length = n ∧ p.ths.length = m ∧ n ≤ ca ∧ m ≤ cb ∧ PRow w' A B p) ∧ Ext w w' := by
  have hsl : s.data.toList.length = s.size := by simp
  generalize hL : s.data.toList = L at hsl ⊢
  have HL := Lib.hid hL
  clear hL
  have HA := Lib.hid (rdAll_eq L)
  generalize rdAll L = R at HA ⊢
  obtain ⟨RV, hRV⟩ : ∃ RV : Int, RV = if R.isSome then 0 else 3 := ⟨_, rfl⟩
  rw [← hRV]
  have HRV := Lib.hid hRV
  clear hRV
  go_enter Try.func24, Try.ntmps24
  go_wp2_with fail
  have h1 := (St.start noB w).alloc #[Value.slice none 0 0, Value.slice none 0 0] 35
  refine (new_st h1 s).mono ?_
  rintro e w1 ⟨rfl, h2⟩
  rw [← alloc_size] at h2
  have h3 := h2.alloc #[Value.pointer (some ⟨w.heap.size + 1, 0, none⟩), Value.bool false] 83
  go_wp2_with fail
  generalize w.heap.size + 1 = rb at h3 ⊢
  generalize w.heap.size = pb at h3 ⊢
  clear h1 h2
  have H1 := Lib.hid (rbyte_st (t := ⟨0, false⟩) h3 (by unfold maxLen; omega) (Nat.zero_le _))
  rw [HL.out] at H1
  have g1 := rdB_le L ⟨0, false⟩ (Nat.zero_le _)
  have n256 := rdB_lt L ⟨0, false⟩
  generalize rdB L ⟨0, false⟩ = q at H1 g1 n256 HA
  obtain ⟨n1, t1⟩ := q
  simp only at H1 g1 n256 HA
  generalize hX : rdRs L n1 t1 [] = X at HA
  have HX := Lib.hid hX.symm
  clear h3 hX
  refine H1.out.mono ?_
  rintro e w2 ⟨rfl, h4⟩
  generalize w1.heap.size = cb at h4 H1 ⊢
  clear H1
  have h5 := ((h4.nilOwn 70 3).pull 3).under (fun _ ht => ht.pull 1)
  change St noB w w2 [blkT pb _ _, blkT cb _ _, ownT _ _ _ _ _, rdT rb _ _] at h5
  have h6 : St noB w w2 [blkT cb #[.pointer (some ⟨rb, 0, none⟩), .bool t1.bad] 83, rdT rb s t1.at_, blkT pb #[Value.slice none 0 0, Value.slice none 0 0] 35, ownT 70 3 (.slice none 0 0) 0 []] := (h5.pull 3).under (fun _ ht => ht.pull 1) |>.swap
  clear h4 h5
  go_wp2_with fail
  rw [hsl] at g1
  go_loopw [5] (fun v5 wr => ∃ (k j : Nat) (st : RS) (acc : List Rng) (A : Option Addr) (c : Nat), v5 = .int .i64 k ∧ j + k = n1 ∧ Hid (acc.length = j) ∧ st.at_ ≤ s.size ∧ Hid (X = rdRs L k st acc) ∧ St noB w wr [blkT cb #[.pointer (some ⟨rb, 0, none⟩), .bool st.bad] 83, rdT rb s st.at_, blkT pb #[Value.slice A j c, Value.slice none 0 0] 35, ownT 70 3 (.slice A j c) j (acc.flatMap rngC)]) (fun v5 _ => (intOf v5).toNat)
  case atStart => exact ⟨n1, 0, t1, [], none, 0, rfl, by omega, Lib.hid rfl, g1, HX, h6⟩
  case round =>
    clear h6 HX
    obtain ⟨k, j, ⟨a2, b2⟩, acc, A, c, rfl, hjk, HLn, hat, HX, h⟩ := hrel
    simp only at hat HX h
    have hc1 := cell_of_heap h.blk 1
    change wr.cell? _ = some (Value.bool b2) at hc1
    cases k with
    | zero =>
      have hX : X = (acc, ⟨a2, b2⟩) := HX.out
      have HX2 := Lib.hid hX
      clear HX hX
      have HA3 := Lib.hid HA.out
      rw [HX2.out] at HA3
      simp only at HA3
      have H1 := Lib.hid (rbyte_st (t := ⟨a2, b2⟩) h (by unfold maxLen; omega) hat)
      rw [HL.out] at H1
      have g1 := rdB_le L ⟨a2, b2⟩ (by rw [hsl]; exact hat)
      have m256 := rdB_lt L ⟨a2, b2⟩
      generalize rdB L ⟨a2, b2⟩ = q at H1 g1 m256 HA3
      obtain ⟨m1, t3⟩ := q
      simp only at H1 g1 m256 HA3
      rw [hsl] at g1
      generalize hY : rdTs L m1 t3 [] = Y at HA3
      have HY := Lib.hid hY.symm
      clear h hY HA HX2
      go_wp2_with fail
      refine H1.out.mono ?_
      rintro e w3 ⟨rfl, h4⟩
      clear H1 hc1
      have h5 : St noB w w3 [blkT cb #[.pointer (some ⟨rb, 0, none⟩), .bool t3.bad] 83, rdT rb s t3.at_, blkT pb #[Value.slice A j c, Value.slice none 0 0] 35, ownT 51 1 (.slice none 0 0) 0 [], ownT 70 3 (.slice A j c) j (acc.flatMap rngC)] :=
        ((((h4.nilOwn 51 1).pull 1).under (fun _ ht => ht.pull 1)).under (fun _ ht => ht.under (fun _ h => h.swap)))
      clear h4
      go_wp2_with fail
      go_loopw [6] (fun v6 wr => ∃ (k2 j2 : Nat) (st : RS) (ps : List (Value × List Ins)) (B : Option Addr) (cB : Nat), v6 = .int .i64 k2 ∧ j2 + k2 = m1 ∧ Hid (ps.length = j2) ∧ st.at_ ≤ s.size ∧ Hid (∀ q ∈ ps, ∀ x ∈ q.2, x.ok) ∧ Hid (Y = rdTs L k2 st (ps.reverse.map Prod.snd)) ∧ St noB w wr ([blkT cb #[.pointer (some ⟨rb, 0, none⟩), .bool st.bad] 83, rdT rb s st.at_, blkT pb #[Value.slice A j c, Value.slice B j2 cB] 35, ownT 51 1 (.slice B j2 cB) j2 (ps.reverse.map Prod.fst)] ++ (innT ps ++ [ownT 70 3 (.slice A j c) j (acc.flatMap rngC)]))) (fun v6 _ => (intOf v6).toNat)
      case atStart => exact ⟨m1, 0, t3, [], none, 0, rfl, by omega, Lib.hid rfl, g1, Lib.hid (fun q hq => by cases hq), HY, h5⟩
      case round =>
        clear h5 HY
        obtain ⟨k2, j2, ⟨a6, b6⟩, ps, B, cB, rfl, hjk2, HLp, hat2, HOK, HY, h⟩ := hrel
        simp only at hat2 HY h
        have hc1 := cell_of_heap h.blk 1
        change wr.cell? _ = some (Value.bool b6) at hc1
        cases k2 with
        | zero =>
          have hY : Y = (ps.reverse.map Prod.snd, ⟨a6, b6⟩) := HY.out
          have HY2 := Lib.hid hY
          clear HY hY
          cases b6 with
          | true =>
            have hR := HA3.out
            rw [HY2.out] at hR
            unfold rdFin at hR
            rw [if_pos (by simp)] at hR
            have HRn := Lib.hid hR
            clear hR HA3 HY2
            have hx7 := (h.pull 2).blk
            have h8 := (h.pull 2).row #[Value.slice none 0 0, Value.slice none 0 0]
            go_wp2_with (first
              | (refine wpList_store_row rfl _ _ _ rfl pb #[Value.slice none 0 0, Value.slice none 0 0] rfl rfl 35 _ hx7 (by kernel_rfl) rfl (by simp [Value.oneCell']) ?_))
            refine bodyPost_ret_by (results_pair rfl _ _ pb 35 _ (0, 0) _ rfl h8.blk Try.underlying35 rfl (by kernel_rfl)) rfl ?_
            have hv := HRV.out
            rw [HRn.out] at hv
            change RV = 3 at hv
            rw [HRn.out, hv]
            first
              | exact ⟨⟨none, none, 0, 0, 0, 0, ⟨[], []⟩, rfl, rfl, rfl, rfl, Nat.le_refl _, Nat.le_refl _, PRow.empty _ _ _⟩, h8.ends⟩
              | exact ⟨⟨none, none, 0, 0, 0, 0, rfl, rfl, rfl, Nat.le_refl _, Nat.le_refl _, PRow.empty _ _ _⟩, h8.ends⟩
          | false =>
            have hR := HA3.out
            rw [HY2.out] at hR
            unfold rdFin at hR
            simp only [Bool.false_or] at hR
            have hrb := cell_of_heap h.blk 0
            change wr.cell? _ = some (Value.pointer (some ⟨rb, 0, none⟩)) at hrb
            have HLf := Lib.hid (left_any h.swap.rd hat2 (by unfold maxLen; omega))
            by_cases hlt : a6 < s.size
            · rw [decide_eq_true (by rw [hsl]; exact hlt), Bool.true_or, if_pos rfl] at hR
              have HRn := Lib.hid hR
              have hpos : (0 : Int) < ((s.size - a6 : Nat) : Int) := by omega
              clear hR HA3 HY2
              generalize s.size - a6 = z at HLf hpos
              go_wp2_with fail
              refine HLf.out.mono ?_
              rintro e w4 ⟨rfl, x4⟩
              replace h := h.ext x4
              clear hrb hc1 HLf
              have hx7 := (h.pull 2).blk
              have h8 := (h.pull 2).row #[Value.slice none 0 0, Value.slice none 0 0]
              go_wp2_with (first
                | (refine wpList_store_row rfl _ _ _ rfl pb #[Value.slice none 0 0, Value.slice none 0 0] rfl rfl 35 _ hx7 (by kernel_rfl) rfl (by simp [Value.oneCell']) ?_))
              refine bodyPost_ret_by (results_pair rfl _ _ pb 35 _ (0, 0) _ rfl h8.blk Try.underlying35 rfl (by kernel_rfl)) rfl ?_
              have hv := HRV.out
              rw [HRn.out] at hv
              change RV = 3 at hv
              rw [HRn.out, hv]
              first
                | exact ⟨⟨none, none, 0, 0, 0, 0, ⟨[], []⟩, rfl, rfl, rfl, rfl, Nat.le_refl _, Nat.le_refl _, PRow.empty _ _ _⟩, h8.ends⟩
                | exact ⟨⟨none, none, 0, 0, 0, 0, rfl, rfl, rfl, Nat.le_refl _, Nat.le_refl _, PRow.empty _ _ _⟩, h8.ends⟩
            · rw [decide_eq_false (by rw [hsl]; exact hlt), Bool.false_or] at hR
              have hz : s.size - a6 = 0 := by omega
              rw [hz] at HLf
              clear hz
              have hps : (ps.reverse.map Prod.snd).length = j2 := by rw [List.length_map, List.length_reverse]; exact HLp.out
              have hok : (⟨acc, ps.reverse.map Prod.snd⟩ : Prg).ok := by
                intro l hl x hx
                simp only [List.mem_map, List.mem_reverse] at hl
                obtain ⟨q, hq, rfl⟩ := hl
                exact HOK.out q hq x hx
              have HPR := Lib.hid (fun w' (x : Ext wr w') => (show PRow w' A B ⟨acc, ps.reverse.map Prod.snd⟩ from ⟨GRow.own rngC_len (((h.ext x).mem (t := ownT 70 3 (.slice A j c) j (acc.flatMap rngC)) (by simp)).choose_spec).1 HLn.out, TRow.of ((h.ext x).pull 3).own (fun q hq => ((h.ext x).mem (t := ownT 24 6 q.1 q.2.length (q.2.flatMap insC)) (by simp only [innT, List.mem_append, List.mem_map]; exact .inr (.inl ⟨q, hq, rfl⟩))).choose_spec.1)⟩))
              have HCA := Lib.hid ((h.mem (t := ownT 70 3 (.slice A j c) j (acc.flatMap rngC)) (by simp)).choose_spec.1.capOk)
              have HCB := Lib.hid (h.pull 3).own.capOk
              have HW := Lib.hid (fun w' (x : Ext wr w') => written_any A B c cB j j2 ⟨acc, ps.reverse.map Prod.snd⟩ HLn.out hps w' (HPR.out w' x) hok)
              have HPS := Lib.hid hps
              clear hps hok
              cases hwr : writtenB ⟨acc, ps.reverse.map Prod.snd⟩ with
              | false =>
                rw [hwr] at HW hR
                rw [if_pos (by rfl)] at hR
                have HRn := Lib.hid hR
                clear hR HA3 HY2 hwr
                go_wp2_with fail
                refine HLf.out.mono ?_
                rintro e w4 ⟨rfl, x4⟩
                have HW4 := Lib.hid (HW.out w4 x4)
                replace h := h.ext x4
                clear hrb hc1 HLf
                have hp0 := cell_of_heap (h.pull 2).blk 0
                have hp1 := cell_of_heap (h.pull 2).blk 1
                change w4.cell? _ = some (Value.slice A j c) at hp0
                change w4.cell? _ = some (Value.slice B j2 cB) at hp1
                go_wp2_with fail
                refine HW4.out.mono ?_
                rintro e w5 ⟨rfl, x5⟩
                replace h := h.ext x5
                clear hp0 hp1 HW4
                have hx7 := (h.pull 2).blk
                have h8 := (h.pull 2).row #[Value.slice none 0 0, Value.slice none 0 0]
                go_wp2_with (first
                  | (refine wpList_store_row rfl _ _ _ rfl pb #[Value.slice none 0 0, Value.slice none 0 0] rfl rfl 35 _ hx7 (by kernel_rfl) rfl (by simp [Value.oneCell']) ?_))
                refine bodyPost_ret_by (results_pair rfl _ _ pb 35 _ (0, 0) _ rfl h8.blk Try.underlying35 rfl (by kernel_rfl)) rfl ?_
                have hv := HRV.out
                rw [HRn.out] at hv
                change RV = 3 at hv
                rw [HRn.out, hv]
                first
                  | exact ⟨⟨none, none, 0, 0, 0, 0, ⟨[], []⟩, rfl, rfl, rfl, rfl, Nat.le_refl _, Nat.le_refl _, PRow.empty _ _ _⟩, h8.ends⟩
                  | exact ⟨⟨none, none, 0, 0, 0, 0, rfl, rfl, rfl, Nat.le_refl _, Nat.le_refl _, PRow.empty _ _ _⟩, h8.ends⟩
              | true =>
                rw [hwr] at HW hR
                rw [if_neg (by simp)] at hR
                have HRn := Lib.hid hR
                clear hR HA3 HY2 hwr
                go_wp2_with fail
                refine HLf.out.mono ?_
                rintro e w4 ⟨rfl, x4⟩
                have HW4 := Lib.hid (HW.out w4 x4)
                replace h := h.ext x4
                clear hrb hc1 HLf
                have hp0 := cell_of_heap (h.pull 2).blk 0
                have hp1 := cell_of_heap (h.pull 2).blk 1
                change w4.cell? _ = some (Value.slice A j c) at hp0
                change w4.cell? _ = some (Value.slice B j2 cB) at hp1
                go_wp2_with fail
                refine HW4.out.mono ?_
                rintro e w5 ⟨rfl, x5⟩
                have x45 := x4.trans x5
                have HP5 := Lib.hid (HPR.out w5 x45)
                replace h := h.ext x5
                clear hp0 hp1 HW4
                have hx7 := (h.pull 2).blk
                have h8 := (h.pull 2).row #[Value.slice A j c, Value.slice B j2 cB]
                have hsame : w5.setRow pb #[Value.slice A j c, Value.slice B j2 cB] = w5 := setRow_same hx7
                have HP6 := Lib.hid (show PRow (w5.setRow pb #[Value.slice A j c, Value.slice B j2 cB]) A B ⟨acc, ps.reverse.map Prod.snd⟩ by rw [hsame]; exact HP5.out)
                clear hsame
                go_wp2_with (first
                  | (refine wpList_load_row rfl _ _ rfl pb rfl 35 #[Value.slice A j c, Value.slice B j2 cB] (0, 0) _ hx7 Try.underlying35 rfl (by kernel_rfl) ?_)
                  | (refine wpList_store_row rfl _ _ _ rfl pb #[Value.slice A j c, Value.slice B j2 cB] rfl rfl 35 _ hx7 (by kernel_rfl) rfl (by simp [Value.oneCell']) ?_))
                refine bodyPost_ret_by (results_pair rfl _ _ pb 35 _ (0, 0) _ rfl h8.blk Try.underlying35 rfl (by kernel_rfl)) rfl ?_
                have hv := HRV.out
                rw [HRn.out] at hv
                change RV = 0 at hv
                rw [HRn.out, hv]
                first
                  | exact ⟨⟨A, B, c, cB, j, j2, _, rfl, rfl, HLn.out, HPS.out, HCA.out.1, HCB.out.1, HP6.out⟩, h8.ends⟩
                  | exact ⟨⟨A, B, c, cB, j, j2, rfl, HLn.out, HPS.out, HCA.out.1, HCB.out.1, HP6.out⟩, h8.ends⟩
        | succ k2 =>
          cases b6 with
          | true =>
            have hY := HY.out
            rw [rdTs_bad] at hY
            have HY2 := Lib.hid hY
            clear HY hY
            have hR := HA3.out
            rw [HY2.out] at hR
            unfold rdFin at hR
            rw [if_pos (by simp)] at hR
            have HRn := Lib.hid hR
            clear hR HA3 HY2
            have hx7 := (h.pull 2).blk
            have h8 := (h.pull 2).row #[Value.slice none 0 0, Value.slice none 0 0]
            go_wp2_with (first
              | (refine wpList_store_row rfl _ _ _ rfl pb #[Value.slice none 0 0, Value.slice none 0 0] rfl rfl 35 _ hx7 (by kernel_rfl) rfl (by simp [Value.oneCell']) ?_))
            refine bodyPost_ret_by (results_pair rfl _ _ pb 35 _ (0, 0) _ rfl h8.blk Try.underlying35 rfl (by kernel_rfl)) rfl ?_
            have hv := HRV.out
            rw [HRn.out] at hv
            change RV = 3 at hv
            rw [HRn.out, hv]
            first
              | exact ⟨⟨none, none, 0, 0, 0, 0, ⟨[], []⟩, rfl, rfl, rfl, rfl, Nat.le_refl _, Nat.le_refl _, PRow.empty _ _ _⟩, h8.ends⟩
              | exact ⟨⟨none, none, 0, 0, 0, 0, rfl, rfl, rfl, Nat.le_refl _, Nat.le_refl _, PRow.empty _ _ _⟩, h8.ends⟩
          | false =>
            have hY := HY.out
            rw [rdTs_go] at hY
            have e1 := rdT1_le L ⟨a6, false⟩ (by rw [hsl]; exact hat2)
            have e2 := rdT1_ok L ⟨a6, false⟩ (by rw [hsl]; exact hat2)
            have C1 := Lib.hid (fun w2 (h : St noB w w2 ([blkT cb #[.pointer (some ⟨rb, 0, none⟩), .bool false] 83, rdT rb s a6, blkT pb #[Value.slice A j c, Value.slice B j2 cB] 35, ownT 51 1 (.slice B j2 cB) j2 (ps.reverse.map Prod.fst)] ++ (innT ps ++ [ownT 70 3 (.slice A j c) j (acc.flatMap rngC)]))) => rthread_st (t := ⟨a6, false⟩) h hs hat2)
            rw [HL.out] at C1
            generalize rdT1 L ⟨a6, false⟩ = q1 at *
            obtain ⟨xl, ⟨a7, b7⟩⟩ := q1
            simp only at hY e1 e2 C1
            have HY2 := Lib.hid hY
            have HE2 := Lib.hid e2
            have hp := cell_of_heap (h.pull 2).blk 1
            change wr.cell? _ = some (Value.slice B j2 cB) at hp
            clear hY HY e2
            have hk0 : (0 : Int) < (k2 : Int) + 1 := by omega
            have hk1 : (k2 : Int) + 1 - 1 = (k2 : Int) := by omega
            go_wp2_with fail
            go_region_law (first
              | (refine step_push rfl _ _ _ rfl 51 (.slice none 0 0) 1 24 Try.underlying33 ths_info rfl (by decide) (g3.pull 4) rfl rfl rfl (by simp [Value.oneCell']) (by unfold maxLen; omega) (by omega) ?_; intro B' cB' w5 g4; have hp5 := cell_of_heap (g4.pull 4).blk 1; have hf5 := free_of_heap (g4.pull 4).blk 1; change w5.cell? _ = some (Value.slice B j2 cB) at hp5)
              | (go_simp; go_at_call 46; refine (C1.out _ (h.ext ((Mut.refl noB _).drew))).mono ?_; rintro e w4 ⟨D, cD, nD, rfl, hnD, hnD2, g3⟩; have HND := Lib.hid hnD; clear hnD; have hp4 := cell_of_heap (g3.pull 3).blk 1; change w4.cell? _ = some (Value.slice B j2 cB) at hp4; have hq4 := fun o : Obj => Ext.cell ((Mut.refl noB w4).alloc o) hp4))
            all_goals (have g5 := (g4.pull 4).set 1 (.slice B' (j2 + 1) cB'))
            all_goals (change St noB w _ (blkT pb #[Value.slice A j c, Value.slice B' (j2 + 1) cB'] 35 :: ownT _ _ _ _ _ :: ownT _ _ _ _ _ :: blkT cb _ _ :: rdT rb _ _ :: (innT ps ++ _)) at g5)
            all_goals (have g6 := (g5.pull 3).under (fun _ ht => ht.pull 3))
            all_goals (change St noB w _ (blkT cb _ _ :: rdT rb s a7 :: blkT pb _ _ :: ownT _ _ _ _ _ :: ownT _ _ _ _ _ :: (innT ps ++ _)) at g6)
            all_goals (have HL2 : Hid ((((Value.slice D nD cD, xl) : Value × List Ins) :: ps).length = j2 + 1) := Lib.hid (by simp [HLp.out]))
            all_goals (have ha7 : a7 ≤ s.size := by rw [← hsl]; exact e1)
            all_goals (have HOK2 : Hid (∀ q ∈ ((Value.slice D nD cD, xl) : Value × List Ins) :: ps, ∀ x ∈ q.2, x.ok) := Lib.hid (by intro q hq; rcases List.mem_cons.1 hq with rfl | hq; exact HE2.out; exact HOK.out q hq))
            all_goals (have HY3 : Hid (Y = rdTs L k2 ⟨a7, b7⟩ ((((Value.slice D nD cD, xl) : Value × List Ins) :: ps).reverse.map Prod.snd)) := Lib.hid (by rw [HY2.out]; simp))
            all_goals (have g7 : St noB w (w5.setCell ⟨pb, 1, none⟩ (.slice B' (j2 + 1) cB')) ([blkT cb #[.pointer (some ⟨rb, 0, none⟩), .bool b7] 83, rdT rb s a7, blkT pb #[Value.slice A j c, Value.slice B' (j2 + 1) cB'] 35, ownT 51 1 (.slice B' (j2 + 1) cB') (j2 + 1) ((((Value.slice D nD cD, xl) : Value × List Ins) :: ps).reverse.map Prod.fst)] ++ (innT (((Value.slice D nD cD, xl) : Value × List Ins) :: ps) ++ [ownT 70 3 (.slice A j c) j (acc.flatMap rngC)])) := by (have hnd := HND.out; subst hnd; simpa [innT] using g6))
            all_goals go_wp2_with fail
            all_goals go_roundw
            all_goals first | exact ⟨k2, j2 + 1, ⟨a7, b7⟩, _, B', cB', by go_num, by omega, HL2, ha7, HOK2, HY3, g7⟩ | ((repeat apply Exists.intro); exact ⟨⟨k2, j2 + 1, ⟨a7, b7⟩, _, B', cB', by go_num, by omega, HL2, ha7, HOK2, HY3, g7⟩, rfl⟩) | (simp [intOf]; done) | (simp [intOf]; omega)
    | succ k =>
      cases b2 with
      | true =>
        have hX := HX.out
        rw [rdRs_bad] at hX
        have HX2 := Lib.hid hX
        clear HX hX
        have HA3 := Lib.hid HA.out
        rw [HX2.out] at HA3
        simp only at HA3
        have H1 := Lib.hid (rbyte_st (t := ⟨a2, true⟩) h (by unfold maxLen; omega) hat)
        rw [HL.out] at H1
        have g1 := rdB_le L ⟨a2, true⟩ (by rw [hsl]; exact hat)
        have m256 := rdB_lt L ⟨a2, true⟩
        generalize rdB L ⟨a2, true⟩ = q at H1 g1 m256 HA3
        obtain ⟨m1, t3⟩ := q
        simp only at H1 g1 m256 HA3
        rw [hsl] at g1
        generalize hY : rdTs L m1 t3 [] = Y at HA3
        have HY := Lib.hid hY.symm
        clear h hY HA HX2
        go_wp2_with fail
        refine H1.out.mono ?_
        rintro e w3 ⟨rfl, h4⟩
        clear H1 hc1
        have h5 : St noB w w3 [blkT cb #[.pointer (some ⟨rb, 0, none⟩), .bool t3.bad] 83, rdT rb s t3.at_, blkT pb #[Value.slice A j c, Value.slice none 0 0] 35, ownT 51 1 (.slice none 0 0) 0 [], ownT 70 3 (.slice A j c) j (acc.flatMap rngC)] :=
          ((((h4.nilOwn 51 1).pull 1).under (fun _ ht => ht.pull 1)).under (fun _ ht => ht.under (fun _ h => h.swap)))
        clear h4
        go_wp2_with fail
        go_loopw [6] (fun v6 wr => ∃ (k2 j2 : Nat) (st : RS) (ps : List (Value × List Ins)) (B : Option Addr) (cB : Nat), v6 = .int .i64 k2 ∧ j2 + k2 = m1 ∧ Hid (ps.length = j2) ∧ st.at_ ≤ s.size ∧ Hid (∀ q ∈ ps, ∀ x ∈ q.2, x.ok) ∧ Hid (Y = rdTs L k2 st (ps.reverse.map Prod.snd)) ∧ St noB w wr ([blkT cb #[.pointer (some ⟨rb, 0, none⟩), .bool st.bad] 83, rdT rb s st.at_, blkT pb #[Value.slice A j c, Value.slice B j2 cB] 35, ownT 51 1 (.slice B j2 cB) j2 (ps.reverse.map Prod.fst)] ++ (innT ps ++ [ownT 70 3 (.slice A j c) j (acc.flatMap rngC)]))) (fun v6 _ => (intOf v6).toNat)
        case atStart => exact ⟨m1, 0, t3, [], none, 0, rfl, by omega, Lib.hid rfl, g1, Lib.hid (fun q hq => by cases hq), HY, h5⟩
        case round =>
          clear h5 HY
          obtain ⟨k2, j2, ⟨a6, b6⟩, ps, B, cB, rfl, hjk2, HLp, hat2, HOK, HY, h⟩ := hrel
          simp only at hat2 HY h
          have hc1 := cell_of_heap h.blk 1
          change wr.cell? _ = some (Value.bool b6) at hc1
          cases k2 with
          | zero =>
            have hY : Y = (ps.reverse.map Prod.snd, ⟨a6, b6⟩) := HY.out
            have HY2 := Lib.hid hY
            clear HY hY
            cases b6 with
            | true =>
              have hR := HA3.out
              rw [HY2.out] at hR
              unfold rdFin at hR
              rw [if_pos (by simp)] at hR
              have HRn := Lib.hid hR
              clear hR HA3 HY2
              have hx7 := (h.pull 2).blk
              have h8 := (h.pull 2).row #[Value.slice none 0 0, Value.slice none 0 0]
              go_wp2_with (first
                | (refine wpList_store_row rfl _ _ _ rfl pb #[Value.slice none 0 0, Value.slice none 0 0] rfl rfl 35 _ hx7 (by kernel_rfl) rfl (by simp [Value.oneCell']) ?_))
              refine bodyPost_ret_by (results_pair rfl _ _ pb 35 _ (0, 0) _ rfl h8.blk Try.underlying35 rfl (by kernel_rfl)) rfl ?_
              have hv := HRV.out
              rw [HRn.out] at hv
              change RV = 3 at hv
              rw [HRn.out, hv]
              first
                | exact ⟨⟨none, none, 0, 0, 0, 0, ⟨[], []⟩, rfl, rfl, rfl, rfl, Nat.le_refl _, Nat.le_refl _, PRow.empty _ _ _⟩, h8.ends⟩
                | exact ⟨⟨none, none, 0, 0, 0, 0, rfl, rfl, rfl, Nat.le_refl _, Nat.le_refl _, PRow.empty _ _ _⟩, h8.ends⟩
            | false =>
              have hR := HA3.out
              rw [HY2.out] at hR
              unfold rdFin at hR
              simp only [Bool.false_or] at hR
              have hrb := cell_of_heap h.blk 0
              change wr.cell? _ = some (Value.pointer (some ⟨rb, 0, none⟩)) at hrb
              have HLf := Lib.hid (left_any h.swap.rd hat2 (by unfold maxLen; omega))
              by_cases hlt : a6 < s.size
              · rw [decide_eq_true (by rw [hsl]; exact hlt), Bool.true_or, if_pos rfl] at hR
                have HRn := Lib.hid hR
                have hpos : (0 : Int) < ((s.size - a6 : Nat) : Int) := by omega
                clear hR HA3 HY2
                generalize s.size - a6 = z at HLf hpos
                go_wp2_with fail
                refine HLf.out.mono ?_
                rintro e w4 ⟨rfl, x4⟩
                replace h := h.ext x4
                clear hrb hc1 HLf
                have hx7 := (h.pull 2).blk
                have h8 := (h.pull 2).row #[Value.slice none 0 0, Value.slice none 0 0]
                go_wp2_with (first
                  | (refine wpList_store_row rfl _ _ _ rfl pb #[Value.slice none 0 0, Value.slice none 0 0] rfl rfl 35 _ hx7 (by kernel_rfl) rfl (by simp [Value.oneCell']) ?_))
                refine bodyPost_ret_by (results_pair rfl _ _ pb 35 _ (0, 0) _ rfl h8.blk Try.underlying35 rfl (by kernel_rfl)) rfl ?_
                have hv := HRV.out
                rw [HRn.out] at hv
                change RV = 3 at hv
                rw [HRn.out, hv]
                first
                  | exact ⟨⟨none, none, 0, 0, 0, 0, ⟨[], []⟩, rfl, rfl, rfl, rfl, Nat.le_refl _, Nat.le_refl _, PRow.empty _ _ _⟩, h8.ends⟩
                  | exact ⟨⟨none, none, 0, 0, 0, 0, rfl, rfl, rfl, Nat.le_refl _, Nat.le_refl _, PRow.empty _ _ _⟩, h8.ends⟩
              · rw [decide_eq_false (by rw [hsl]; exact hlt), Bool.false_or] at hR
                have hz : s.size - a6 = 0 := by omega
                rw [hz] at HLf
                clear hz
                have hps : (ps.reverse.map Prod.snd).length = j2 := by rw [List.length_map, List.length_reverse]; exact HLp.out
                have hok : (⟨acc, ps.reverse.map Prod.snd⟩ : Prg).ok := by
                  intro l hl x hx
                  simp only [List.mem_map, List.mem_reverse] at hl
                  obtain ⟨q, hq, rfl⟩ := hl
                  exact HOK.out q hq x hx
                have HPR := Lib.hid (fun w' (x : Ext wr w') => (show PRow w' A B ⟨acc, ps.reverse.map Prod.snd⟩ from ⟨GRow.own rngC_len (((h.ext x).mem (t := ownT 70 3 (.slice A j c) j (acc.flatMap rngC)) (by simp)).choose_spec).1 HLn.out, TRow.of ((h.ext x).pull 3).own (fun q hq => ((h.ext x).mem (t := ownT 24 6 q.1 q.2.length (q.2.flatMap insC)) (by simp only [innT, List.mem_append, List.mem_map]; exact .inr (.inl ⟨q, hq, rfl⟩))).choose_spec.1)⟩))
                have HCA := Lib.hid ((h.mem (t := ownT 70 3 (.slice A j c) j (acc.flatMap rngC)) (by simp)).choose_spec.1.capOk)
                have HCB := Lib.hid (h.pull 3).own.capOk
                have HW := Lib.hid (fun w' (x : Ext wr w') => written_any A B c cB j j2 ⟨acc, ps.reverse.map Prod.snd⟩ HLn.out hps w' (HPR.out w' x) hok)
                have HPS := Lib.hid hps
                clear hps hok
                cases hwr : writtenB ⟨acc, ps.reverse.map Prod.snd⟩ with
                | false =>
                  rw [hwr] at HW hR
                  rw [if_pos (by rfl)] at hR
                  have HRn := Lib.hid hR
                  clear hR HA3 HY2 hwr
                  go_wp2_with fail
                  refine HLf.out.mono ?_
                  rintro e w4 ⟨rfl, x4⟩
                  have HW4 := Lib.hid (HW.out w4 x4)
                  replace h := h.ext x4
                  clear hrb hc1 HLf
                  have hp0 := cell_of_heap (h.pull 2).blk 0
                  have hp1 := cell_of_heap (h.pull 2).blk 1
                  change w4.cell? _ = some (Value.slice A j c) at hp0
                  change w4.cell? _ = some (Value.slice B j2 cB) at hp1
                  go_wp2_with fail
                  refine HW4.out.mono ?_
                  rintro e w5 ⟨rfl, x5⟩
                  replace h := h.ext x5
                  clear hp0 hp1 HW4
                  have hx7 := (h.pull 2).blk
                  have h8 := (h.pull 2).row #[Value.slice none 0 0, Value.slice none 0 0]
                  go_wp2_with (first
                    | (refine wpList_store_row rfl _ _ _ rfl pb #[Value.slice none 0 0, Value.slice none 0 0] rfl rfl 35 _ hx7 (by kernel_rfl) rfl (by simp [Value.oneCell']) ?_))
                  refine bodyPost_ret_by (results_pair rfl _ _ pb 35 _ (0, 0) _ rfl h8.blk Try.underlying35 rfl (by kernel_rfl)) rfl ?_
                  have hv := HRV.out
                  rw [HRn.out] at hv
                  change RV = 3 at hv
                  rw [HRn.out, hv]
                  first
                    | exact ⟨⟨none, none, 0, 0, 0, 0, ⟨[], []⟩, rfl, rfl, rfl, rfl, Nat.le_refl _, Nat.le_refl _, PRow.empty _ _ _⟩, h8.ends⟩
                    | exact ⟨⟨none, none, 0, 0, 0, 0, rfl, rfl, rfl, Nat.le_refl _, Nat.le_refl _, PRow.empty _ _ _⟩, h8.ends⟩
                | true =>
                  rw [hwr] at HW hR
                  rw [if_neg (by simp)] at hR
                  have HRn := Lib.hid hR
                  clear hR HA3 HY2 hwr
                  go_wp2_with fail
                  refine HLf.out.mono ?_
                  rintro e w4 ⟨rfl, x4⟩
                  have HW4 := Lib.hid (HW.out w4 x4)
                  replace h := h.ext x4
                  clear hrb hc1 HLf
                  have hp0 := cell_of_heap (h.pull 2).blk 0
                  have hp1 := cell_of_heap (h.pull 2).blk 1
                  change w4.cell? _ = some (Value.slice A j c) at hp0
                  change w4.cell? _ = some (Value.slice B j2 cB) at hp1
                  go_wp2_with fail
                  refine HW4.out.mono ?_
                  rintro e w5 ⟨rfl, x5⟩
                  have x45 := x4.trans x5
                  have HP5 := Lib.hid (HPR.out w5 x45)
                  replace h := h.ext x5
                  clear hp0 hp1 HW4
                  have hx7 := (h.pull 2).blk
                  have h8 := (h.pull 2).row #[Value.slice A j c, Value.slice B j2 cB]
                  have hsame : w5.setRow pb #[Value.slice A j c, Value.slice B j2 cB] = w5 := setRow_same hx7
                  have HP6 := Lib.hid (show PRow (w5.setRow pb #[Value.slice A j c, Value.slice B j2 cB]) A B ⟨acc, ps.reverse.map Prod.snd⟩ by rw [hsame]; exact HP5.out)
                  clear hsame
                  go_wp2_with (first
                    | (refine wpList_load_row rfl _ _ rfl pb rfl 35 #[Value.slice A j c, Value.slice B j2 cB] (0, 0) _ hx7 Try.underlying35 rfl (by kernel_rfl) ?_)
                    | (refine wpList_store_row rfl _ _ _ rfl pb #[Value.slice A j c, Value.slice B j2 cB] rfl rfl 35 _ hx7 (by kernel_rfl) rfl (by simp [Value.oneCell']) ?_))
                  refine bodyPost_ret_by (results_pair rfl _ _ pb 35 _ (0, 0) _ rfl h8.blk Try.underlying35 rfl (by kernel_rfl)) rfl ?_
                  have hv := HRV.out
                  rw [HRn.out] at hv
                  change RV = 0 at hv
                  rw [HRn.out, hv]
                  first
                    | exact ⟨⟨A, B, c, cB, j, j2, _, rfl, rfl, HLn.out, HPS.out, HCA.out.1, HCB.out.1, HP6.out⟩, h8.ends⟩
                    | exact ⟨⟨A, B, c, cB, j, j2, rfl, HLn.out, HPS.out, HCA.out.1, HCB.out.1, HP6.out⟩, h8.ends⟩
          | succ k2 =>
            cases b6 with
            | true =>
              have hY := HY.out
              rw [rdTs_bad] at hY
              have HY2 := Lib.hid hY
              clear HY hY
              have hR := HA3.out
              rw [HY2.out] at hR
              unfold rdFin at hR
              rw [if_pos (by simp)] at hR
              have HRn := Lib.hid hR
              clear hR HA3 HY2
              have hx7 := (h.pull 2).blk
              have h8 := (h.pull 2).row #[Value.slice none 0 0, Value.slice none 0 0]
              go_wp2_with (first
                | (refine wpList_store_row rfl _ _ _ rfl pb #[Value.slice none 0 0, Value.slice none 0 0] rfl rfl 35 _ hx7 (by kernel_rfl) rfl (by simp [Value.oneCell']) ?_))
              refine bodyPost_ret_by (results_pair rfl _ _ pb 35 _ (0, 0) _ rfl h8.blk Try.underlying35 rfl (by kernel_rfl)) rfl ?_
              have hv := HRV.out
              rw [HRn.out] at hv
              change RV = 3 at hv
              rw [HRn.out, hv]
              first
                | exact ⟨⟨none, none, 0, 0, 0, 0, ⟨[], []⟩, rfl, rfl, rfl, rfl, Nat.le_refl _, Nat.le_refl _, PRow.empty _ _ _⟩, h8.ends⟩
                | exact ⟨⟨none, none, 0, 0, 0, 0, rfl, rfl, rfl, Nat.le_refl _, Nat.le_refl _, PRow.empty _ _ _⟩, h8.ends⟩
            | false =>
              have hY := HY.out
              rw [rdTs_go] at hY
              have e1 := rdT1_le L ⟨a6, false⟩ (by rw [hsl]; exact hat2)
              have e2 := rdT1_ok L ⟨a6, false⟩ (by rw [hsl]; exact hat2)
              have C1 := Lib.hid (fun w2 (h : St noB w w2 ([blkT cb #[.pointer (some ⟨rb, 0, none⟩), .bool false] 83, rdT rb s a6, blkT pb #[Value.slice A j c, Value.slice B j2 cB] 35, ownT 51 1 (.slice B j2 cB) j2 (ps.reverse.map Prod.fst)] ++ (innT ps ++ [ownT 70 3 (.slice A j c) j (acc.flatMap rngC)]))) => rthread_st (t := ⟨a6, false⟩) h hs hat2)
              rw [HL.out] at C1
              generalize rdT1 L ⟨a6, false⟩ = q1 at *
              obtain ⟨xl, ⟨a7, b7⟩⟩ := q1
              simp only at hY e1 e2 C1
              have HY2 := Lib.hid hY
              have HE2 := Lib.hid e2
              have hp := cell_of_heap (h.pull 2).blk 1
              change wr.cell? _ = some (Value.slice B j2 cB) at hp
              clear hY HY e2
              have hk0 : (0 : Int) < (k2 : Int) + 1 := by omega
              have hk1 : (k2 : Int) + 1 - 1 = (k2 : Int) := by omega
              go_wp2_with fail
              go_region_law (first
                | (refine step_push rfl _ _ _ rfl 51 (.slice none 0 0) 1 24 Try.underlying33 ths_info rfl (by decide) (g3.pull 4) rfl rfl rfl (by simp [Value.oneCell']) (by unfold maxLen; omega) (by omega) ?_; intro B' cB' w5 g4; have hp5 := cell_of_heap (g4.pull 4).blk 1; have hf5 := free_of_heap (g4.pull 4).blk 1; change w5.cell? _ = some (Value.slice B j2 cB) at hp5)
                | (go_simp; go_at_call 46; refine (C1.out _ (h.ext ((Mut.refl noB _).drew))).mono ?_; rintro e w4 ⟨D, cD, nD, rfl, hnD, hnD2, g3⟩; have HND := Lib.hid hnD; clear hnD; have hp4 := cell_of_heap (g3.pull 3).blk 1; change w4.cell? _ = some (Value.slice B j2 cB) at hp4; have hq4 := fun o : Obj => Ext.cell ((Mut.refl noB w4).alloc o) hp4))
              all_goals (have g5 := (g4.pull 4).set 1 (.slice B' (j2 + 1) cB'))
              all_goals (change St noB w _ (blkT pb #[Value.slice A j c, Value.slice B' (j2 + 1) cB'] 35 :: ownT _ _ _ _ _ :: ownT _ _ _ _ _ :: blkT cb _ _ :: rdT rb _ _ :: (innT ps ++ _)) at g5)
              all_goals (have g6 := (g5.pull 3).under (fun _ ht => ht.pull 3))
              all_goals (change St noB w _ (blkT cb _ _ :: rdT rb s a7 :: blkT pb _ _ :: ownT _ _ _ _ _ :: ownT _ _ _ _ _ :: (innT ps ++ _)) at g6)
              all_goals (have HL2 : Hid ((((Value.slice D nD cD, xl) : Value × List Ins) :: ps).length = j2 + 1) := Lib.hid (by simp [HLp.out]))
              all_goals (have ha7 : a7 ≤ s.size := by rw [← hsl]; exact e1)
              all_goals (have HOK2 : Hid (∀ q ∈ ((Value.slice D nD cD, xl) : Value × List Ins) :: ps, ∀ x ∈ q.2, x.ok) := Lib.hid (by intro q hq; rcases List.mem_cons.1 hq with rfl | hq; exact HE2.out; exact HOK.out q hq))
              all_goals (have HY3 : Hid (Y = rdTs L k2 ⟨a7, b7⟩ ((((Value.slice D nD cD, xl) : Value × List Ins) :: ps).reverse.map Prod.snd)) := Lib.hid (by rw [HY2.out]; simp))
              all_goals (have g7 : St noB w (w5.setCell ⟨pb, 1, none⟩ (.slice B' (j2 + 1) cB')) ([blkT cb #[.pointer (some ⟨rb, 0, none⟩), .bool b7] 83, rdT rb s a7, blkT pb #[Value.slice A j c, Value.slice B' (j2 + 1) cB'] 35, ownT 51 1 (.slice B' (j2 + 1) cB') (j2 + 1) ((((Value.slice D nD cD, xl) : Value × List Ins) :: ps).reverse.map Prod.fst)] ++ (innT (((Value.slice D nD cD, xl) : Value × List Ins) :: ps) ++ [ownT 70 3 (.slice A j c) j (acc.flatMap rngC)])) := by (have hnd := HND.out; subst hnd; simpa [innT] using g6))
              all_goals go_wp2_with fail
              all_goals go_roundw
              all_goals first | exact ⟨k2, j2 + 1, ⟨a7, b7⟩, _, B', cB', by go_num, by omega, HL2, ha7, HOK2, HY3, g7⟩ | ((repeat apply Exists.intro); exact ⟨⟨k2, j2 + 1, ⟨a7, b7⟩, _, B', cB', by go_num, by omega, HL2, ha7, HOK2, HY3, g7⟩, rfl⟩) | (simp [intOf]; done) | (simp [intOf]; omega)
      | false =>
        have hX := HX.out
        rw [rdRs_go] at hX
        have e0 : rdR L ⟨a2, false⟩ = (⟨(rdB L ⟨a2, false⟩).1, (rdB L (rdB L ⟨a2, false⟩).2).1, (rdB L (rdB L (rdB L ⟨a2, false⟩).2).2).1⟩, (rdB L (rdB L (rdB L ⟨a2, false⟩).2).2).2) := rfl
        rw [e0] at hX
        have e1 := rdB_le L ⟨a2, false⟩ (by rw [hsl]; exact hat)
        have e2 := rdB_le L _ e1
        have e3 := rdB_le L _ e2
        have C1 := Lib.hid (fun w2 (h : St noB w w2 [blkT cb #[.pointer (some ⟨rb, 0, none⟩), .bool false] 83, rdT rb s a2, blkT pb #[Value.slice A j c, Value.slice none 0 0] 35, ownT 70 3 (.slice A j c) j (acc.flatMap rngC)]) => rbyte_st (t := ⟨a2, false⟩) h (by unfold maxLen; omega) hat)
        have C2 := Lib.hid (fun w2 (h : St noB w w2 [blkT cb #[.pointer (some ⟨rb, 0, none⟩), .bool (rdB L ⟨a2, false⟩).2.bad] 83, rdT rb s (rdB L ⟨a2, false⟩).2.at_, blkT pb #[Value.slice A j c, Value.slice none 0 0] 35, ownT 70 3 (.slice A j c) j (acc.flatMap rngC)]) => rbyte_st h (by unfold maxLen; omega) (by rw [← hsl]; exact e1))
        have C3 := Lib.hid (fun w2 (h : St noB w w2 [blkT cb #[.pointer (some ⟨rb, 0, none⟩), .bool (rdB L (rdB L ⟨a2, false⟩).2).2.bad] 83, rdT rb s (rdB L (rdB L ⟨a2, false⟩).2).2.at_, blkT pb #[Value.slice A j c, Value.slice none 0 0] 35, ownT 70 3 (.slice A j c) j (acc.flatMap rngC)]) => rbyte_st h (by unfold maxLen; omega) (by rw [← hsl]; exact e2))
        rw [HL.out] at C1 C2 C3
        generalize rdB L ⟨a2, false⟩ = q1 at *
        generalize rdB L q1.2 = q2 at *
        generalize rdB L q2.2 = q3 at *
        obtain ⟨xa, ⟨a3, b3⟩⟩ := q1
        obtain ⟨xb, ⟨a4, b4⟩⟩ := q2
        obtain ⟨xc, ⟨a5, b5⟩⟩ := q3
        simp only at hX e1 e2 e3 C1 C2 C3
        have HX2 := Lib.hid hX
        have hp := cell_of_heap (h.pull 2).blk 0
        change wr.cell? _ = some (Value.slice A j c) at hp
        clear hX e0 HX
        have hk0 : (0 : Int) < (k : Int) + 1 := by omega
        have hk1 : (k : Int) + 1 - 1 = (k : Int) := by omega
        go_wp2_with fail
        go_region_law (first
          | (refine step_push rfl _ _ _ rfl 70 (.agg #[.int .i64 0, .int .i64 0, .int .i64 0]) 3 24 Try.underlying32 rng_info rfl (by decide) (g3.pull 3) rfl rfl rfl (by simp [Value.oneCell']) (by unfold maxLen; omega) (by omega) ?_; intro A' c' w5 g4; have hp5 := cell_of_heap (g4.pull 3).blk 0; have hf5 := free_of_heap (g4.pull 3).blk 0; change w5.cell? _ = some (Value.slice A j c) at hp5)
          | (go_simp; go_at_call 45; refine (C3.out _ g2).mono ?_; rintro e w4 ⟨rfl, g3⟩; have hp4 := cell_of_heap (g3.pull 2).blk 0; change w4.cell? _ = some (Value.slice A j c) at hp4; have hq4 := fun o : Obj => Ext.cell ((Mut.refl noB w4).alloc o) hp4)
          | (go_simp; go_at_call 45; refine (C2.out _ g1).mono ?_; rintro e w3 ⟨rfl, g2⟩; have hp3 := cell_of_heap (g2.pull 2).blk 0; change w3.cell? _ = some (Value.slice A j c) at hp3)
          | (go_simp; go_at_call 45; refine (C1.out _ (h.ext ((Mut.refl noB _).drew))).mono ?_; rintro e w2 ⟨rfl, g1⟩; have hp2 := cell_of_heap (g1.pull 2).blk 0; change w2.cell? _ = some (Value.slice A j c) at hp2))
        all_goals (have g5 := (g4.pull 3).set 0 (.slice A' (j + 1) c'))
        all_goals (change St noB w _ [blkT pb #[Value.slice A' (j + 1) c', Value.slice none 0 0] 35, ownT _ _ _ _ _, blkT cb _ _, rdT rb _ _] at g5)
        all_goals (have g6 := (g5.pull 2).under (fun _ ht => ht.pull 2))
        all_goals (change St noB w _ [blkT cb _ _, rdT rb s a5, blkT pb _ _, ownT _ _ _ _ _] at g6)
        all_goals (rw [show acc.flatMap rngC ++ _ = (acc ++ [(⟨xa, xb, xc⟩ : Rng)]).flatMap rngC from by simp [rngC]] at g6)
        all_goals (have HL2 : Hid ((acc ++ [(⟨xa, xb, xc⟩ : Rng)]).length = j + 1) := Lib.hid (by simp [HLn.out]))
        all_goals (have ha5 : a5 ≤ s.size := by rw [← hsl]; exact e3)
        all_goals go_wp2_with fail
        all_goals go_roundw
        all_goals first | exact ⟨k, j + 1, ⟨a5, b5⟩, _, A', c', by go_num, by omega, HL2, ha5, HX2, g6⟩ | ((repeat apply Exists.intro); exact ⟨⟨k, j + 1, ⟨a5, b5⟩, _, A', c', by go_num, by omega, HL2, ha5, HX2, g6⟩, rfl⟩) | (simp [intOf]; done) | (simp [intOf]; omega)
end Go.Proofs.Ytklkboibpglhjaa
