/- Texts of this work, put together: CRefs, CRefs2, CRefs3, CAwake, CArg. -/
import Derived.Test.YtklkboibpglhjaaGc
import Derived.Test.YtklkboibpglhjaaPRefx
import Derived.Test.YtklkboibpglhjaaGb
import Derived.Test.YtklkboibpglhjaaGa
/- Layer 9: what the document's functions come to. -/
namespace Go.Proofs.Ytklkboibpglhjaa
open Go.RowKit Go.WideShapes Go.Proofs.YtklkboibpglhjaaW.PrintWords Go.Proofs.YtklkboibpglhjaaW.PrintLast Go.Proofs.YtklkboibpglhjaaW.PrintMore
set_option linter.unusedVariables false
set_option linter.unusedSimpArgs false
theorem Ext.of_below {w w' : World} (h : Below w.heap.size w w') : Ext w w' := ⟨h.os, h.tape, h.output, h.size, fun k hk _ => h.block k hk⟩
/-- with rounds enough, r -/
def Ev' {α : Type} (g : Nat → Option α) (r : α) : Prop := ∃ K, ∀ k, K ≤ k → g k = some r
theorem Ev'.step {α : Type} {g h : Nat → Option α} {r : α} (e : ∀ k, g (k + 1) = h k) (H : Ev' h r) : Ev' g r := by
  obtain ⟨K, hK⟩ := H
  refine ⟨K + 1, fun k hk => ?_⟩
  obtain ⟨k, rfl⟩ : ∃ m, k = m + 1 := ⟨k - 1, by omega⟩
  rw [e]; exact hK k (by omega)
theorem Ev'.same {α : Type} {g h : Nat → Option α} {r : α} (e : ∀ k, g k = h k) (H : Ev' h r) : Ev' g r := by
  obtain ⟨K, hK⟩ := H
  exact ⟨K, fun k hk => by rw [e]; exact hK k hk⟩
theorem Ev'.const {α : Type} (r : α) : Ev' (fun _ => some r) r := ⟨0, fun _ _ => rfl⟩
theorem Ev'.bind {α β : Type} {g : Nat → Option α} {a : α} {f : Nat → α → Option β} {r : β} (H : Ev' g a) (F : Ev' (fun k => f k a) r) : Ev' (fun k => (g k).bind (f k)) r := by
  obtain ⟨K, hK⟩ := H
  obtain ⟨K2, hK2⟩ := F
  refine ⟨K + K2, fun k hk => ?_⟩
  show (g k).bind (f k) = some r
  rw [hK k (by omega)]
  exact hK2 k (by omega)
theorem Ev'.get {α : Type} {g : Nat → Option α} {r : α} (H : Ev' g r) : ∃ k, g k = some r := by
  obtain ⟨K, hK⟩ := H; exact ⟨K, hK K (Nat.le_refl _)⟩
abbrev toI (x : Ins) : PRef.S24 := ⟨x.op, x.a, x.b, x.c, x.d, x.k⟩
abbrev toR (r : Rng) : PRef.S70 := ⟨r.kd, r.cp, r.rd⟩
abbrev toT (ts : List (List Ins)) : List (List PRef.S24) := ts.map (·.map toI)
theorem kdR {w : World} {A : Option Addr} {l : List Rng} (h : GRow 3 rngC w A l) (hl : l.length ≤ 9223372036854775807) : Kd.C PRef.k70 w A (l.map toR).length (l.map toR) := by
  refine ⟨rfl, by simpa using hl, fun hn => ?_⟩
  rw [List.length_map] at hn
  obtain ⟨b, off, rfl, _⟩ := h 0 hn
  refine ⟨_, rfl, fun j p hj => ?_⟩
  rw [List.getElem?_map] at hj
  obtain ⟨x, hx, rfl⟩ := Option.map_eq_some_iff.1 hj
  have hjl : j < l.length := (List.getElem?_eq_some_iff.1 hx).1
  obtain ⟨b', off', e, hc⟩ := h j hjl
  cases e
  refine ⟨rngC x, rfl, PRef.k70_mk w (toR x), fun i u hu => ?_⟩
  have hg : l.getD j default = x := by rw [List.getD_eq_getElem?_getD, hx]; rfl
  have := hc i u (by rw [hg]; exact hu)
  rw [Go.WideShapes.add_plain, ← Nat.add_assoc]; exact this
theorem kdI {w : World} {A : Option Addr} {l : List Ins} (h : GRow 6 insC w A l) (hl : l.length ≤ 9223372036854775807) : Kd.C PRef.k24 w A (l.map toI).length (l.map toI) := by
  refine ⟨rfl, by simpa using hl, fun hn => ?_⟩
  rw [List.length_map] at hn
  obtain ⟨b, off, rfl, _⟩ := h 0 hn
  refine ⟨_, rfl, fun j p hj => ?_⟩
  rw [List.getElem?_map] at hj
  obtain ⟨x, hx, rfl⟩ := Option.map_eq_some_iff.1 hj
  have hjl : j < l.length := (List.getElem?_eq_some_iff.1 hx).1
  obtain ⟨b', off', e, hc⟩ := h j hjl
  cases e
  refine ⟨insC x, rfl, PRef.k24_mk w (toI x), fun i u hu => ?_⟩
  have hg : l.getD j default = x := by rw [List.getD_eq_getElem?_getD, hx]; rfl
  have := hc i u (by rw [hg]; exact hu)
  rw [Go.WideShapes.add_plain, ← Nat.add_assoc]; exact this
theorem kdT {w : World} {B : Option Addr} {ts : List (List Ins)} (h : TRow w B ts) (hl : ts.length ≤ 9223372036854775807) : Kd.C (Kd.slice 24 PRef.k24) w B (toT ts).length (toT ts) := by
  refine ⟨rfl, by simpa using hl, fun hn => ?_⟩
  rw [List.length_map] at hn
  obtain ⟨b, off, rfl, _⟩ := h 0 hn
  refine ⟨_, rfl, fun j p hj => ?_⟩
  rw [List.getElem?_map] at hj
  obtain ⟨x, hx, rfl⟩ := Option.map_eq_some_iff.1 hj
  have hjl : j < ts.length := (List.getElem?_eq_some_iff.1 hx).1
  obtain ⟨b', off', e, A, c, hc, hg, h1, h2⟩ := h j hjl
  cases e
  have hgx : ts.getD j [] = x := by rw [List.getD_eq_getElem?_getD, hx]; rfl
  rw [hgx] at hc hg h1 h2
  refine ⟨[.slice A x.length c], rfl, ⟨A, c, by simp, by simpa using h1, kdI hg (by unfold maxLen at h2; exact h2)⟩, fun i u hu => ?_⟩
  cases i with
  | zero => cases hu; rw [Go.WideShapes.add_plain, show (Kd.slice 24 PRef.k24).sz = 1 from rfl]; simpa using hc
  | succ i => simp at hu
theorem rdR70 (l : List Rng) (i : Nat) (h : i < l.length) : PRef.rd_T70 (l.map toR) i = toR (l.getD i default) := by
  unfold PRef.rd_T70
  simp [h]
theorem rdI24 (l : List Ins) (i : Nat) (h : i < l.length) : PRef.rd_T24 (l.map toI) i = toI (l.getD i default) := by
  unfold PRef.rd_T24
  simp [h]
theorem rdL4 (ts : List (List Ins)) (i : Nat) (h : i < ts.length) : PRef.rd_L4 (toT ts) i = (ts.getD i []).map toI := by
  unfold PRef.rd_L4
  simp [h]
theorem w64 (n : Nat) (h : n < 9223372036854775807) : wrap64 ((n : Int) + 1) = ((n + 1 : Nat) : Int) := by unfold wrap64; omega
theorem getD_mem {α : Type} [Inhabited α] (l : List α) (i : Nat) (h : i < l.length) : l.getD i default ∈ l := by
  rw [List.getD_eq_getElem?_getD, List.getElem?_eq_getElem h]; exact List.getElem_mem _
theorem drop_getD {α : Type} [Inhabited α] (l : List α) (i : Nat) (h : i < l.length) : l.drop i = l.getD i default :: l.drop (i + 1) := by
  rw [List.drop_eq_getElem_cons h, List.getD_eq_getElem?_getD, List.getElem?_eq_getElem h]; rfl
/-! what may be -/
theorem most_ev (k : Nat) (c : UInt8) (hc : isLet c) : PRef.rondeauref09_most.f k c.toNat = some ((mostOf c.toNat : Nat) : Int) := by
  unfold PRef.rondeauref09_most.f
  rw [if_pos (by unfold isLet at hc; omega)]; simp
theorem right_l0 (F : ByteArray) (l : List Int) (j : Nat) (hj : j < 4) (hl : l.length = 4) (hs : F.size = 5) (c : UInt8) (hbt : bt F j = c.toNat) (hc : isLet c) (x : Int) (hx : rd l (j : Int) = x) (hr : -9223372036854775808 ≤ x ∧ x < 9223372036854775808) (r : Bool)
    (H : okNum x c = true → Ev' (fun k => PRef.rondeauref09_Right.l0 k F l ((j + 1 : Nat) : Int)) r) : Ev' (fun k => PRef.rondeauref09_Right.l0 k F l j) (okNum x c && r) := by
  have hm := mostOf_lt c.toNat
  by_cases h1 : x < 0
  · have : okNum x c = false := by unfold okNum; rw [decide_eq_false (by omega)]; rfl
    rw [this, Bool.false_and]
    exact Ev'.step (h := fun _ => some false) (fun k => by rw [PRef.rondeauref09_Right.l0, if_pos (by omega), if_pos (by omega), if_pos (by omega), hx, if_pos h1]) (Ev'.const _)
  · have hw : IntKind.u64.wrap x = x := by rw [IntKind.wrap_u64]; omega
    by_cases h2 : x ≤ mostOf c.toNat
    · have : okNum x c = true := by unfold okNum; rw [decide_eq_true (by omega), decide_eq_true h2]; rfl
      rw [this, Bool.true_and]
      refine Ev'.step (h := fun k => PRef.rondeauref09_Right.l0 k F l ((j + 1 : Nat) : Int)) (fun k => ?_) (H this)
      rw [PRef.rondeauref09_Right.l0, if_pos (by omega), if_pos (by omega), if_pos (by omega), hx, if_neg h1, if_pos (by omega), hbt, most_ev k c hc, Option.bind_some, hw, if_neg (by omega), w64 j (by omega)]
    · have : okNum x c = false := by unfold okNum; rw [decide_eq_false h2, Bool.and_false]
      rw [this, Bool.false_and]
      refine Ev'.step (h := fun _ => some false) (fun k => ?_) (Ev'.const _)
      rw [PRef.rondeauref09_Right.l0, if_pos (by omega), if_pos (by omega), if_pos (by omega), hx, if_neg h1, if_pos (by omega), hbt, most_ev k c hc, Option.bind_some, hw, if_pos (by omega)]
theorem ev_right (x : Ins) (hx : x.ok) : Ev' (fun k => PRef.rondeauref09_Right.f k x.op x.a x.b x.c x.d x.k) (rightI x) := by
  obtain ⟨op, a, b, c, d, k⟩ := x
  obtain ⟨hop, ha, hb, hc, hd, hk⟩ := hx
  simp only at hop ha hb hc hd hk ⊢
  unfold rightI
  simp only
  rcases form_case op with ⟨hf, hl⟩ | ⟨c0, c1, c2, c3, c4, hf⟩
  · have hr : rightB op a b c d k = false := by unfold rightB; rw [hl]; rfl
    rw [hr]
    refine Ev'.same (h := fun n => PRef.rondeauref09_Right.j0 n ⟨#[]⟩ true op a b c d k) (fun n => ?_) ?_
    · unfold PRef.rondeauref09_Right.f PRef.rondeauref09_form.f
      rw [Option.bind_some, hf, if_pos (by rw [ByteArray.toList_eq])]
    · exact Ev'.step (h := fun _ => some false) (fun n => by rw [PRef.rondeauref09_Right.j0, if_pos rfl]) (Ev'.const _)
  · rw [right_form hf]
    have hsz : (⟨#[c0, c1, c2, c3, c4]⟩ : ByteArray).size = 5 := rfl
    refine Ev'.same (h := fun n => PRef.rondeauref09_Right.j0 n ⟨#[c0, c1, c2, c3, c4]⟩ (decide ((k : Int) > (mostOf c4.toNat : Nat))) op a b c d k) (fun n => ?_) ?_
    · unfold PRef.rondeauref09_Right.f PRef.rondeauref09_form.f
      rw [Option.bind_some, hf.f, if_neg (by rw [ByteArray.toList_eq]; simp), hsz, if_pos (by decide), show bt ⟨#[c0, c1, c2, c3, c4]⟩ 4 = c4.toNat from rfl, most_ev n c4 hf.l4, Option.bind_some]
    · by_cases hkk : k ≤ mostOf c4.toNat
      · rw [decide_eq_true hkk, Bool.true_and]
        refine Ev'.step (h := fun n => PRef.rondeauref09_Right.l0 n ⟨#[c0, c1, c2, c3, c4]⟩ [a, b, c, d] ((0 : Nat) : Int)) (fun n => by rw [PRef.rondeauref09_Right.j0, if_neg (by simp; omega)]; rfl) ?_
        refine right_l0 _ [a, b, c, d] 0 (by decide) rfl rfl c0 rfl hf.l0 a rfl ha _ (fun _ => ?_)
        refine right_l0 _ [a, b, c, d] 1 (by decide) rfl rfl c1 rfl hf.l1 b rfl hb _ (fun _ => ?_)
        refine right_l0 _ [a, b, c, d] 2 (by decide) rfl rfl c2 rfl hf.l2 c rfl hc _ (fun _ => ?_)
        rw [← Bool.and_true (okNum d c3)]
        refine right_l0 _ [a, b, c, d] 3 (by decide) rfl rfl c3 rfl hf.l3 d rfl hd _ (fun _ => ?_)
        exact Ev'.step (h := fun _ => some true) (fun n => by rw [PRef.rondeauref09_Right.l0, if_neg (by decide)]) (Ev'.const _)
      · rw [decide_eq_false hkk, Bool.false_and]
        exact Ev'.step (h := fun _ => some false) (fun n => by rw [PRef.rondeauref09_Right.j0, if_pos (by simp; omega)]) (Ev'.const _)
/-! written -/
theorem written_l2 (R : List PRef.S70) (ts : List (List Ins)) (hok : ∀ l ∈ ts, ∀ x ∈ l, x.ok) (hts : ts.length ≤ 9223372036854775807) (i : Nat) (hi : i < ts.length) (hl : (ts.getD i []).length ≤ 9223372036854775807) (r : Bool) (H : Ev' (fun k => PRef.rondeauref09_Written.l1 k ((i + 1 : Nat) : Int) R (toT ts)) r) :
    ∀ (d j : Nat), j + d = (ts.getD i []).length → Ev' (fun k => PRef.rondeauref09_Written.l2 k i j R (toT ts)) (((ts.getD i []).drop j).all rightI && r)
  | 0, j, hj => by
    rw [List.drop_of_length_le (by omega)]
    show Ev' _ r
    refine Ev'.step (h := fun k => PRef.rondeauref09_Written.l1 k ((i + 1 : Nat) : Int) R (toT ts)) (fun k => ?_) H
    rw [PRef.rondeauref09_Written.l2, if_pos (by omega), if_pos (by rw [List.length_map]; omega), rdL4 ts i hi, if_neg (by rw [List.length_map]; omega), w64 i (by omega)]
  | d + 1, j, hj => by
    have hjl : j < (ts.getD i []).length := by omega
    have hm := getD_mem (ts.getD i []) j hjl
    have hm2 : ts.getD i [] ∈ ts := getD_mem ts i hi
    have he := ev_right _ (hok _ hm2 _ hm)
    rw [drop_getD (ts.getD i []) j hjl, List.all_cons, Bool.and_assoc]
    have hR := rdI24 (ts.getD i []) j hjl
    generalize (ts.getD i []).getD j default = x at he hR ⊢
    refine Ev'.step (h := fun k => (PRef.rondeauref09_Right.f k x.op x.a x.b x.c x.d x.k).bind fun t => if t = true then PRef.rondeauref09_Written.l2 k i ((j + 1 : Nat) : Int) R (toT ts) else some false) (fun k => ?_) (Ev'.bind he ?_)
    · rw [PRef.rondeauref09_Written.l2, if_pos (by omega), if_pos (by rw [List.length_map]; omega), rdL4 ts i hi, if_pos (by rw [List.length_map]; omega), if_pos (by omega), hR, w64 j (by omega)]
    · cases hr : rightI x with
      | true => exact Ev'.same (fun k => if_pos rfl) (by rw [Bool.true_and]; exact written_l2 R ts hok hts i hi hl r H d (j + 1) (by omega))
      | false => exact Ev'.same (fun k => if_neg (by simp)) (by rw [Bool.false_and]; exact Ev'.const _)
theorem written_l1 (R : List PRef.S70) (ts : List (List Ins)) (hok : ∀ l ∈ ts, ∀ x ∈ l, x.ok) (hts : ts.length ≤ 9223372036854775807) : ∀ (d i : Nat), i + d = ts.length → Ev' (fun k => PRef.rondeauref09_Written.l1 k i R (toT ts)) ((ts.drop i).all thB)
  | 0, i, hi => by
    rw [List.drop_of_length_le (by omega)]
    exact Ev'.step (h := fun _ => some true) (fun k => by rw [PRef.rondeauref09_Written.l1, if_neg (by rw [List.length_map]; omega)]) (Ev'.const _)
  | d + 1, i, hi => by
    have hil : i < ts.length := by omega
    have hd : ts.drop i = ts.getD i [] :: ts.drop (i + 1) := drop_getD ts i hil
    rw [hd, List.all_cons]
    by_cases h256 : 256 < (ts.getD i []).length
    · rw [th_long _ h256, Bool.false_and]
      exact Ev'.step (h := fun _ => some false) (fun k => by rw [PRef.rondeauref09_Written.l1, if_pos (by rw [List.length_map]; omega), if_pos (by omega), rdL4 ts i hil, if_pos (by rw [List.length_map]; omega)]) (Ev'.const _)
    · rw [th_fine _ h256]
      have h2 := written_l2 R ts hok hts i hil (by omega) _ (written_l1 R ts hok hts d (i + 1) (by omega)) (ts.getD i []).length 0 (by omega)
      rw [List.drop_zero] at h2
      refine Ev'.step (fun k => ?_) h2
      rw [PRef.rondeauref09_Written.l1, if_pos (by rw [List.length_map]; omega), if_pos (by omega), rdL4 ts i hil, if_neg (by rw [List.length_map]; omega)]
      rfl
theorem written_l0 (rs : List Rng) (ts : List (List Ins)) (hok : ∀ l ∈ ts, ∀ x ∈ l, x.ok) (hrs : rs.length ≤ 9223372036854775807) (hts : ts.length ≤ 9223372036854775807) : ∀ (d i : Nat), i + d = rs.length → Ev' (fun k => PRef.rondeauref09_Written.l0 k i (rs.map toR) (toT ts)) ((rs.drop i).all rngB && ts.all thB)
  | 0, i, hi => by
    rw [List.drop_of_length_le (by omega)]
    have h1 := written_l1 (rs.map toR) ts hok hts ts.length 0 (by omega)
    rw [List.drop_zero] at h1
    refine Ev'.step (fun k => ?_) (show Ev' _ (true && ts.all thB) by rw [Bool.true_and]; exact h1)
    rw [PRef.rondeauref09_Written.l0, if_neg (by rw [List.length_map]; omega)]; rfl
  | d + 1, i, hi => by
    have hil : i < rs.length := by omega
    have hd : rs.drop i = rs.getD i default :: rs.drop (i + 1) := drop_getD rs i hil
    rw [hd, List.all_cons]
    have hR := rdR70 rs i hil
    have ih := written_l0 rs ts hok hrs hts d (i + 1) (by omega)
    generalize rs.getD i default = x at hR ⊢
    by_cases hn : x.kd < 0 ∨ x.cp < 0 ∨ x.rd < 0
    · rw [rng_neg x hn, Bool.false_and, Bool.false_and]
      refine Ev'.step (h := fun _ => some false) (fun k => ?_) (Ev'.const _)
      rw [PRef.rondeauref09_Written.l0, if_pos (by rw [List.length_map]; omega), if_pos (by omega), hR]
      repeat' split
      all_goals first | rfl | (exfalso; simp only at *; omega)
    · by_cases hb : 255 < x.kd ∨ 255 < x.cp ∨ 255 < x.rd
      · rw [rng_big x hb, Bool.false_and, Bool.false_and]
        refine Ev'.step (h := fun _ => some false) (fun k => ?_) (Ev'.const _)
        rw [PRef.rondeauref09_Written.l0, if_pos (by rw [List.length_map]; omega), if_pos (by omega), hR]
        repeat' split
        all_goals first | rfl | (exfalso; simp only at *; omega)
      · rw [rng_fine x hn hb, Bool.true_and]
        refine Ev'.step (fun k => ?_) ih
        rw [PRef.rondeauref09_Written.l0, if_pos (by rw [List.length_map]; omega), if_pos (by omega), hR, if_neg (show ¬ x.kd < 0 by omega), if_neg (show ¬ x.kd > 255 by omega), if_neg (show ¬ x.cp < 0 by omega), if_neg (show ¬ x.cp > 255 by omega), if_neg (show ¬ x.rd < 0 by omega), if_neg (show ¬ x.rd > 255 by omega), w64 i (by omega)]
theorem ev_written (p : Prg) (hok : p.ok) (hrs : p.rings.length ≤ 9223372036854775807) (hts : p.ths.length ≤ 9223372036854775807) : Ev' (fun k => PRef.rondeauref09_Written.f k (p.rings.map toR) (toT p.ths)) (writtenB p) := by
  by_cases h8 : 8 < p.rings.length
  · rw [isW0 p _ _ rfl rfl (.inl h8)]
    refine Ev'.same (fun k => by unfold PRef.rondeauref09_Written.f; rw [if_pos (by rw [List.length_map]; omega)]) ?_
    exact Ev'.step (h := fun _ => some false) (fun k => by rw [PRef.rondeauref09_Written.j0, if_pos rfl]) (Ev'.const _)
  · by_cases h9 : 8 < p.ths.length
    · rw [isW0 p _ _ rfl rfl (.inr h9)]
      refine Ev'.same (fun k => by unfold PRef.rondeauref09_Written.f; rw [if_neg (by rw [List.length_map]; omega), decide_eq_true (by rw [List.length_map]; omega)]) ?_
      exact Ev'.step (h := fun _ => some false) (fun k => by rw [PRef.rondeauref09_Written.j0, if_pos rfl]) (Ev'.const _)
    · have h0 := written_l0 p.rings p.ths hok hrs hts p.rings.length 0 (by omega)
      rw [List.drop_zero] at h0
      have e : writtenB p = (p.rings.all rngB && p.ths.all thB) := by
        unfold writtenB; rw [decide_eq_true (by omega), decide_eq_true (by omega)]; rfl
      rw [e]
      refine Ev'.same (fun k => by unfold PRef.rondeauref09_Written.f; rw [if_neg (by rw [List.length_map]; omega), decide_eq_false (by rw [List.length_map]; omega)]) ?_
      exact Ev'.step (fun k => by rw [PRef.rondeauref09_Written.j0, if_neg (by simp)]; rfl) h0
theorem rwritten_any (A B : Option Addr) (ca cb n m : Nat) (p : Prg) (hn : p.rings.length = n) (hm : p.ths.length = m) (hca : n ≤ ca) (hcb : m ≤ cb) (hn2 : n ≤ 9223372036854775807) (hm2 : m ≤ 9223372036854775807) (w : World) (hr : PRow w A B p) (hok : p.ok) :
    Calls Try.prog 22 #[.agg #[.slice A n ca, .slice B m cb]] w fun e w' => e = .returned (.bool (writtenB p)) ∧ Ext w w' := by
  subst hn hm
  obtain ⟨k, hk⟩ := (ev_written p hok hn2 hm2).get
  have h1 := kdR hr.rg (by omega)
  have h2 := kdT hr.th (by omega)
  have := PRef.rondeauref09_Written.calls k A ca (p.rings.map toR) B cb (toT p.ths) _ w h1 (by simpa using hca) h2 (by simpa using hcb) hk
  rw [List.length_map, List.length_map] at this
  exact this.mono fun e w' ⟨he, hb⟩ => ⟨he, Ext.of_below hb⟩
end Go.Proofs.Ytklkboibpglhjaa

/- Layer 9: the document's Same, Few, Print, Digest. -/
namespace Go.Proofs.Ytklkboibpglhjaa
open Go.RowKit Go.WideShapes Go.Proofs.YtklkboibpglhjaaW.PrintWords Go.Proofs.YtklkboibpglhjaaW.PrintLast Go.Proofs.YtklkboibpglhjaaW.PrintMore
set_option linter.unusedVariables false
set_option linter.unusedSimpArgs false
/-! the same -/
theorem same_drop {α : Type} [Inhabited α] [DecidableEq α] (a b : List α) (i : Nat) (ha : i < a.length) (hb : i < b.length) : decide (a.drop i = b.drop i) = (decide (a.getD i default = b.getD i default) && decide (a.drop (i + 1) = b.drop (i + 1))) := by
  rw [drop_getD a i ha, drop_getD b i hb]
  by_cases h1 : a.getD i default = b.getD i default
  · by_cases h2 : a.drop (i + 1) = b.drop (i + 1)
    · rw [h1, h2]; simp
    · rw [decide_eq_false h2, Bool.and_false, decide_eq_false]; intro e; exact h2 (List.cons.inj e).2
  · rw [decide_eq_false h1, Bool.false_and, decide_eq_false]; intro e; exact h1 (List.cons.inj e).1
theorem same_l2 (R S : List PRef.S70) (a b : List (List Ins)) (hla : a.length = b.length) (hts : a.length ≤ 9223372036854775807) (i : Nat) (hi : i < a.length) (hl : (a.getD i []).length ≤ 9223372036854775807) (hlen : (a.getD i []).length = (b.getD i []).length) (r : Bool) (H : Ev' (fun k => PRef.rondeauref09_Same.l1 k ((i + 1 : Nat) : Int) R (toT a) S (toT b)) r) :
    ∀ (d j : Nat), j + d = (a.getD i []).length → Ev' (fun k => PRef.rondeauref09_Same.l2 k i j R (toT a) S (toT b)) (decide ((a.getD i []).drop j = (b.getD i []).drop j) && r)
  | 0, j, hj => by
    rw [List.drop_of_length_le (by omega), List.drop_of_length_le (by omega), decide_eq_true rfl, Bool.true_and]
    refine Ev'.step (h := fun k => PRef.rondeauref09_Same.l1 k ((i + 1 : Nat) : Int) R (toT a) S (toT b)) (fun k => ?_) H
    rw [PRef.rondeauref09_Same.l2, if_pos (by omega), if_pos (by rw [List.length_map]; omega), rdL4 a i hi, if_neg (by rw [List.length_map]; omega), w64 i (by omega)]
  | d + 1, j, hj => by
    have hjl : j < (a.getD i []).length := by omega
    have hjb : j < (b.getD i []).length := by omega
    rw [same_drop _ _ j hjl hjb, Bool.and_assoc]
    have ih := same_l2 R S a b hla hts i hi hl hlen r H d (j + 1) (by omega)
    have hR := rdI24 (a.getD i []) j hjl
    have hS := rdI24 (b.getD i []) j hjb
    generalize hx : (a.getD i []).getD j default = x at hR ⊢
    generalize hy : (b.getD i []).getD j default = y at hS ⊢
    by_cases he : x = y
    · subst he
      rw [decide_eq_true rfl, Bool.true_and]
      refine Ev'.step (fun k => ?_) ih
      rw [PRef.rondeauref09_Same.l2, if_pos (by omega), if_pos (by rw [List.length_map]; omega), rdL4 a i hi, if_pos (by rw [List.length_map]; omega), if_pos (by omega), if_pos (by rw [List.length_map]; omega), rdL4 b i (by omega), if_pos (by rw [List.length_map]; omega), hR, hS, if_neg (by simp), w64 j (by omega)]
    · rw [decide_eq_false he, Bool.false_and]
      refine Ev'.step (h := fun _ => some false) (fun k => ?_) (Ev'.const _)
      rw [PRef.rondeauref09_Same.l2, if_pos (by omega), if_pos (by rw [List.length_map]; omega), rdL4 a i hi, if_pos (by rw [List.length_map]; omega), if_pos (by omega), if_pos (by rw [List.length_map]; omega), rdL4 b i (by omega), if_pos (by rw [List.length_map]; omega), hR, hS, if_pos]
      obtain ⟨x0, x1, x2, x3, x4, x5⟩ := x
      obtain ⟨y0, y1, y2, y3, y4, y5⟩ := y
      simp only [Ins.mk.injEq] at he
      simp only [Bool.or_eq_true, Bool.not_eq_true', beq_eq_false_iff_ne, ne_eq]
      omega
theorem same_l1 (R S : List PRef.S70) (a b : List (List Ins)) (hla : a.length = b.length) (hts : a.length ≤ 9223372036854775807) (hl : ∀ l ∈ a, l.length ≤ 9223372036854775807) : ∀ (d i : Nat), i + d = a.length → Ev' (fun k => PRef.rondeauref09_Same.l1 k i R (toT a) S (toT b)) (decide (a.drop i = b.drop i))
  | 0, i, hi => by
    rw [List.drop_of_length_le (by omega), List.drop_of_length_le (by omega), decide_eq_true rfl]
    exact Ev'.step (h := fun _ => some true) (fun k => by rw [PRef.rondeauref09_Same.l1, if_neg (by rw [List.length_map]; omega)]) (Ev'.const _)
  | d + 1, i, hi => by
    have hil : i < a.length := by omega
    have hib : i < b.length := by omega
    rw [same_drop a b i hil hib]
    have ih := same_l1 R S a b hla hts hl d (i + 1) (by omega)
    by_cases he : (a.getD i []).length = (b.getD i []).length
    · have h2 := same_l2 R S a b hla hts i hil (hl _ (getD_mem a i hil)) he _ ih (a.getD i []).length 0 (by omega)
      rw [List.drop_zero, List.drop_zero] at h2
      refine Ev'.step (fun k => ?_) h2
      rw [PRef.rondeauref09_Same.l1, if_pos (by rw [List.length_map]; omega), if_pos (by omega), if_pos (by rw [List.length_map]; omega), rdL4 a i hil, rdL4 b i hib, if_pos (by rw [List.length_map, List.length_map]; omega)]
      rfl
    · have hne : a.getD i default ≠ b.getD i default := fun e => he (by rw [show a.getD i [] = b.getD i [] from e])
      rw [decide_eq_false hne, Bool.false_and]
      refine Ev'.step (h := fun _ => some false) (fun k => ?_) (Ev'.const _)
      rw [PRef.rondeauref09_Same.l1, if_pos (by rw [List.length_map]; omega), if_pos (by omega), if_pos (by rw [List.length_map]; omega), rdL4 a i hil, rdL4 b i hib, if_neg (by rw [List.length_map, List.length_map]; omega)]
theorem same_l0 (r s : List Rng) (a b : List (List Ins)) (hrs : r.length = s.length) (hr : r.length ≤ 9223372036854775807) (hla : a.length = b.length) (hts : a.length ≤ 9223372036854775807) (hl : ∀ l ∈ a, l.length ≤ 9223372036854775807) : ∀ (d i : Nat), i + d = r.length → Ev' (fun k => PRef.rondeauref09_Same.l0 k i (r.map toR) (toT a) (s.map toR) (toT b)) (decide (r.drop i = s.drop i) && decide (a = b))
  | 0, i, hi => by
    rw [List.drop_of_length_le (by omega), List.drop_of_length_le (by omega), decide_eq_true rfl, Bool.true_and]
    have h1 := same_l1 (r.map toR) (s.map toR) a b hla hts hl a.length 0 (by omega)
    rw [List.drop_zero, List.drop_zero] at h1
    refine Ev'.step (fun k => ?_) h1
    rw [PRef.rondeauref09_Same.l0, if_neg (by rw [List.length_map]; omega)]; rfl
  | d + 1, i, hi => by
    have hil : i < r.length := by omega
    have hib : i < s.length := by omega
    rw [same_drop r s i hil hib, Bool.and_assoc]
    have ih := same_l0 r s a b hrs hr hla hts hl d (i + 1) (by omega)
    have hR := rdR70 r i hil
    have hS := rdR70 s i hib
    generalize hx : r.getD i default = x at hR ⊢
    generalize hy : s.getD i default = y at hS ⊢
    by_cases he : x = y
    · subst he
      rw [decide_eq_true rfl, Bool.true_and]
      refine Ev'.step (fun k => ?_) ih
      rw [PRef.rondeauref09_Same.l0, if_pos (by rw [List.length_map]; omega), if_pos (by omega), if_pos (by rw [List.length_map]; omega), hR, hS, if_neg (by simp), w64 i (by omega)]
    · rw [decide_eq_false he, Bool.false_and]
      refine Ev'.step (h := fun _ => some false) (fun k => ?_) (Ev'.const _)
      rw [PRef.rondeauref09_Same.l0, if_pos (by rw [List.length_map]; omega), if_pos (by omega), if_pos (by rw [List.length_map]; omega), hR, hS, if_pos]
      obtain ⟨x0, x1, x2⟩ := x
      obtain ⟨y0, y1, y2⟩ := y
      simp only [Rng.mk.injEq] at he
      simp only [Bool.or_eq_true, Bool.not_eq_true', beq_eq_false_iff_ne, ne_eq]
      omega
theorem prg_eq (p q : Prg) : decide (p = q) = (decide (p.rings = q.rings) && decide (p.ths = q.ths)) := by
  obtain ⟨r, a⟩ := p
  obtain ⟨s, b⟩ := q
  by_cases h1 : r = s <;> by_cases h2 : a = b <;> simp [h1, h2]
theorem ev_same (p q : Prg) (hr : p.rings.length ≤ 9223372036854775807) (hts : p.ths.length ≤ 9223372036854775807) (hl : ∀ l ∈ p.ths, l.length ≤ 9223372036854775807) :
    Ev' (fun k => PRef.rondeauref09_Same.f k (p.rings.map toR) (toT p.ths) (q.rings.map toR) (toT q.ths)) (decide (p = q)) := by
  rw [prg_eq]
  by_cases h1 : p.rings.length = q.rings.length
  · by_cases h2 : p.ths.length = q.ths.length
    · have h0 := same_l0 p.rings q.rings p.ths q.ths h1 hr h2 hts hl p.rings.length 0 (by omega)
      rw [List.drop_zero, List.drop_zero] at h0
      refine Ev'.same (fun k => by unfold PRef.rondeauref09_Same.f; rw [if_pos (by rw [List.length_map, List.length_map]; omega)]) ?_
      exact Ev'.step (fun k => by rw [PRef.rondeauref09_Same.j0, if_neg (by simp [h2])]; rfl) h0
    · rw [decide_eq_false (show ¬ p.ths = q.ths from fun e => h2 (by rw [e])), Bool.and_false]
      refine Ev'.same (fun k => by unfold PRef.rondeauref09_Same.f; rw [if_pos (by rw [List.length_map, List.length_map]; omega)]) ?_
      exact Ev'.step (h := fun _ => some false) (fun k => by rw [PRef.rondeauref09_Same.j0, if_pos (by simp; omega)]) (Ev'.const _)
  · rw [decide_eq_false (show ¬ p.rings = q.rings from fun e => h1 (by rw [e])), Bool.false_and]
    refine Ev'.same (fun k => by unfold PRef.rondeauref09_Same.f; rw [if_neg (by rw [List.length_map, List.length_map]; omega)]) ?_
    exact Ev'.step (h := fun _ => some false) (fun k => by rw [PRef.rondeauref09_Same.j0, if_pos rfl]) (Ev'.const _)
/-- a program that came in or was made: in memory, with its slices -/
structure PArg (w : World) (v : Value) (p : Prg) : Prop where
  arg : ∃ A B ca cb, v = .agg #[.slice A p.rings.length ca, .slice B p.ths.length cb] ∧ p.rings.length ≤ ca ∧ p.ths.length ≤ cb ∧ PRow w A B p
  ok : p.ok
  nr : p.rings.length ≤ 9223372036854775807
  nt : p.ths.length ≤ 9223372036854775807
  nl : ∀ l ∈ p.ths, l.length ≤ 9223372036854775807
theorem PArg.ext {w w' : World} {v : Value} {p : Prg} (h : PArg w v p) (x : Ext w w') : PArg w' v p :=
  ⟨let ⟨A, B, ca, cb, h1, h2, h3, h4⟩ := h.arg; ⟨A, B, ca, cb, h1, h2, h3, h4.ext x⟩, h.ok, h.nr, h.nt, h.nl⟩
theorem same_any (u v : Value) (p q : Prg) (w : World) (hu : PArg w u p) (hv : PArg w v q) :
    Calls Try.prog 26 #[u, v] w fun e w' => e = .returned (.bool (decide (p = q))) ∧ Ext w w' := by
  obtain ⟨k, hk⟩ := (ev_same p q hu.nr hu.nt hu.nl).get
  obtain ⟨A, B, ca, cb, rfl, h1, h2, h3⟩ := hu.arg
  obtain ⟨A2, B2, ca2, cb2, rfl, g1, g2, g3⟩ := hv.arg
  have hnu := hu.nr
  have hnt := hu.nt
  have hmu := hv.nr
  have hmt := hv.nt
  have := PRef.rondeauref09_Same.calls k A ca (p.rings.map toR) B cb (toT p.ths) A2 ca2 (q.rings.map toR) B2 cb2 (toT q.ths) _ w (kdR h3.rg (by omega)) (by simpa using h1) (kdT h3.th (by omega)) (by simpa using h2) (kdR g3.rg (by omega)) (by simpa using g1) (kdT g3.th (by omega)) (by simpa using g2) hk
  rw [List.length_map, List.length_map, List.length_map, List.length_map] at this
  exact this.mono fun e w' ⟨he, hb⟩ => ⟨he, Ext.of_below hb⟩
theorem rwritten_p (v : Value) (p : Prg) (w : World) (h : PArg w v p) : Calls Try.prog 22 #[v] w fun e w' => e = .returned (.bool (writtenB p)) ∧ Ext w w' := by
  obtain ⟨A, B, ca, cb, rfl, h1, h2, h3⟩ := h.arg
  exact rwritten_any A B ca cb _ _ p rfl rfl h1 h2 h.nr h.nt w h3 h.ok
theorem cprint_p (v : Value) (p : Prg) (w : World) (h : PArg w v p) :
    Calls Try.prog 18 #[v] w fun e w' => e = .returned (.tuple #[.string (if writtenB p then ⟨(prB p).toArray⟩ else ⟨#[]⟩), .int .i64 (if writtenB p then 0 else 1)]) ∧ Ext w w' := by
  obtain ⟨A, B, ca, cb, rfl, h1, h2, h3⟩ := h.arg
  exact cprint_any A B ca cb _ _ p rfl rfl w h3 h.ok
/-! few -/
def sumL (ts : List (List Ins)) : Nat := (ts.map List.length).sum
def fewB (p : Prg) (m : Nat) : Bool := decide (p.rings.length ≤ 10) && decide (p.ths.length ≤ 10) && p.ths.all (fun l => decide (l.length ≤ m)) && decide (sumL p.ths ≤ m)
theorem few_l0 (R : List PRef.S70) (ts : List (List Ins)) (m : Nat) (hm : m ≤ 1000000) (hts : ts.length ≤ 10) : ∀ (d i s : Nat), i + d = ts.length → s ≤ m * i →
    Ev' (fun k => PRef.rondeauref09_Few.l0 k m s i R (toT ts)) ((ts.drop i).all (fun l => decide (l.length ≤ m)) && decide (s + sumL (ts.drop i) ≤ m))
  | 0, i, s, hi, hs => by
    rw [List.drop_of_length_le (by omega)]
    refine Ev'.step (h := fun _ => some (decide ((s : Int) ≤ m))) (fun k => by rw [PRef.rondeauref09_Few.l0, if_neg (by rw [List.length_map]; omega)]) ?_
    have : (([] : List (List Ins)).all (fun l => decide (l.length ≤ m)) && decide (s + sumL [] ≤ m)) = decide ((s : Int) ≤ m) := by simp [sumL]
    rw [this]
    exact Ev'.const _
  | d + 1, i, s, hi, hs => by
    have hil : i < ts.length := by omega
    have hd : ts.drop i = ts.getD i [] :: ts.drop (i + 1) := drop_getD ts i hil
    rw [hd, List.all_cons]
    by_cases h1 : (ts.getD i []).length ≤ m
    · have hs2 : s + (ts.getD i []).length ≤ m * (i + 1) := by rw [Nat.mul_succ]; omega
      have hi10 : m * (i + 1) ≤ 1000000 * 10 := Nat.mul_le_mul hm (by omega)
      have ih := few_l0 R ts m hm hts d (i + 1) (s + (ts.getD i []).length) (by omega) hs2
      rw [decide_eq_true h1, Bool.true_and, show s + sumL (ts.getD i [] :: ts.drop (i + 1)) = s + (ts.getD i []).length + sumL (ts.drop (i + 1)) by simp [sumL]; omega]
      refine Ev'.step (fun k => ?_) ih
      rw [PRef.rondeauref09_Few.l0, if_pos (by rw [List.length_map]; omega), if_pos (by omega), rdL4 ts i hil, if_neg (by rw [List.length_map]; omega), List.length_map, w64 i (by omega), show wrap64 ((s : Int) + ((ts.getD i []).length : Int)) = ((s + (ts.getD i []).length : Nat) : Int) by unfold wrap64; omega]
    · rw [decide_eq_false h1, Bool.false_and, Bool.false_and]
      refine Ev'.step (h := fun _ => some false) (fun k => ?_) (Ev'.const _)
      rw [PRef.rondeauref09_Few.l0, if_pos (by rw [List.length_map]; omega), if_pos (by omega), rdL4 ts i hil, if_pos (by rw [List.length_map]; omega)]
theorem ev_few (p : Prg) (m : Nat) (hm : m ≤ 1000000) : Ev' (fun k => PRef.rondeauref09_Few.f k (p.rings.map toR) (toT p.ths) m) (fewB p m) := by
  unfold fewB
  by_cases h1 : p.rings.length ≤ 10
  · by_cases h2 : p.ths.length ≤ 10
    · have h0 := few_l0 (p.rings.map toR) p.ths m hm h2 p.ths.length 0 0 (by omega) (by omega)
      rw [List.drop_zero, Nat.zero_add] at h0
      rw [decide_eq_true h1, decide_eq_true h2, Bool.true_and, Bool.true_and]
      refine Ev'.same (fun k => by unfold PRef.rondeauref09_Few.f; rw [if_neg (by rw [List.length_map]; omega)]) ?_
      exact Ev'.step (fun k => by rw [PRef.rondeauref09_Few.j0, if_neg (by simp; omega)]; rfl) h0
    · rw [decide_eq_false h2, Bool.and_false, Bool.false_and, Bool.false_and]
      refine Ev'.same (fun k => by unfold PRef.rondeauref09_Few.f; rw [if_neg (by rw [List.length_map]; omega)]) ?_
      exact Ev'.step (h := fun _ => some false) (fun k => by rw [PRef.rondeauref09_Few.j0, if_pos (by simp; omega)]) (Ev'.const _)
  · rw [decide_eq_false h1, Bool.false_and, Bool.false_and, Bool.false_and]
    refine Ev'.same (fun k => by unfold PRef.rondeauref09_Few.f; rw [if_pos (by rw [List.length_map]; omega)]) ?_
    exact Ev'.step (h := fun _ => some false) (fun k => by rw [PRef.rondeauref09_Few.j0, if_pos rfl]) (Ev'.const _)
theorem few_p (v : Value) (p : Prg) (m : Nat) (hm : m ≤ 1000000) (w : World) (h : PArg w v p) : Calls Try.prog 17 #[v, .int .i64 m] w fun e w' => e = .returned (.bool (fewB p m)) ∧ Ext w w' := by
  obtain ⟨k, hk⟩ := (ev_few p m hm).get
  have h8 := h.nr
  have h9 := h.nt
  obtain ⟨A, B, ca, cb, rfl, h1, h2, h3⟩ := h.arg
  have := PRef.rondeauref09_Few.calls k A ca (p.rings.map toR) B cb (toT p.ths) m _ w (kdR h3.rg (by omega)) (by simpa using h1) (kdT h3.th (by omega)) (by simpa using h2) hk
  rw [List.length_map, List.length_map] at this
  exact this.mono fun e w' ⟨he, hb⟩ => ⟨he, Ext.of_below hb⟩
end Go.Proofs.Ytklkboibpglhjaa

/- Layer 9: the document's Print and Digest. -/
namespace Go.Proofs.Ytklkboibpglhjaa
open Go.RowKit Go.WideShapes Go.Proofs.YtklkboibpglhjaaW.PrintWords Go.Proofs.YtklkboibpglhjaaW.PrintLast Go.Proofs.YtklkboibpglhjaaW.PrintMore
set_option linter.unusedVariables false
set_option linter.unusedSimpArgs false
theorem bapp (a b : List UInt8) : (⟨a.toArray⟩ : ByteArray) ++ ⟨b.toArray⟩ = ⟨(a ++ b).toArray⟩ := by
  apply ByteArray.ext
  apply Array.toList_inj.1
  rw [ByteArray.data_append, Array.toList_append]
theorem bsize (a : List UInt8) : (⟨a.toArray⟩ : ByteArray).size = a.length := rfl
/-! its length -/
theorem flat_le {α : Type} (f : α → List UInt8) (c : Nat) : ∀ (l : List α), (∀ x ∈ l, (f x).length ≤ c) → (l.flatMap f).length ≤ c * l.length
  | [], _ => by simp
  | x :: l, h => by
    rw [List.flatMap_cons, List.length_append, List.length_cons, Nat.mul_succ]
    have h1 := h x (by simp)
    have h2 := flat_le f c l (fun y hy => h y (by simp [hy]))
    omega
theorem thBy_le (l : List Ins) (hl : l.length ≤ 256) (hok : ∀ x ∈ l, x.ok) : (thBy l).length ≤ 3850 := by
  unfold thBy
  rw [List.length_append]
  have h1 := vb_len10 l.length (by omega)
  have h2 := flat_le insB 15 l (fun x hx => insB_len x (hok x hx).2.2.2.2.2)
  omega
theorem written_short2 (p : Prg) (h : writtenB p = true) (l : List Ins) (hl : l ∈ p.ths) : l.length ≤ 256 := by
  unfold writtenB at h
  simp only [Bool.and_eq_true, List.all_eq_true] at h
  have := h.2 l hl
  unfold thB at this
  simp only [Bool.and_eq_true, decide_eq_true_eq] at this
  exact this.1
theorem prB_le (p : Prg) (h : writtenB p = true) (hok : p.ok) : (prB p).length ≤ 40000 := by
  obtain ⟨h1, h2⟩ := written_few p h
  have h3 := flat_le rngBy 3 p.rings (fun x hx => Nat.le_refl _)
  have h4 := flat_le thBy 3850 p.ths (fun l hl => thBy_le l (written_short2 p h l hl) (hok l hl))
  unfold prB
  simp only [List.length_append, List.length_cons]
  omega
/-! bytes -/
theorem bytes_l0 (l : List Int) (hl : l.length ≤ 1000) : ∀ (d i : Nat) (acc : List UInt8), i + d = l.length → acc.length = i →
    Ev' (fun k => PRef.rondeauref09_bytes.l0 k l (acc.map fun c => ((c.toNat : Nat) : Int)) i) ⟨(acc ++ (l.drop i).map by8).toArray⟩
  | 0, i, acc, hi, ha => by
    rw [List.drop_of_length_le (by omega), List.map_nil, List.append_nil]
    refine Ev'.step (fun k => by rw [PRef.rondeauref09_bytes.l0, if_neg (by omega), strOf_bytes]) (Ev'.const _)
  | d + 1, i, acc, hi, ha => by
    have hil : i < l.length := by omega
    have ih := bytes_l0 l hl d (i + 1) (acc ++ [by8 (l.getD i default)]) (by omega) (by simp [ha])
    rw [drop_getD l i hil, List.map_cons]
    rw [List.append_assoc, List.singleton_append] at ih
    refine Ev'.step (fun k => ?_) ih
    rw [PRef.rondeauref09_bytes.l0, if_pos (by omega), if_pos (by omega), if_pos (by simp; omega), w64 i (by omega)]
    congr 1
    rw [List.map_append]
    congr 1
    have hb : (((by8 (l.getD i default)).toNat : Nat) : Int) = (l.getD i default) % 256 := by
      have := bv_by8 (l.getD i default)
      unfold bv at this
      injection this
    simp only [List.map_cons, List.map_nil]
    rw [hb]
    rfl
theorem ev_bytes (l : List Int) (hl : l.length ≤ 1000) : Ev' (fun k => PRef.rondeauref09_bytes.f k l) ⟨(l.map by8).toArray⟩ := by
  have h0 := bytes_l0 l hl l.length 0 [] (by omega) rfl
  rw [List.drop_zero, List.nil_append] at h0
  exact Ev'.same (fun k => rfl) h0
theorem ev_vprint (n : Nat) (hn : n < 18446744073709551616) : Ev' (fun k => PRef.rondeauref02_Print.f k n) ⟨(vb n).toArray⟩ := by
  refine Ev'.same (h := fun _ => some ⟨(vb n).toArray⟩) (fun k => ?_) (Ev'.const _)
  unfold PRef.rondeauref02_Print.f
  rw [if_pos (by omega), Int.toNat_natCast]
theorem u64w (n : Nat) (hn : n < 18446744073709551616) : IntKind.u64.wrap (n : Int) = n := by rw [IntKind.wrap_u64]; omega
/-! the text -/
theorem print_l2 (R : List PRef.S70) (ts : List (List Ins)) (hok : ∀ l ∈ ts, ∀ x ∈ l, x.ok) (hts : ts.length ≤ 9223372036854775807) (i : Nat) (hi : i < ts.length) (hl : (ts.getD i []).length ≤ 9223372036854775807) (rest : List UInt8)
    (H : ∀ acc : List UInt8, acc.length + rest.length ≤ 9223372036854775807 → Ev' (fun k => PRef.rondeauref09_Print.l1 k ⟨acc.toArray⟩ ((i + 1 : Nat) : Int) R (toT ts)) ⟨(acc ++ rest).toArray⟩) :
    ∀ (d j : Nat) (acc : List UInt8), j + d = (ts.getD i []).length → acc.length + (((ts.getD i []).drop j).flatMap insB ++ rest).length ≤ 9223372036854775807 →
      Ev' (fun k => PRef.rondeauref09_Print.l2 k ⟨acc.toArray⟩ i j R (toT ts)) ⟨(acc ++ (((ts.getD i []).drop j).flatMap insB ++ rest)).toArray⟩
  | 0, j, acc, hj, hs => by
    rw [List.drop_of_length_le (by omega)] at hs ⊢
    rw [List.flatMap_nil, List.nil_append] at hs ⊢
    refine Ev'.step (fun k => ?_) (H acc hs)
    rw [PRef.rondeauref09_Print.l2, if_pos (by omega), if_pos (by rw [List.length_map]; omega), rdL4 ts i hi, if_neg (by rw [List.length_map]; omega), w64 i (by omega)]
  | d + 1, j, acc, hj, hs => by
    have hjl : j < (ts.getD i []).length := by omega
    have hm := getD_mem (ts.getD i []) j hjl
    have hm2 : ts.getD i [] ∈ ts := getD_mem ts i hi
    have hx := hok _ hm2 _ hm
    rw [drop_getD _ j hjl] at hs ⊢
    rw [List.flatMap_cons] at hs ⊢
    have hR := rdI24 (ts.getD i []) j hjl
    generalize (ts.getD i []).getD j default = x at hR hx hs ⊢
    have e1 : insB x = [by8 x.op, by8 x.a, by8 x.b, by8 x.c, by8 x.d] ++ vb x.k := rfl
    have hs2 : (acc ++ insB x).length + (((ts.getD i []).drop (j + 1)).flatMap insB ++ rest).length ≤ 9223372036854775807 := by
      simp only [List.length_append] at hs ⊢; omega
    have ih := print_l2 R ts hok hts i hi hl rest H d (j + 1) (acc ++ insB x) (by omega) hs2
    rw [List.append_assoc] at ih
    rw [List.append_assoc]
    have hb := ev_bytes [x.op, x.a, x.b, x.c, x.d] (by simp)
    have hv := ev_vprint x.k hx.2.2.2.2.2
    have hlen : acc.length + (5 + (vb x.k).length) ≤ 9223372036854775807 := by
      simp only [e1, List.length_append, List.length_cons, List.length_nil] at hs; omega
    refine Ev'.step (fun k => ?_) (Ev'.bind hb (Ev'.bind hv (f := fun k t => if (5 : Nat) + t.size ≤ 9223372036854775807 then (if acc.length + (5 + t.size) ≤ 9223372036854775807 then PRef.rondeauref09_Print.l2 k (⟨acc.toArray⟩ ++ (⟨[by8 x.op, by8 x.a, by8 x.b, by8 x.c, by8 x.d].toArray⟩ ++ t)) i ((j + 1 : Nat) : Int) R (toT ts) else none) else none) ?_) (f := fun k t => (PRef.rondeauref02_Print.f k x.k).bind fun u => if t.size + u.size ≤ 9223372036854775807 then (if acc.length + (t.size + u.size) ≤ 9223372036854775807 then PRef.rondeauref09_Print.l2 k (⟨acc.toArray⟩ ++ (t ++ u)) i ((j + 1 : Nat) : Int) R (toT ts) else none) else none))
    · rw [PRef.rondeauref09_Print.l2, if_pos (by omega), if_pos (by rw [List.length_map]; omega), rdL4 ts i hi, if_pos (by rw [List.length_map]; omega), if_pos (by omega), hR, w64 j (by omega)]
      rfl
    · refine Ev'.same (fun k => ?_) ih
      show (if (5 : Nat) + (vb x.k).length ≤ 9223372036854775807 then _ else _) = _
      rw [if_pos (by omega), if_pos (by rw [bsize]; omega), bapp, bapp]
      rfl
theorem print_l1 (R : List PRef.S70) (ts : List (List Ins)) (hok : ∀ l ∈ ts, ∀ x ∈ l, x.ok) (hts : ts.length ≤ 9223372036854775807) (hl : ∀ l ∈ ts, l.length ≤ 9223372036854775807) : ∀ (d i : Nat) (acc : List UInt8), i + d = ts.length → acc.length + ((ts.drop i).flatMap thBy).length ≤ 9223372036854775807 →
      Ev' (fun k => PRef.rondeauref09_Print.l1 k ⟨acc.toArray⟩ i R (toT ts)) ⟨(acc ++ (ts.drop i).flatMap thBy).toArray⟩
  | 0, i, acc, hi, hs => by
    rw [List.drop_of_length_le (by omega), List.flatMap_nil, List.append_nil]
    exact Ev'.step (fun k => by rw [PRef.rondeauref09_Print.l1, if_neg (by rw [List.length_map]; omega)]) (Ev'.const _)
  | d + 1, i, acc, hi, hs => by
    have hil : i < ts.length := by omega
    have hd : ts.drop i = ts.getD i [] :: ts.drop (i + 1) := drop_getD ts i hil
    rw [hd, List.flatMap_cons] at hs ⊢
    have hl2 := hl _ (getD_mem ts i hil)
    change (ts.getD i []).length ≤ _ at hl2
    have hv := ev_vprint (ts.getD i []).length (by omega)
    have e1 : thBy (ts.getD i []) = vb (ts.getD i []).length ++ (ts.getD i []).flatMap insB := rfl
    have h2 := print_l2 R ts hok hts i hil hl2 ((ts.drop (i + 1)).flatMap thBy) (fun acc ha => print_l1 R ts hok hts hl d (i + 1) acc (by omega) ha) (ts.getD i []).length 0 (acc ++ vb (ts.getD i []).length) (by omega) (by
      rw [List.drop_zero]; simp only [e1, List.length_append] at hs ⊢; omega)
    rw [List.drop_zero, List.append_assoc] at h2
    rw [e1, List.append_assoc]
    have hlen : acc.length + (vb (ts.getD i []).length).length ≤ 9223372036854775807 := by
      simp only [e1, List.length_append] at hs; omega
    refine Ev'.step (fun k => ?_) (Ev'.bind hv (f := fun k t => if acc.length + t.size ≤ 9223372036854775807 then PRef.rondeauref09_Print.l2 k (⟨acc.toArray⟩ ++ t) i ((0 : Nat) : Int) R (toT ts) else none) ?_)
    · rw [PRef.rondeauref09_Print.l1, if_pos (by rw [List.length_map]; omega), if_pos (by omega), rdL4 ts i hil, List.length_map, u64w _ (by omega)]
      rfl
    · refine Ev'.same (fun k => ?_) h2
      show (if acc.length + (vb (ts.getD i []).length).length ≤ _ then _ else _) = _
      rw [if_pos hlen, bapp]
theorem print_l0 (rs : List Rng) (ts : List (List Ins)) (hok : ∀ l ∈ ts, ∀ x ∈ l, x.ok) (hrs : rs.length ≤ 9223372036854775807) (hts : ts.length ≤ 9223372036854775807) (hl : ∀ l ∈ ts, l.length ≤ 9223372036854775807) : ∀ (d i : Nat) (acc : List UInt8), i + d = rs.length → acc.length + ((rs.drop i).flatMap rngBy ++ (by8 ts.length :: ts.flatMap thBy)).length ≤ 9223372036854775807 →
      Ev' (fun k => PRef.rondeauref09_Print.l0 k ⟨acc.toArray⟩ i (rs.map toR) (toT ts)) ⟨(acc ++ ((rs.drop i).flatMap rngBy ++ (by8 ts.length :: ts.flatMap thBy))).toArray⟩
  | 0, i, acc, hi, hs => by
    rw [List.drop_of_length_le (by omega)] at hs ⊢
    rw [List.flatMap_nil, List.nil_append] at hs ⊢
    have hb := ev_bytes [(ts.length : Int)] (by simp)
    have hlen : acc.length + 1 ≤ 9223372036854775807 := by simp only [List.length_cons] at hs; omega
    have h1 := print_l1 (rs.map toR) ts hok hts hl ts.length 0 (acc ++ [by8 ts.length]) (by omega) (by rw [List.drop_zero]; simp only [List.length_append, List.length_cons, List.length_nil] at hs ⊢; omega)
    rw [List.drop_zero, List.append_assoc] at h1
    refine Ev'.step (fun k => ?_) (Ev'.bind hb (f := fun k t => if acc.length + t.size ≤ 9223372036854775807 then PRef.rondeauref09_Print.l1 k (⟨acc.toArray⟩ ++ t) ((0 : Nat) : Int) (rs.map toR) (toT ts) else none) ?_)
    · rw [PRef.rondeauref09_Print.l0, if_neg (by rw [List.length_map]; omega), List.length_map]
      rfl
    · refine Ev'.same (fun k => ?_) h1
      show (if acc.length + 1 ≤ _ then _ else _) = _
      rw [if_pos hlen, bapp]; rfl
  | d + 1, i, acc, hi, hs => by
    have hil : i < rs.length := by omega
    have hd : rs.drop i = rs.getD i default :: rs.drop (i + 1) := drop_getD rs i hil
    rw [hd, List.flatMap_cons] at hs ⊢
    have hR := rdR70 rs i hil
    generalize rs.getD i default = x at hR hs ⊢
    have e1 : rngBy x = [by8 x.kd, by8 x.cp, by8 x.rd] := rfl
    have hb := ev_bytes [x.kd, x.cp, x.rd] (by simp)
    have ih := print_l0 rs ts hok hrs hts hl d (i + 1) (acc ++ rngBy x) (by omega) (by simp only [List.length_append] at hs ⊢; omega)
    rw [List.append_assoc, ← List.append_assoc (rngBy x)] at ih
    have hlen : acc.length + 3 ≤ 9223372036854775807 := by simp only [e1, List.length_append, List.length_cons, List.length_nil] at hs; omega
    refine Ev'.step (fun k => ?_) (Ev'.bind hb (f := fun k t => if acc.length + t.size ≤ 9223372036854775807 then PRef.rondeauref09_Print.l0 k (⟨acc.toArray⟩ ++ t) ((i + 1 : Nat) : Int) (rs.map toR) (toT ts) else none) ?_)
    · rw [PRef.rondeauref09_Print.l0, if_pos (by rw [List.length_map]; omega), if_pos (by omega), hR, w64 i (by omega)]
      rfl
    · refine Ev'.same (fun k => ?_) ih
      show (if acc.length + 3 ≤ _ then _ else _) = _
      rw [if_pos hlen, bapp]; rfl
theorem ev_print (p : Prg) (hok : p.ok) (hrs : p.rings.length ≤ 9223372036854775807) (hts : p.ths.length ≤ 9223372036854775807) (hl : ∀ l ∈ p.ths, l.length ≤ 9223372036854775807) (hs : (prB p).length ≤ 9223372036854775807) :
    Ev' (fun k => PRef.rondeauref09_Print.f k (p.rings.map toR) (toT p.ths)) ⟨(prB p).toArray⟩ := by
  have hb := ev_bytes [(p.rings.length : Int)] (by simp)
  have h0 := print_l0 p.rings p.ths hok hrs hts hl p.rings.length 0 [by8 p.rings.length] (by omega) (by
    rw [List.drop_zero]; unfold prB at hs; simp only [List.length_append, List.length_cons, List.length_nil] at hs ⊢; omega)
  rw [List.drop_zero] at h0
  refine Ev'.same (fun k => ?_) (Ev'.bind hb (f := fun k t => PRef.rondeauref09_Print.l0 k t ((0 : Nat) : Int) (p.rings.map toR) (toT p.ths)) ?_)
  · unfold PRef.rondeauref09_Print.f
    rw [List.length_map]; rfl
  · exact h0
theorem rprint_p (v : Value) (p : Prg) (w : World) (h : PArg w v p) (hw : writtenB p = true) :
    Calls Try.prog 23 #[v] w fun e w' => e = .returned (.string ⟨(prB p).toArray⟩) ∧ Ext w w' := by
  have hle := prB_le p hw h.ok
  obtain ⟨k, hk⟩ := (ev_print p h.ok h.nr h.nt h.nl (by omega)).get
  have h8 := h.nr
  have h9 := h.nt
  obtain ⟨A, B, ca, cb, rfl, h1, h2, h3⟩ := h.arg
  have := PRef.rondeauref09_Print.calls k A ca (p.rings.map toR) B cb (toT p.ths) _ w (kdR h3.rg (by omega)) (by simpa using h1) (kdT h3.th (by omega)) (by simpa using h2) hk
  rw [List.length_map, List.length_map] at this
  exact this.mono fun e w' ⟨he, hb⟩ => ⟨he, Ext.of_below hb⟩
/-! the sum -/
def digB (p : Prg) : Nat := if writtenB p then cmore ent 0 (prB p) else 0
theorem ev_digest (p : Prg) (hok : p.ok) (hrs : p.rings.length ≤ 9223372036854775807) (hts : p.ths.length ≤ 9223372036854775807) (hl : ∀ l ∈ p.ths, l.length ≤ 9223372036854775807) :
    Ev' (fun k => PRef.rondeauref09_Digest.f k (p.rings.map toR) (toT p.ths)) (digB p : Nat) := by
  have hw := ev_written p hok hrs hts
  unfold digB
  refine Ev'.same (fun k => rfl) (Ev'.bind hw ?_)
  cases hwr : writtenB p with
  | false => exact Ev'.same (fun k => if_neg (by simp)) (Ev'.const _)
  | true =>
    have hle := prB_le p hwr hok
    refine Ev'.same (fun k => if_pos rfl) (Ev'.bind (ev_print p hok hrs hts hl (by omega)) ?_)
    refine Ev'.same (h := fun _ => some ((cmore ent 0 (prB p) : Nat) : Int)) (fun k => ?_) (Ev'.const _)
    show (PRef.rondeauref05_Sum.f k ⟨(prB p).toArray⟩).bind some = _
    unfold PRef.rondeauref05_Sum.f
    rw [if_pos (by rw [bsize]; unfold maxLen; omega)]
    rfl
theorem rdigest_p (v : Value) (p : Prg) (w : World) (h : PArg w v p) :
    Calls Try.prog 21 #[v] w fun e w' => e = .returned (.int .u32 (digB p : Nat)) ∧ Ext w w' := by
  obtain ⟨k, hk⟩ := (ev_digest p h.ok h.nr h.nt h.nl).get
  have h8 := h.nr
  have h9 := h.nt
  obtain ⟨A, B, ca, cb, rfl, h1, h2, h3⟩ := h.arg
  have := PRef.rondeauref09_Digest.calls k A ca (p.rings.map toR) B cb (toT p.ths) _ w (kdR h3.rg (by omega)) (by simpa using h1) (kdT h3.th (by omega)) (by simpa using h2) hk
  rw [List.length_map, List.length_map] at this
  exact this.mono fun e w' ⟨he, hb⟩ => ⟨he, Ext.of_below hb⟩
end Go.Proofs.Ytklkboibpglhjaa

/- awake of layer 9's laws. -/
namespace Go.Proofs.Ytklkboibpglhjaa
open Go.RowKit Go.WideShapes
set_option linter.unusedVariables false
set_option linter.unusedSimpArgs false
theorem cmore_nil (t : Nat → Nat) : cmore t 0 [] = 0 := by
  unfold cmore
  show (0 ^^^ ones) ^^^ ones = 0
  exact ones2 0
theorem digB_if (p : Prg) : cmore ent 0 (if writtenB p then ⟨(prB p).toArray⟩ else ⟨#[]⟩ : ByteArray).data.toList = digB p := by
  unfold digB
  cases writtenB p with
  | true => rfl
  | false => exact cmore_nil ent
set_option maxRecDepth 20000 in
set_option maxHeartbeats 2000000 in
theorem cdigest_p (v : Value) (p : Prg) (w : World) (h : PArg w v p) :
    Calls Try.prog 20 #[v] w fun e w' => e = .returned (.int .u32 (digB p : Nat)) ∧ Ext w w' := by
  rw [← digB_if]
  have hsz : (if writtenB p then ⟨(prB p).toArray⟩ else ⟨#[]⟩ : ByteArray).size ≤ maxLen := by
    cases hw : writtenB p with
    | true => have := prB_le p hw h.ok; show (prB p).length ≤ maxLen; unfold maxLen; omega
    | false => exact Nat.zero_le _
  obtain ⟨A, B, ca, cb, rfl, h1, h2, h3⟩ := h.arg
  have hall := (St.start noB w).alloc #[Value.slice A p.rings.length ca, Value.slice B p.ths.length cb] 35
  have HP := Lib.hid (cprint_p _ p _ (h.ext hall.ends))
  generalize (if writtenB p then ⟨(prB p).toArray⟩ else ⟨#[]⟩ : ByteArray) = s at HP hsz ⊢
  generalize (if writtenB p then (0 : Int) else 1) = er at HP
  clear h h1 h2 h3
  go_enter Try.func20, Try.ntmps20
  go_wp2_with (refine wpList_load_row rfl _ _ rfl w.heap.size rfl 35 #[Value.slice A p.rings.length ca, Value.slice B p.ths.length cb] (0, 0) _ (heap_alloc_self _ _) Try.underlying35 rfl (by kernel_rfl) ?_)
  refine HP.out.mono ?_
  rintro e w1 ⟨rfl, x1⟩
  clear HP
  go_wp2_with fail
  refine (table_any w1).mono ?_
  rintro e w2 ⟨rfl, x2⟩
  go_wp2_with fail
  refine (sum_any ent (fun i hi => ent_lt (by omega)) s hsz w2).mono ?_
  rintro e w3 ⟨rfl, x3⟩
  go_wp2_with fail
  go_ret
  exact ⟨rfl, (hall.ends.trans x1).trans (x2.trans x3)⟩
theorem one_prog {w : World} {b1 b2 : Nat} {x : Ins} {t1 t2 : TypeId} {A : Option Addr} (h1 : w.heap[b1]? = some (.cells (insC x).toArray t1 (0, 0))) (h2 : w.heap[b2]? = some (.cells #[.slice (some ⟨b1, 0, none⟩) 1 1] t2 (0, 0))) : PRow w A (some ⟨b2, 0, none⟩) ⟨[], [[x]]⟩ := by
  refine ⟨fun i hi => by simp at hi, fun i hi => ?_⟩
  obtain rfl : i = 0 := by have : i < 1 := hi; omega
  refine ⟨b2, 0, rfl, _, 1, cell_of_heap h2 0, fun j hj => ?_, Nat.le_refl 1, by show 1 ≤ maxLen; unfold maxLen; omega⟩
  obtain rfl : j = 0 := by have : j < 1 := hj; omega
  refine ⟨b1, 0, rfl, fun i v hv => ?_⟩
  have hv : (insC x)[i]? = some v := hv
  change w.cell? ⟨b1, 0 + 0 * 6 + i, none⟩ = some v
  rw [show 0 + 0 * 6 + i = i by omega, cell_of_heap h1]
  simpa using hv
theorem one_arg {w : World} {b1 b2 : Nat} {x : Ins} {t1 t2 : TypeId} (h1 : w.heap[b1]? = some (.cells (insC x).toArray t1 (0, 0))) (h2 : w.heap[b2]? = some (.cells #[.slice (some ⟨b1, 0, none⟩) 1 1] t2 (0, 0))) (hx : x.ok) : PArg w (.agg #[.slice none 0 0, .slice (some ⟨b2, 0, none⟩) 1 1]) ⟨[], [[x]]⟩ :=
  ⟨⟨none, some ⟨b2, 0, none⟩, 0, 1, rfl, Nat.le_refl _, Nat.le_refl _, one_prog h1 h2⟩, by
    intro l hl y hy
    rw [List.mem_singleton.1 hl] at hy
    rw [List.mem_singleton.1 hy]; exact hx, by show 0 ≤ _; omega, by show 1 ≤ _; omega, by
    intro l hl
    rw [List.mem_singleton.1 hl]; show 1 ≤ _; omega⟩
def hP : Prg := ⟨[], [[⟨25, 0, 0, 0, 0, 0⟩]]⟩
def iOk (x : Ins) : Bool := decide (-9223372036854775808 ≤ x.op) && decide (x.op < 9223372036854775808) && decide (-9223372036854775808 ≤ x.a) && decide (x.a < 9223372036854775808) && decide (-9223372036854775808 ≤ x.b) && decide (x.b < 9223372036854775808) && decide (-9223372036854775808 ≤ x.c) && decide (x.c < 9223372036854775808) && decide (-9223372036854775808 ≤ x.d) && decide (x.d < 9223372036854775808) && decide (x.k < 18446744073709551616)
theorem iOk_ok (x : Ins) (h : iOk x = true) : x.ok := by
  unfold iOk at h
  simp only [Bool.and_eq_true, decide_eq_true_eq] at h
  unfold Ins.ok
  omega
set_option maxRecDepth 20000 in
set_option maxHeartbeats 2000000 in
theorem halts_p (w : World) : Calls Try.prog 28 #[] w fun e w' => ∃ v, e = .returned v ∧ PArg w' v hP ∧ Ext w w' := by
  go_enter Try.func28, Try.ntmps28
  go_wp2_with fail
  have h1 := (St.start noB w).alloc #[Value.slice none 0 0, Value.slice (some ⟨w.heap.size + 1 + 1, 0, none⟩) 1 1] 35
  have h2 := h1.alloc #[Value.int IntKind.i64 25, Value.int IntKind.i64 0, Value.int IntKind.i64 0, Value.int IntKind.i64 0, Value.int IntKind.i64 0, Value.int IntKind.u64 0] 24
  have h3 := h2.alloc #[Value.slice (some ⟨w.heap.size + 1, 0, none⟩) 1 1] 51
  rw [← alloc_size, ← alloc_size] at h3
  refine bodyPost_ret_by (results_one rfl _ _ w.heap.size 35 _ (0, 0) _ rfl (h3.pull 2).blk Try.underlying35 rfl (by kernel_rfl)) rfl ?_
  exact ⟨_, rfl, one_arg (x := ⟨25, 0, 0, 0, 0, 0⟩) (h3.pull 1).blk h3.blk (iOk_ok _ rfl), h3.ends⟩
theorem rdTs_ok (l : List UInt8) : ∀ (n : Nat) (t : RS) (acc : List (List Ins)), t.at_ ≤ l.length → (∀ q ∈ acc, ∀ x ∈ q, x.ok) → ∀ q ∈ (rdTs l n t acc).1, ∀ x ∈ q, x.ok
  | 0, t, acc, h, ha => ha
  | n + 1, t, acc, h, ha => by
    unfold rdTs
    split
    · exact ha
    · exact rdTs_ok l n _ _ (rdT1_le l t h) (fun q hq => by
        rcases List.mem_append.1 hq with hq | hq
        · exact ha q hq
        · rw [List.mem_singleton.1 hq]; exact rdT1_ok l t h)
theorem rdRs_le (l : List UInt8) : ∀ (n : Nat) (t : RS) (acc : List Rng), t.at_ ≤ l.length → (rdRs l n t acc).2.at_ ≤ l.length
  | 0, t, acc, h => h
  | n + 1, t, acc, h => by
    unfold rdRs
    split
    · exact h
    · exact rdRs_le l n _ _ (rdR_le l t h)
theorem rdAll_some (l : List UInt8) (p : Prg) (h : rdAll l = some p) : writtenB p = true ∧ p.ok := by
  unfold rdAll rdFin at h
  split at h
  · cases h
  · rename_i hc
    cases Option.some.inj h
    simp only [Bool.or_eq_true, Bool.not_eq_true', not_or] at hc
    refine ⟨by simpa using hc.2, ?_⟩
    exact rdTs_ok l _ _ _ (rdB_le l _ (rdRs_le l _ _ _ (rdB_le l _ (Nat.zero_le _)))) (fun q hq => by cases hq)
theorem cread_p (s : ByteArray) (hs : s.size ≤ 140737488351232) (w : World) :
    Calls Try.prog 24 #[.string s] w fun e w' => (∃ v, e = .returned (.tuple #[v, .int .i64 (if (rdAll s.data.toList).isSome then 0 else 3)]) ∧ PArg w' v ((rdAll s.data.toList).getD ⟨[], []⟩)) ∧ Ext w w' := by
  refine (cread_any s hs w).mono ?_
  rintro e w' ⟨⟨A, B, ca, cb, n, m, p, he, hp, rfl, rfl, h1, h2, h3⟩, hx⟩
  refine ⟨⟨_, he, ?_⟩, hx⟩
  rw [← hp]
  cases hr : rdAll s.data.toList with
  | none =>
    rw [hr] at hp
    subst hp
    exact ⟨⟨A, B, ca, cb, rfl, h1, h2, h3⟩, (by intro l hl; cases hl), (by show 0 ≤ _; omega), (by show 0 ≤ _; omega), (by intro l hl; cases hl)⟩
  | some q =>
    rw [hr] at hp
    subst hp
    obtain ⟨hw, hok⟩ := rdAll_some _ _ hr
    obtain ⟨h8, h9⟩ := written_few _ hw
    exact ⟨⟨A, B, ca, cb, rfl, h1, h2, h3⟩, hok, (by omega), (by omega), fun l hl => by have := written_short2 _ hw l hl; omega⟩
def hS : ByteArray := ⟨#[0, 1, 1, 25, 0, 0, 0, 0, 0]⟩
def hS2 : ByteArray := ⟨#[0, 1, 1, 25, 0, 0, 0, 0, 0, 120]⟩
def bP : Prg := ⟨[], [[⟨26, 0, 0, 0, 0, 0⟩]]⟩
theorem hP_bytes : (⟨(prB hP).toArray⟩ : ByteArray) = hS := by
  simp only [prB, hP, thBy, insB, List.length_cons, List.length_nil, List.flatMap_cons, List.flatMap_nil]
  repeat rw [vb_small (by omega)]
  rfl
theorem hP_written : writtenB hP = true := by decide
theorem bP_written : writtenB bP = false := by decide
theorem rd_hS : rdAll hS.data.toList = some hP := by decide
theorem rd_hS2 : rdAll hS2.data.toList = none := by decide
theorem find_recv : findI ⟨#[114, 101, 99, 118]⟩ = 18 := by decide
theorem find_none : findI ⟨#[]⟩ = -1 := by decide
theorem name_send : nameOf 18 = ⟨#[115, 101, 110, 100]⟩ := by decide
theorem hS_x : hS ++ ⟨#[120]⟩ = hS2 := by decide
set_option maxRecDepth 20000 in
set_option maxHeartbeats 8000000 in
theorem cawake_any (w : World) :
    Calls Try.prog 9 #[] w fun e w' => e = .returned (.bool true) ∧ Ext w w' := by
  go_enter Try.func9, Try.ntmps9
  go_wp2_with fail
  refine (halts_p w).mono ?_
  rintro e w1 ⟨v1, rfl, a1, x1⟩
  go_wp2_with fail
  refine (cprint_p v1 hP w1 a1).mono ?_
  rintro e w2 ⟨rfl, x2⟩
  rw [hP_written, if_pos rfl, if_pos rfl, hP_bytes]
  clear a1
  have y2 := x1.trans x2
  clear x1 x2
  go_wp2_with fail
  refine (cread_p hS (by decide) w2).mono ?_
  rintro e w3 ⟨⟨v3, rfl, a3⟩, x3⟩
  rw [rd_hS] at a3 ⊢
  have y3 := y2.trans x3
  clear y2 x3
  change PArg w3 v3 hP at a3
  rw [show (if (some hP).isSome = true then (0 : Int) else 3) = 0 from rfl]
  obtain ⟨A, B, ca, cb, hv, _⟩ := a3.arg
  change v3 = .agg #[.slice A 0 ca, .slice B 1 cb] at hv
  subst hv
  have b3 := (St.start noB w3).alloc #[Value.slice A 0 ca, Value.slice B 1 cb] 35
  have hsx := hS_x
  have hsz : hS.size + 1 ≤ 9223372036854775807 := by decide
  go_wp2_with fail
  refine (cread_p hS2 (by decide) _).mono ?_
  rintro e w4 ⟨⟨v4, rfl, a4⟩, x4⟩
  rw [rd_hS2] at a4 ⊢
  rw [show (if (none : Option Prg).isSome = true then (0 : Int) else 3) = 3 from rfl]
  change PArg w4 v4 ⟨[], []⟩ at a4
  obtain ⟨A4, B4, c4, d4, hv, _⟩ := a4.arg
  change v4 = .agg #[.slice A4 0 c4, .slice B4 0 d4] at hv
  subst hv
  have b4 := (b3.ext x4)
  have y4 := y3.trans b4.ends
  have a3 := a3.ext b4.ends
  clear a4 hsx hsz x4 y3
  generalize w3.heap.size = g3 at b3 b4 ⊢
  have b5 := b4.alloc #[Value.slice A4 0 c4, Value.slice B4 0 d4] 35
  have b6 := b5.alloc #[Value.int IntKind.i64 26, Value.int IntKind.i64 0, Value.int IntKind.i64 0, Value.int IntKind.i64 0, Value.int IntKind.i64 0, Value.int IntKind.u64 0] 24
  rw [← alloc_size] at b6
  have b7 := b6.alloc #[Value.slice (some ⟨w4.heap.size + 1, 0, none⟩) 1 1] 51
  rw [← alloc_size, ← alloc_size] at b7
  have a7 := one_arg (x := ⟨26, 0, 0, 0, 0, 0⟩) (b7.pull 1).blk b7.blk (iOk_ok _ rfl)
  have HP := Lib.hid (cprint_p _ bP _ a7)
  rw [bP_written] at HP
  go_wp2_with fail
  refine HP.out.mono ?_
  rintro e w5 ⟨rfl, x5⟩
  rw [if_neg (show ¬ (false = true) by decide), if_neg (show ¬ (false = true) by decide)]
  have b8 : St noB w3 w5 [blkT g3 #[Value.slice A 0 ca, Value.slice B 1 cb] 35] := (b7.ext x5).drop.drop.drop
  have y5 : Ext w w5 := y4.trans (((((Mut.refl noB w4).alloc _).alloc _).alloc _).trans x5)
  have a5 := a3.ext (((((Mut.refl noB w4).alloc _).alloc _).alloc _).trans x5)
  clear b3 b4 b5 b6 b7 a7 HP x5 y4 a3
  go_wp2_with fail
  refine (find_any ⟨#[114, 101, 99, 118]⟩ (by rw [find_recv]; omega) w5).mono ?_
  rintro e w6 ⟨rfl, x6⟩
  rw [find_recv]
  go_wp2_with fail
  refine (find_any ⟨#[]⟩ (by rw [find_none]; omega) w6).mono ?_
  rintro e w7 ⟨rfl, x7⟩
  rw [find_none]
  have b9 := b8.ext (x6.trans x7)
  have a7 := a5.ext (x6.trans x7)
  have y7 := y5.trans (x6.trans x7)
  clear b8 a5 x6 x7 y5
  have hp0 := cell_of_heap b9.blk 0
  have hp1 := cell_of_heap b9.blk 1
  change w7.cell? _ = some (Value.slice A 0 ca) at hp0
  change w7.cell? _ = some (Value.slice B 1 cb) at hp1
  have hss : (hS == hS) = true := by decide
  have hsd : hS.toList = [0, 1, 1, 25, 0, 0, 0, 0, 0] := by rw [ByteArray.toList_eq]; rfl
  have h18 : Hid (nameOf 18 = ⟨#[115, 101, 110, 100]⟩) := Lib.hid name_send
  have hsd2 : (⟨#[115, 101, 110, 100]⟩ : ByteArray).toList = [115, 101, 110, 100] := by rw [ByteArray.toList_eq]
  go_wp2_with fail
  simp only [List.append]
  refine wp_region_ords (by kernel_rfl) 69 rfl [[],[0],[1],[2],[3,2],[2,4],[5,2],[6],[6,6],[7,8,8,6],[6,9],[10,9],[11],[12,11],[11,13],[14,11],[15],[16,15],[15,17],[18,15],[19],[20,19],[19,21],[22,19],[23],[24,23],[23,25],[26,23],[27],[27,28],[29,27],[30],[31,30],[30,32],[33,30],[34,34],[35,34],[34,36],[37,35],[38,38],[38,39],[40,39],[41,41],[42,41],[41,43],[44,42],[45,45],[45,46],[47,46],[48,48],[49,48],[48,50],[51,49],[52],[53,52,52],[52,54],[55,54],[56],[57,56,56],[58,56],[56,59],[60,58],[61,61],[62,62,61],[63,61],[64,64,61],[63,65,61],[61,66],[67,65,0,1,2,3,4,5,6,7,8,9,10,11,12,13,14,15,16,17,18,19,20,21,22,23,24,25,26,27,28,29,30,31,32,33,34,35,36,37,38,39,40,41,42,43,44,45,46,47,48,49,50,51,52,53,54,55,56,57,58,59,60,61,62,63,64,65,66,67]] (by kernel_rfl) (L := [List.range' 0 69, List.range' 0 7 ++ [8] ++ [7] ++ List.range' 9 60]) (by kernel_rfl) ?_
  intro o ho
  have hwd : Ext w7 w7.drew := (Mut.refl noB w7).drew
  have hp0d : w7.drew.cell? ⟨g3, 0, none⟩ = some (Value.slice A 0 ca) := hp0
  have hp1d : w7.drew.cell? ⟨g3, 1, none⟩ = some (Value.slice B 1 cb) := hp1
  generalize w7.drew = wd at hwd hp0d hp1d ⊢
  replace a7 := a7.ext hwd
  replace y7 := y7.trans hwd
  clear hp0 hp1 b9 hwd
  simp only [List.mem_cons, List.not_mem_nil, or_false] at ho
  rcases ho with rfl | rfl
  · refine wpl_text 69 rfl ?_
    go_wp2_with fail
    refine (halts_p wd).mono ?_
    rintro e w8 ⟨v8, rfl, a8, x8⟩
    have hq0 := x8.cell hp0d
    have hq1 := x8.cell hp1d
    go_wp2_with fail
    refine (same_any _ v8 hP hP w8 (a7.ext x8) a8).mono ?_
    rintro e w9 ⟨rfl, x9⟩
    rw [decide_eq_true (rfl : hP = hP)]
    have y9 := (y7.trans x8).trans x9
    clear hp0d hp1d hq0 hq1 a7 y7 a8 x8 x9 hss hsd
    go_wp2_with fail
    refine (name_any 18 (by omega) w9).mono ?_
    rintro e w10 ⟨rfl, x10⟩
    rw [h18.out]
    go_wp2_with (first
      | (go_at_call 13; refine (plain_any _ _).mono ?_; rintro e w11 ⟨rfl, rfl⟩)
      | (go_at_call 14; refine (seen_any _ _).mono ?_; rintro e w11 ⟨rfl, rfl⟩))
    refine (right_any 15 0 0 0 0 256 (by omega) _).mono ?_
    rintro e w12 ⟨rfl, x12⟩
    rw [show rightB 15 0 0 0 0 256 = true from by decide]
    go_wp2_with fail
    refine (right_any 15 0 0 0 0 257 (by omega) _).mono ?_
    rintro e w13 ⟨rfl, x13⟩
    rw [show rightB 15 0 0 0 0 257 = false from by decide]
    go_wp2_with fail
    refine (halts_p w13).mono ?_
    rintro e w14 ⟨v14, rfl, a14, x14⟩
    go_wp2_with fail
    refine (cdigest_p _ hP _ a14).mono ?_
    rintro e w15 ⟨rfl, x15⟩
    go_wp2_with fail
    refine (halts_p w15).mono ?_
    rintro e w16 ⟨v16, rfl, a16, x16⟩
    go_wp2_with fail
    refine (rdigest_p _ hP _ a16).mono ?_
    rintro e w17 ⟨rfl, x17⟩
    have hee : (((digB hP : Nat) : Int) == ((digB hP : Nat) : Int)) = true := by simp
    generalize digB hP = dd at *
    go_wp2_with fail
    go_ret
    exact ⟨by simp, y9.trans (x10.trans (x12.trans (x13.trans (x14.trans (x15.trans (x16.trans x17))))))⟩
  · refine wpl_swap 7 60 rfl ?_
    simp only [List.take_succ_cons, List.take_zero, List.drop_succ_cons, List.drop_zero, List.cons_append, List.nil_append]
    go_wp2_with fail
    refine (halts_p wd).mono ?_
    rintro e w8 ⟨v8, rfl, a8, x8⟩
    have hq0 := x8.cell hp0d
    have hq1 := x8.cell hp1d
    go_wp2_with fail
    refine (same_any _ v8 hP hP w8 (a7.ext x8) a8).mono ?_
    rintro e w9 ⟨rfl, x9⟩
    rw [decide_eq_true (rfl : hP = hP)]
    have y9 := (y7.trans x8).trans x9
    clear hp0d hp1d hq0 hq1 a7 y7 a8 x8 x9 hss hsd
    go_wp2_with fail
    refine (name_any 18 (by omega) w9).mono ?_
    rintro e w10 ⟨rfl, x10⟩
    rw [h18.out]
    go_wp2_with (first
      | (go_at_call 13; refine (plain_any _ _).mono ?_; rintro e w11 ⟨rfl, rfl⟩)
      | (go_at_call 14; refine (seen_any _ _).mono ?_; rintro e w11 ⟨rfl, rfl⟩))
    refine (right_any 15 0 0 0 0 256 (by omega) _).mono ?_
    rintro e w12 ⟨rfl, x12⟩
    rw [show rightB 15 0 0 0 0 256 = true from by decide]
    go_wp2_with fail
    refine (right_any 15 0 0 0 0 257 (by omega) _).mono ?_
    rintro e w13 ⟨rfl, x13⟩
    rw [show rightB 15 0 0 0 0 257 = false from by decide]
    go_wp2_with fail
    refine (halts_p w13).mono ?_
    rintro e w14 ⟨v14, rfl, a14, x14⟩
    go_wp2_with fail
    refine (cdigest_p _ hP _ a14).mono ?_
    rintro e w15 ⟨rfl, x15⟩
    go_wp2_with fail
    refine (halts_p w15).mono ?_
    rintro e w16 ⟨v16, rfl, a16, x16⟩
    go_wp2_with fail
    refine (rdigest_p _ hP _ a16).mono ?_
    rintro e w17 ⟨rfl, x17⟩
    have hee : (((digB hP : Nat) : Int) == ((digB hP : Nat) : Int)) = true := by simp
    generalize digB hP = dd at *
    go_wp2_with fail
    go_ret
    exact ⟨by simp, y9.trans (x10.trans (x12.trans (x13.trans (x14.trans (x15.trans (x16.trans x17))))))⟩
end Go.Proofs.Ytklkboibpglhjaa

/- Layer 9: programs and instructions that came in. -/
namespace Go.Proofs.Ytklkboibpglhjaa
open Go.RowKit Go.ChangeShapes Go.WideShapes Go.Deep
set_option linter.unusedVariables false
set_option linter.unusedSimpArgs false
/-- an instruction that came in -/
def IArg (v : Value) (x : Ins) : Prop := v = instrV x.op x.a x.b x.c x.d x.k ∧ x.ok
def repInstr (x : Ins) (cs : List Value) : Prop := cs = insC x ∧ x.ok
def repRing (x : Rng) (cs : List Value) : Prop := cs = rngC x
section
variable {H : Type} {enc : TypeId × Value → H} {w : World} {base : Nat} {spare : Nat → Bool} {held : Bool}
theorem list_six {cs : List Value} {v0 v1 v2 v3 v4 v5 : Value} (hl : cs.length = 6) (h0 : cs[0]? = some v0) (h1 : cs[1]? = some v1) (h2 : cs[2]? = some v2) (h3 : cs[3]? = some v3) (h4 : cs[4]? = some v4) (h5 : cs[5]? = some v5) : cs = [v0, v1, v2, v3, v4, v5] := by
  apply List.ext_getElem?
  intro i
  rcases Nat.lt_or_ge i 6 with hi | hi
  · have : i = 0 ∨ i = 1 ∨ i = 2 ∨ i = 3 ∨ i = 4 ∨ i = 5 := by omega
    rcases this with rfl | rfl | rfl | rfl | rfl | rfl <;> first | exact h0 | exact h1 | exact h2 | exact h3 | exact h4 | exact h5
  · rw [List.getElem?_eq_none (by omega), List.getElem?_eq_none (by simpa using hi)]
theorem list_three {cs : List Value} {v0 v1 v2 : Value} (hl : cs.length = 3) (h0 : cs[0]? = some v0) (h1 : cs[1]? = some v1) (h2 : cs[2]? = some v2) : cs = [v0, v1, v2] := by
  apply List.ext_getElem?
  intro i
  rcases Nat.lt_or_ge i 3 with hi | hi
  · have : i = 0 ∨ i = 1 ∨ i = 2 := by omega
    rcases this with rfl | rfl | rfl <;> first | exact h0 | exact h1 | exact h2
  · rw [List.getElem?_eq_none (by omega), List.getElem?_eq_none (by simpa using hi)]
theorem repInstr_of {e : TypeId} {fs : Array Field} (hs : Try.prog.underlying e = some (.struct fs)) (hone : oneCellFields Try.prog fs = true) (hC : Try.prog.cellsOf e = fs.size) (hf : (fs.toList.map fun f => Try.prog.underlying f.type) = [some (.int .i64), some (.int .i64), some (.int .i64), some (.int .i64), some (.int .i64), some (.int .u64)])
    (n : Nat) (cs : List Value) (y : DataW H × List MemPlace) (_ : cs.length = 6) (h : DataW.trod enc Try.prog w base spare held n e cs = some y) : ∃ a, repInstr a cs := by
  have hn : fs.size = 6 := by have := congrArg List.length hf; simpa using this
  obtain ⟨hlen, hfs⟩ := cells_of_struct hs hone hC h
  have hu : ∀ (j : Nat) (f : Field), fs[j]? = some f → (fs.toList.map fun f => Try.prog.underlying f.type)[j]? = some (Try.prog.underlying f.type) := fun j f hj => by simp [hj]
  have get : ∀ (j : Nat), j < 6 → ∃ f, fs[j]? = some f := fun j hj => ⟨fs[j]'(by omega), Array.getElem?_eq_getElem (by omega)⟩
  obtain ⟨f0, e0⟩ := get 0 (by decide)
  obtain ⟨f1, e1⟩ := get 1 (by decide)
  obtain ⟨f2, e2⟩ := get 2 (by decide)
  obtain ⟨f3, e3⟩ := get 3 (by decide)
  obtain ⟨f4, e4⟩ := get 4 (by decide)
  obtain ⟨f5, e5⟩ := get 5 (by decide)
  have u0 := hu 0 f0 e0
  have u1 := hu 1 f1 e1
  have u2 := hu 2 f2 e2
  have u3 := hu 3 f3 e3
  have u4 := hu 4 f4 e4
  have u5 := hu 5 f5 e5
  rw [hf] at u0 u1 u2 u3 u4 u5
  obtain ⟨x0, y0, n0, c0, t0⟩ := hfs 0 f0 e0
  obtain ⟨x1, y1, n1, c1, t1⟩ := hfs 1 f1 e1
  obtain ⟨x2, y2, n2, c2, t2⟩ := hfs 2 f2 e2
  obtain ⟨x3, y3, n3, c3, t3⟩ := hfs 3 f3 e3
  obtain ⟨x4, y4, n4, c4, t4⟩ := hfs 4 f4 e4
  obtain ⟨x5, y5, n5, c5, t5⟩ := hfs 5 f5 e5
  obtain ⟨a0, r0, _, w0⟩ := DataW.trod_int (Option.some.inj u0).symm t0
  obtain ⟨a1, r1, _, w1⟩ := DataW.trod_int (Option.some.inj u1).symm t1
  obtain ⟨a2, r2, _, w2⟩ := DataW.trod_int (Option.some.inj u2).symm t2
  obtain ⟨a3, r3, _, w3⟩ := DataW.trod_int (Option.some.inj u3).symm t3
  obtain ⟨a4, r4, _, w4⟩ := DataW.trod_int (Option.some.inj u4).symm t4
  obtain ⟨a5, r5, _, w5⟩ := DataW.trod_int (Option.some.inj u5).symm t5
  obtain ⟨k, rfl, hk⟩ := wf_u64 w5
  rw [(List.cons.inj r0).1] at c0
  rw [(List.cons.inj r1).1] at c1
  rw [(List.cons.inj r2).1] at c2
  rw [(List.cons.inj r3).1] at c3
  rw [(List.cons.inj r4).1] at c4
  rw [(List.cons.inj r5).1] at c5
  exact ⟨⟨a0, a1, a2, a3, a4, k⟩, list_six (by omega) c0 c1 c2 c3 c4 c5, wf_i64 w0, wf_i64 w1, wf_i64 w2, wf_i64 w3, wf_i64 w4, hk⟩
theorem repRing_of {e : TypeId} {fs : Array Field} (hs : Try.prog.underlying e = some (.struct fs)) (hone : oneCellFields Try.prog fs = true) (hC : Try.prog.cellsOf e = fs.size) (hf : (fs.toList.map fun f => Try.prog.underlying f.type) = [some (.int .i64), some (.int .i64), some (.int .i64)])
    (n : Nat) (cs : List Value) (y : DataW H × List MemPlace) (_ : cs.length = 3) (h : DataW.trod enc Try.prog w base spare held n e cs = some y) : ∃ a, repRing a cs := by
  have hn : fs.size = 3 := by have := congrArg List.length hf; simpa using this
  obtain ⟨hlen, hfs⟩ := cells_of_struct hs hone hC h
  have hu : ∀ (j : Nat) (f : Field), fs[j]? = some f → (fs.toList.map fun f => Try.prog.underlying f.type)[j]? = some (Try.prog.underlying f.type) := fun j f hj => by simp [hj]
  have get : ∀ (j : Nat), j < 3 → ∃ f, fs[j]? = some f := fun j hj => ⟨fs[j]'(by omega), Array.getElem?_eq_getElem (by omega)⟩
  obtain ⟨f0, e0⟩ := get 0 (by decide)
  obtain ⟨f1, e1⟩ := get 1 (by decide)
  obtain ⟨f2, e2⟩ := get 2 (by decide)
  have u0 := hu 0 f0 e0
  have u1 := hu 1 f1 e1
  have u2 := hu 2 f2 e2
  rw [hf] at u0 u1 u2
  obtain ⟨x0, y0, n0, c0, t0⟩ := hfs 0 f0 e0
  obtain ⟨x1, y1, n1, c1, t1⟩ := hfs 1 f1 e1
  obtain ⟨x2, y2, n2, c2, t2⟩ := hfs 2 f2 e2
  obtain ⟨a0, r0, _, w0⟩ := DataW.trod_int (Option.some.inj u0).symm t0
  obtain ⟨a1, r1, _, w1⟩ := DataW.trod_int (Option.some.inj u1).symm t1
  obtain ⟨a2, r2, _, w2⟩ := DataW.trod_int (Option.some.inj u2).symm t2
  rw [(List.cons.inj r0).1] at c0
  rw [(List.cons.inj r1).1] at c1
  rw [(List.cons.inj r2).1] at c2
  exact ⟨⟨a0, a1, a2⟩, list_three (by omega) c0 c1 c2⟩
theorem arg_instr {r : Reach} {b0 : Nat} {v : Value} {d : DataW H} {p : List MemPlace} (hv : Value.okWide Try.prog w r b0 24 v) (h : DataW.Trod enc Try.prog w base spare held 24 v d p) : ∃ x, IArg v x := by
  obtain ⟨cs, rfl, hsz⟩ := okWide_struct Try.underlying24 hv
  obtain ⟨fuel, hf⟩ := h
  have hsz6 : cs.size = 6 := hsz.trans (by kernel_rfl)
  obtain ⟨x, hx, hok⟩ := repInstr_of Try.underlying24 (by kernel_rfl) (by kernel_rfl) (by kernel_rfl) fuel cs.toList _ (by simpa using hsz6) (by simpa [Value.cells] using hf)
  refine ⟨x, ?_, hok⟩
  obtain ⟨l⟩ := cs
  simp only at hx
  subst hx; rfl
theorem slice_form {t e : TypeId} {fuel : Nat} {cs : List Value} {x : DataW H × List MemPlace} (ht : Try.prog.underlying t = some (.slice e)) (h : DataW.trod enc Try.prog w base spare held fuel t cs = some x) : ∃ A len cap, cs = [.slice A len cap] ∧ len ≤ cap := by
  rcases open_slice ht h with ⟨rfl, _⟩ | ⟨a, len, cap, m, n, D, Pl, rfl, hb, hl, _⟩
  · exact ⟨none, 0, 0, rfl, Nat.le_refl _⟩
  · exact ⟨some a, len, cap, rfl, hl⟩
theorem ArgRow.all {α : Type} {rep : α → List Value → Prop} {size : Nat} {A : Option Addr} {len : Nat} {l : List α} (h : ArgRow rep size w A len l) (Q : α → Prop) (hQ : ∀ a cs, rep a cs → Q a) : ∀ a ∈ l, Q a := by
  intro a ha
  rcases h.2 with h2 | ⟨b, off, hA, hc⟩
  · have := h.1
    have hn : l = [] := List.eq_nil_of_length_eq_zero (by omega)
    rw [hn] at ha; cases ha
  · obtain ⟨i, hi, rfl⟩ := List.getElem_of_mem ha
    obtain ⟨cs, h1, _⟩ := hc i l[i] (List.getElem?_eq_getElem hi)
    exact hQ _ _ h1
/-- a thread that came in -/
def repThread (w : World) (l : List Ins) (cs : List Value) : Prop := ∃ A c, cs = [.slice A l.length c] ∧ GRow 6 insC w A l ∧ l.length ≤ c ∧ l.length ≤ maxLen ∧ ∀ x ∈ l, x.ok
theorem repThread_of (n : Nat) (cs : List Value) (y : DataW H × List MemPlace) (_ : cs.length = 1) (h : DataW.trod enc Try.prog w base spare held n 51 cs = some y) : ∃ l, repThread w l cs := by
  obtain ⟨A, len, cap, rfl, hle⟩ := slice_form Try.underlying51 h
  obtain ⟨l, hl, hm⟩ := arg_of_trod repInstr 6 Try.underlying51 (by kernel_rfl) (by decide) (fun n cs y hc h => repInstr_of Try.underlying24 (by kernel_rfl) (by kernel_rfl) (by kernel_rfl) n cs y hc h) h
  have h1 := hl.1
  exact ⟨l, A, cap, by rw [h1], ArgRow.grow (fun a cs h => h.1) hl, by omega, by unfold maxLen; omega, ArgRow.all hl Ins.ok (fun a cs h => h.2)⟩
theorem arg_prog {r : Reach} {b0 : Nat} {v : Value} {d : DataW H} {p : List MemPlace} (hv : Value.okWide Try.prog w r b0 35 v) (h : DataW.Trod enc Try.prog w base spare held 35 v d p) : ∃ x, PArg w v x := by
  obtain ⟨cs, rfl, hsz⟩ := okWide_struct Try.underlying35 hv
  obtain ⟨fuel, hf⟩ := h
  have hsz2 : cs.size = 2 := hsz.trans (by kernel_rfl)
  obtain ⟨hlen, hfs⟩ := cells_of_struct Try.underlying35 (by kernel_rfl) (by kernel_rfl) (show DataW.trod enc Try.prog w base spare held fuel 35 cs.toList = some _ by simpa [Value.cells] using hf)
  obtain ⟨x0, y0, n0, c0, t0⟩ := hfs 0 _ rfl
  obtain ⟨x1, y1, n1, c1, t1⟩ := hfs 1 _ rfl
  obtain ⟨A, n, ca, e0, h0⟩ := slice_form Try.underlying32 t0
  obtain ⟨B, m, cb, e1, h1⟩ := slice_form Try.underlying33 t1
  obtain rfl := (List.cons.inj e0).1
  obtain rfl := (List.cons.inj e1).1
  obtain ⟨l, hl, hm⟩ := arg_of_trod repRing 3 Try.underlying32 (by kernel_rfl) (by decide) (fun n cs y hc h => repRing_of Try.underlying70 (by kernel_rfl) (by kernel_rfl) (by kernel_rfl) n cs y hc h) t0
  obtain ⟨ts, ht, htm⟩ := arg_of_trod (repThread w) 1 Try.underlying33 (by kernel_rfl) (by decide) (fun n cs y hc h => repThread_of n cs y hc h) t1
  have hcs : cs = #[.slice A n ca, .slice B m cb] := by
    obtain ⟨l⟩ := cs
    congr 1
    simp only at c0 c1
    have hl2 : l.length = 2 := by simpa using hsz2
    apply List.ext_getElem?
    intro i
    rcases Nat.lt_or_ge i 2 with hi | hi
    · have : i = 0 ∨ i = 1 := by omega
      rcases this with rfl | rfl
      · exact c0
      · exact c1
    · rw [List.getElem?_eq_none (by omega), List.getElem?_eq_none (by simpa using hi)]
  subst hcs
  have e1 := hl.1
  have e2 := ht.1
  subst e1 e2
  refine ⟨⟨l, ts⟩, ⟨A, B, ca, cb, rfl, h0, h1, ArgRow.grow (fun a cs h => h) hl, ?_⟩, ?_, hm, htm, ?_⟩
  · intro i hi
    have hi : i < ts.length := hi
    rcases ht.2 with h2 | ⟨b, off, hA, hc⟩
    · omega
    · obtain ⟨cs, ⟨A2, c2, rfl, g1, g2, g3, _⟩, h2, h3⟩ := hc i ts[i] (List.getElem?_eq_getElem hi)
      have hg : ts.getD i [] = ts[i] := by rw [List.getD_eq_getElem?_getD, List.getElem?_eq_getElem hi]; rfl
      refine ⟨b, off, hA, A2, c2, ?_, ?_⟩
      · show w.cell? ⟨b, off + i, none⟩ = some (.slice A2 (ts.getD i []).length c2)
        rw [hg]; simpa using h3 0 _ rfl
      · show GRow 6 insC w A2 (ts.getD i []) ∧ (ts.getD i []).length ≤ c2 ∧ (ts.getD i []).length ≤ maxLen
        rw [hg]; exact ⟨g1, g2, g3⟩
  · intro q hq
    exact ArgRow.all ht (fun q => ∀ x ∈ q, x.ok) (fun a cs ⟨_, _, _, _, _, _, h⟩ => h) q hq
  · intro q hq
    exact ArgRow.all ht (fun q => q.length ≤ 9223372036854775807) (fun a cs ⟨_, _, _, _, _, h, _⟩ => by unfold maxLen at h; exact h) q hq
end
end Go.Proofs.Ytklkboibpglhjaa
