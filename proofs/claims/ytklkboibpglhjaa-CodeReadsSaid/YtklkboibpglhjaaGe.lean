/- Texts of this work, put together: CRefs4, CBack. -/
import Derived.Test.YtklkboibpglhjaaGd
/- Layer 9: the document's Copy. -/
namespace Go.Proofs.Ytklkboibpglhjaa
open Go.RowKit Go.WideShapes Go.Proofs.YtklkboibpglhjaaW.PrintWords Go.Proofs.YtklkboibpglhjaaW.PrintLast Go.Proofs.YtklkboibpglhjaaW.PrintMore
set_option linter.unusedVariables false
set_option linter.unusedSimpArgs false
theorem spot_none {w : World} {ad : Addr} {v : Value} (h : w.cell? (ad.add 0) = some v) : ∃ b off, ad = ⟨b, off, none⟩ := by
  obtain ⟨b, off, spot⟩ := ad
  have := World.cell?_spot' (w := w) (b := b) (off := off) (spot := spot) (v := v) (by simpa [Addr.add] using h)
  exact ⟨b, off, by rw [this]⟩
theorem spot_row {w : World} {ad : Addr} {α : Type} {R : α → List Value → Prop} {size : Nat} {ps : List α} (hs : 0 < size) (hp : 0 < ps.length) (hc : ∀ j p, ps[j]? = some p → ∃ c, c.length = size ∧ R p c ∧ ∀ i u, c[i]? = some u → w.cell? (ad.add (j * size + i)) = some u) : ∃ b off, ad = ⟨b, off, none⟩ := by
  obtain ⟨c, hl, _, h⟩ := hc 0 ps[0] (List.getElem?_eq_getElem hp)
  have := h 0 c[0] (List.getElem?_eq_getElem (by omega))
  rw [Nat.zero_mul, Nat.zero_add] at this
  exact spot_none this
theorem kdR_back {w : World} {A : Option Addr} {l : List Rng} (h : Kd.C PRef.k70 w A (l.map toR).length (l.map toR)) : GRow 3 rngC w A l := by
  obtain ⟨_, _, h⟩ := h
  intro i hi
  obtain ⟨ad, rfl, hc⟩ := h (by rw [List.length_map]; omega)
  obtain ⟨b, off, rfl⟩ := spot_row (by decide) (by rw [List.length_map]; omega) hc
  obtain ⟨c, hl, hk, hcell⟩ := hc i (toR (l.getD i default)) (by rw [List.getElem?_map, List.getD_eq_getElem?_getD, List.getElem?_eq_getElem hi]; rfl)
  have he := PRef.k70_open hk
  subst he
  refine ⟨b, off, rfl, fun j v hj => ?_⟩
  have := hcell j v hj
  rw [Go.WideShapes.add_plain, ← Nat.add_assoc] at this
  exact this
theorem kdI_back {w : World} {A : Option Addr} {l : List Ins} (h : Kd.C PRef.k24 w A (l.map toI).length (l.map toI)) : GRow 6 insC w A l := by
  obtain ⟨_, _, h⟩ := h
  intro i hi
  obtain ⟨ad, rfl, hc⟩ := h (by rw [List.length_map]; omega)
  obtain ⟨b, off, rfl⟩ := spot_row (by decide) (by rw [List.length_map]; omega) hc
  obtain ⟨c, hl, hk, hcell⟩ := hc i (toI (l.getD i default)) (by rw [List.getElem?_map, List.getD_eq_getElem?_getD, List.getElem?_eq_getElem hi]; rfl)
  have he := PRef.k24_open hk
  subst he
  refine ⟨b, off, rfl, fun j v hj => ?_⟩
  have := hcell j v hj
  rw [Go.WideShapes.add_plain, ← Nat.add_assoc] at this
  exact this
theorem kdT_back {w : World} {B : Option Addr} {ts : List (List Ins)} (h : Kd.C (Kd.slice 24 PRef.k24) w B (toT ts).length (toT ts)) : TRow w B ts := by
  obtain ⟨_, _, h⟩ := h
  intro i hi
  obtain ⟨ad, rfl, hc⟩ := h (by rw [List.length_map]; omega)
  obtain ⟨b, off, rfl⟩ := spot_row (by decide) (by rw [List.length_map]; omega) hc
  obtain ⟨c, hl, hk, hcell⟩ := hc i ((ts.getD i []).map toI) (by rw [List.getElem?_map, List.getD_eq_getElem?_getD, List.getElem?_eq_getElem hi]; rfl)
  obtain ⟨A, cp, rfl, hlc, hC⟩ := hk
  have h0 := hcell 0 _ rfl
  rw [Go.WideShapes.add_plain, show (Kd.slice 24 PRef.k24).sz = 1 from rfl, List.length_map] at h0
  have hm := hC.2.1
  rw [List.length_map] at hlc hm
  exact ⟨b, off, rfl, A, cp, by simpa using h0, kdI_back hC, hlc, by unfold maxLen; exact hm⟩
/-! a copy -/
theorem copy_l0 (R : List PRef.S70) (ts : List (List Ins)) (hl : ∀ l ∈ ts, l.length < 2932031007402) (hts : ts.length < 5864062014805) (Ra : List PRef.S70) : ∀ (d i : Nat), i + d = ts.length →
    Ev' (fun k => PRef.rondeauref09_Copy.l0 k i R (toT ts) Ra (toT (ts.take i))) (Ra, toT ts)
  | 0, i, hi => by
    refine Ev'.step (h := fun _ => some (Ra, toT ts)) (fun k => ?_) (Ev'.const _)
    rw [PRef.rondeauref09_Copy.l0, if_neg (by rw [List.length_map]; omega), List.take_of_length_le (by omega)]
  | d + 1, i, hi => by
    have hil : i < ts.length := by omega
    have ih := copy_l0 R ts hl hts Ra d (i + 1) (by omega)
    have hlen := hl _ (getD_mem ts i hil)
    change (ts.getD i []).length < _ at hlen
    refine Ev'.step (fun k => ?_) ih
    rw [PRef.rondeauref09_Copy.l0, if_pos (by rw [List.length_map]; omega), Option.bind_some, if_pos (by omega), rdL4 ts i hil, if_pos (by rw [List.length_map]; show 0 + _ < _; omega), if_pos (by rw [List.length_map, List.length_take]; omega), w64 i (by omega), List.nil_append]
    congr 1
    show (ts.take i).map (·.map toI) ++ [(ts.getD i []).map toI] = (ts.take (i + 1)).map (·.map toI)
    rw [List.take_succ_eq_append_getElem hil, List.map_append, List.getD_eq_getElem?_getD, List.getElem?_eq_getElem hil]
    rfl
theorem ev_copy (p : Prg) (hr : p.rings.length < 5864062014805) (hts : p.ths.length < 5864062014805) (hl : ∀ l ∈ p.ths, l.length < 2932031007402) :
    Ev' (fun k => PRef.rondeauref09_Copy.f k (p.rings.map toR) (toT p.ths)) (p.rings.map toR, toT p.ths) := by
  have h0 := copy_l0 (p.rings.map toR) p.ths hl hts (p.rings.map toR) p.ths.length 0 (by omega)
  refine Ev'.same (fun k => ?_) h0
  unfold PRef.rondeauref09_Copy.f
  rw [Option.bind_some, if_pos (by simp; omega), List.nil_append, List.take_zero]
  rfl
theorem copy_p (v : Value) (p : Prg) (w : World) (h : PArg w v p) (hr : p.rings.length < 5864062014805) (hts : p.ths.length < 5864062014805) (hl : ∀ l ∈ p.ths, l.length < 2932031007402) :
    Calls Try.prog 19 #[v] w fun e w' => ∃ u, e = .returned u ∧ PArg w' u p ∧ Ext w w' := by
  obtain ⟨k, hk⟩ := (ev_copy p hr hts hl).get
  have hok := h.ok
  have h8 := h.nr
  have h9 := h.nt
  have h10 := h.nl
  obtain ⟨A, B, ca, cb, rfl, h1, h2, h3⟩ := h.arg
  have := PRef.rondeauref09_Copy.calls k A ca (p.rings.map toR) B cb (toT p.ths) _ _ w (kdR h3.rg (by omega)) (by simpa using h1) (kdT h3.th (by omega)) (by simpa using h2) hk
  rw [List.length_map, List.length_map] at this
  refine this.mono ?_
  rintro e w' ⟨v0, v1, rfl, hR, hS, hb⟩
  obtain ⟨A2, c2, rfl, g1, g2⟩ := Kd.R_reads hR
  obtain ⟨B2, d2, rfl, g3, g4⟩ := Kd.S_reads hS
  have e1 : (p.rings.map toR).length = p.rings.length := by simp
  have e2 : (toT p.ths).length = p.ths.length := by simp
  refine ⟨_, rfl, ⟨⟨A2, B2, c2, d2, by rw [e1, e2], by omega, by omega, kdR_back g2, kdT_back g4⟩, hok, h8, h9, h10⟩, Ext.of_below hb⟩
end Go.Proofs.Ytklkboibpglhjaa

/- Layer 9: what is printed is read as it was: plain. -/
namespace Go.Proofs.Ytklkboibpglhjaa
set_option linter.unusedVariables false
set_option linter.unusedSimpArgs false
theorem by8_nat (x : Int) (h : 0 ≤ x ∧ x ≤ 255) : ((by8 x).toNat : Int) = x := by
  unfold by8
  have h1 : (x % 256).toNat < 256 := by omega
  rw [UInt8.toNat_ofNat', Nat.mod_eq_of_lt h1]
  omega
theorem rdB_at (pre q : List UInt8) (c : UInt8) : rdB (pre ++ c :: q) ⟨pre.length, false⟩ = (c.toNat, ⟨pre.length + 1, false⟩) := by
  unfold rdB
  have h1 : (pre ++ c :: q).getD pre.length 0 = c := by rw [List.getD_eq_getElem?_getD, List.getElem?_append_right (Nat.le_refl _)]; simp
  have h2 : pre.length < (pre ++ c :: q).length := by simp
  simp only [h1]
  rw [Nat.min_eq_left (by omega), decide_eq_false (by omega)]; rfl
theorem rdN_at (pre q : List UInt8) (n : Nat) (hn : n < 18446744073709551616) : rdN (pre ++ (vb n ++ q)) ⟨pre.length, false⟩ = (n, ⟨pre.length + (vb n).length, false⟩) := by
  unfold rdN
  rw [← List.append_assoc, vrd_vb pre q n hn]; rfl
theorem rdB_at' (pre q : List UInt8) (x : Int) (h : 0 ≤ x ∧ x ≤ 255) (k : Nat) (hk : k = pre.length) : (((rdB (pre ++ by8 x :: q) ⟨k, false⟩).1 : Nat) : Int) = x ∧ (rdB (pre ++ by8 x :: q) ⟨k, false⟩).2 = ⟨k + 1, false⟩ := by
  subst hk
  rw [rdB_at]; exact ⟨by8_nat x h, rfl⟩
/-- small numbers -/
def Ins.small (x : Ins) : Prop := (0 ≤ x.op ∧ x.op ≤ 255) ∧ (0 ≤ x.a ∧ x.a ≤ 255) ∧ (0 ≤ x.b ∧ x.b ≤ 255) ∧ (0 ≤ x.c ∧ x.c ≤ 255) ∧ (0 ≤ x.d ∧ x.d ≤ 255) ∧ x.k < 18446744073709551616
theorem rdI_at (pre q : List UInt8) (x : Ins) (h : x.small) : rdI (pre ++ (insB x ++ q)) ⟨pre.length, false⟩ = (x, ⟨pre.length + (insB x).length, false⟩) := by
  obtain ⟨op, a, b, c, d, k⟩ := x
  obtain ⟨h0, h1, h2, h3, h4, h5⟩ := h
  simp only at h0 h1 h2 h3 h4 h5
  have e0 : pre ++ (insB ⟨op, a, b, c, d, k⟩ ++ q) = pre ++ by8 op :: (by8 a :: by8 b :: by8 c :: by8 d :: (vb k ++ q)) := by simp [insB]
  have e1 : pre ++ (insB ⟨op, a, b, c, d, k⟩ ++ q) = (pre ++ [by8 op]) ++ by8 a :: (by8 b :: by8 c :: by8 d :: (vb k ++ q)) := by simp [insB]
  have e2 : pre ++ (insB ⟨op, a, b, c, d, k⟩ ++ q) = (pre ++ [by8 op, by8 a]) ++ by8 b :: (by8 c :: by8 d :: (vb k ++ q)) := by simp [insB]
  have e3 : pre ++ (insB ⟨op, a, b, c, d, k⟩ ++ q) = (pre ++ [by8 op, by8 a, by8 b]) ++ by8 c :: (by8 d :: (vb k ++ q)) := by simp [insB]
  have e4 : pre ++ (insB ⟨op, a, b, c, d, k⟩ ++ q) = (pre ++ [by8 op, by8 a, by8 b, by8 c]) ++ by8 d :: (vb k ++ q) := by simp [insB]
  have e5 : pre ++ (insB ⟨op, a, b, c, d, k⟩ ++ q) = (pre ++ [by8 op, by8 a, by8 b, by8 c, by8 d]) ++ (vb k ++ q) := by simp [insB]
  generalize hL : pre ++ (insB ⟨op, a, b, c, d, k⟩ ++ q) = L at *
  have r0 := rdB_at' pre (by8 a :: by8 b :: by8 c :: by8 d :: (vb k ++ q)) op h0 pre.length rfl
  have r1 := rdB_at' (pre ++ [by8 op]) (by8 b :: by8 c :: by8 d :: (vb k ++ q)) a h1 (pre.length + 1) (by simp)
  have r2 := rdB_at' (pre ++ [by8 op, by8 a]) (by8 c :: by8 d :: (vb k ++ q)) b h2 (pre.length + 1 + 1) (by simp)
  have r3 := rdB_at' (pre ++ [by8 op, by8 a, by8 b]) (by8 d :: (vb k ++ q)) c h3 (pre.length + 1 + 1 + 1) (by simp)
  have r4 := rdB_at' (pre ++ [by8 op, by8 a, by8 b, by8 c]) (vb k ++ q) d h4 (pre.length + 1 + 1 + 1 + 1) (by simp)
  have r5 := rdN_at (pre ++ [by8 op, by8 a, by8 b, by8 c, by8 d]) q k h5
  rw [← e0] at r0
  rw [← e1] at r1
  rw [← e2] at r2
  rw [← e3] at r3
  rw [← e4] at r4
  rw [← e5, show (pre ++ [by8 op, by8 a, by8 b, by8 c, by8 d]).length = pre.length + 1 + 1 + 1 + 1 + 1 by simp] at r5
  unfold rdI
  simp only
  rw [r0.2, r1.2, r2.2, r3.2, r4.2, r5, r0.1, r1.1, r2.1, r3.1, r4.1]
  simp [insB]
  omega
theorem rdIs_at (q : List UInt8) : ∀ (xs : List Ins) (pre : List UInt8) (acc : List Ins), (∀ x ∈ xs, x.small) → rdIs (pre ++ (xs.flatMap insB ++ q)) xs.length ⟨pre.length, false⟩ acc = (acc ++ xs, ⟨pre.length + (xs.flatMap insB).length, false⟩)
  | [], pre, acc, _ => by simp [rdIs]
  | x :: xs, pre, acc, h => by
    have hx := rdI_at pre (xs.flatMap insB ++ q) x (h x (by simp))
    have e : pre ++ ((x :: xs).flatMap insB ++ q) = pre ++ (insB x ++ (xs.flatMap insB ++ q)) := by simp
    have e2 : pre ++ ((x :: xs).flatMap insB ++ q) = (pre ++ insB x) ++ (xs.flatMap insB ++ q) := by simp
    rw [← e] at hx
    have ih := rdIs_at q xs (pre ++ insB x) (acc ++ [x]) (fun y hy => h y (by simp [hy]))
    rw [← e2] at ih
    rw [List.length_cons, rdIs_go, hx]
    simp only
    rw [List.length_append] at ih
    rw [ih]
    simp; omega
theorem rdT1_at (pre q : List UInt8) (xs : List Ins) (hl : xs.length ≤ 256) (h : ∀ x ∈ xs, x.small) : rdT1 (pre ++ (thBy xs ++ q)) ⟨pre.length, false⟩ = (xs, ⟨pre.length + (thBy xs).length, false⟩) := by
  unfold rdT1
  have h1 := rdN_at pre (xs.flatMap insB ++ q) xs.length (by omega)
  have e : pre ++ (thBy xs ++ q) = pre ++ (vb xs.length ++ (xs.flatMap insB ++ q)) := by simp [thBy]
  have e2 : pre ++ (thBy xs ++ q) = (pre ++ vb xs.length) ++ (xs.flatMap insB ++ q) := by simp [thBy]
  rw [← e] at h1
  rw [h1]
  simp only
  rw [decide_eq_false (by omega)]
  have h2 := rdIs_at q xs (pre ++ vb xs.length) [] h
  rw [← e2, List.length_append] at h2
  rw [Bool.or_false, h2]
  simp [thBy]; omega
theorem rdTs_at (q : List UInt8) : ∀ (ts : List (List Ins)) (pre : List UInt8) (acc : List (List Ins)), (∀ l ∈ ts, l.length ≤ 256 ∧ ∀ x ∈ l, x.small) → rdTs (pre ++ (ts.flatMap thBy ++ q)) ts.length ⟨pre.length, false⟩ acc = (acc ++ ts, ⟨pre.length + (ts.flatMap thBy).length, false⟩)
  | [], pre, acc, _ => by simp [rdTs]
  | x :: xs, pre, acc, h => by
    have hx := rdT1_at pre (xs.flatMap thBy ++ q) x (h x (by simp)).1 (h x (by simp)).2
    have e : pre ++ ((x :: xs).flatMap thBy ++ q) = pre ++ (thBy x ++ (xs.flatMap thBy ++ q)) := by simp
    have e2 : pre ++ ((x :: xs).flatMap thBy ++ q) = (pre ++ thBy x) ++ (xs.flatMap thBy ++ q) := by simp
    rw [← e] at hx
    have ih := rdTs_at q xs (pre ++ thBy x) (acc ++ [x]) (fun y hy => h y (by simp [hy]))
    rw [← e2] at ih
    rw [List.length_cons, rdTs_go, hx]
    simp only
    rw [List.length_append] at ih
    rw [ih]
    simp; omega
theorem rdR_at (pre q : List UInt8) (x : Rng) (h : rngB x = true) : rdR (pre ++ (rngBy x ++ q)) ⟨pre.length, false⟩ = (x, ⟨pre.length + (rngBy x).length, false⟩) := by
  obtain ⟨a, b, c⟩ := x
  unfold rngB at h
  simp only [Bool.and_eq_true, decide_eq_true_eq] at h
  have e0 : pre ++ (rngBy ⟨a, b, c⟩ ++ q) = pre ++ by8 a :: (by8 b :: by8 c :: q) := by simp [rngBy]
  have e1 : pre ++ (rngBy ⟨a, b, c⟩ ++ q) = (pre ++ [by8 a]) ++ by8 b :: (by8 c :: q) := by simp [rngBy]
  have e2 : pre ++ (rngBy ⟨a, b, c⟩ ++ q) = (pre ++ [by8 a, by8 b]) ++ by8 c :: q := by simp [rngBy]
  generalize hL : pre ++ (rngBy ⟨a, b, c⟩ ++ q) = L at *
  have r0 := rdB_at' pre (by8 b :: by8 c :: q) a (by omega) pre.length rfl
  have r1 := rdB_at' (pre ++ [by8 a]) (by8 c :: q) b (by omega) (pre.length + 1) (by simp)
  have r2 := rdB_at' (pre ++ [by8 a, by8 b]) q c (by omega) (pre.length + 1 + 1) (by simp)
  rw [← e0] at r0
  rw [← e1] at r1
  rw [← e2] at r2
  unfold rdR
  simp only
  rw [r0.2, r1.2, r2.2, r0.1, r1.1, r2.1]
  rfl
theorem rdRs_at (q : List UInt8) : ∀ (rs : List Rng) (pre : List UInt8) (acc : List Rng), (∀ r ∈ rs, rngB r = true) → rdRs (pre ++ (rs.flatMap rngBy ++ q)) rs.length ⟨pre.length, false⟩ acc = (acc ++ rs, ⟨pre.length + (rs.flatMap rngBy).length, false⟩)
  | [], pre, acc, _ => by simp [rdRs]
  | x :: xs, pre, acc, h => by
    have hx := rdR_at pre (xs.flatMap rngBy ++ q) x (h x (by simp))
    have e : pre ++ ((x :: xs).flatMap rngBy ++ q) = pre ++ (rngBy x ++ (xs.flatMap rngBy ++ q)) := by simp
    have e2 : pre ++ ((x :: xs).flatMap rngBy ++ q) = (pre ++ rngBy x) ++ (xs.flatMap rngBy ++ q) := by simp
    rw [← e] at hx
    have ih := rdRs_at q xs (pre ++ rngBy x) (acc ++ [x]) (fun y hy => h y (by simp [hy]))
    rw [← e2] at ih
    rw [List.length_cons, rdRs_go, hx]
    simp only
    rw [List.length_append] at ih
    rw [ih]
    simp; omega
theorem lim_ok (op : Int) (h : (limOf op).ok = true) : 1 ≤ op ∧ op ≤ 25 := by
  by_cases h2 : 1 ≤ op ∧ op ≤ 25
  · exact h2
  · exfalso
    unfold limOf at h
    rw [if_neg (by omega), if_neg (by omega), if_neg (by omega), if_neg (by omega), if_neg (by omega), if_neg (by omega), if_neg (by omega), if_neg (by omega), if_neg (by omega)] at h
    simp only [decide_eq_true_eq] at h
    omega
theorem lim_le (op : Int) : (limOf op).a ≤ 7 ∧ (limOf op).b ≤ 7 ∧ (limOf op).c ≤ 7 ∧ (limOf op).d ≤ 7 := by
  unfold limOf
  repeat' split
  all_goals (refine ⟨?_, ?_, ?_, ?_⟩ <;> simp)
theorem right_small (x : Ins) (h : rightI x = true) (hk : x.k < 18446744073709551616) : x.small := by
  unfold rightI rightB at h
  simp only [Bool.and_eq_true, decide_eq_true_eq] at h
  have h1 := lim_ok x.op h.1.1.1.1.1.1.1.1.1
  have h2 := lim_le x.op
  unfold Ins.small
  omega
theorem written_small (p : Prg) (h : writtenB p = true) (hok : p.ok) : ∀ l ∈ p.ths, l.length ≤ 256 ∧ ∀ x ∈ l, x.small := by
  intro l hl
  refine ⟨written_short2 p h l hl, fun x hx => ?_⟩
  unfold writtenB at h
  simp only [Bool.and_eq_true, List.all_eq_true] at h
  have := h.2 l hl
  unfold thB at this
  simp only [Bool.and_eq_true, List.all_eq_true] at this
  exact right_small x (this.2 x hx) (hok l hl x hx).2.2.2.2.2
theorem rdAll_prB (p : Prg) (h : writtenB p = true) (hok : p.ok) : rdAll (prB p) = some p := by
  obtain ⟨h8, h9⟩ := written_few p h
  have hr : ∀ r ∈ p.rings, rngB r = true := by
    unfold writtenB at h
    simp only [Bool.and_eq_true, List.all_eq_true] at h
    exact h.1.2
  have e0 : prB p = [] ++ by8 p.rings.length :: (p.rings.flatMap rngBy ++ (by8 p.ths.length :: p.ths.flatMap thBy)) := by simp [prB]
  have e1 : prB p = [by8 p.rings.length] ++ (p.rings.flatMap rngBy ++ (by8 p.ths.length :: p.ths.flatMap thBy)) := by simp [prB]
  have e2 : prB p = ([by8 p.rings.length] ++ p.rings.flatMap rngBy) ++ by8 p.ths.length :: p.ths.flatMap thBy := by simp [prB]
  have e3 : prB p = ([by8 p.rings.length] ++ p.rings.flatMap rngBy ++ [by8 p.ths.length]) ++ (p.ths.flatMap thBy ++ []) := by simp [prB]
  have hlen : (prB p).length = ([by8 p.rings.length] ++ p.rings.flatMap rngBy ++ [by8 p.ths.length]).length + (p.ths.flatMap thBy).length := by
    rw [e3, List.append_nil, List.length_append]
  have r0 := rdB_at [] (p.rings.flatMap rngBy ++ (by8 p.ths.length :: p.ths.flatMap thBy)) (by8 p.rings.length)
  have n0 : (by8 (p.rings.length : Int)).toNat = p.rings.length := by have := by8_nat (p.rings.length : Int) (by omega); omega
  have m0 : (by8 (p.ths.length : Int)).toNat = p.ths.length := by have := by8_nat (p.ths.length : Int) (by omega); omega
  rw [← e0, n0] at r0
  have r1 := rdRs_at (by8 p.ths.length :: p.ths.flatMap thBy) p.rings [by8 p.rings.length] [] hr
  rw [← e1] at r1
  have r2 := rdB_at ([by8 p.rings.length] ++ p.rings.flatMap rngBy) (p.ths.flatMap thBy) (by8 p.ths.length)
  rw [← e2, m0] at r2
  have r3 := rdTs_at [] p.ths ([by8 p.rings.length] ++ p.rings.flatMap rngBy ++ [by8 p.ths.length]) [] (written_small p h hok)
  rw [← e3] at r3
  rw [rdAll_eq]
  have r0 : rdB (prB p) ⟨0, false⟩ = (p.rings.length, ⟨1, false⟩) := r0
  have r1 : rdRs (prB p) p.rings.length ⟨1, false⟩ [] = ([] ++ p.rings, ⟨([by8 (p.rings.length : Int)] : List UInt8).length + (p.rings.flatMap rngBy).length, false⟩) := r1
  rw [r0]
  simp only
  rw [r1]
  simp only
  rw [show ([by8 p.rings.length] : List UInt8).length + (p.rings.flatMap rngBy).length = ([by8 p.rings.length] ++ p.rings.flatMap rngBy).length from (List.length_append).symm, r2]
  simp only
  rw [show ([by8 (p.rings.length : Int)] ++ p.rings.flatMap rngBy).length + 1 = ([by8 p.rings.length] ++ p.rings.flatMap rngBy ++ [by8 p.ths.length]).length from by simp, r3]
  unfold rdFin
  simp only [List.nil_append]
  rw [← hlen, h, decide_eq_false (Nat.lt_irrefl _)]
  rfl
theorem prB_inj (p q : Prg) (hp : writtenB p = true) (hq : writtenB q = true) (op : p.ok) (oq : q.ok) (h : prB p = prB q) : p = q := by
  have h1 := rdAll_prB p hp op
  have h2 := rdAll_prB q hq oq
  rw [h, h2] at h1
  exact (Option.some.inj h1).symm
end Go.Proofs.Ytklkboibpglhjaa
