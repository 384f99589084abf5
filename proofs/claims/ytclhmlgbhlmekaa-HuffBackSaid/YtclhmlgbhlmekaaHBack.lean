/- Layer 7: what is packed is unpacked as it was: plain. -/
import Derived.Test.YtclhmlgbhlmekaaHUnpack
import Derived.Test.YtclhmlgbhlmekaaRBack
namespace Go.Proofs.Ytclhmlgbhlmekaa
open Go.RowKit
set_option linter.unusedVariables false
set_option linter.unusedSimpArgs false
theorem oneG_find {E : List Ent} {f : Nat → Bool} {N a m : Nat} (x : Ent) (hm : 0 < m) (hN : a + m ≤ N) (hno : ∀ k, 0 < k → k < m → findE E k (nm f a k) = none) (hx : findE E m (nm f a m) = some x) :
    ∀ (r k : Nat), k < m → m ≤ k + r → oneG E f N a r k = some (x.2.2, a + m)
  | 0, k, h1, h2 => by omega
  | r + 1, k, h1, h2 => by
    rw [oneG, if_neg (by omega)]
    by_cases e : k + 1 = m
    · rw [e, hx]
      show some (x.2.2, a + k + 1) = _
      rw [← e, Nat.add_assoc]
    · rw [hno (k + 1) (by omega) (by omega)]
      exact oneG_find x hm hN hno hx r (k + 1) (by omega) (by omega)
theorem findE_some {E : List Ent} {k c : Nat} {x : Ent} (hx : x ∈ E) (h1 : k = x.1) (h2 : c = x.2.1) (hu : ∀ y ∈ E, k = y.1 → c = y.2.1 → y = x) : findE E k c = some x := by
  cases h : findE E k c with
  | none => exact absurd ⟨h1, h2⟩ (findE_none.1 h x hx)
  | some y =>
    have hy := List.mem_of_find?_eq_some h
    have hp := List.find?_some h
    simp only [decide_eq_true_eq] at hp
    rw [hu y hy hp.1 hp.2]
theorem nm_code {f : Nat → Bool} {a n c : Nat} (h : ∀ j, j < c → f (a + j) = n.testBit (c - 1 - j)) {k : Nat} (hk : k ≤ c) (hn : n < 2 ^ c) : nm f a k = n / 2 ^ (c - k) := by
  rw [nm_shift (g := fun j => n.testBit (c - 1 - j)) (b := 0) (fun i hi => by rw [Nat.zero_add]; exact h i (by omega)), nm_testBit n c k hk]
  refine Nat.mod_eq_of_lt ?_
  rw [Nat.div_lt_iff_lt_mul (Nat.two_pow_pos _), ← Nat.pow_add, show k + (c - k) = c by omega]
  exact hn
/-- the code of a byte is found -/
theorem oneP_code {t : Nat → Nat} (ht : codE t = 0) {f : Nat → Bool} {N a x : Nat} (hx : x < 256) (h0 : 0 < t x) (hf : ∀ j, j < t x → f (a + j) = (codT t x).testBit (t x - 1 - j)) (hN : a + t x ≤ N) :
    oneP (bookL t (codT t) 256) f N a = some (x, a + t x) := by
  have h56 := (codE_zero ht).1 x hx
  have hb := codT_bits ht hx h0
  have hmem : (t x, codT t x, x) ∈ bookL t (codT t) 256 := (bookL_mem t (codT t) 256 _).2 ⟨x, hx, h0, rfl⟩
  refine oneG_find (m := t x) (t x, codT t x, x) h0 hN (fun k h1 h2 => ?_) ?_ 56 0 h0 (by omega)
  · rw [nm_code hf (by omega) hb]
    refine findE_none.2 (fun y hy he => ?_)
    obtain ⟨j, hj, hj0, rfl⟩ := (bookL_mem t (codT t) 256 y).1 hy
    obtain ⟨e1, e2⟩ := he
    simp only at e1 e2
    have hne : j ≠ x := fun e => by subst e; omega
    have := codT_free ht hj hx hne hj0 (by omega)
    rw [← e1] at this
    exact this e2
  · have e : nm f a (t x) = codT t x := by rw [nm_code hf (Nat.le_refl _) hb, Nat.sub_self, Nat.pow_zero, Nat.div_one]
    rw [e]
    refine findE_some hmem rfl rfl (fun y hy e1 e2 => ?_)
    obtain ⟨j, hj, hj0, rfl⟩ := (bookL_mem t (codT t) 256 y).1 hy
    simp only at e1 e2
    have := apart_codT ht j x hj hx hj0 e1.symm e2.symm
    subst this; rfl
theorem decP_bits {t : Nat → Nat} (ht : codE t = 0) {f : Nat → Bool} {N : Nat} : ∀ (l : List UInt8) (a : Nat) (acc : List UInt8), (∀ x ∈ l, 0 < t x.toNat) → (∀ i, i < (bitsP t (codT t) l).length → f (a + i) = gd (bitsP t (codT t) l) i) → a + (bitsP t (codT t) l).length ≤ N →
    decP (bookL t (codT t) 256) f N l.length a acc = some (acc ++ l)
  | [], a, acc, _, _, _ => by rw [List.append_nil]; rfl
  | x :: l, a, acc, h0, hf, hN => by
    have hb : bitsP t (codT t) (x :: l) = bitsOf (codT t x.toNat) (t x.toNat) ++ bitsP t (codT t) l := by unfold bitsP; rw [List.flatMap_cons]
    rw [hb] at hf hN
    rw [List.length_append, bitsOf_len] at hf hN
    have hx := x.toNat_lt
    have h1 := oneP_code ht (f := f) (N := N) (a := a) (x := x.toNat) (by omega) (h0 x (List.mem_cons_self ..)) (fun j hj => by
      rw [hf j (by omega), gd_append_left _ _ _ (by rw [bitsOf_len]; exact hj), bitsOf_gd _ _ _ hj]) (by omega)
    rw [List.length_cons, decP, h1]
    show decP _ f N l.length (a + t x.toNat) (acc ++ [UInt8.ofNat x.toNat]) = _
    rw [decP_bits ht l (a + t x.toNat) _ (fun y hy => h0 y (List.mem_cons_of_mem _ hy)) (fun i hi => by
      have := hf (t x.toNat + i) (by omega)
      rw [← Nat.add_assoc] at this
      rw [this]
      have e := gd_append_right (bitsOf (codT t x.toNat) (t x.toNat)) (bitsP t (codT t) l) i
      rw [bitsOf_len] at e; exact e) (by omega)]
    simp
theorem bitsP_ge {t c : Nat → Nat} : ∀ (l : List UInt8), (∀ x ∈ l, 0 < t x.toNat) → l.length ≤ (bitsP t c l).length
  | [], _ => Nat.le_refl _
  | x :: l, h => by
    have := bitsP_ge (c := c) l (fun y hy => h y (List.mem_cons_of_mem _ hy))
    have := h x (List.mem_cons_self ..)
    unfold bitsP at *
    rw [List.flatMap_cons, List.length_append, bitsOf_len, List.length_cons]; omega
theorem cntF_pos {l : List UInt8} {x : UInt8} (h : x ∈ l) : 0 < cntF l x.toNat := by
  unfold cntF
  rw [List.countP_pos_iff]
  exact ⟨x, h, by simp⟩
theorem lenT_off {l : List UInt8} (hl : l.length < 134217728) {i : Nat} (hi : 256 ≤ i) : lenT (cntF l) i = 0 := by
  rcases lens_cases (cntF l) (cntF_small (by omega)) with ⟨h1, h2⟩ | ⟨c, h1, h2⟩ | ⟨_, d, hd⟩
  · rw [h2]
  · have := c.toNat_lt
    rw [h2, upd_ne _ _ (by omega)]
  · exact hd.no_leaf (by omega)
theorem tabL_lensL {t : Nat → Nat} (h8 : ∀ i, t i < 256) (h0 : ∀ i, 256 ≤ i → t i = 0) : tabL (lensL t) 256 = t := by
  funext i
  unfold tabL
  by_cases h : i < 256
  · rw [if_pos h, lensL, List.getD_eq_getElem?_getD, List.getElem?_map, List.getElem?_range h]
    exact Nat.mod_eq_of_lt (h8 i)
  · rw [if_neg h, h0 i (by omega)]
theorem sb_append (a b : List UInt8) (i : Nat) (h : i < 8 * a.length) : sb (a ++ b) i = sb a i := by
  unfold sb
  rw [List.getD_eq_getElem?_getD, List.getD_eq_getElem?_getD, List.getElem?_append_left (by omega)]
/-- what is packed is read, whatever stands behind it -/
theorem readP_pack (l more : List UInt8) (hl : l.length < 134217728) : (vrd (packP l ++ more) 0) = (l.length, 0, (vb l.length).length) ∧ readP (packP l ++ more) (vb l.length).length l.length = some l := by
  have hv := vrd_vb [] (rbl (pk (lensL (lenT (cntF l)))) ++ pack (bitsP (lenT (cntF l)) (codT (lenT (cntF l))) l) ++ more) l.length (by omega)
  have h56 := lenT_text hl
  have hoff := fun i => lenT_off hl (i := i)
  have hce := codE_text hl
  have hpos : ∀ x ∈ l, 0 < lenT (cntF l) x.toNat := fun x hx => by
    have h1 := cntF_pos hx
    have h2 := x.toNat_lt
    rcases Nat.eq_zero_or_pos (lenT (cntF l) x.toNat) with h | h
    · have := (lenT_zero_iff (cntF l) (cntF_small (by omega)) (by omega)).1 h; omega
    · exact h
  have e : packP l = vb l.length ++ rbl (pk (lensL (lenT (cntF l)))) ++ pack (bitsP (lenT (cntF l)) (codT (lenT (cntF l))) l) := rfl
  rw [e]
  generalize lenT (cntF l) = t at *
  have h8 : ∀ i, t i < 256 := fun i => by have := h56 i; omega
  have hll : (lensL t).length = 256 := by simp [lensL]
  have hr := rrl_rbl (vb l.length) (lensL t) (pack (bitsP t (codT t) l) ++ more) (lensL_lt h8) (by omega)
  rw [hll] at hr
  simp only [List.append_assoc] at hr hv ⊢
  simp only [List.nil_append, List.length_nil, Nat.zero_add] at hv
  refine ⟨hv, ?_⟩
  have hOK : lensOK 0 (lensL t) = true := by
    unfold lensOK
    rw [hll, Bool.and_eq_true, Bool.and_eq_true]
    refine ⟨⟨rfl, rfl⟩, List.all_eq_true.2 fun x hx => ?_⟩
    simp only [lensL, List.mem_map] at hx
    obtain ⟨j, _, rfl⟩ := hx
    exact decide_eq_true (h56 j)
  have hbl := bitsP_ge (c := codT t) l hpos
  have hpl := pack_len (bitsP t (codT t) l)
  have hdrop : (vb l.length ++ (rbl (pk (lensL t)) ++ (pack (bitsP t (codT t) l) ++ more))).drop ((vb l.length).length + (rbl (pk (lensL t))).length) = pack (bitsP t (codT t) l) ++ more := by
    rw [← List.append_assoc, List.drop_left' (by rw [List.length_append])]
  have hlen : (vb l.length ++ (rbl (pk (lensL t)) ++ (pack (bitsP t (codT t) l) ++ more))).length - ((vb l.length).length + (rbl (pk (lensL t))).length) = (pack (bitsP t (codT t) l)).length + more.length := by
    simp only [List.length_append]; omega
  unfold readP
  have hr2 : rrl (vb l.length ++ (rbl (pk (lensL t)) ++ (pack (bitsP t (codT t) l) ++ more))) (vb l.length).length 256 = (lensL t, 0, (vb l.length).length + (rbl (pk (lensL t))).length) := hr
  rw [hr2]
  simp only
  rw [tabL_lensL h8 (fun i hi => hoff i hi), hlen, hdrop, if_pos ⟨hOK, hce, by omega⟩, decP_bits hce l 0 [] hpos (fun i hi => ?_) (by omega), List.nil_append]
  rw [Nat.zero_add, sb_append _ _ _ (by omega)]
  exact sb_cbytes _ _ _ (by omega)
/-- THE STAGE'S THEOREM, plain -/
theorem unpackP_pack (l : List UInt8) (hl : l.length < 134217728) (most : Int) (hm : (l.length : Int) ≤ most) : unpackP (packP l) most = (l, 0) := by
  have h := readP_pack l [] hl
  rw [List.append_nil] at h
  unfold unpackP
  rw [h.1]
  simp only
  rw [if_neg (by omega), if_neg (by omega), if_neg (by omega), h.2]
  simp only
  rw [if_pos trivial]
theorem unpackP_long (l : List UInt8) (hl : l.length < 134217728) (most : Int) (h0 : 0 ≤ most) (hm : most < l.length) : unpackP (packP l) most = ([], 4) := by
  have h := readP_pack l [] hl
  rw [List.append_nil] at h
  unfold unpackP
  rw [h.1]
  simp only
  rw [if_neg (by omega), if_neg (by omega), if_pos (by omega)]
theorem unpackP_more (l more : List UInt8) (hl : l.length < 134217728) (hmo : more ≠ []) (most : Int) (hm : (l.length : Int) ≤ most) : unpackP (packP l ++ more) most = ([], 3) := by
  have h := readP_pack l more hl
  unfold unpackP
  rw [h.1]
  simp only
  rw [if_neg (by omega), if_neg (by omega), if_neg (by omega), h.2]
  simp only
  rw [if_neg]
  intro e
  have := congrArg List.length e
  rw [List.length_append] at this
  have : more.length ≠ 0 := fun e => hmo (List.eq_nil_of_length_eq_zero e)
  omega
end Go.Proofs.Ytclhmlgbhlmekaa
