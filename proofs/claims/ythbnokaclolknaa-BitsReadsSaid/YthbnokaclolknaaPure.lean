/- The plain law of layer 6: bits in order, eight a byte. No program here. -/
import Derived.Laws.BitsAllLaws
namespace Go.Proofs.Ythbnokaclolknaa

/-- the number of the bits f a, f (a+1), .. f (a+k-1), the first one highest -/
def nm (f : Nat → Bool) (a : Nat) : Nat → Nat
  | 0 => 0
  | k + 1 => nm f a k * 2 + (f (a + k)).toNat
theorem nm_lt (f : Nat → Bool) (a : Nat) : ∀ k, nm f a k < 2 ^ k
  | 0 => by simp [nm]
  | k + 1 => by
    have := nm_lt f a k
    have hb : (f (a + k)).toNat ≤ 1 := Bool.toNat_le _
    simp only [nm, Nat.pow_succ]; omega
theorem nm_congr {f g : Nat → Bool} {a : Nat} : ∀ {k : Nat}, (∀ i, i < k → f (a + i) = g (a + i)) → nm f a k = nm g a k
  | 0, _ => rfl
  | k + 1, h => by simp only [nm]; rw [nm_congr (fun i hi => h i (by omega)), h k (by omega)]
theorem nm_shift {f g : Nat → Bool} {a b : Nat} : ∀ {k : Nat}, (∀ i, i < k → f (a + i) = g (b + i)) → nm f a k = nm g b k
  | 0, _ => rfl
  | k + 1, h => by simp only [nm]; rw [nm_shift (fun i hi => h i (by omega)), h k (by omega)]
theorem nm_add (f : Nat → Bool) (a k : Nat) : ∀ r, nm f a (k + r) = nm f a k * 2 ^ r + nm f (a + k) r
  | 0 => by simp [nm]
  | r + 1 => by
    rw [← Nat.add_assoc]
    simp only [nm]
    rw [nm_add f a k r, Nat.pow_succ, Nat.add_assoc a k r, Nat.add_mul]
    rw [Nat.mul_assoc, Nat.add_assoc]
theorem nm_bit (f : Nat → Bool) (a k t : Nat) (h : t < k) : nm f a k / 2 ^ (k - 1 - t) % 2 = (f (a + t)).toNat := by
  obtain ⟨r, rfl⟩ : ∃ r, k = t + 1 + r := ⟨k - t - 1, by omega⟩
  rw [show t + 1 + r - 1 - t = r by omega, nm_add]
  have hl := nm_lt f (a + (t + 1)) r
  rw [Nat.mul_comm, Nat.mul_add_div (Nat.two_pow_pos r), Nat.div_eq_of_lt hl, Nat.add_zero]
  simp only [nm]
  have hb : (f (a + t)).toNat ≤ 1 := Bool.toNat_le _
  omega
theorem nm_zero (f : Nat → Bool) (a : Nat) : ∀ k, (∀ i, i < k → f (a + i) = false) → nm f a k = 0
  | 0, _ => rfl
  | k + 1, h => by simp only [nm]; rw [nm_zero f a k (fun i hi => h i (by omega)), h k (by omega)]; rfl
/-- one bit more -/
theorem nm_set (f g : Nat → Bool) (a k t : Nat) (ht : t < k) (hf : f (a + t) = false) (hg : g (a + t) = true) (hs : ∀ i, i < k → i ≠ t → g (a + i) = f (a + i)) : nm g a k = nm f a k + 2 ^ (k - 1 - t) := by
  obtain ⟨r, rfl⟩ : ∃ r, k = t + 1 + r := ⟨k - t - 1, by omega⟩
  rw [nm_add, nm_add f, show t + 1 + r - 1 - t = r by omega]
  have e1 : nm g a t = nm f a t := nm_congr (fun i hi => hs i (by omega) (by omega))
  have e2 : nm g (a + (t + 1)) r = nm f (a + (t + 1)) r := nm_congr (fun i hi => by rw [Nat.add_assoc]; exact hs _ (by omega) (by omega))
  simp only [nm]
  rw [e1, e2, hf, hg]
  simp only [Bool.toNat_true, Bool.toNat_false, Nat.add_zero, Nat.add_mul, Nat.one_mul]
  omega
theorem nm_testBit (n c : Nat) : ∀ k, k ≤ c → nm (fun j => n.testBit (c - 1 - j)) 0 k = n / 2 ^ (c - k) % 2 ^ k
  | 0, _ => by simp [nm, Nat.mod_one]
  | k + 1, h => by
    simp only [nm, Nat.zero_add]
    rw [nm_testBit n c k (by omega)]
    have e : (n.testBit (c - 1 - k)).toNat = n / 2 ^ (c - (k + 1)) % 2 := by
      rw [show c - 1 - k = c - (k + 1) by omega, Nat.testBit_eq_decide_div_mod_eq]
      rcases Nat.mod_two_eq_zero_or_one (n / 2 ^ (c - (k + 1))) with h | h <;> simp [h]
    rw [e, show c - k = (c - (k + 1)) + 1 by omega, Nat.pow_succ, ← Nat.div_div_eq_div_mul]
    generalize n / 2 ^ (c - (k + 1)) = m
    rw [Nat.pow_succ, Nat.mul_comm (2 ^ k) 2, Nat.mod_mul]
    omega
/-- what is put is read -/
theorem nm_bits (n c : Nat) : nm (fun j => n.testBit (c - 1 - j)) 0 c = n % 2 ^ c := by
  rw [nm_testBit n c c (Nat.le_refl _), Nat.sub_self, Nat.pow_zero, Nat.div_one]

theorem or_bit (x i : Nat) (h : x / 2 ^ i % 2 = 0) : x ||| 2 ^ i = x + 2 ^ i := by
  have hx : x = x / 2 ^ (i + 1) * 2 ^ (i + 1) + x % 2 ^ i := by
    have h1 := Nat.div_add_mod x (2 ^ (i + 1))
    have h2 : x % 2 ^ (i + 1) = x % 2 ^ i := by rw [Nat.pow_succ, Nat.mod_mul, h]; simp
    rw [h2] at h1; rw [Nat.mul_comm]; exact h1.symm
  have hl : x % 2 ^ i < 2 ^ i := Nat.mod_lt _ (Nat.two_pow_pos i)
  have hp : 2 ^ (i + 1) = 2 ^ i + 2 ^ i := by rw [Nat.pow_succ]; omega
  have e1 : x / 2 ^ (i + 1) * 2 ^ (i + 1) ||| x % 2 ^ i = x := by
    rw [Go.nat_join (i + 1) _ _ (Nat.mul_mod_left _ _) (by omega)]; exact hx.symm
  have e2 : 2 ^ i ||| x % 2 ^ i = 2 ^ i + x % 2 ^ i := Go.nat_join i _ _ (Nat.mod_self _) hl
  calc x ||| 2 ^ i = (x / 2 ^ (i + 1) * 2 ^ (i + 1) ||| x % 2 ^ i) ||| 2 ^ i := by rw [e1]
    _ = x / 2 ^ (i + 1) * 2 ^ (i + 1) ||| (2 ^ i ||| x % 2 ^ i) := by rw [Nat.or_assoc, Nat.or_comm (x % 2 ^ i)]
    _ = x / 2 ^ (i + 1) * 2 ^ (i + 1) ||| (2 ^ i + x % 2 ^ i) := by rw [e2]
    _ = x / 2 ^ (i + 1) * 2 ^ (i + 1) + (2 ^ i + x % 2 ^ i) := Go.nat_join (i + 1) _ _ (Nat.mul_mod_left _ _) (by omega)
    _ = x + 2 ^ i := by omega

/-- a list's bit; beyond it there is none -/
def gd (L : List Bool) (i : Nat) : Bool := L.getD i false
theorem gd_ge (L : List Bool) (i : Nat) (h : L.length ≤ i) : gd L i = false := by simp [gd, h]
theorem gd_append_left (L M : List Bool) (i : Nat) (h : i < L.length) : gd (L ++ M) i = gd L i := by
  unfold gd; rw [List.getD_eq_getElem?_getD, List.getD_eq_getElem?_getD, List.getElem?_append_left h]
theorem gd_append_right (L M : List Bool) (i : Nat) : gd (L ++ M) (L.length + i) = gd M i := by
  simp [gd, List.getD_eq_getElem?_getD, List.getElem?_append_right]
theorem gd_snoc_ne (L : List Bool) (b : Bool) (i : Nat) (h : i ≠ L.length) : gd (L ++ [b]) i = gd L i := by
  rcases Nat.lt_or_ge i L.length with hl | hl
  · exact gd_append_left _ _ _ hl
  · rw [gd_ge L i hl, gd_ge _ _ (by simp; omega)]
theorem gd_snoc (L : List Bool) (b : Bool) : gd (L ++ [b]) L.length = b := by
  have := gd_append_right L [b] 0
  rw [Nat.add_zero] at this; rw [this]; rfl
/-- m bytes of a list's bits -/
def cbytes (m : Nat) (L : List Bool) : List UInt8 := (List.range m).map fun j => UInt8.ofNat (nm (gd L) (8 * j) 8)
def pack (L : List Bool) : List UInt8 := cbytes ((L.length + 7) / 8) L
theorem cbytes_len (m : Nat) (L : List Bool) : (cbytes m L).length = m := by simp [cbytes]
theorem pack_len (L : List Bool) : (pack L).length = (L.length + 7) / 8 := cbytes_len _ _
theorem cbytes_get (m : Nat) (L : List Bool) (j : Nat) (h : j < m) : (cbytes m L)[j]? = some (UInt8.ofNat (nm (gd L) (8 * j) 8)) := by simp [cbytes, h]
theorem nm8_lt (f : Nat → Bool) (a : Nat) : nm f a 8 < 256 := nm_lt f a 8
theorem byte_toNat (f : Nat → Bool) (a : Nat) : (UInt8.ofNat (nm f a 8)).toNat = nm f a 8 := by
  rw [UInt8.toNat_ofNat']; exact Nat.mod_eq_of_lt (nm8_lt f a)
/-- a byte more -/
theorem cbytes_grow (m : Nat) (L : List Bool) (h : L.length ≤ 8 * m) : cbytes (m + 1) L = cbytes m L ++ [0] := by
  unfold cbytes
  rw [List.range_succ, List.map_append, List.map_cons, List.map_nil, nm_zero _ _ _ (fun i _ => gd_ge L _ (by omega))]
  rfl
/-- a nought more -/
theorem cbytes_snoc_false (m : Nat) (L : List Bool) : cbytes m (L ++ [false]) = cbytes m L := by
  unfold cbytes
  apply List.map_congr_left
  intro j _
  congr 1
  apply nm_congr
  intro i _
  by_cases h : 8 * j + i = L.length
  · rw [h, gd_snoc, gd_ge L _ (Nat.le_refl _)]
  · exact gd_snoc_ne L false _ h
/-- a one more -/
theorem cbytes_snoc_true (m : Nat) (L : List Bool) (h : L.length / 8 < m) :
    cbytes m (L ++ [true]) = (cbytes m L).set (L.length / 8) (UInt8.ofNat (nm (gd L) (8 * (L.length / 8)) 8 + 2 ^ (7 - L.length % 8))) := by
  apply List.ext_getElem?
  intro j
  rw [List.getElem?_set]
  rcases Nat.lt_or_ge j m with hj | hj
  · rw [cbytes_get m _ j hj, cbytes_len]
    by_cases e : L.length / 8 = j
    · rw [if_pos e, if_pos (by omega)]
      subst e
      congr 2
      rw [nm_set (gd L) (gd (L ++ [true])) (8 * (L.length / 8)) 8 (L.length % 8) (Nat.mod_lt _ (by omega))
        (by rw [Nat.div_add_mod]; exact gd_ge L _ (Nat.le_refl _)) (by rw [Nat.div_add_mod]; exact gd_snoc L true)
        (fun i hi hne => gd_snoc_ne L true _ (by omega))]
    · rw [if_neg e, cbytes_get m _ j hj]
      congr 2
      apply nm_congr
      intro i hi
      exact gd_snoc_ne L true _ (by omega)
  · rw [List.getElem?_eq_none (by rw [cbytes_len]; exact hj), if_neg (by omega), List.getElem?_eq_none (by rw [cbytes_len]; exact hj)]
/-- the byte that a one goes into has a nought there -/
theorem nm_room (L : List Bool) : nm (gd L) (8 * (L.length / 8)) 8 / 2 ^ (7 - L.length % 8) % 2 = 0 := by
  have := nm_bit (gd L) (8 * (L.length / 8)) 8 (L.length % 8) (Nat.mod_lt _ (by omega))
  rw [show 8 - 1 - L.length % 8 = 7 - L.length % 8 by omega] at this
  rw [this, Nat.div_add_mod, gd_ge L _ (Nat.le_refl _)]; rfl

/-- bit i of bytes -/
def sb (l : List UInt8) (i : Nat) : Bool := (l.getD (i / 8) 0).toNat / 2 ^ (7 - i % 8) % 2 == 1
theorem sb_toNat (l : List UInt8) (i : Nat) : (sb l i).toNat = (l.getD (i / 8) 0).toNat / 2 ^ (7 - i % 8) % 2 := by
  unfold sb
  rcases Nat.mod_two_eq_zero_or_one ((l.getD (i / 8) 0).toNat / 2 ^ (7 - i % 8)) with h | h <;> (rw [h]; rfl)
theorem bool_inj {a b : Bool} (h : a.toNat = b.toNat) : a = b := by cases a <;> cases b <;> simp_all
theorem sb_cbytes (m : Nat) (L : List Bool) (i : Nat) (h : i < 8 * m) : sb (cbytes m L) i = gd L i := by
  apply bool_inj
  rw [sb_toNat, List.getD_eq_getElem?_getD, cbytes_get m L (i / 8) (by omega)]
  simp only [Option.getD_some]
  rw [byte_toNat]
  have := nm_bit (gd L) (8 * (i / 8)) 8 (i % 8) (Nat.mod_lt _ (by omega))
  rw [show 8 - 1 - i % 8 = 7 - i % 8 by omega, Nat.div_add_mod] at this
  exact this
/-- a number's lowest bits -/
def bitsOf (n c : Nat) : List Bool := (List.range c).map fun j => n.testBit (c - 1 - j)
theorem bitsOf_len (n c : Nat) : (bitsOf n c).length = c := by simp [bitsOf]
theorem bitsOf_gd (n c j : Nat) (h : j < c) : gd (bitsOf n c) j = n.testBit (c - 1 - j) := by simp [gd, bitsOf, h]
theorem bitsOf_take (n c k : Nat) (h : k < c) : (bitsOf n c).take (k + 1) = (bitsOf n c).take k ++ [n.testBit (c - 1 - k)] := by
  rw [List.take_succ_eq_append_getElem (by rw [bitsOf_len]; exact h)]
  simp [bitsOf]
/-- a list of bits' number -/
def numL (L : List Bool) : Nat := nm (gd L) 0 L.length
theorem numL_bitsOf (n c : Nat) : numL (bitsOf n c) = n % 2 ^ c := by
  unfold numL
  rw [bitsOf_len, nm_congr (g := fun j => n.testBit (c - 1 - j)) (fun i hi => by rw [Nat.zero_add]; exact bitsOf_gd n c i hi), nm_bits]
/-- all bits of bytes -/
def allB (l : List UInt8) : List Bool := (List.range (8 * l.length)).map (sb l)
theorem allB_len (l : List UInt8) : (allB l).length = 8 * l.length := by simp [allB]
theorem allB_gd (l : List UInt8) (i : Nat) (h : i < 8 * l.length) : gd (allB l) i = sb l i := by simp [gd, allB, h]
end Go.Proofs.Ythbnokaclolknaa
