/- The plain law of the sums of layer 5: the table's step, the bit-by-bit step, and that both are linear. No program here. -/
namespace Go.Proofs.Ytebpcknloakjfaa

theorem xor_div2 (a b : Nat) : (a ^^^ b) / 2 = a / 2 ^^^ b / 2 := by
  apply Nat.eq_of_testBit_eq; intro i
  simp [Nat.testBit_div_two]
theorem xor_mod2 (a b : Nat) : (a ^^^ b) % 2 = (a % 2 + b % 2) % 2 := by
  have h := Nat.testBit_xor a b 0
  simp only [Nat.testBit_zero] at h
  have ha := Nat.mod_two_eq_zero_or_one a
  have hb := Nat.mod_two_eq_zero_or_one b
  have hc := Nat.mod_two_eq_zero_or_one (a ^^^ b)
  rcases ha with ha | ha <;> rcases hb with hb | hb <;> rcases hc with hc | hc <;> simp [ha, hb, hc] at h ⊢

def poly : Nat := 0xedb88320
theorem poly_lt : poly < 4294967296 := by decide
def est (n : Nat) : Nat := if n % 2 = 1 then (n / 2) ^^^ poly else n / 2
def esti : Nat → Nat → Nat
  | 0, n => n
  | k + 1, n => esti k (est n)
def ent (n : Nat) : Nat := esti 8 n

theorem xor_lt32 {a b : Nat} (ha : a < 4294967296) (hb : b < 4294967296) : a ^^^ b < 4294967296 := Nat.xor_lt_two_pow (n := 32) ha hb
theorem est_lt {n : Nat} (h : n < 4294967296) : est n < 4294967296 := by
  unfold est; split
  · exact xor_lt32 (by omega) poly_lt
  · omega
theorem esti_lt (k : Nat) : ∀ {n : Nat}, n < 4294967296 → esti k n < 4294967296 := by
  induction k with
  | zero => exact fun h => h
  | succ k ih => exact fun h => ih (est_lt h)
theorem ent_lt {n : Nat} (h : n < 4294967296) : ent n < 4294967296 := esti_lt 8 h
theorem est_xor (a b : Nat) : est (a ^^^ b) = est a ^^^ est b := by
  unfold est
  rw [xor_div2, xor_mod2]
  rcases Nat.mod_two_eq_zero_or_one a with ha | ha <;> rcases Nat.mod_two_eq_zero_or_one b with hb | hb <;> simp only [ha, hb] <;> simp
  · rw [Nat.xor_assoc]
  · rw [Nat.xor_assoc, Nat.xor_assoc, Nat.xor_comm (b / 2)]
  · rw [Nat.xor_assoc, Nat.xor_comm (b / 2) poly, ← Nat.xor_assoc poly, Nat.xor_self, Nat.zero_xor]
theorem esti_xor (k : Nat) : ∀ a b : Nat, esti k (a ^^^ b) = esti k a ^^^ esti k b := by
  induction k with
  | zero => intro a b; rfl
  | succ k ih => intro a b; simp only [esti]; rw [est_xor, ih]
theorem ent_xor (a b : Nat) : ent (a ^^^ b) = ent a ^^^ ent b := esti_xor 8 a b
theorem est_even (n : Nat) : est (n * 2) = n := by unfold est; rw [if_neg (by omega)]; omega
theorem ent_256 (n : Nat) : ent (n * 256) = n := by
  have h : n * 256 = n * 2 * 2 * 2 * 2 * 2 * 2 * 2 * 2 := by omega
  unfold ent; rw [h]; simp only [esti, est_even]
theorem split_256 (n : Nat) : n = (n / 256 * 256) ^^^ (n % 256) := by
  apply Nat.eq_of_testBit_eq; intro i
  rw [Nat.testBit_xor, show (256 : Nat) = 2 ^ 8 from rfl, Nat.testBit_mul_two_pow, Nat.testBit_mod_two_pow, Nat.testBit_div_two_pow]
  by_cases h : 8 ≤ i
  · simp [h, show ¬ i < 8 by omega, show i - 8 + 8 = i by omega]
  · simp [h, show i < 8 by omega]

def cstep (t : Nat → Nat) (n c : Nat) : Nat := (n / 256) ^^^ t ((n % 256) ^^^ c)
def cfold (t : Nat → Nat) (n : Nat) (l : List UInt8) : Nat := l.foldl (fun n c => cstep t n c.toNat) n
/-- the step of one byte, by the table, is eight steps of a bit -/
theorem cstep_ent (n c : Nat) : cstep ent n c = ent (n ^^^ c) := by
  unfold cstep
  conv => rhs; rw [split_256 n]
  rw [Nat.xor_assoc, ent_xor (n / 256 * 256), ent_256]
theorem xor8_lt (n c : Nat) (h : c < 256) : (n % 256) ^^^ c < 256 := Nat.xor_lt_two_pow (n := 8) (by omega) h
theorem cstep_lt (t : Nat → Nat) (ht : ∀ i, i < 256 → t i < 4294967296) {n c : Nat} (hn : n < 4294967296) (hc : c < 256) : cstep t n c < 4294967296 :=
  xor_lt32 (by omega) (ht _ (xor8_lt n c hc))
theorem cfold_lt (t : Nat → Nat) (ht : ∀ i, i < 256 → t i < 4294967296) (l : List UInt8) : ∀ {n : Nat}, n < 4294967296 → cfold t n l < 4294967296 := by
  induction l with
  | nil => exact fun h => h
  | cons c l ih => exact fun h => ih (cstep_lt t ht h c.toNat_lt)
theorem cfold_snoc (t : Nat → Nat) (n : Nat) (l : List UInt8) (c : UInt8) : cfold t n (l ++ [c]) = cstep t (cfold t n l) c.toNat := by simp [cfold]
theorem cfold_append (t : Nat → Nat) (n : Nat) (l m : List UInt8) : cfold t n (l ++ m) = cfold t (cfold t n l) m := by simp [cfold]
def ones : Nat := 4294967295
theorem ones_lt : ones < 4294967296 := by decide
theorem ones2 (n : Nat) : (n ^^^ ones) ^^^ ones = n := by rw [Nat.xor_assoc, Nat.xor_self, Nat.xor_zero]
def cmore (t : Nat → Nat) (sum : Nat) (l : List UInt8) : Nat := cfold t (sum ^^^ ones) l ^^^ ones
theorem cmore_lt (t : Nat → Nat) (ht : ∀ i, i < 256 → t i < 4294967296) {n : Nat} (hn : n < 4294967296) (l : List UInt8) : cmore t n l < 4294967296 :=
  xor_lt32 (cfold_lt t ht l (xor_lt32 hn ones_lt)) ones_lt
theorem cmore_append (t : Nat → Nat) (n : Nat) (l m : List UInt8) : cmore t (cmore t n l) m = cmore t n (l ++ m) := by
  unfold cmore; rw [ones2, cfold_append]
/-- bit by bit: n, and what is left of the byte -/
def bstep (n c : Nat) : Nat := if n % 2 ≠ c % 2 then (n / 2) ^^^ poly else n / 2
theorem bstep_est (n c : Nat) : bstep n c ^^^ c / 2 = est (n ^^^ c) := by
  unfold bstep est
  rw [xor_div2, xor_mod2]
  rcases Nat.mod_two_eq_zero_or_one n with ha | ha <;> rcases Nat.mod_two_eq_zero_or_one c with hb | hb <;> simp only [ha, hb] <;> simp
  · rw [Nat.xor_assoc, Nat.xor_assoc, Nat.xor_comm poly]
  · rw [Nat.xor_assoc, Nat.xor_assoc, Nat.xor_comm poly]
def bits8 : Nat → Nat → Nat → Nat
  | 0, n, _ => n
  | k + 1, n, c => bits8 k (bstep n c) (c / 2)
theorem bits8_esti (k : Nat) : ∀ n c : Nat, bits8 k n c ^^^ c / 2 ^ k = esti k (n ^^^ c) := by
  induction k with
  | zero => intro n c; simp [bits8, esti]
  | succ k ih =>
    intro n c
    simp only [bits8, esti]
    rw [← bstep_est, ← ih, Nat.div_div_eq_div_mul, Nat.pow_succ, Nat.mul_comm 2]
theorem bits8_ent (n c : Nat) (h : c < 256) : bits8 8 n c = cstep ent n c := by
  rw [cstep_ent]
  have := bits8_esti 8 n c
  rw [show c / 2 ^ 8 = 0 from Nat.div_eq_of_lt h, Nat.xor_zero] at this
  exact this
theorem bstep_lt {n : Nat} (c : Nat) (h : n < 4294967296) : bstep n c < 4294967296 := by
  unfold bstep; split
  · exact xor_lt32 (by omega) poly_lt
  · omega
theorem xor_left (a b c : Nat) : a ^^^ (b ^^^ c) = b ^^^ (a ^^^ c) := by rw [← Nat.xor_assoc, Nat.xor_comm a b, Nat.xor_assoc]
theorem xor6 (x y z p q r : Nat) : x ^^^ y ^^^ z ^^^ (p ^^^ q ^^^ r) = x ^^^ p ^^^ (y ^^^ q) ^^^ (z ^^^ r) := by
  simp only [Nat.xor_assoc]
  rw [xor_left z p, xor_left y p]
  rw [xor_left z q]
/-- linear -/
theorem cfold_xor : ∀ (a b c d : List UInt8) (x y z : Nat), a.length = b.length → b.length = c.length → d.length = a.length →
    (∀ i, i < a.length → (d.getD i 0).toNat = (a.getD i 0).toNat ^^^ (b.getD i 0).toNat ^^^ (c.getD i 0).toNat) →
    cfold ent (x ^^^ y ^^^ z) d = cfold ent x a ^^^ cfold ent y b ^^^ cfold ent z c
  | [], [], [], [], x, y, z, _, _, _, _ => rfl
  | p :: a, q :: b, r :: c, s :: d, x, y, z, h1, h2, h3, h4 => by
    have h0 := h4 0 (by simp)
    simp only [List.getD_cons_zero] at h0
    have ih := cfold_xor a b c d (cstep ent x p.toNat) (cstep ent y q.toNat) (cstep ent z r.toNat) (by simpa using h1) (by simpa using h2) (by simpa using h3)
      (fun i hi => by have := h4 (i + 1) (by simpa using hi); simpa using this)
    show cfold ent (cstep ent (x ^^^ y ^^^ z) s.toNat) d = cfold ent (cstep ent x p.toNat) a ^^^ cfold ent (cstep ent y q.toNat) b ^^^ cfold ent (cstep ent z r.toNat) c
    rw [← ih]
    congr 1
    rw [cstep_ent, cstep_ent, cstep_ent, cstep_ent, h0, ← ent_xor, ← ent_xor]
    congr 1
    exact xor6 x y z _ _ _
end Go.Proofs.Ytebpcknloakjfaa
