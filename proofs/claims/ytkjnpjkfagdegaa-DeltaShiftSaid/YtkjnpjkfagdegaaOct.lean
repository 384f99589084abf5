/- Layer 1 among other things that a call holds. -/
import Derived.Test.YtkjnpjkfagdegaaSt
import Derived.Test.YtkjnpjkfagdegaaRd
namespace Go.Proofs.Ytkjnpjkfagdegaa
open Go.RowKit
set_option linter.unusedVariables false

def rdT (b : Nat) (s : ByteArray) (a : Nat) : Thing where
  holds w fp := Rd w b s a ∧ fp = oneB b
  keep h m hd := ⟨h.1.keep m (hd _ (by rw [h.2])), h.2⟩
  lt h hk := by rw [h.2] at hk; cases hk; exact h.1.lt
section
variable {S : Nat → Prop} {W w : World} {L : List Thing} {b : Nat} {s : ByteArray} {a : Nat} {l : List UInt8}
theorem St.rd (h : St S W w (rdT b s a :: L)) : Rd w b s a := by obtain ⟨fp, h1, _⟩ := h.head; exact h1
theorem St.rdTo (h : St S W w (rdT b s a :: L)) {w' : World} {a' : Nat} (hr : Rd w' b s a') (hm : Mut (oneB b) w w') : St S W w' (rdT b s a' :: L) :=
  h.upd (fun fp h1 => ⟨fp, ⟨hr, h1.2⟩, by rw [h1.2]; exact hm, fun k hk => .inl hk⟩)
theorem St.newRd (h : St S W w L) (s : ByteArray) : St S W (w.alloc (.cells #[.string s, .int .i64 0] 47)) (rdT w.heap.size s 0 :: L) :=
  h.add ((Mut.refl _ _).alloc _) ⟨_, ⟨Rd.new w s, rfl⟩, fun k hk => by cases hk; exact Nat.le_refl _⟩
theorem new_st (h : St S W w L) (s : ByteArray) :
    Calls Try.prog 19 #[.string s] w fun e w' => e = .returned (.pointer (some ⟨w.heap.size, 0, none⟩)) ∧ St S W w' (rdT w.heap.size s 0 :: L) :=
  (new_any s w).mono fun e w' ⟨he, hw⟩ => ⟨he, hw ▸ h.newRd s⟩
theorem take_st (h : St S W w (rdT b s a :: L)) (hs : s.size ≤ maxLen) (n : Nat) (hn : a + n ≤ s.size) :
    Calls Try.prog 31 #[.pointer (some ⟨b, 0, none⟩), .int .i64 n] w fun e w' => e = .returned (.tuple #[.string (s.extract a (a + n)), .int .i64 0]) ∧ St S W w' (rdT b s (a + n) :: L) :=
  (take_ok h.rd hs n hn).mono fun e w' ⟨he, hr, hm⟩ => ⟨he, h.rdTo hr hm⟩
theorem take_end_st (h : St S W w (rdT b s a :: L)) (ha : a ≤ s.size) (hs : s.size ≤ maxLen) (n : Int) (hn0 : 0 ≤ n) (hn : (s.size : Int) - a < n) :
    Calls Try.prog 31 #[.pointer (some ⟨b, 0, none⟩), .int .i64 n] w fun e w' => e = .returned (.tuple #[.string ⟨#[]⟩, .int .i64 2]) ∧ St S W w' (rdT b s a :: L) :=
  (take_end h.rd ha hs n hn0 hn).mono fun e w' ⟨he, x⟩ => ⟨he, h.ext x⟩
theorem take_neg_st (h : St S W w (rdT b s a :: L)) (n : Int) (hn : n < 0) :
    Calls Try.prog 31 #[.pointer (some ⟨b, 0, none⟩), .int .i64 n] w fun e w' => e = .returned (.tuple #[.string ⟨#[]⟩, .int .i64 1]) ∧ St S W w' (rdT b s a :: L) :=
  (take_neg n hn).mono fun e w' ⟨he, x⟩ => ⟨he, x ▸ h⟩
theorem byte_st (h : St S W w (rdT b s a :: L)) (hs : s.size ≤ maxLen) (ha : a < s.size) :
    Calls Try.prog 30 #[.pointer (some ⟨b, 0, none⟩)] w fun e w' => e = .returned (.tuple #[.int .u8 (s[a].toNat : Nat), .int .i64 0]) ∧ St S W w' (rdT b s (a + 1) :: L) :=
  (byte_ok h.rd hs ha).mono fun e w' ⟨he, hr, hm⟩ => ⟨he, h.rdTo hr hm⟩
theorem byte_end_st (h : St S W w (rdT b s a :: L)) (hs : s.size ≤ maxLen) (ha : a = s.size) :
    Calls Try.prog 30 #[.pointer (some ⟨b, 0, none⟩)] w fun e w' => e = .returned (.tuple #[.int .u8 0, .int .i64 2]) ∧ St S W w' (rdT b s a :: L) := by
  subst ha
  exact (byte_end h.rd hs).mono fun e w' ⟨he, x⟩ => ⟨he, h.ext x⟩
end
end Go.Proofs.Ytkjnpjkfagdegaa
