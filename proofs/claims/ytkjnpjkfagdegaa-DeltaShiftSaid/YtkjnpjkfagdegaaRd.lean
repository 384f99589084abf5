/- Layer 1's reader: each call, at a reader that stands in block b. -/
import Derived.Test.YtkjnpjkfagdegaaRows
import Derived.Test.YtkjnpjkfagdegaaAfter
namespace Go.Proofs.Ytkjnpjkfagdegaa
open Go.RowKit
set_option linter.unusedVariables false
set_option linter.unusedSimpArgs false

/-- block b is a reader of s, and stands at 'at_' -/
def Rd (w : World) (b : Nat) (s : ByteArray) (at_ : Nat) : Prop := w.heap[b]? = some (.cells #[.string s, .int .i64 at_] 47 (0, 0))
theorem Rd.c0 {w : World} {b : Nat} {s : ByteArray} {a : Nat} (h : Rd w b s a) : w.cell? ⟨b, 0, none⟩ = some (.string s) := by rw [cell_of_heap h]; rfl
theorem Rd.c1 {w : World} {b : Nat} {s : ByteArray} {a : Nat} (h : Rd w b s a) : w.cell? ⟨b, 1, none⟩ = some (.int .i64 a) := by rw [cell_of_heap h]; rfl
theorem Rd.f1 {w : World} {b : Nat} {s : ByteArray} {a : Nat} (h : Rd w b s a) : w.frozen? ⟨b, 1, none⟩ = false := free_of_heap h 1
theorem Rd.lt {w : World} {b : Nat} {s : ByteArray} {a : Nat} (h : Rd w b s a) : b < w.heap.size := lt_of_block h
theorem Rd.ext {w w' : World} {b : Nat} {s : ByteArray} {a : Nat} (h : Rd w b s a) (x : Ext w w') : Rd w' b s a := x.heap h
theorem Rd.keep {S : Nat → Prop} {w w' : World} {b : Nat} {s : ByteArray} {a : Nat} (h : Rd w b s a) (x : Mut S w w') (hb : ¬ S b) : Rd w' b s a := x.heap hb h
theorem Rd.set {w : World} {b : Nat} {s : ByteArray} {a : Nat} (h : Rd w b s a) (n : Nat) : Rd (w.setCell ⟨b, 1, none⟩ (.int .i64 n)) b s n := heap_setCell h 1 _

theorem new_any (s : ByteArray) (w : World) :
    Calls Try.prog 19 #[.string s] w fun e w' => e = .returned (.pointer (some ⟨w.heap.size, 0, none⟩)) ∧ w' = w.alloc (.cells #[.string s, .int .i64 0] 47) := by
  go_enter Try.func19, Try.ntmps19
  go_wp2
  go_ret
  exact ⟨rfl, rfl⟩
theorem Rd.new (w : World) (s : ByteArray) : Rd (w.alloc (.cells #[.string s, .int .i64 0] 47)) w.heap.size s 0 := heap_alloc_self _ _

set_option maxHeartbeats 400000 in
theorem at_any {w : World} {b : Nat} {s : ByteArray} {a : Nat} (h : Rd w b s a) :
    Calls Try.prog 22 #[.pointer (some ⟨b, 0, none⟩)] w fun e w' => e = .returned (.int .i64 a) ∧ w = w' := by
  have h1 := h.c1
  clear h
  go_enter Try.func22, Try.ntmps22
  go_wp2
  go_ret
  exact ⟨rfl, rfl⟩
theorem at_nil (w : World) :
    Calls Try.prog 22 #[.pointer none] w fun e w' => e = .returned (.int .i64 0) ∧ w = w' := by
  go_enter Try.func22, Try.ntmps22
  go_wp2
  go_ret
  exact ⟨rfl, rfl⟩
set_option maxHeartbeats 400000 in
theorem left_any {w : World} {b : Nat} {s : ByteArray} {a : Nat} (h : Rd w b s a) (ha : a ≤ s.size) (hs : s.size ≤ maxLen) :
    Calls Try.prog 32 #[.pointer (some ⟨b, 0, none⟩)] w fun e w' => e = .returned (.int .i64 ((s.size - a : Nat) : Int)) ∧ Ext w w' := by
  have h0 := h.c0
  have h1 := h.c1
  have hl := h.lt
  clear h
  unfold maxLen at hs
  have e1 : (s.size : Int) - (a : Int) = ((s.size - a : Nat) : Int) := by omega
  go_enter Try.func32, Try.ntmps32
  go_wp2
  (refine wp_region_after (by kernel_rfl) (by kernel_rfl) ?_; (repeat (first | go_big_quiet_skip | (go_big_quiet_want; first | (fail; simp only [Act.put, List.setIfInBounds_toArray, List.set_cons_succ, List.set_cons_zero]; go_big_quiet_on) | (go_big_quiet_op; first | go_big_quiet_on | (apply Exists.intro; refine ⟨fun _ => ?_, ?_⟩; (· (fail)); go_big_quiet_on))))); refine wpQuiet_nil ?_; rintro _ ⟨y, rfl⟩)
  go_wp2
  go_ret
  exact ⟨rfl, y.ext⟩
set_option maxHeartbeats 400000 in
theorem take_nil (n : Int) (w : World) :
    Calls Try.prog 31 #[.pointer none, .int .i64 n] w fun e w' => e = .returned (.tuple #[.string ⟨#[]⟩, .int .i64 15]) ∧ w = w' := by
  go_enter Try.func31, Try.ntmps31
  go_wp2
  go_ret2
  exact ⟨rfl, rfl⟩
set_option maxHeartbeats 400000 in
theorem take_neg {w : World} {b : Nat} (n : Int) (hn : n < 0) :
    Calls Try.prog 31 #[.pointer (some ⟨b, 0, none⟩), .int .i64 n] w fun e w' => e = .returned (.tuple #[.string ⟨#[]⟩, .int .i64 1]) ∧ w = w' := by
  go_enter Try.func31, Try.ntmps31
  go_wp2
  go_ret2
  exact ⟨rfl, rfl⟩
set_option maxHeartbeats 400000 in
theorem take_end {w : World} {b : Nat} {s : ByteArray} {a : Nat} (h : Rd w b s a) (ha : a ≤ s.size) (hs : s.size ≤ maxLen) (n : Int) (hn0 : 0 ≤ n) (hn : (s.size : Int) - a < n) :
    Calls Try.prog 31 #[.pointer (some ⟨b, 0, none⟩), .int .i64 n] w fun e w' => e = .returned (.tuple #[.string ⟨#[]⟩, .int .i64 2]) ∧ Ext w w' := by
  have hl := left_any h ha hs
  have hn1 : ((s.size - a : Nat) : Int) < n := by omega
  have HL := Lib.hid hl
  clear hl h
  go_enter Try.func31, Try.ntmps31
  go_wp2_with (go_at_call 32; refine HL.out.mono ?_; rintro e w1 ⟨rfl, hx⟩)
  go_ret2
  exact ⟨rfl, hx⟩
set_option maxHeartbeats 400000 in
theorem take_ok {w : World} {b : Nat} {s : ByteArray} {a : Nat} (h : Rd w b s a) (hs : s.size ≤ maxLen) (n : Nat) (hn : a + n ≤ s.size) :
    Calls Try.prog 31 #[.pointer (some ⟨b, 0, none⟩), .int .i64 n] w fun e w' => e = .returned (.tuple #[.string (s.extract a (a + n)), .int .i64 0]) ∧ Rd w' b s (a + n) ∧ Mut (oneB b) w w' := by
  have HL := Lib.hid (left_any h (by omega) hs)
  have HR := Lib.hid h
  have hn1 : ¬ ((s.size - a : Nat) : Int) < n := by omega
  have hn2 : a + n ≤ s.size := hn
  have hs2 := hs
  unfold maxLen at hs2
  clear h
  go_enter Try.func31, Try.ntmps31
  go_wp2_with (go_at_call 32; refine HL.out.mono ?_; rintro e w1 ⟨rfl, hx⟩)
  have HR1 := Lib.hid (HR.out.ext hx)
  have h0 := HR1.out.c0
  have h1 := HR1.out.c1
  have hl := HR1.out.lt
  (refine wp_region_after (by kernel_rfl) (by kernel_rfl) ?_; (repeat (first | go_big_quiet_skip | (go_big_quiet_want; first | (fail; simp only [Act.put, List.setIfInBounds_toArray, List.set_cons_succ, List.set_cons_zero]; go_big_quiet_on) | (go_big_quiet_op; first | go_big_quiet_on | (apply Exists.intro; refine ⟨fun _ => ?_, ?_⟩; (· (fail)); go_big_quiet_on))))); refine wpQuiet_nil ?_; rintro _ ⟨y, rfl⟩)
  have HR2 := Lib.hid (HR1.out.ext y.ext)
  have g1 := HR2.out.c1
  have gf := HR2.out.f1
  go_wp2
  go_ret2
  have ha := HR2.out.set (a + n)
  refine ⟨rfl, ha, ?_⟩
  exact ((hx.trans y.ext).any).trans (Mut.one_set b 1 _)
theorem extract_get (s : ByteArray) (a n i : Nat) (h : a + n ≤ s.size) (hi : i < n) : (s.extract a (a + n))[i]'(by rw [ByteArray.size_extract]; omega) = s[a + i] := by
  show (s.extract a (a + n)).data[i]'_ = s.data[a + i]'(by have : s.data.size = s.size := rfl; omega)
  simp only [ByteArray.data_extract, Array.getElem_extract]

set_option maxHeartbeats 400000 in
theorem byte_nil (w : World) :
    Calls Try.prog 30 #[.pointer none] w fun e w' => e = .returned (.tuple #[.int .u8 0, .int .i64 15]) ∧ w = w' := by
  go_enter Try.func30, Try.ntmps30
  go_wp2_with (go_at_call 31; refine (take_nil _ _).mono ?_; rintro e w1 ⟨rfl, rfl⟩)
  go_ret2
  exact ⟨rfl, rfl⟩
set_option maxHeartbeats 400000 in
theorem byte_end {w : World} {b : Nat} {s : ByteArray} (h : Rd w b s s.size) (hs : s.size ≤ maxLen) :
    Calls Try.prog 30 #[.pointer (some ⟨b, 0, none⟩)] w fun e w' => e = .returned (.tuple #[.int .u8 0, .int .i64 2]) ∧ Ext w w' := by
  have HL := Lib.hid (take_end h (Nat.le_refl _) hs 1 (by omega) (by omega))
  clear h
  go_enter Try.func30, Try.ntmps30
  go_wp2_with (go_at_call 31; refine HL.out.mono ?_; rintro e w1 ⟨rfl, hx⟩)
  go_ret2
  exact ⟨rfl, hx⟩
set_option maxHeartbeats 400000 in
theorem byte_ok {w : World} {b : Nat} {s : ByteArray} {a : Nat} (h : Rd w b s a) (hs : s.size ≤ maxLen) (ha : a < s.size) :
    Calls Try.prog 30 #[.pointer (some ⟨b, 0, none⟩)] w fun e w' => e = .returned (.tuple #[.int .u8 (s[a].toNat : Nat), .int .i64 0]) ∧ Rd w' b s (a + 1) ∧ Mut (oneB b) w w' := by
  have HL := Lib.hid (take_ok h hs 1 (by omega))
  clear h
  have hz : 0 < (s.extract a (a + 1)).size := by rw [ByteArray.size_extract]; omega
  have hg := extract_get s a 1 0 (by omega) (by omega)
  simp only [Nat.add_zero] at hg
  go_enter Try.func30, Try.ntmps30
  go_wp2_with (go_at_call 31; refine HL.out.mono ?_; rintro e w1 ⟨rfl, hr, hx⟩)
  go_ret2
  exact ⟨rfl, hr, hx⟩
theorem or_nat (x y i : Nat) (hx : x < 2 ^ i) (hy : y % 2 ^ i = 0) : x ||| y = x + y := by rw [Nat.or_comm, nat_join i y x hy hx, Nat.add_comm]
theorem four_bits (a b c d : Nat) (ha : a < 2 ^ 8) (hb : b < 2 ^ 8) (hc : c < 2 ^ 8) (hd : d < 2 ^ 8) :
    bits .or .u32 (bits .or .u32 (bits .or .u32 (a : Int) ((b : Int) * 256)) ((c : Int) * 65536)) ((d : Int) * 16777216) = ((a + 256 * b + 65536 * c + 16777216 * d : Nat) : Int) := by
  rw [show (b : Int) * 256 = ((b * 256 : Nat) : Int) by omega, u32_or_nat _ _ (by omega) (by omega), or_nat a (b * 256) 8 ha (by omega)]
  rw [show (c : Int) * 65536 = ((c * 65536 : Nat) : Int) by omega, u32_or_nat _ _ (by omega) (by omega), or_nat _ (c * 65536) 16 (by omega) (by omega)]
  rw [show (d : Int) * 16777216 = ((d * 16777216 : Nat) : Int) by omega, u32_or_nat _ _ (by omega) (by omega), or_nat _ (d * 16777216) 24 (by omega) (by omega)]
  congr 1; omega
/-- four bytes' number -/
def four (a b c d : UInt8) : Nat := a.toNat + 256 * b.toNat + 65536 * c.toNat + 16777216 * d.toNat

end Go.Proofs.Ytkjnpjkfagdegaa
