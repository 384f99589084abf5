/- Layer 1's writer: each call, at a writer that stands in block b and holds the slice v of the bytes l. -/
import Derived.Test.YtkjnpjkfagdegaaRows
import Derived.Test.YtkjnpjkfagdegaaAfter
import Derived.Test.YtkjnpjkfagdegaaOwn
namespace Go.Proofs.Ytkjnpjkfagdegaa
open Go.RowKit
set_option linter.unusedVariables false
set_option linter.unusedSimpArgs false

structure Wr (w : World) (b : Nat) (v : Value) (l : List UInt8) : Prop where
  heap : w.heap[b]? = some (.cells #[v] 49 (0, 0))
  own : Own w 5 1 v l.length (bytesV l)
  ne : v.ownBlock ≠ some b
/-- what a call on it may turn -/
def wrS (b : Nat) (v : Value) : Nat → Prop := fun k => k = b ∨ v.ownBlock = some k
theorem Wr.lt {w : World} {b : Nat} {v : Value} {l : List UInt8} (h : Wr w b v l) : b < w.heap.size := lt_of_block h.heap
theorem Wr.keep {S : Nat → Prop} {w w' : World} {b : Nat} {v : Value} {l : List UInt8} (h : Wr w b v l) (x : Mut S w w') (hb : ¬ S b) (hv : ∀ k, v.ownBlock = some k → ¬ S k) : Wr w' b v l :=
  ⟨x.heap hb h.heap, h.own.keep x hv, h.ne⟩
theorem Wr.ext {w w' : World} {b : Nat} {v : Value} {l : List UInt8} (h : Wr w b v l) (x : Ext w w') : Wr w' b v l := h.keep x (fun f => f) (fun _ _ f => f)
theorem Wr.new (w : World) : Wr (w.alloc (.cells #[.slice none 0 0] 49)) w.heap.size (.slice none 0 0) [] := ⟨heap_alloc_self _ _, Own.nil _ _ _, fun h => by cases h⟩
/-- a call on a writer that was made since W -/
theorem Wr.step {W w w' : World} {b : Nat} {v : Value} (hE : Ext W w) (hM : Mut (wrS b v) w w') (hb : W.heap.size ≤ b) (hv : OwnGe W.heap.size v) : Ext W w' :=
  hE.trans' hM (fun i hi h => by rcases h with h | h; omega; have := hv i h; omega)

theorem Wr.next {W w w' : World} {b : Nat} {v v' : Value} (hE : Ext W w) (hb : W.heap.size ≤ b) {B : Nat} (hB : W.heap.size ≤ B) (hBw : B ≤ w.heap.size) (hv : OwnGe B v) (hm : Moved w v v') (hM : Mut (wrS b v) w w') : Ext W w' ∧ OwnGe B v' ∧ B ≤ w'.heap.size :=
  ⟨Wr.step hE hM hb (hv.mono hB), hm.ge hv hBw, Nat.le_trans hBw hM.size⟩
theorem wrS_not {b k B : Nat} {v : Value} (hb : k ≠ b) (hv : OwnGe B v) (hk : k < B) : ¬ wrS b v k := by
  rintro (h | h)
  · exact hb h
  · have := hv k h; omega
/-- behind an append whose slice is stored back -/
theorem Wr.back {w w1 : World} {b : Nat} {v v' : Value} {l m : List UInt8} (h : Wr w b v l) (ho : Own w1 5 1 v' (l.length + m.length) (bytesV l ++ bytesV m)) (hm : Mut (ownS v) w w1) (hv : Moved w v v') :
    Wr (w1.setCell ⟨b, 0, none⟩ v') b v' (l ++ m) ∧ Mut (wrS b v) w (w1.setCell ⟨b, 0, none⟩ v') := by
  have hh : w1.heap[b]? = some (.cells #[v] 49 (0, 0)) := hm.heap (fun x => h.ne x) h.heap
  have hne : v'.ownBlock ≠ some b := hv.ne h.ne h.lt
  refine ⟨⟨heap_setCell hh 0 v', ?_, hne⟩, ?_⟩
  · rw [List.length_append, bytesV_append]
    exact Own.keep ho (Mut.one_set1 b v') (fun k hk e => hne (by rw [hk, e]))
  · exact (hm.mono (fun i _ x => .inr x)).setCell (.inr (.inl rfl)) v'

theorem uint8_info : (Try.prog.info? 5).map (fun i => (i.zero, i.size, i.bytes)) = some (some (.int .u8 0), 1, 1) := by kernel_rfl

set_option maxHeartbeats 400000 in
theorem text_nil (s : ByteArray) (w : World) :
    Calls Try.prog 26 #[.pointer none, .string s] w fun e w' => e = .returned (.tuple #[]) ∧ w = w' := by
  go_enter Try.func26, Try.ntmps26
  go_wp2
  go_end0
  exact ⟨rfl, rfl⟩
set_option maxHeartbeats 400000 in
theorem text_any {w : World} {b : Nat} {v : Value} {l : List UInt8} (h : Wr w b v l) (s : ByteArray) (hs : l.length + s.size ≤ 140737488355328) :
    Calls Try.prog 26 #[.pointer (some ⟨b, 0, none⟩), .string s] w fun e w' => e = .returned (.tuple #[]) ∧ ∃ v', Wr w' b v' (l ++ s.data.toList) ∧ Moved w v v' ∧ Mut (wrS b v) w w' := by
  obtain ⟨A, c, rfl⟩ := h.own.form
  have H := Lib.hid h
  have hc := cell_of_heap h.heap 0
  have hc2 : w.cell? ⟨b, 0, none⟩ = some (.slice A l.length c) := by rw [hc]; rfl
  have hf := free_of_heap h.heap 0
  clear hc h
  go_enter Try.func26, Try.ntmps26
  go_wp2_with (at_builtin; refine wpList_append_string _ rfl _ _ _ _ rfl 5 Try.underlying45 Try.underlying9 uint8_info (.slice A l.length c) l.length (bytesV l) rfl H.out.own s rfl (by unfold maxLen; omega) hs ?_; intro v' w1 ho hm hv; obtain ⟨A', c', rfl⟩ := ho.form; have hh : w1.heap[b]? = some (.cells #[.slice A l.length c] 49 (0, 0)) := hm.heap (fun x => H.out.ne x) H.out.heap; have hc3 : w1.cell? ⟨b, 0, none⟩ = some (.slice A l.length c) := cell_of_heap hh 0; have hf3 := free_of_heap hh 0; clear hh)
  have hb := H.out.back (m := s.data.toList) (by simpa using ho) hm hv
  go_wp2
  go_end0
  exact ⟨rfl, _, hb.1, hv, hb.2⟩
set_option maxHeartbeats 400000 in
theorem str_nil (w : World) :
    Calls Try.prog 28 #[.pointer none] w fun e w' => e = .returned (.string ⟨#[]⟩) ∧ w = w' := by
  go_enter Try.func28, Try.ntmps28
  go_wp2
  go_ret
  exact ⟨rfl, rfl⟩
/-- the bytes of an owned slice as a string -/
theorem run_string_own {w : World} {v : Value} {l : List UInt8} (h : Own w 5 1 v l.length (bytesV l)) : (convert 45 9 v).run Try.prog w = .ok (.string ⟨l.toArray⟩) w := by
  rcases h.2 with ⟨rfl, hn⟩ | ⟨g, cap, cur, rfl, _, hh, hnc, hcm, hcs, htake⟩
  · obtain rfl : l = [] := List.eq_nil_of_length_eq_zero hn
    exact run_convert_bytes_nil w _ _ Try.underlying45 Try.underlying5 _ _ _ Try.underlying9
  · refine run_string_of_row w _ _ Try.underlying45 Try.underlying5 g l.length cap l rfl (fun i hi => ?_) _ Try.underlying9
    rw [cell_of_heap hh, ← bytesV_get l i hi, ← htake]
    simp [List.getElem?_take, hi]
set_option maxHeartbeats 400000 in
theorem str_any {w : World} {b : Nat} {v : Value} {l : List UInt8} (h : Wr w b v l) :
    Calls Try.prog 28 #[.pointer (some ⟨b, 0, none⟩)] w fun e w' => e = .returned (.string ⟨l.toArray⟩) ∧ w = w' := by
  obtain ⟨A, c, rfl⟩ := h.own.form
  have hc := cell_of_heap h.heap 0
  have hc2 : w.cell? ⟨b, 0, none⟩ = some (.slice A l.length c) := by rw [hc]; rfl
  have hcv := run_string_own h.own
  clear hc h
  go_enter Try.func28, Try.ntmps28
  go_wp2
  go_ret
  exact ⟨rfl, rfl⟩
/-- a number's four bytes, the lowest first -/
def le4 (n : Nat) : List UInt8 := [UInt8.ofNat n, UInt8.ofNat (n / 256), UInt8.ofNat (n / 65536), UInt8.ofNat (n / 16777216)]
theorem bv_ofNat (n : Nat) : bv (UInt8.ofNat n) = .int .u8 ((n % 256 : Nat) : Int) := by simp [bv]
theorem le4_cells (n : Nat) (hn : n < 4294967296) : #[Value.int .u8 ((n : Int) % 256), Value.int .u8 ((n : Int) / 256 % 256), Value.int .u8 ((n : Int) / 65536 % 256), Value.int .u8 ((n : Int) / 16777216)] = (bytesV (le4 n)).toArray := by
  have h : n / 16777216 % 256 = n / 16777216 := Nat.mod_eq_of_lt (by omega)
  simp only [bytesV, le4, List.map_cons, List.map_nil, bv_ofNat, h]
  rfl
end Go.Proofs.Ytkjnpjkfagdegaa
