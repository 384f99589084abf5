/- Rows of bytes in memory. -/
import Derived.Test.YtkjnpjkfagdegaaMut
namespace Go.Proofs.Ytkjnpjkfagdegaa
open Go.RowKit
def bv (c : UInt8) : Value := .int .u8 (c.toNat : Nat)
def bytesV (l : List UInt8) : List Value := l.map bv
theorem bytesV_len (l : List UInt8) : (bytesV l).length = l.length := by simp [bytesV]
theorem bytesV_get (l : List UInt8) (i : Nat) (h : i < l.length) : (bytesV l)[i]? = some (bv (l.getD i 0)) := by simp [bytesV, h]
theorem bytesV_set (l : List UInt8) (i : Nat) (c : UInt8) : (bytesV l).set i (bv c) = bytesV (l.set i c) := by simp [bytesV, List.map_set]
theorem bytesV_append (l m : List UInt8) : bytesV (l ++ m) = bytesV l ++ bytesV m := by simp [bytesV]
theorem bytesV_one (l : List UInt8) : ∀ u ∈ bytesV l, u.oneCell' = true := by
  intro u hu; simp only [bytesV, List.mem_map] at hu; obtain ⟨c, _, rfl⟩ := hu; rfl
theorem strOf_bytes (l : List UInt8) : strOfNums (l.map fun c => ((c.toNat : Nat) : Int)) = ⟨l.toArray⟩ := by
  unfold strOfNums
  congr 2
  rw [List.map_map]
  conv => rhs; rw [← List.map_id l]
  apply List.map_congr_left
  intro c _
  simp
/-- a string out of bytes -/
theorem run_string_of_row {P : Program} (w : World) (src e : TypeId) (hs : P.underlying src = some (.slice e)) (he : P.underlying e = some (.int .u8)) (b n cap : Nat) (l : List UInt8) (hn : l.length = n)
    (hc : ∀ i, i < n → w.cell? ⟨b, i, none⟩ = some (bv (l.getD i 0))) (dst : TypeId) (hd : P.underlying dst = some .string) :
    (convert src dst (.slice (some ⟨b, 0, none⟩) n cap)).run P w = .ok (.string ⟨l.toArray⟩) w := by
  rw [← strOf_bytes]
  refine run_convert_bytes_arg w src e hs he b 0 n cap _ (by simpa using hn) (fun i hi => ?_) dst hd
  rw [Nat.zero_add, hc i hi]
  rw [List.getD_eq_getElem?_getD, List.getD_eq_getElem?_getD, List.getElem?_map]
  rw [List.getElem?_eq_getElem (by omega)]; rfl
theorem cells_of_row {w : World} {b : Nat} {l : List UInt8} {t : TypeId} (h : w.heap[b]? = some (.cells (bytesV l).toArray t (0, 0))) (i : Nat) (hi : i < l.length) : w.cell? ⟨b, i, none⟩ = some (bv (l.getD i 0)) := by
  rw [cell_of_heap h]; simpa using bytesV_get l i hi
theorem zeros_u8 (n : Nat) : madeCells #[Value.int .u8 0] n = (bytesV (List.replicate n 0)).toArray := by
  apply Array.toList_inj.1
  rw [toList_madeCells_one]
  simp [bytesV, bv]
theorem cells_news {w : World} {ad : Addr} {m : List UInt8} (h : ∀ i, i < m.length → w.cell? (ad.add i) = some (bv (m.getD i 0))) : ∀ j u, (bytesV m)[j]? = some u → w.cell? (ad.add j) = some u := by
  intro j u hj
  have hl : j < m.length := by
    rcases Nat.lt_or_ge j m.length with h | h
    · exact h
    · rw [List.getElem?_eq_none (by rw [bytesV_len]; exact h)] at hj; cases hj
  rw [bytesV_get m j hl] at hj
  cases hj
  exact h j hl
theorem ext_data (s : ByteArray) (a b : Nat) : (s.extract a b).data.toList = (s.data.toList.drop a).take (b - a) := by
  rw [ByteArray.data_extract, Array.toList_extract, List.extract_eq_take_drop]
theorem ext_toList (s : ByteArray) (a b : Nat) : (s.extract a b).toList = (s.data.toList.drop a).take (b - a) := by rw [ByteArray.toList_eq, ext_data]
theorem data_len (s : ByteArray) : s.data.toList.length = s.size := by rw [Array.length_toList]; rfl
end Go.Proofs.Ytkjnpjkfagdegaa
