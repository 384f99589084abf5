/- Layer 4: runs printed. -/
import Derived.Test.YtpdhfmkaeemadaaRUn2
import Derived.Test.YtpdhfmkaeemadaaOctW
namespace Go.Proofs.Ytpdhfmkaeemadaa
open Go.RowKit Go.WideShapes
set_option linter.unusedVariables false
set_option linter.unusedSimpArgs false
theorem bytes_append (a b : List UInt8) : (⟨a.toArray⟩ : ByteArray) ++ ⟨b.toArray⟩ = ⟨(a ++ b).toArray⟩ := by
  apply ByteArray.ext
  apply Array.toList_inj.1
  rw [ByteArray.data_append, Array.toList_append]
theorem bytes_size (a : List UInt8) : (⟨a.toArray⟩ : ByteArray).size = a.length := rfl
/-- the runs' bytes -/
def rbs (p : List Rn) : List UInt8 := p.flatMap fun r => vb r.1 ++ vb (r.2 - 1)
def rbl (p : List Rn) : List UInt8 := vb p.length ++ rbs p
theorem rbs_take (p : List Rn) (i : Nat) (h : i < p.length) : rbs (p.take (i + 1)) = rbs (p.take i) ++ (vb (p.getD i (0, 0)).1 ++ vb ((p.getD i (0, 0)).2 - 1)) := by
  unfold rbs
  rw [List.take_succ_eq_append_getElem h, List.flatMap_append, List.flatMap_singleton, List.getD_eq_getElem?_getD, List.getElem?_eq_getElem h]
  rfl
theorem okR_count (p : List Rn) (h : okR p) : ∀ i, i < p.length → 1 ≤ (p.getD i (0, 0)).2 := by
  induction p with
  | nil => intro i hi; simp at hi
  | cons r p ih =>
    intro i hi
    cases i with
    | zero => exact h.1
    | succ i => simpa using ih h.2.2 i (by simpa using hi)
theorem allR_pk (l : List Nat) (ha : AllLt l) (hl : l.length ≤ 1000000) : AllR (pk l) := by
  intro i hi
  have hm : (pk l).getD i (0, 0) ∈ pk l := by
    rw [List.getD_eq_getElem?_getD, List.getElem?_eq_getElem hi]; exact List.getElem_mem hi
  have hc := count_le_expand (pk l) _ hm
  rw [expand_pk] at hc
  have h1 := okR_count (pk l) (ok_pk l) i hi
  refine ⟨?_, by omega⟩
  have hin : ((pk l).getD i (0, 0)).1 ∈ expand (pk l) := by
    unfold expand
    rw [List.mem_flatMap]
    exact ⟨_, hm, by rw [List.mem_replicate]; exact ⟨by omega, rfl⟩⟩
  rw [expand_pk] at hin
  obtain ⟨j, hj, e⟩ := List.mem_iff_getElem.1 hin
  have := ha j hj
  rw [List.getD_eq_getElem?_getD, List.getElem?_eq_getElem hj] at this
  rw [← e]; exact this
section
variable {S : Nat → Prop} {W w : World} {M : List Thing}
set_option maxRecDepth 20000 in
set_option maxHeartbeats 4000000 in
theorem runprint_any (A : Option Addr) (ca m : Nat) (l : List Nat) (w : World) (hm : l.length = m) (hl : m ≤ 1000000) (hr : NRow w A l) (ha : AllLt l) :
    Calls Try.prog 16 #[.slice A m ca] w fun e w' => e = .returned (.string ⟨(rbl (pk l)).toArray⟩) ∧ Ext w w' := by
  have HPK := Lib.hid (pack_st ((St.start noB w).newWr) A ca l m hm hl (hr.ext ((St.start noB w).newWr).ends) ha)
  have hln : (pk l).length ≤ m := by have := len_le_expand (pk l) (ok_pk l); rw [expand_pk] at this; omega
  have hal := allR_pk l ha (by omega)
  have hco := okR_count (pk l) (ok_pk l)
  clear ha hr hm
  generalize pk l = p at *
  have HTK := Lib.hid (rbs_take p)
  have HD := Lib.hid (show rbl p = vb p.length ++ rbs (p.take p.length) by rw [List.take_length]; rfl)
  go_enter Try.func16, Try.ntmps16
  go_wp2_with (go_at_call 10; refine HPK.out.mono ?_; rintro e w1 ⟨A1, n, c1, rfl, hn', h1⟩; have hnm : n ≤ m := (by omega); have HN := Lib.hid hn'; clear hn')
  have hn := HN.out
  rw [← hn] at hln hco HTK HD
  generalize w.heap.size = x at h1 ⊢
  have hal2 : ∀ i, i < n → _ := fun i hi => hal i (by omega)
  clear hn hal
  have h1 := h1.swap
  have h10 := vb_len10 n (by omega)
  have hpn := vprint_any n (by omega) w1
  refine hpn.mono ?_
  rintro e w2 ⟨rfl, x2⟩
  have h2 := h1.ext x2
  clear hpn h1
  go_wp2_with fail
  refine (text_st h2 ⟨(vb n).toArray⟩ (by rw [bytes_size]; simp; omega)).mono ?_
  rintro e w3 ⟨rfl, h3⟩
  rw [List.nil_append] at h3
  clear h2
  go_wp2_with fail
  go_loopw [16] (fun vi wr => ∃ i : Nat, i ≤ n ∧ vi = .int .i64 i ∧ (vb n ++ rbs (p.take i)).length ≤ 10 + 20 * i ∧ St noB w wr [wrT x (vb n ++ rbs (p.take i)), ownT 36 2 (.slice A1 n c1) n (runsV p)]) (fun vi _ => n - (intOf vi).toNat)
  case atStart => exact ⟨0, by omega, rfl, by simp [rbs]; omega, by simpa [rbs] using h3⟩
  case round =>
    clear h3
    obtain ⟨i, hi, rfl, hlen, h⟩ := hrel
    by_cases hlt : i < n
    · obtain ⟨b, off, hb, hc0, hc1⟩ := (Own.rrow h.swap.own HN.out.symm) i (by have := HN.out; omega)
      subst hb
      obtain ⟨hb0, hb1⟩ := hal2 i hlt
      have hcp := hco i hlt
      have HE := Lib.hid (HTK.out i (by have := HN.out; omega))
      generalize p.getD i (0, 0) = r at hc0 hc1 hb0 hb1 hcp HE
      obtain ⟨xv, xc⟩ := r
      simp only at hc0 hc1 hb0 hb1 hcp HE
      obtain ⟨xd, rfl⟩ : ∃ d, xc = d + 1 := ⟨xc - 1, by omega⟩
      rw [Nat.add_sub_cancel] at HE
      have v10 := vb_len10 xv hb0
      have d10 := vb_len10 xd (by omega)
      clear hal2 hco
      have h4 := h.alloc #[Value.int .u64 xv, Value.int .u64 ((xd + 1 : Nat) : Int)] 36
      have h5 := h4.swap
      have k0 := cell_of_heap h4.blk 0
      have k1 := cell_of_heap h4.blk 1
      change _ = some (Value.int .u64 xv) at k0
      change _ = some (Value.int .u64 ((xd + 1 : Nat) : Int)) at k1
      clear h4
      have HP0 := Lib.hid (fun w => vprint_any xv hb0 w)
      have HP1 := Lib.hid (fun w => vprint_any xd (by omega) w)
      go_wp2_with fail
      refine (HP0.out _).mono ?_
      rintro e w4 ⟨rfl, x4⟩
      have h6 := h5.ext x4
      go_wp2_with fail
      refine (text_st h6 ⟨(vb xv).toArray⟩ (by rw [bytes_size]; omega)).mono ?_
      rintro e w5 ⟨rfl, h7⟩
      have hl7 : (vb n ++ rbs (p.take i) ++ vb xv).length ≤ 20 + 20 * i := by rw [List.length_append]; omega
      clear h5 h6 k0 k1
      have k1 := cell_of_heap h7.swap.blk 1
      change _ = some (Value.int .u64 ((xd : Int) + 1)) at k1
      change St noB w w5 [wrT x (vb n ++ rbs (p.take i) ++ vb xv), _, _] at h7
      go_wp2_with fail
      refine (HP1.out _).mono ?_
      rintro e w6 ⟨rfl, x6⟩
      have h8 := h7.ext x6
      go_wp2_with fail
      refine (text_st h8 ⟨(vb xd).toArray⟩ (by rw [bytes_size]; omega)).mono ?_
      rintro e w7 ⟨rfl, h9⟩
      have h11 : St noB w w7 [wrT x (vb n ++ rbs (p.take (i + 1))), ownT 36 2 (.slice (some ⟨b, off, none⟩) n c1) n (runsV p)] := by
        rw [HE.out, ← List.append_assoc, ← List.append_assoc]; exact h9.swap.drop
      have hl11 : (vb n ++ rbs (p.take (i + 1))).length ≤ 10 + 20 * (i + 1) := by
        rw [HE.out, ← List.append_assoc, ← List.append_assoc, List.length_append]; omega
      go_wp2_with fail
      go_roundw
      case rel => first | exact ⟨i + 1, by omega, by go_num, hl11, h11⟩ | ((repeat apply Exists.intro); exact ⟨⟨i + 1, by omega, by go_num, hl11, h11⟩, rfl⟩)
      case measure => simp [intOf]; omega
    · obtain rfl : i = n := by omega
      have HS := Lib.hid (str_st h)
      go_wp2_with (go_at_call 25; refine HS.out.mono ?_; rintro e w3 ⟨rfl, rfl⟩)
      go_ret
      rw [HD.out]
      exact ⟨rfl, h.ends⟩
end
end Go.Proofs.Ytpdhfmkaeemadaa
