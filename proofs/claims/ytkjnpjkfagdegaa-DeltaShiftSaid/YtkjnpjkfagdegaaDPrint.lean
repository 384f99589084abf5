/- Layers 2 and 3: lists printed and read. -/
import Derived.Test.YtkjnpjkfagdegaaDWalk
import Derived.Test.YtkjnpjkfagdegaaOctW
namespace Go.Proofs.Ytkjnpjkfagdegaa
open Go.RowKit
set_option linter.unusedVariables false
set_option linter.unusedSimpArgs false
theorem take_snoc (l : List Nat) (i : Nat) (h : i < l.length) : l.take (i + 1) = l.take i ++ [l.getD i 0] := by
  rw [List.take_succ_eq_append_getElem h, List.getD_eq_getElem?_getD, List.getElem?_eq_getElem h]; rfl
theorem bytes_append (a b : List UInt8) : (⟨a.toArray⟩ : ByteArray) ++ ⟨b.toArray⟩ = ⟨(a ++ b).toArray⟩ := by
  apply ByteArray.ext
  apply Array.toList_inj.1
  rw [ByteArray.data_append, Array.toList_append]
theorem bytes_size (a : List UInt8) : (⟨a.toArray⟩ : ByteArray).size = a.length := rfl
theorem bytes_list (a : List UInt8) : (⟨a.toArray⟩ : ByteArray).data.toList = a := by simp
section
variable {A : Option Addr} {ca : Nat} {l : List Nat}
set_option maxRecDepth 20000 in
set_option maxHeartbeats 4000000 in
theorem vprintlist_any (w : World) (hl : l.length ≤ 1000000) (hr : NRow w A l) (ha : AllLt l) :
    Calls Try.prog 23 #[.slice A l.length ca] w fun e w' => e = .returned (.string ⟨(vbl l).toArray⟩) ∧ Ext w w' := by
  obtain ⟨m, hm⟩ : ∃ m, m = l.length := ⟨_, rfl⟩
  have ha2 : ∀ i, i < m → l.getD i 0 < 18446744073709551616 := fun i hi => ha i (by omega)
  have hr2 : ∀ i, i < m → ∃ b off, A = some ⟨b, off, none⟩ ∧ w.cell? ⟨b, off + i, none⟩ = some (.int .u64 (l.getD i 0 : Nat)) := fun i hi => hr i (by omega)
  have HT : Hid (∀ i, i < m → vb m ++ vbs (l.take (i + 1)) = (vb m ++ vbs (l.take i)) ++ vb (l.getD i 0)) := Lib.hid (fun i hi => by rw [take_snoc l i (by omega), vbs_snoc, List.append_assoc])
  have HD := Lib.hid (show vbl l = vb m ++ vbs (l.take m) by rw [hm, List.take_length]; rfl)
  have h10 := vb_len10 m (by omega)
  rw [← hm] at hl ⊢
  clear hm ha hr
  go_enter Try.func23, Try.ntmps23
  have HP := Lib.hid (fun w => vprint_any m (by omega) w)
  go_wp2_with (first
    | (go_at_call 27; refine (HP.out _).mono ?_; rintro e w1 ⟨rfl, x1⟩; have h := (St.start noB w).newWr.ext x1; have HTX := Lib.hid (text_st h ⟨(vb m).toArray⟩ (by rw [bytes_size]; simp; omega)))
    | (go_at_call 26; refine HTX.out.mono ?_; rintro e w2 ⟨rfl, h2⟩))
  rw [List.nil_append] at h2
  generalize w.heap.size = x at h2 ⊢
  clear HTX h
  go_loopw [13] (fun vi wr => ∃ i : Nat, i ≤ m ∧ vi = .int .i64 i ∧ (vb m ++ vbs (l.take i)).length ≤ 10 + 10 * i ∧ St noB w wr [wrT x (vb m ++ vbs (l.take i))]) (fun vi _ => m - (intOf vi).toNat)
  case atStart => exact ⟨0, by omega, rfl, by simp [vbs]; omega, by simpa [vbs] using h2⟩
  case round =>
    clear h2
    obtain ⟨i, hi, rfl, hlen, h⟩ := hrel
    by_cases hlt : i < m
    · obtain ⟨b, off, rfl, hc⟩ := hr2 i hlt
      have hc2 := h.ends.cell hc
      have hb := ha2 i hlt
      have HE := Lib.hid (HT.out i hlt)
      generalize l.getD i 0 = n at hb hc hc2 HE
      have hn10 := vb_len10 n hb
      have HP2 := Lib.hid (fun w => vprint_any n hb w)
      clear hc ha2 hr2
      have hlen2 : (vb m ++ vbs (l.take (i + 1))).length ≤ 10 + 10 * (i + 1) := by rw [HE.out, List.length_append]; omega
      go_wp2_with (first
        | (go_at_call 27; refine (HP2.out _).mono ?_; rintro e w3 ⟨rfl, x3⟩; have HTX := Lib.hid (text_st (h.ext x3) ⟨(vb n).toArray⟩ (by rw [bytes_size]; omega)))
        | (go_at_call 26; refine HTX.out.mono ?_; rintro e w4 ⟨rfl, h4⟩))
      rw [← HE.out] at h4
      go_roundw
      case rel => first | exact ⟨i + 1, by omega, by go_num, hlen2, h4⟩ | ((repeat apply Exists.intro); exact ⟨⟨i + 1, by omega, by go_num, hlen2, h4⟩, rfl⟩)
      case measure => simp [intOf]; omega
    · obtain rfl : i = m := by omega
      have HS := Lib.hid (str_st h)
      go_wp2_with (go_at_call 28; refine HS.out.mono ?_; rintro e w3 ⟨rfl, rfl⟩)
      go_ret
      rw [HD.out]
      exact ⟨rfl, h.ends⟩
set_option maxRecDepth 20000 in
set_option maxHeartbeats 4000000 in
theorem rprintlist_any (w : World) (hl : l.length ≤ 1000000) (hr : NRow w A l) (ha : AllLt l) :
    Calls Try.prog 25 #[.slice A l.length ca] w fun e w' => e = .returned (.string ⟨(vbl l).toArray⟩) ∧ Ext w w' := by
  obtain ⟨m, hm⟩ : ∃ m, m = l.length := ⟨_, rfl⟩
  have ha2 : ∀ i, i < m → l.getD i 0 < 18446744073709551616 := fun i hi => ha i (by omega)
  have hr2 : ∀ i, i < m → ∃ b off, A = some ⟨b, off, none⟩ ∧ w.cell? ⟨b, off + i, none⟩ = some (.int .u64 (l.getD i 0 : Nat)) := fun i hi => hr i (by omega)
  have HT : Hid (∀ i, i < m → vb m ++ vbs (l.take (i + 1)) = (vb m ++ vbs (l.take i)) ++ vb (l.getD i 0)) := Lib.hid (fun i hi => by rw [take_snoc l i (by omega), vbs_snoc, List.append_assoc])
  have HD := Lib.hid (show vbl l = vb m ++ vbs (l.take m) by rw [hm, List.take_length]; rfl)
  have h10 := vb_len10 m (by omega)
  rw [← hm] at hl ⊢
  clear hm ha hr
  go_enter Try.func25, Try.ntmps25
  have HP := Lib.hid (fun w => rprint_any m (by omega) w)
  go_wp2_with (go_at_call 18; refine (HP.out _).mono ?_; rintro e w1 ⟨rfl, x1⟩)
  go_loopw [3, 4] (fun vs vi wr => ∃ (i : Nat) (s : ByteArray), i ≤ m ∧ s.size ≤ 10 + 10 * i ∧ vs = .string s ∧ vi = .int .i64 i ∧ Hid (s = ⟨(vb m ++ vbs (l.take i)).toArray⟩) ∧ Ext w wr) (fun _ vi _ => m - (intOf vi).toNat)
  case atStart => exact ⟨0, _, by omega, by rw [bytes_size]; omega, rfl, rfl, Lib.hid (by simp [vbs]), x1⟩
  case round =>
    clear x1
    obtain ⟨i, s, hi, hss, rfl, rfl, HS, x⟩ := hrel
    by_cases hlt : i < m
    · obtain ⟨b, off, rfl, hc⟩ := hr2 i hlt
      have hc2 := x.cell hc
      have hb := ha2 i hlt
      have HE := Lib.hid (HT.out i hlt)
      generalize l.getD i 0 = n at hb hc hc2 HE
      have HP2 := Lib.hid (fun w => rprint_any n hb w)
      have HS2 : Hid (s ++ ⟨(vb n).toArray⟩ = ⟨(vb m ++ vbs (l.take (i + 1))).toArray⟩) := Lib.hid (by rw [HS.out, bytes_append, HE.out])
      have htz : (⟨(vb n).toArray⟩ : ByteArray).size ≤ 10 := by rw [bytes_size]; exact vb_len10 n hb
      generalize (⟨(vb n).toArray⟩ : ByteArray) = t at HP2 HS2 htz
      have hst : (s ++ t).size ≤ 10 + 10 * (i + 1) := by rw [ByteArray.size_append]; omega
      clear hc ha2 hr2 HS
      go_wp2_with (go_at_call 18; refine (HP2.out _).mono ?_; rintro e w3 ⟨rfl, x3⟩)
      have x4 := x.trans x3
      go_roundw
      case rel => first | exact ⟨i + 1, _, by omega, hst, rfl, by go_num, HS2, x4⟩ | ((repeat apply Exists.intro); exact ⟨⟨i + 1, _, by omega, hst, rfl, by go_num, HS2, x4⟩, rfl⟩)
      case measure => simp [intOf]; omega
    · obtain rfl : i = m := by omega
      go_wp2_with fail
      go_ret
      rw [HD.out, ← HS.out]
      exact ⟨rfl, x⟩
end
section
variable {S : Nat → Prop} {W w : World} {M : List Thing}
set_option maxHeartbeats 2000000 in
theorem dprint_any (A : Option Addr) (ca : Nat) (l : List Nat) (w : World) (hl : l.length ≤ 1000000) (hr : NRow w A l) (ha : AllLt l) :
    Calls Try.prog 17 #[.slice A l.length ca] w fun e w' => e = .returned (.string ⟨(vbl (deltas l)).toArray⟩) ∧ Ext w w' := by
  have H1 := Lib.hid (deltas_st (St.start noB w) A ca l hl hr ha)
  have hz := deltas_len l
  have hda := deltas_lt l ha
  clear hr ha
  obtain ⟨d, hd⟩ : ∃ d, d = deltas l := ⟨_, rfl⟩
  rw [← hd] at H1 hz hda ⊢
  clear hd
  rw [← hz] at H1 hl
  have HV := Lib.hid (fun (A : Option Addr) (ca : Nat) (w : World) (hr : NRow w A d) => vprintlist_any (ca := ca) w hl hr hda)
  generalize (⟨(vbl d).toArray⟩ : ByteArray) = r at HV ⊢
  clear hda
  go_enter Try.func17, Try.ntmps17
  rw [← hz]
  clear hz
  go_wp2_with (first
    | (go_at_call 12; refine H1.out.mono ?_; rintro e w1 ⟨g, rfl, h1, x1⟩)
    | (go_at_call 23; refine (HV.out _ _ _ (Own.nrow h1.own rfl)).mono ?_; rintro e w2 ⟨rfl, x2⟩))
  go_ret
  exact ⟨rfl, x1.trans x2⟩
set_option maxHeartbeats 2000000 in
theorem drprint_any (A : Option Addr) (ca : Nat) (l : List Nat) (w : World) (hl : l.length ≤ 1000000) (hr : NRow w A l) (ha : AllLt l) :
    Calls Try.prog 21 #[.slice A l.length ca] w fun e w' => e = .returned (.string ⟨(vbl (deltas l)).toArray⟩) ∧ Ext w w' := by
  have H1 := Lib.hid (rdeltas_st (St.start noB w) A ca l hl hr ha)
  have hz := deltas_len l
  have hda := deltas_lt l ha
  clear hr ha
  obtain ⟨d, hd⟩ : ∃ d, d = deltas l := ⟨_, rfl⟩
  rw [← hd] at H1 hz hda ⊢
  clear hd
  rw [← hz] at H1 hl
  have HV := Lib.hid (fun (A : Option Addr) (ca : Nat) (w : World) (hr : NRow w A d) => rprintlist_any (ca := ca) w hl hr hda)
  generalize (⟨(vbl d).toArray⟩ : ByteArray) = r at HV ⊢
  clear hda
  go_enter Try.func21, Try.ntmps21
  rw [← hz]
  clear hz
  go_wp2_with (first
    | (go_at_call 15; refine H1.out.mono ?_; rintro e w1 ⟨v, rfl, h1, x1⟩; obtain ⟨A1, c1, rfl⟩ := h1.own.form)
    | (go_at_call 25; refine (HV.out _ _ _ (Own.nrow h1.own rfl)).mono ?_; rintro e w2 ⟨rfl, x2⟩))
  go_ret
  exact ⟨rfl, x1.trans x2⟩
/-- what a list's bytes are read as -/
def drl (l : List UInt8) (a : Nat) (most : Int) : List Nat × Nat × Nat := (if (vrl l a most).2.1 = 0 then sums (vrl l a most).1 else [], (vrl l a most).2)
end
end Go.Proofs.Ytkjnpjkfagdegaa
