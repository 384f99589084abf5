/- Layer 4: the document's runs printed. -/
import Derived.Test.YtpdhfmkaeemadaaRPrint
namespace Go.Proofs.Ytpdhfmkaeemadaa
open Go.RowKit Go.WideShapes
set_option linter.unusedVariables false
set_option linter.unusedSimpArgs false
/-- a number's bytes, as a text -/
def vbB (n : Nat) : ByteArray := ⟨(vb n).toArray⟩
theorem vbB_eq (n : Nat) : (⟨(vb n).toArray⟩ : ByteArray) = vbB n := rfl
theorem vbB_size (n : Nat) (h : n < 18446744073709551616) : (vbB n).size ≤ 10 := vb_len10 n h
theorem rprint_b (n : Nat) (h : n < 18446744073709551616) (w : World) :
    Calls Try.prog 28 #[.int .u64 n] w fun e w' => e = .returned (.string (vbB n)) ∧ Ext w w' := rprint_any n h w
set_option maxRecDepth 20000 in
set_option maxHeartbeats 4000000 in
theorem rrunprint_any (A : Option Addr) (ca m : Nat) (l : List Nat) (w : World) (hm : l.length = m) (hl : m ≤ 1000000) (hr : NRow w A l) (ha : AllLt l) :
    Calls Try.prog 19 #[.slice A m ca] w fun e w' => e = .returned (.string ⟨(rbl (pk l)).toArray⟩) ∧ Ext w w' := by
  have HPK := Lib.hid (rpack_st (St.start noB w) A ca l m hm hl hr ha)
  have hln : (pk l).length ≤ m := by have := len_le_expand (pk l) (ok_pk l); rw [expand_pk] at this; omega
  have hal := allR_pk l ha (by omega)
  have hco := okR_count (pk l) (ok_pk l)
  clear ha hr hm
  generalize pk l = p at *
  have HTK := Lib.hid (rbs_take p)
  have HD := Lib.hid (show rbl p = vb p.length ++ rbs (p.take p.length) by rw [List.take_length]; rfl)
  go_enter Try.func19, Try.ntmps19
  go_wp2_with (go_at_call 13; refine HPK.out.mono ?_; rintro e w1 ⟨A1, n, c1, rfl, hn', h1⟩; have hnm : n ≤ m := (by omega); have HN := Lib.hid hn'; clear hn')
  refine (rprint_b n (by omega) w1).mono ?_
  rintro e w2 ⟨rfl, x2⟩
  have h2 := h1.ext x2
  go_wp2_with fail
  have hn := HN.out
  rw [← hn] at hln hco HTK HD
  have hal2 : ∀ i, i < n → _ := fun i hi => hal i (by omega)
  have h10 := vb_len10 n (by omega)
  clear hn hal h1
  go_loopw [4, 5] (fun vs vi wr => ∃ (i : Nat) (s : ByteArray), i ≤ n ∧ s.size ≤ 10 + 20 * i ∧ vs = .string s ∧ vi = .int .i64 i ∧ Hid (s = ⟨(vb n ++ rbs (p.take i)).toArray⟩) ∧ St noB w wr [ownT 37 2 (.slice A1 n c1) n (runsV p)]) (fun _ vi _ => n - (intOf vi).toNat)
  case atStart => exact ⟨0, _, by omega, Nat.le_trans (vbB_size n (by omega)) (by omega), rfl, rfl, Lib.hid (by simp [rbs, vbB]), h2⟩
  case round =>
    clear h2
    obtain ⟨i, s, hi, hss, rfl, rfl, HS, h⟩ := hrel
    by_cases hlt : i < n
    · obtain ⟨b, off, hb, hc0, hc1⟩ := (Own.rrow h.own HN.out.symm) i (by have := HN.out; omega)
      subst hb
      obtain ⟨hb0, hb1⟩ := hal2 i hlt
      have hcp := hco i hlt
      have HE := Lib.hid (HTK.out i (by have := HN.out; omega))
      generalize p.getD i (0, 0) = r at hc0 hc1 hb0 hb1 hcp HE
      obtain ⟨xv, xc⟩ := r
      simp only at hc0 hc1 hb0 hb1 hcp HE
      obtain ⟨xd, rfl⟩ : ∃ d, xc = d + 1 := ⟨xc - 1, by omega⟩
      rw [Nat.add_sub_cancel] at HE
      have hx0 : xd < 18446744073709551616 := by omega
      have t0 := vbB_size xv hb0
      have t1 := vbB_size xd hx0
      have HS2 : Hid (s ++ (vbB xv ++ vbB xd) = ⟨(vb n ++ rbs (p.take (i + 1))).toArray⟩) := Lib.hid (by rw [HS.out, ← vbB_eq, ← vbB_eq, bytes_append, bytes_append, HE.out, List.append_assoc])
      have hz1 : (vbB xv ++ vbB xd).size ≤ 20 := by rw [ByteArray.size_append]; omega
      have hz2 : (s ++ (vbB xv ++ vbB xd)).size ≤ 10 + 20 * (i + 1) := by rw [ByteArray.size_append]; omega
      have hli : (i : Int) < (n : Int) := by omega
      have hl0 : (0 : Int) ≤ (i : Int) := by omega
      have ka0 := fun a : After wr => (After.ext a).cell hc0
      have ka1 := fun a : After wr => (After.ext a).cell hc1
      clear hc0 hc1 hal2 hco hcp HS
      go_wp2_with fail
      (refine wp_region_after (by kernel_rfl) (by kernel_rfl) ?_; (repeat (first | go_big_quiet_skip | (go_big_quiet_want; first | (fail; simp only [Act.put, List.setIfInBounds_toArray, List.set_cons_succ, List.set_cons_zero]; go_big_quiet_on) | (go_big_quiet_op; first | go_big_quiet_on | (apply Exists.intro; refine ⟨fun _ => ?_, ?_⟩; (· (go_at_call 28; exact Calls.after (rprint_b _ (by first | exact hb0 | exact hx0) _))); go_big_quiet_on))))); refine wpQuiet_nil ?_; rintro _ ⟨y, rfl⟩)
      have h5 := h.ext y.ext
      clear ka0 ka1
      go_wp2_with fail
      go_roundw
      case rel => first | exact ⟨i + 1, _, by omega, hz2, rfl, by go_num, HS2, h5⟩ | ((repeat apply Exists.intro); exact ⟨⟨i + 1, _, by omega, hz2, rfl, by go_num, HS2, h5⟩, rfl⟩)
      case measure => simp [intOf]; omega
    · obtain rfl : i = n := by omega
      go_wp2_with fail
      go_ret
      rw [HD.out, ← HS.out]
      exact ⟨rfl, h.ends⟩
end Go.Proofs.Ytpdhfmkaeemadaa
