/- Texts of this work, put together: DRead, RPrint, RPrint2, RRead, RRead2. -/
import Derived.Test.YtjdglpngcdcneaaGreatHc
import Derived.Test.YtjdglpngcdcneaaGreatHa
import Derived.Laws.ResultCell
import Derived.Laws.Rows
import Derived.Laws.NewBlocks
/- Layer 3: a list, read. -/
namespace Go.Proofs.YtjdglpngcdcneaaGreat
open Go.RowKit
set_option linter.unusedVariables false
set_option linter.unusedSimpArgs false
theorem allLt_snoc (l : List Nat) (n : Nat) (h : AllLt l) (hn : n < 18446744073709551616) : AllLt (l ++ [n]) := by
  intro i hi
  rw [List.getD_eq_getElem?_getD]
  rcases Nat.lt_or_ge i l.length with h1 | h1
  · rw [List.getElem?_append_left h1, ← List.getD_eq_getElem?_getD]; exact h i h1
  · rw [List.getElem?_append_right h1]
    simp at hi
    rw [show i - l.length = 0 by omega]; simpa using hn
theorem allLt_nil : AllLt [] := fun i hi => by simp at hi
theorem vls_facts (l : List UInt8) : ∀ (n a : Nat) (acc : List Nat), AllLt acc → acc.length ≤ a → a ≤ l.length →
    AllLt (vls l n a acc).1 ∧ (vls l n a acc).1.length ≤ l.length ∧ (vls l n a acc).2.1 ≤ 3 ∧ a ≤ (vls l n a acc).2.2 ∧ (vls l n a acc).2.2 ≤ l.length
  | 0, a, acc, h1, h2, h3 => ⟨h1, by simp [vls]; omega, by simp [vls], by simp [vls], by simpa [vls] using h3⟩
  | n + 1, a, acc, h1, h2, h3 => by
    have hf := vrd_facts l a h3
    rw [vls]
    split
    · rename_i he
      have hadv := vrd_adv l a he
      have := vls_facts l n (vrd l a).2.2 (acc ++ [(vrd l a).1]) (allLt_snoc acc _ h1 hf.1) (by simp; omega) hf.2.2.2
      exact ⟨this.1, this.2.1, this.2.2.1, by omega, this.2.2.2.2⟩
    · exact ⟨allLt_nil, by simp, hf.2.1, hf.2.2.1, hf.2.2.2⟩
theorem vrl_facts (l : List UInt8) (a : Nat) (most : Int) (h : a ≤ l.length) : AllLt (vrl l a most).1 ∧ (vrl l a most).1.length ≤ l.length ∧ (vrl l a most).2.1 ≤ 4 ∧ a ≤ (vrl l a most).2.2 ∧ (vrl l a most).2.2 ≤ l.length := by
  have hf := vrd_facts l a h
  unfold vrl
  split
  · exact ⟨allLt_nil, by simp, by simp, by simp, h⟩
  · split
    · split
      · exact ⟨allLt_nil, by simp, by simp, hf.2.2.1, hf.2.2.2⟩
      · have := vls_facts l (vrd l a).1 (vrd l a).2.2 [] allLt_nil (by simp) hf.2.2.2
        exact ⟨this.1, this.2.1, by omega, by omega, this.2.2.2.2⟩
    · exact ⟨allLt_nil, by simp, Nat.le_trans hf.2.1 (by omega), hf.2.2.1, hf.2.2.2⟩
section
variable {S : Nat → Prop} {W w : World} {M : List Thing} {b : Nat} {s : ByteArray} {a : Nat}
set_option maxRecDepth 20000 in
set_option maxHeartbeats 2000000 in
theorem dread_st (h : St S W w (rdT b s a :: M)) (hs : s.size ≤ 4200000) (ha : a ≤ s.size) (most : Int) (hm : -9223372036854775808 ≤ most ∧ most < 9223372036854775808) :
    Calls Tryz.prog 67 #[.pointer (some ⟨b, 0, none⟩), .int .i64 most] w fun e w' => ∃ v, e = .returned (.tuple #[v, .int .i64 (drl s.data.toList a most).2.1]) ∧ St S W w' (nlT v (drl s.data.toList a most).1 :: rdT b s (drl s.data.toList a most).2.2 :: M) := by
  have hf := vrl_facts s.data.toList a most (by simpa using ha)
  have HV := Lib.hid (vreadlist_st h hs ha most hm)
  unfold drl
  generalize vrl s.data.toList a most = T at HV hf ⊢
  obtain ⟨L, er, en⟩ := T
  obtain ⟨hL, hLl, her, hen, hel⟩ := hf
  simp only at HV hL hLl her hen hel ⊢
  rw [show s.data.toList.length = s.size by simp] at hLl hel
  clear h
  by_cases he : er = 0
  · subst he
    rw [if_pos rfl]
    go_enter Tryz.func67, Tryz.ntmps67
    go_wp2_with (first
      | (go_at_call 96; refine HV.out.mono ?_; rintro e w1 ⟨v, rfl, h1⟩; obtain ⟨A1, c1, rfl⟩ := h1.own.form; have HS := Lib.hid (sums_st h1 A1 c1 L (by omega) (Own.nrow h1.own rfl) hL))
      | (go_at_call 97; refine HS.out.mono ?_; rintro e w2 ⟨g, rfl, h2, x2⟩))
    go_ret2
    refine ⟨_, rfl, ?_⟩
    have h3 := h2.swap.drop
    unfold nlT at h3 ⊢
    rw [sums_len] at h3 ⊢
    exact h3
  · rw [if_neg he]
    have hne : ((er : Int) != 0) = true := by rw [bne_iff_ne]; omega
    clear he
    go_enter Tryz.func67, Tryz.ntmps67
    go_wp2_with (go_at_call 96; refine HV.out.mono ?_; rintro e w1 ⟨v, rfl, h1⟩)
    go_ret2
    exact ⟨_, rfl, h1.drop.nilOwn _ _⟩
end
end Go.Proofs.YtjdglpngcdcneaaGreat

/- Layer 4: runs printed. -/
namespace Go.Proofs.YtjdglpngcdcneaaGreat
open Go.RowKit Go.WideShapes
set_option linter.unusedVariables false
set_option linter.unusedSimpArgs false
theorem bytes_append (a b : List UInt8) : (⟨a.toArray⟩ : ByteArray) ++ ⟨b.toArray⟩ = ⟨(a ++ b).toArray⟩ := by
  apply ByteArray.ext
  apply Array.toList_inj.1
  rw [ByteArray.data_append, Array.toList_append]
theorem bytes_size (a : List UInt8) : (⟨a.toArray⟩ : ByteArray).size = a.length := rfl
/-- the runs' bytes -/
def rbs (p : List Rn) : List UInt8 := p.flatMap fun r => vb r.1 ++ vb (r.2 - 1)
def rbl (p : List Rn) : List UInt8 := vb p.length ++ rbs p
theorem rbs_take (p : List Rn) (i : Nat) (h : i < p.length) : rbs (p.take (i + 1)) = rbs (p.take i) ++ (vb (p.getD i (0, 0)).1 ++ vb ((p.getD i (0, 0)).2 - 1)) := by
  unfold rbs
  rw [List.take_succ_eq_append_getElem h, List.flatMap_append, List.flatMap_singleton, List.getD_eq_getElem?_getD, List.getElem?_eq_getElem h]
  rfl
theorem okR_count (p : List Rn) (h : okR p) : ∀ i, i < p.length → 1 ≤ (p.getD i (0, 0)).2 := by
  induction p with
  | nil => intro i hi; simp at hi
  | cons r p ih =>
    intro i hi
    cases i with
    | zero => exact h.1
    | succ i => simpa using ih h.2.2 i (by simpa using hi)
theorem allR_pk (l : List Nat) (ha : AllLt l) (hl : l.length ≤ 1000000) : AllR (pk l) := by
  intro i hi
  have hm : (pk l).getD i (0, 0) ∈ pk l := by
    rw [List.getD_eq_getElem?_getD, List.getElem?_eq_getElem hi]; exact List.getElem_mem hi
  have hc := count_le_expand (pk l) _ hm
  rw [expand_pk] at hc
  have h1 := okR_count (pk l) (ok_pk l) i hi
  refine ⟨?_, by omega⟩
  have hin : ((pk l).getD i (0, 0)).1 ∈ expand (pk l) := by
    unfold expand
    rw [List.mem_flatMap]
    exact ⟨_, hm, by rw [List.mem_replicate]; exact ⟨by omega, rfl⟩⟩
  rw [expand_pk] at hin
  obtain ⟨j, hj, e⟩ := List.mem_iff_getElem.1 hin
  have := ha j hj
  rw [List.getD_eq_getElem?_getD, List.getElem?_eq_getElem hj] at this
  rw [← e]; exact this
section
variable {S : Nat → Prop} {W w : World} {M : List Thing}
set_option maxRecDepth 20000 in
set_option maxHeartbeats 4000000 in
theorem runprint_any (A : Option Addr) (ca m : Nat) (l : List Nat) (w : World) (hm : l.length = m) (hl : m ≤ 1000000) (hr : NRow w A l) (ha : AllLt l) :
    Calls Tryz.prog 18 #[.slice A m ca] w fun e w' => e = .returned (.string ⟨(rbl (pk l)).toArray⟩) ∧ Ext w w' := by
  have HPK := Lib.hid (pack_st ((St.start noB w).newWr) A ca l m hm hl (hr.ext ((St.start noB w).newWr).ends) ha)
  have hln : (pk l).length ≤ m := by have := len_le_expand (pk l) (ok_pk l); rw [expand_pk] at this; omega
  have hal := allR_pk l ha (by omega)
  have hco := okR_count (pk l) (ok_pk l)
  clear ha hr hm
  generalize pk l = p at *
  have HTK := Lib.hid (rbs_take p)
  have HD := Lib.hid (show rbl p = vb p.length ++ rbs (p.take p.length) by rw [List.take_length]; rfl)
  go_enter Tryz.func18, Tryz.ntmps18
  go_wp2_with (go_at_call 33; refine HPK.out.mono ?_; rintro e w1 ⟨A1, n, c1, rfl, hn', h1⟩; have hnm : n ≤ m := (by omega); have HN := Lib.hid hn'; clear hn')
  have hn := HN.out
  rw [← hn] at hln hco HTK HD
  generalize w.heap.size = x at h1 ⊢
  have hal2 : ∀ i, i < n → _ := fun i hi => hal i (by omega)
  clear hn hal
  have h1 := h1.swap
  have h10 := vb_len10 n (by omega)
  have hpn := vprint_any n (by omega) w1
  refine hpn.mono ?_
  rintro e w2 ⟨rfl, x2⟩
  have h2 := h1.ext x2
  clear hpn h1
  go_wp2_with fail
  refine (text_st h2 ⟨(vb n).toArray⟩ (by rw [bytes_size]; simp; omega)).mono ?_
  rintro e w3 ⟨rfl, h3⟩
  rw [List.nil_append] at h3
  clear h2
  go_wp2_with fail
  go_loopw [16] (fun vi wr => ∃ i : Nat, i ≤ n ∧ vi = .int .i64 i ∧ (vb n ++ rbs (p.take i)).length ≤ 10 + 20 * i ∧ St noB w wr [wrT x (vb n ++ rbs (p.take i)), ownT 65 2 (.slice A1 n c1) n (runsV p)]) (fun vi _ => n - (intOf vi).toNat)
  case atStart => exact ⟨0, by omega, rfl, by simp [rbs]; omega, by simpa [rbs] using h3⟩
  case round =>
    clear h3
    obtain ⟨i, hi, rfl, hlen, h⟩ := hrel
    by_cases hlt : i < n
    · obtain ⟨b, off, hb, hc0, hc1⟩ := (Own.rrow h.swap.own HN.out.symm) i (by have := HN.out; omega)
      subst hb
      obtain ⟨hb0, hb1⟩ := hal2 i hlt
      have hcp := hco i hlt
      have HE := Lib.hid (HTK.out i (by have := HN.out; omega))
      generalize p.getD i (0, 0) = r at hc0 hc1 hb0 hb1 hcp HE
      obtain ⟨xv, xc⟩ := r
      simp only at hc0 hc1 hb0 hb1 hcp HE
      obtain ⟨xd, rfl⟩ : ∃ d, xc = d + 1 := ⟨xc - 1, by omega⟩
      rw [Nat.add_sub_cancel] at HE
      have v10 := vb_len10 xv hb0
      have d10 := vb_len10 xd (by omega)
      clear hal2 hco
      have h4 := h.alloc #[Value.int .u64 xv, Value.int .u64 ((xd + 1 : Nat) : Int)] 65
      have h5 := h4.swap
      have k0 := cell_of_heap h4.blk 0
      have k1 := cell_of_heap h4.blk 1
      change _ = some (Value.int .u64 xv) at k0
      change _ = some (Value.int .u64 ((xd + 1 : Nat) : Int)) at k1
      clear h4
      have HP0 := Lib.hid (fun w => vprint_any xv hb0 w)
      have HP1 := Lib.hid (fun w => vprint_any xd (by omega) w)
      go_wp2_with fail
      refine (HP0.out _).mono ?_
      rintro e w4 ⟨rfl, x4⟩
      have h6 := h5.ext x4
      go_wp2_with fail
      refine (text_st h6 ⟨(vb xv).toArray⟩ (by rw [bytes_size]; omega)).mono ?_
      rintro e w5 ⟨rfl, h7⟩
      have hl7 : (vb n ++ rbs (p.take i) ++ vb xv).length ≤ 20 + 20 * i := by rw [List.length_append]; omega
      clear h5 h6 k0 k1
      have k1 := cell_of_heap h7.swap.blk 1
      change _ = some (Value.int .u64 ((xd : Int) + 1)) at k1
      change St noB w w5 [wrT x (vb n ++ rbs (p.take i) ++ vb xv), _, _] at h7
      go_wp2_with fail
      refine (HP1.out _).mono ?_
      rintro e w6 ⟨rfl, x6⟩
      have h8 := h7.ext x6
      go_wp2_with fail
      refine (text_st h8 ⟨(vb xd).toArray⟩ (by rw [bytes_size]; omega)).mono ?_
      rintro e w7 ⟨rfl, h9⟩
      have h11 : St noB w w7 [wrT x (vb n ++ rbs (p.take (i + 1))), ownT 65 2 (.slice (some ⟨b, off, none⟩) n c1) n (runsV p)] := by
        rw [HE.out, ← List.append_assoc, ← List.append_assoc]; exact h9.swap.drop
      have hl11 : (vb n ++ rbs (p.take (i + 1))).length ≤ 10 + 20 * (i + 1) := by
        rw [HE.out, ← List.append_assoc, ← List.append_assoc, List.length_append]; omega
      go_wp2_with fail
      go_roundw
      case rel => first | exact ⟨i + 1, by omega, by go_num, hl11, h11⟩ | ((repeat apply Exists.intro); exact ⟨⟨i + 1, by omega, by go_num, hl11, h11⟩, rfl⟩)
      case measure => simp [intOf]; omega
    · obtain rfl : i = n := by omega
      have HS := Lib.hid (str_st h)
      go_wp2_with (go_at_call 21; refine HS.out.mono ?_; rintro e w3 ⟨rfl, rfl⟩)
      go_ret
      rw [HD.out]
      exact ⟨rfl, h.ends⟩
end
end Go.Proofs.YtjdglpngcdcneaaGreat

/- Layer 4: the document's runs printed. -/
namespace Go.Proofs.YtjdglpngcdcneaaGreat
open Go.RowKit Go.WideShapes
set_option linter.unusedVariables false
set_option linter.unusedSimpArgs false
/-- a number's bytes, as a text -/
def vbB (n : Nat) : ByteArray := ⟨(vb n).toArray⟩
theorem vbB_eq (n : Nat) : (⟨(vb n).toArray⟩ : ByteArray) = vbB n := rfl
theorem vbB_size (n : Nat) (h : n < 18446744073709551616) : (vbB n).size ≤ 10 := vb_len10 n h
theorem rprint_b (n : Nat) (h : n < 18446744073709551616) (w : World) :
    Calls Tryz.prog 42 #[.int .u64 n] w fun e w' => e = .returned (.string (vbB n)) ∧ Ext w w' := rprint_any n h w
set_option maxRecDepth 20000 in
set_option maxHeartbeats 4000000 in
theorem rrunprint_any (A : Option Addr) (ca m : Nat) (l : List Nat) (w : World) (hm : l.length = m) (hl : m ≤ 1000000) (hr : NRow w A l) (ha : AllLt l) :
    Calls Tryz.prog 23 #[.slice A m ca] w fun e w' => e = .returned (.string ⟨(rbl (pk l)).toArray⟩) ∧ Ext w w' := by
  have HPK := Lib.hid (rpack_st (St.start noB w) A ca l m hm hl hr ha)
  have hln : (pk l).length ≤ m := by have := len_le_expand (pk l) (ok_pk l); rw [expand_pk] at this; omega
  have hal := allR_pk l ha (by omega)
  have hco := okR_count (pk l) (ok_pk l)
  clear ha hr hm
  generalize pk l = p at *
  have HTK := Lib.hid (rbs_take p)
  have HD := Lib.hid (show rbl p = vb p.length ++ rbs (p.take p.length) by rw [List.take_length]; rfl)
  go_enter Tryz.func23, Tryz.ntmps23
  go_wp2_with (go_at_call 41; refine HPK.out.mono ?_; rintro e w1 ⟨A1, n, c1, rfl, hn', h1⟩; have hnm : n ≤ m := (by omega); have HN := Lib.hid hn'; clear hn')
  refine (rprint_b n (by omega) w1).mono ?_
  rintro e w2 ⟨rfl, x2⟩
  have h2 := h1.ext x2
  go_wp2_with fail
  have hn := HN.out
  rw [← hn] at hln hco HTK HD
  have hal2 : ∀ i, i < n → _ := fun i hi => hal i (by omega)
  have h10 := vb_len10 n (by omega)
  clear hn hal h1
  go_loopw [4, 5] (fun vs vi wr => ∃ (i : Nat) (s : ByteArray), i ≤ n ∧ s.size ≤ 10 + 20 * i ∧ vs = .string s ∧ vi = .int .i64 i ∧ Hid (s = ⟨(vb n ++ rbs (p.take i)).toArray⟩) ∧ St noB w wr [ownT 85 2 (.slice A1 n c1) n (runsV p)]) (fun _ vi _ => n - (intOf vi).toNat)
  case atStart => exact ⟨0, _, by omega, Nat.le_trans (vbB_size n (by omega)) (by omega), rfl, rfl, Lib.hid (by simp [rbs, vbB]), h2⟩
  case round =>
    clear h2
    obtain ⟨i, s, hi, hss, rfl, rfl, HS, h⟩ := hrel
    by_cases hlt : i < n
    · obtain ⟨b, off, hb, hc0, hc1⟩ := (Own.rrow h.own HN.out.symm) i (by have := HN.out; omega)
      subst hb
      obtain ⟨hb0, hb1⟩ := hal2 i hlt
      have hcp := hco i hlt
      have HE := Lib.hid (HTK.out i (by have := HN.out; omega))
      generalize p.getD i (0, 0) = r at hc0 hc1 hb0 hb1 hcp HE
      obtain ⟨xv, xc⟩ := r
      simp only at hc0 hc1 hb0 hb1 hcp HE
      obtain ⟨xd, rfl⟩ : ∃ d, xc = d + 1 := ⟨xc - 1, by omega⟩
      rw [Nat.add_sub_cancel] at HE
      have hx0 : xd < 18446744073709551616 := by omega
      have t0 := vbB_size xv hb0
      have t1 := vbB_size xd hx0
      have HS2 : Hid (s ++ (vbB xv ++ vbB xd) = ⟨(vb n ++ rbs (p.take (i + 1))).toArray⟩) := Lib.hid (by rw [HS.out, ← vbB_eq, ← vbB_eq, bytes_append, bytes_append, HE.out, List.append_assoc])
      have hz1 : (vbB xv ++ vbB xd).size ≤ 20 := by rw [ByteArray.size_append]; omega
      have hz2 : (s ++ (vbB xv ++ vbB xd)).size ≤ 10 + 20 * (i + 1) := by rw [ByteArray.size_append]; omega
      have hli : (i : Int) < (n : Int) := by omega
      have hl0 : (0 : Int) ≤ (i : Int) := by omega
      have ka0 := fun a : After wr => (After.ext a).cell hc0
      have ka1 := fun a : After wr => (After.ext a).cell hc1
      clear hc0 hc1 hal2 hco hcp HS
      go_wp2_with fail
      (refine wp_region_after (by kernel_rfl) (by kernel_rfl) ?_; (repeat (first | go_big_quiet_skip | (go_big_quiet_want; first | (fail; simp only [Act.put, List.setIfInBounds_toArray, List.set_cons_succ, List.set_cons_zero]; go_big_quiet_on) | (go_big_quiet_op; first | go_big_quiet_on | (apply Exists.intro; refine ⟨fun _ => ?_, ?_⟩; (· (go_at_call 42; exact Calls.after (rprint_b _ (by first | exact hb0 | exact hx0) _))); go_big_quiet_on))))); refine wpQuiet_nil ?_; rintro _ ⟨y, rfl⟩)
      have h5 := h.ext y.ext
      clear ka0 ka1
      go_wp2_with fail
      go_roundw
      case rel => first | exact ⟨i + 1, _, by omega, hz2, rfl, by go_num, HS2, h5⟩ | ((repeat apply Exists.intro); exact ⟨⟨i + 1, _, by omega, hz2, rfl, by go_num, HS2, h5⟩, rfl⟩)
      case measure => simp [intOf]; omega
    · obtain rfl : i = n := by omega
      go_wp2_with fail
      go_ret
      rw [HD.out, ← HS.out]
      exact ⟨rfl, h.ends⟩
end Go.Proofs.YtjdglpngcdcneaaGreat

/- Layer 4: runs read. -/
namespace Go.Proofs.YtjdglpngcdcneaaGreat
open Go.RowKit Go.WideShapes
set_option linter.unusedVariables false
set_option linter.unusedSimpArgs false
/-- value, count, error, place behind -/
def rd2 (l : List UInt8) (a : Nat) : Nat × Nat × Nat × Nat :=
  if (vrd l a).2.1 = 0 then ((vrd l a).1, (vrd l (vrd l a).2.2).1, (vrd l (vrd l a).2.2).2.1, (vrd l (vrd l a).2.2).2.2) else (0, 0, (vrd l a).2.1, (vrd l a).2.2)
theorem rd2_facts (l : List UInt8) (a : Nat) (ha : a ≤ l.length) : (rd2 l a).1 < 18446744073709551616 ∧ (rd2 l a).2.1 < 18446744073709551616 ∧ (rd2 l a).2.2.1 ≤ 3 ∧ a ≤ (rd2 l a).2.2.2 ∧ (rd2 l a).2.2.2 ≤ l.length := by
  have h1 := vrd_facts l a ha
  have h2 := vrd_facts l (vrd l a).2.2 h1.2.2.2
  unfold rd2
  split
  · exact ⟨h1.1, h2.1, h2.2.1, Nat.le_trans h1.2.2.1 h2.2.2.1, h2.2.2.2⟩
  · exact ⟨by simp, by simp, h1.2.1, h1.2.2.1, h1.2.2.2⟩
def rls (l : List UInt8) (most : Nat) : Nat → Nat → List Nat → List Nat × Nat × Nat
  | 0, a, acc => (acc, 0, a)
  | n + 1, a, acc => if (rd2 l a).2.2.1 = 0 then (if acc.getLast? = some (rd2 l a).1 then ([], 3, (rd2 l a).2.2.2) else if most ≤ (rd2 l a).2.1 + acc.length then ([], 4, (rd2 l a).2.2.2) else rls l most n (rd2 l a).2.2.2 (acc ++ List.replicate ((rd2 l a).2.1 + 1) (rd2 l a).1)) else ([], (rd2 l a).2.2.1, (rd2 l a).2.2.2)
def rrl (l : List UInt8) (a : Nat) (most : Int) : List Nat × Nat × Nat :=
  if most < 0 then ([], 1, a) else if (vrd l a).2.1 = 0 then rls l most.toNat (vrd l a).1 (vrd l a).2.2 [] else ([], (vrd l a).2.1, (vrd l a).2.2)
theorem results_pair {P : Program} {fn : Func} {p u : Tmp} {ty : TypeId} (h : fn.results = #[.cell p ty, .tmp u]) (tmps : Array Value) (w : World) (g : Nat) (t : TypeId) (cs : Array Value) (fr : Nat × Nat) (d : TypeDesc)
    (hp : tmps.getD p undef = .pointer (some ⟨g, 0, none⟩)) (hg : w.heap[g]? = some (.cells cs t fr))
    (hu : P.underlying ty = some d) (hd : (match d with | .struct _ | .array _ _ => true | _ => false) = true) (hi : (P.info? ty).map (·.size) = some cs.size) :
    (results fn tmps).run P w = .ok (.tuple #[.agg cs, tmps.getD u undef]) w := by
  rw [results_cell_tmp h, hp]
  simp [asAddr, Result.andThen, run_loadVar_row w g t ty cs fr d hg hu hd hi]
section
variable {S : Nat → Prop} {W w : World} {M : List Thing} {b : Nat} {s : ByteArray} {a : Nat}
set_option maxRecDepth 20000 in
set_option maxHeartbeats 2000000 in
theorem pread_st (h : St S W w (rdT b s a :: M)) (hs : s.size ≤ 4200000) (ha : a ≤ s.size) :
    Calls Tryz.prog 87 #[.pointer (some ⟨b, 0, none⟩)] w fun e w' => e = .returned (.tuple #[.agg #[.int .u64 (rd2 s.data.toList a).1, .int .u64 (rd2 s.data.toList a).2.1], .int .i64 (rd2 s.data.toList a).2.2.1]) ∧ St S W w' (rdT b s (rd2 s.data.toList a).2.2.2 :: M) := by
  have hf := vrd_facts s.data.toList a (by simpa using ha)
  have h0 := h.alloc #[Value.int .u64 0, Value.int .u64 0] 65
  have HV := Lib.hid (vread_st h0.swap (by omega) ha)
  have HR := Lib.hid (show rd2 s.data.toList a = if (vrd s.data.toList a).2.1 = 0 then ((vrd s.data.toList a).1, (vrd s.data.toList (vrd s.data.toList a).2.2).1, (vrd s.data.toList (vrd s.data.toList a).2.2).2.1, (vrd s.data.toList (vrd s.data.toList a).2.2).2.2) else (0, 0, (vrd s.data.toList a).2.1, (vrd s.data.toList a).2.2) from rfl)
  generalize rd2 s.data.toList a = R at HR ⊢
  generalize vrd s.data.toList a = T at HV HR hf
  obtain ⟨n, er, en⟩ := T
  obtain ⟨hn, her, hen, hel⟩ := hf
  simp only at HV HR hn her hen hel
  rw [show s.data.toList.length = s.size by simp] at hel
  clear h h0
  by_cases he : er = 0
  · subst he
    rw [if_pos rfl] at HR
    go_enter Tryz.func87, Tryz.ntmps87
    go_wp2_with fail
    refine HV.out.mono ?_
    rintro e w2 ⟨rfl, h2⟩
    have HV2 := Lib.hid (vread_st h2 (by omega) hel)
    generalize vrd s.data.toList en = T2 at HV2 HR
    obtain ⟨n2, er2, en2⟩ := T2
    simp only at HV2 HR
    clear HV h2
    go_wp2_with fail
    refine HV2.out.mono ?_
    rintro e w3 ⟨rfl, h3⟩
    clear HV2
    generalize w.heap.size = x at h3 ⊢
    have h3 := h3.swap
    have hb := h3.blk
    have k0 := cell_of_heap hb 0
    have k1 := cell_of_heap hb 1
    have f0 := free_of_heap hb 0
    have f1 := free_of_heap hb 1
    change _ = some (Value.int .u64 0) at k0
    change _ = some (Value.int .u64 0) at k1
    clear hb
    go_wp2_with fail
    have h5 := (h3.set 0 (.int .u64 (n : Nat))).set 1 (.int .u64 (n2 : Nat))
    refine bodyPost_ret_by (results_pair rfl _ _ x 65 #[Value.int .u64 n, Value.int .u64 n2] (0, 0) _ rfl h5.blk Tryz.underlying65 rfl (by kernel_rfl)) rfl ?_
    rw [HR.out]
    exact ⟨rfl, h5.drop⟩
  · rw [if_neg he] at HR
    have hne : ((er : Int) != 0) = true := by rw [bne_iff_ne]; omega
    clear he
    go_enter Tryz.func87, Tryz.ntmps87
    go_wp2_with fail
    refine HV.out.mono ?_
    rintro e w2 ⟨rfl, h2⟩
    clear HV
    generalize w.heap.size = x at h2 ⊢
    have h2 := h2.swap
    have hb := h2.blk
    have k0 := cell_of_heap hb 0
    have k1 := cell_of_heap hb 1
    have f0 := free_of_heap hb 0
    have f1 := free_of_heap hb 1
    change _ = some (Value.int .u64 0) at k0
    change _ = some (Value.int .u64 0) at k1
    clear hb
    go_wp2_with fail
    have h5 := (h2.set 0 (.int .u64 0)).set 1 (.int .u64 0)
    refine bodyPost_ret_by (results_pair rfl _ _ x 65 #[Value.int .u64 0, Value.int .u64 0] (0, 0) _ rfl h5.blk Tryz.underlying65 rfl (by kernel_rfl)) rfl ?_
    rw [HR.out]
    exact ⟨rfl, h5.drop⟩
end
end Go.Proofs.YtjdglpngcdcneaaGreat

/- Layer 4: a list read. -/
namespace Go.Proofs.YtjdglpngcdcneaaGreat
open Go.RowKit Go.WideShapes
set_option linter.unusedVariables false
set_option linter.unusedSimpArgs false
section
variable {S : Nat → Prop} {W w : World} {M : List Thing} {b : Nat} {s : ByteArray} {a : Nat}
set_option maxRecDepth 20000 in
set_option maxHeartbeats 8000000 in
theorem runread_st (h : St S W w [rdT b s a]) (hs : s.size ≤ 4200000) (ha : a ≤ s.size) (most : Int) (hm : -9223372036854775808 ≤ most ∧ most ≤ 1000000) :
    Calls Tryz.prog 53 #[.pointer (some ⟨b, 0, none⟩), .int .i64 most] w fun e w' => ∃ v, e = .returned (.tuple #[v, .int .i64 (rrl s.data.toList a most).2.1]) ∧ St S W w' [nlT v (rrl s.data.toList a most).1, rdT b s (rrl s.data.toList a most).2.2] := by
  by_cases h0 : most < 0
  · rw [rrl, if_pos h0]
    go_enter Tryz.func53, Tryz.ntmps53
    go_wp2_with fail
    go_ret2
    exact ⟨_, rfl, h.nilOwn _ _⟩
  · obtain ⟨most, rfl⟩ : ∃ k : Nat, most = k := ⟨most.toNat, by omega⟩
    have HR0 := Lib.hid (show rrl s.data.toList a most = if (vrd s.data.toList a).2.1 = 0 then rls s.data.toList most (vrd s.data.toList a).1 (vrd s.data.toList a).2.2 [] else ([], (vrd s.data.toList a).2.1, (vrd s.data.toList a).2.2) by rw [rrl, if_neg h0, Int.toNat_natCast])
    generalize rrl s.data.toList a most = R at HR0 ⊢
    have hf := vrd_facts s.data.toList a (by simpa using ha)
    have HV := Lib.hid (vread_st h (by omega) ha)
    generalize vrd s.data.toList a = T at HV HR0 hf
    obtain ⟨n, er, en⟩ := T
    obtain ⟨hn, her, hen, hel⟩ := hf
    simp only at HV HR0 hn her hen hel
    rw [show s.data.toList.length = s.size by simp] at hel
    clear h
    by_cases he : er = 0
    · subst he
      rw [if_pos rfl] at HR0
      go_enter Tryz.func53, Tryz.ntmps53
      go_wp2_with (go_at_call 51; refine HV.out.mono ?_; rintro e w1 ⟨rfl, h1⟩)
      have h2 := h1.nilOwn 34 1
      clear h1 HV
      go_loopw [4, 21] (fun vl vi wr => ∃ (i k at' : Nat) (v : Value) (acc : List Nat), vl = v ∧ vi = .int .u64 i ∧ i ≤ n ∧ Hid (acc.length = k) ∧ k ≤ most ∧ at' ≤ s.size ∧ Hid (R = rls s.data.toList most (n - i) at' acc) ∧ St S W wr [mlT v k acc, rdT b s at']) (fun _ vi _ => n - (intOf vi).toNat)
      case atStart => exact ⟨0, 0, en, _, [], rfl, rfl, by omega, Lib.hid rfl, by omega, hel, HR0, h2⟩
      case round =>
        clear h2 HR0
        obtain ⟨i, k, at', v, acc, rfl, rfl, hi, HL, hk, hat, HR, h⟩ := hrel
        obtain ⟨A3, c3, rfl⟩ := h.own.form
        by_cases hlt : i < n
        · have hE := HR.out
          rw [show n - i = (n - (i + 1)) + 1 by omega, rls] at hE
          have hf := rd2_facts s.data.toList at' (by simpa using hat)
          have HP := Lib.hid (pread_st h.swap hs hat)
          generalize rd2 s.data.toList at' = T at HP hE hf
          obtain ⟨xv, xc, er, en2⟩ := T
          obtain ⟨hx0, hx1, her2, hen2, hel2⟩ := hf
          simp only at HP hE hx0 hx1 her2 hen2 hel2
          rw [show s.data.toList.length = s.size by simp] at hel2
          have h0own := h.own
          clear HR h
          by_cases he : er = 0
          · subst he
            rw [if_pos rfl] at hE
            cases k with
            | zero =>
              have hacc : acc = [] := List.eq_nil_of_length_eq_zero HL.out
              rw [if_neg (by rw [hacc]; simp), HL.out] at hE
              have hlast : ¬ acc.getLast? = some xv := by rw [hacc]; simp
              have HLs := Lib.hid hlast
              have hk0 : ¬ (0 : Int) < ((0 : Nat) : Int) := by omega
              clear hacc hlast
              go_wp2_with (go_at_call 87; refine HP.out.mono ?_; rintro e w1 ⟨rfl, h1⟩; have h3 := h1.alloc #[Value.int .u64 xv, Value.int .u64 xc] 65; have kx0 := fun a : After (w1.alloc (.cells #[Value.int .u64 xv, Value.int .u64 xc] 65)) => (After.ext a).cell (p := ⟨w1.heap.size, 0, none⟩) (cell_of_heap h3.blk 0))
              (refine wp_region_after (by kernel_rfl) (by kernel_rfl) ?_; (repeat (first | go_big_quiet_skip | (go_big_quiet_want; first | (fail; simp only [Act.put, List.setIfInBounds_toArray, List.set_cons_succ, List.set_cons_zero]; go_big_quiet_on) | (go_big_quiet_op; first | go_big_quiet_on | (apply Exists.intro; refine ⟨fun _ => ?_, ?_⟩; (· (fail)); go_big_quiet_on))))); refine wpQuiet_nil ?_; rintro _ ⟨y, rfl⟩)
              have h4 := h3.ext y.ext
              clear kx0 h3 h1
              generalize w1.heap.size = bx at h4 ⊢
              have c1 := cell_of_heap h4.blk 1
              have f1 := free_of_heap h4.blk 1
              have c0 := cell_of_heap h4.blk 0
              change y.w.cell? _ = some (.int .u64 xc) at c1
              change y.w.cell? _ = some (.int .u64 xv) at c0
              by_cases hlong : most ≤ xc + 0
              · rw [if_pos hlong] at hE
                have HE := Lib.hid hE
                have hg : (most : Int) - (0 : Nat) ≤ xc := by omega
                clear hE
                go_wp2_with fail
                go_ret2
                rw [HE.out]
                exact ⟨_, rfl, (h4.drop.swap.drop).nilOwn _ _⟩
              · rw [if_neg hlong] at hE
                have HE := Lib.hid hE
                have hg : ¬ (most : Int) - (0 : Nat) ≤ xc := by omega
                clear hE
                have h5 := h4.set 1 (.int .u64 ((xc : Int) + 1))
                change St S W _ (blkT bx #[Value.int .u64 xv, Value.int .u64 ((xc : Int) + 1)] 65 :: _) at h5
                have h6 := h5.pull 2
                change St S W _ [mlT _ _ _, blkT _ _ _, rdT _ _ _] at h6
                have HC := add_go _ 0 c3 xv (xc + 1) (by omega) hx0 (by omega) most (by omega) (by omega) acc h6 HL.out HLs.out
                simp only [Int.natCast_add, Int.natCast_one] at HC
                have HCC := Lib.hid HC
                have hle : 0 + (xc + 1) ≤ most := by omega
                clear HC h4 h5 h6
                go_wp2_with (go_at_call 88; refine HCC.out.mono ?_; rintro e w4 ⟨v2, er, rfl, h7, _⟩; obtain ⟨rfl, A4, c4, rfl, h8⟩ := h7 hle)
                have h9 := h8.swap.drop
                have HL2 : Hid ((acc ++ List.replicate (xc + 1) xv).length = 0 + (xc + 1)) := Lib.hid (by rw [List.length_append, List.length_replicate, HL.out])
                go_roundw
                case rel => first | exact ⟨i + 1, 0 + (xc + 1), en2, _, _, rfl, by go_num, by omega, HL2, hle, hel2, HE, h9⟩ | ((repeat apply Exists.intro); exact ⟨⟨i + 1, 0 + (xc + 1), en2, _, _, rfl, by go_num, by omega, HL2, hle, hel2, HE, h9⟩, rfl⟩) | exact ⟨i + 1, xc + 1, en2, _, _, rfl, by go_num, by omega, (by simpa using HL2), (by omega), hel2, HE, (by simpa using h9)⟩
                case measure => simp [intOf]; omega
            | succ j =>
              obtain ⟨g3, hA, _⟩ := h0own.numAt HL.out j (by omega)
              subst hA
              obtain ⟨z, hz⟩ : ∃ z, acc.getD j 0 = z := ⟨_, rfl⟩
              have HZ := Lib.hid hz
              clear hz
              by_cases hs2 : z = xv
              · rw [if_pos ((getLast_getD acc j HL.out xv).2 (HZ.out.trans hs2))] at hE
                have hzz : ((z : Int) == (xv : Int)) = true := by rw [hs2]; simp
                clear hs2
                have HE := Lib.hid hE
                clear hE
                have hk0 : (0 : Int) < (j : Int) + 1 := by omega
                have hk1 : (j : Int) + 1 - 1 = (j : Int) := by omega
                have hkk : (j : Int) < (j : Int) + 1 := by omega
                have hk2 : (0 : Int) ≤ (j : Int) := by omega
                clear h0own
                go_wp2_with (go_at_call 87; refine HP.out.mono ?_; rintro e w1 ⟨rfl, h1⟩; have h3 := h1.alloc #[Value.int .u64 xv, Value.int .u64 xc] 65; have kx0 := fun a : After (w1.alloc (.cells #[Value.int .u64 xv, Value.int .u64 xc] 65)) => (After.ext a).cell (p := ⟨w1.heap.size, 0, none⟩) (cell_of_heap h3.blk 0); obtain ⟨g4, hA4, hc4⟩ := (h3.pull 2).own.numAt HL.out j (Nat.lt_succ_self j); cases hA4; rw [HZ.out] at hc4; have kl := fun a : After (w1.alloc (.cells #[Value.int .u64 xv, Value.int .u64 xc] 65)) => (After.ext a).cell hc4; clear hc4)
                (refine wp_region_after (by kernel_rfl) (by kernel_rfl) ?_; (repeat (first | go_big_quiet_skip | (go_big_quiet_want; first | (fail; simp only [Act.put, List.setIfInBounds_toArray, List.set_cons_succ, List.set_cons_zero]; go_big_quiet_on) | (go_big_quiet_op; first | go_big_quiet_on | (apply Exists.intro; refine ⟨fun _ => ?_, ?_⟩; (· (fail)); go_big_quiet_on))))); refine wpQuiet_nil ?_; rintro _ ⟨y, rfl⟩)
                have h4 := h3.ext y.ext
                go_wp2_with fail
                go_ret2
                rw [HE.out]
                exact ⟨_, rfl, (h4.drop.swap.drop).nilOwn _ _⟩
              · have hlast : ¬ acc.getLast? = some xv := fun e => hs2 (HZ.out.symm.trans ((getLast_getD acc j HL.out xv).1 e))
                have hzz : ((z : Int) == (xv : Int)) = false := by rw [beq_eq_false_iff_ne]; omega
                clear hs2
                rw [if_neg hlast, HL.out] at hE
                have HLs := Lib.hid hlast
                clear hlast
                have hk0 : (0 : Int) < (j : Int) + 1 := by omega
                have hk1 : (j : Int) + 1 - 1 = (j : Int) := by omega
                have hkk : (j : Int) < (j : Int) + 1 := by omega
                have hk2 : (0 : Int) ≤ (j : Int) := by omega
                clear h0own
                go_wp2_with (go_at_call 87; refine HP.out.mono ?_; rintro e w1 ⟨rfl, h1⟩; have h3 := h1.alloc #[Value.int .u64 xv, Value.int .u64 xc] 65; have kx0 := fun a : After (w1.alloc (.cells #[Value.int .u64 xv, Value.int .u64 xc] 65)) => (After.ext a).cell (p := ⟨w1.heap.size, 0, none⟩) (cell_of_heap h3.blk 0); obtain ⟨g4, hA4, hc4⟩ := (h3.pull 2).own.numAt HL.out j (Nat.lt_succ_self j); cases hA4; rw [HZ.out] at hc4; have kl := fun a : After (w1.alloc (.cells #[Value.int .u64 xv, Value.int .u64 xc] 65)) => (After.ext a).cell hc4; clear hc4)
                (refine wp_region_after (by kernel_rfl) (by kernel_rfl) ?_; (repeat (first | go_big_quiet_skip | (go_big_quiet_want; first | (fail; simp only [Act.put, List.setIfInBounds_toArray, List.set_cons_succ, List.set_cons_zero]; go_big_quiet_on) | (go_big_quiet_op; first | go_big_quiet_on | (apply Exists.intro; refine ⟨fun _ => ?_, ?_⟩; (· (fail)); go_big_quiet_on))))); refine wpQuiet_nil ?_; rintro _ ⟨y, rfl⟩)
                clear kl
                have h4 := h3.ext y.ext
                clear kx0 h3 h1
                generalize w1.heap.size = bx at h4 ⊢
                have c1 := cell_of_heap h4.blk 1
                have f1 := free_of_heap h4.blk 1
                have c0 := cell_of_heap h4.blk 0
                change y.w.cell? _ = some (.int .u64 xc) at c1
                change y.w.cell? _ = some (.int .u64 xv) at c0
                by_cases hlong : most ≤ xc + (j + 1)
                · rw [if_pos hlong] at hE
                  have HE := Lib.hid hE
                  have hg : (most : Int) - ((j + 1) : Nat) ≤ xc := by omega
                  clear hE
                  go_wp2_with fail
                  go_ret2
                  rw [HE.out]
                  exact ⟨_, rfl, (h4.drop.swap.drop).nilOwn _ _⟩
                · rw [if_neg hlong] at hE
                  have HE := Lib.hid hE
                  have hg : ¬ (most : Int) - ((j + 1) : Nat) ≤ xc := by omega
                  clear hE
                  have h5 := h4.set 1 (.int .u64 ((xc : Int) + 1))
                  change St S W _ (blkT bx #[Value.int .u64 xv, Value.int .u64 ((xc : Int) + 1)] 65 :: _) at h5
                  have h6 := h5.pull 2
                  change St S W _ [mlT _ _ _, blkT _ _ _, rdT _ _ _] at h6
                  have HC := add_go _ (j + 1) c3 xv (xc + 1) (by omega) hx0 (by omega) most (by omega) (by omega) acc h6 HL.out HLs.out
                  simp only [Int.natCast_add, Int.natCast_one] at HC
                  have HCC := Lib.hid HC
                  have hle : (j + 1) + (xc + 1) ≤ most := by omega
                  clear HC h4 h5 h6
                  go_wp2_with (go_at_call 88; refine HCC.out.mono ?_; rintro e w4 ⟨v2, er, rfl, h7, _⟩; obtain ⟨rfl, A4, c4, rfl, h8⟩ := h7 hle)
                  have h9 := h8.swap.drop
                  have HL2 : Hid ((acc ++ List.replicate (xc + 1) xv).length = (j + 1) + (xc + 1)) := Lib.hid (by rw [List.length_append, List.length_replicate, HL.out])
                  go_roundw
                  case rel => first | exact ⟨i + 1, (j + 1) + (xc + 1), en2, _, _, rfl, by go_num, by omega, HL2, hle, hel2, HE, h9⟩ | ((repeat apply Exists.intro); exact ⟨⟨i + 1, (j + 1) + (xc + 1), en2, _, _, rfl, by go_num, by omega, HL2, hle, hel2, HE, h9⟩, rfl⟩) | exact ⟨i + 1, xc + 1, en2, _, _, rfl, by go_num, by omega, (by simpa using HL2), (by omega), hel2, HE, (by simpa using h9)⟩
                  case measure => simp [intOf]; omega
          · rw [if_neg he] at hE
            have HE := Lib.hid hE
            have hne : ((er : Int) != 0) = true := by rw [bne_iff_ne]; omega
            clear he hE
            go_wp2_with (go_at_call 87; refine HP.out.mono ?_; rintro e w1 ⟨rfl, h1⟩)
            go_ret2
            rw [HE.out]
            exact ⟨_, rfl, ((h1.alloc #[Value.int .u64 xv, Value.int .u64 xc] 65).drop.swap.drop).nilOwn _ _⟩
        · obtain rfl : i = n := by omega
          have hE := HR.out
          rw [Nat.sub_self, rls] at hE
          have HE := Lib.hid hE
          clear hE HR
          go_wp2_with fail
          go_ret2
          rw [HE.out]
          have hk2 := HL.out
          subst hk2
          exact ⟨_, rfl, h⟩
    · rw [if_neg he] at HR0
      have hne : ((er : Int) != 0) = true := by rw [bne_iff_ne]; omega
      clear he
      go_enter Tryz.func53, Tryz.ntmps53
      go_wp2_with (go_at_call 51; refine HV.out.mono ?_; rintro e w1 ⟨rfl, h1⟩)
      go_ret2
      rw [HR0.out]
      exact ⟨_, rfl, h1.nilOwn _ _⟩
end
end Go.Proofs.YtjdglpngcdcneaaGreat
