/- Layer 3's laws: small steps. -/
import Derived.Test.YtkjnpjkfagdegaaDLaws2
namespace Go.Proofs.Ytkjnpjkfagdegaa
open Go.RowKit
set_option linter.unusedVariables false
set_option linter.unusedSimpArgs false
theorem steps_snoc (f : Nat → Nat → Nat) (L : List Nat) (n : Nat) (h : 0 < L.length) :
    (List.range (L.length + 1)).map (fun i => f (prev (L ++ [n]) i) ((L ++ [n]).getD i 0)) = (List.range L.length).map (fun i => f (prev L i) (L.getD i 0)) ++ [f (L.getD (L.length - 1) 0) n] := by
  have hg : ∀ i, i < L.length → (L ++ [n]).getD i 0 = L.getD i 0 := fun i hi => by
    rw [List.getD_eq_getElem?_getD, List.getElem?_append_left hi, List.getD_eq_getElem?_getD]
  have hgl : (L ++ [n]).getD L.length 0 = n := by simp
  have hp : ∀ i, i ≤ L.length → prev (L ++ [n]) i = prev L i := fun i hi => by
    cases i with
    | zero => simp [prev]
    | succ i => rw [prev_succ, prev_succ, hg i (by omega)]
  have hl : prev L L.length = L.getD (L.length - 1) 0 := by
    obtain ⟨k, hk⟩ : ∃ k, L.length = k + 1 := ⟨L.length - 1, by omega⟩
    rw [hk, prev_succ, Nat.add_sub_cancel]
  rw [List.range_succ, List.map_append, List.map_cons, List.map_nil, hgl, hp _ (Nat.le_refl _), hl]
  congr 1
  apply List.map_congr_left
  intro i hi
  have hi := List.mem_range.1 hi
  rw [hp i (by omega), hg i hi]
theorem deltas_snoc (L : List Nat) (n : Nat) (h : 0 < L.length) : deltas (L ++ [n]) = deltas L ++ [dl (L.getD (L.length - 1) 0) n] := by
  have := steps_snoc dl L n h
  unfold deltas
  rw [List.length_append, List.length_singleton]
  exact this
theorem dl_up (last n k : Nat) (h : (n + 18446744073709551616 - last) % 18446744073709551616 = k) (hk : k ≤ 63) : dl last n < 128 := by
  unfold dl; rw [h, if_pos (by omega)]; omega
theorem dl_dn (last n k : Nat) (h : (n + 18446744073709551616 - last) % 18446744073709551616 = 18446744073709551616 - k) (hk : k ≤ 64) (h1 : 1 ≤ k) : dl last n < 128 := by
  unfold dl; rw [h, if_neg (by omega)]; omega
theorem dl_one (last n : Nat) (h : dl last n < 128) : (vb (dl last n)).length = 1 := by
  generalize dl last n = d at h ⊢
  rw [vb_small h, List.length_singleton]
theorem dl_small (last : Nat) (x : Int) (n : Nat) (h : last < 18446744073709551616) (hx : -64 ≤ x ∧ x ≤ 63) (hn : (n : Int) = IntKind.u64.wrap ((last : Int) + IntKind.u64.wrap x)) : n < 18446744073709551616 ∧ (vb (dl last n)).length = 1 := by
  rw [IntKind.wrap_u64, IntKind.wrap_u64] at hn
  by_cases hx0 : 0 ≤ x
  · obtain ⟨k, rfl⟩ : ∃ k : Nat, x = k := ⟨x.toNat, by omega⟩
    have e : (k : Int) % 18446744073709551616 = k := Int.emod_eq_of_lt (by omega) (by omega)
    rw [e] at hn
    have h1 : n = last + k ∨ n + 18446744073709551616 = last + k := by omega
    have h2 : (n + 18446744073709551616 - last) % 18446744073709551616 = k := by rcases h1 with h1 | h1 <;> omega
    exact ⟨by omega, dl_one _ _ (dl_up last n k h2 (by omega))⟩
  · obtain ⟨k, rfl⟩ : ∃ k : Nat, x = -(k : Int) := ⟨(-x).toNat, by omega⟩
    have e : (-(k : Int)) % 18446744073709551616 = 18446744073709551616 - k := by omega
    rw [e] at hn
    have h1 : n + k = last ∨ n + k = last + 18446744073709551616 := by omega
    have h2 : (n + 18446744073709551616 - last) % 18446744073709551616 = 18446744073709551616 - k := by rcases h1 with h1 | h1 <;> omega
    exact ⟨by omega, dl_one _ _ (dl_dn last n k h2 (by omega) (by omega))⟩
/-- what a list of small steps is -/
def Small (first i : Nat) (L : List Nat) : Prop := L.length = i + 1 ∧ AllLt L ∧ (deltas L).getD 0 0 = dl 0 first ∧ (vbs (deltas L)).length = (vb (dl 0 first)).length + i
theorem get_one (d : Nat) : [d].getD 0 0 = d := by simp
theorem vbs_one (d : Nat) : (vbs [d]).length = (vb d).length + 0 := by simp [vbs]
theorem steps_one (f : Nat → Nat → Nat) (x : Nat) : (List.range 1).map (fun i => f (prev [x] i) ([x].getD i 0)) = [f 0 x] := by simp [prev, List.range_succ]
theorem Small.start (first : Nat) (h : first < 18446744073709551616) : Small first 0 [first] := by
  have e : deltas [first] = [dl 0 first] := steps_one dl first
  refine ⟨rfl, ?_, ?_, ?_⟩
  · exact allLt_snoc [] first allLt_nil h
  · rw [e]; exact get_one (dl 0 first)
  · rw [e]; exact vbs_one (dl 0 first)
theorem Small.next {first i : Nat} {L : List Nat} (h : Small first i L) (n : Nat) (hn : n < 18446744073709551616) (h1 : (vb (dl (L.getD i 0) n)).length = 1) : Small first (i + 1) (L ++ [n]) := by
  obtain ⟨h2, h3, h4, h5⟩ := h
  refine ⟨by simp [h2], allLt_snoc L n h3 hn, ?_, ?_⟩
  · rw [deltas_snoc L n (by omega), List.getD_eq_getElem?_getD, List.getElem?_append_left (by rw [deltas_len]; omega), ← List.getD_eq_getElem?_getD, h4]
  · rw [deltas_snoc L n (by omega), vbs_snoc, List.length_append, h5, h2, Nat.add_sub_cancel, h1]; omega
set_option maxRecDepth 20000 in
set_option maxHeartbeats 4000000 in
theorem deltaShort_walk (first : Nat) (A : Option Addr) (ca : Nat) (xs : List Int) (hf : first < 18446744073709551616) (w : World) (ra : ArgRow (repI .i8 (-128) 128) 1 w A xs.length xs) (hpa : xs.length ≤ 9223372036854775807) :
    Calls Try.prog 5 #[.int .u64 first, .slice A xs.length ca] w fun e w' => e = .returned (.bool true) ∧ Ext w w' := by
  obtain ⟨m, hm⟩ : ∃ m, m = xs.length := ⟨_, rfl⟩
  rw [← hm] at ra hpa ⊢
  have HM := Lib.hid hm
  clear hm
  by_cases h0 : m ≤ 100
  · go_enter Try.func5, Try.ntmps5
    go_wp2_with (go_at_call 8; refine (dawake_any _).mono ?_; rintro e w1 ⟨rfl, x1⟩)
    have h := ((St.start noB w).ext x1).made 22 1 1 1 #[Value.int .u64 first] (by omega) (by unfold maxLen; omega) rfl
    have h2 : St noB w (w1.alloc (.cells #[Value.int .u64 first] 22)) [mlT (.slice (some ⟨w1.heap.size, 0, none⟩) 1 1) 1 [first]] := by simpa [mlT, numsV] using h
    clear h
    go_loopw [5, 20] (fun vl vi wr => ∃ (i : Nat) (v : Value) (L : List Nat), i ≤ m ∧ vl = v ∧ vi = .int .i64 i ∧ Hid (Small first i L) ∧ St noB w wr [mlT v (i + 1) L]) (fun _ vi _ => m - (intOf vi).toNat)
    case atStart => exact ⟨0, _, [first], by omega, rfl, rfl, Lib.hid (Small.start first hf), h2⟩
    case round =>
      clear h2
      obtain ⟨i, v, L, hi, rfl, rfl, HS, h⟩ := hrel
      obtain ⟨A3, c3, rfl⟩ := h.own.form
      by_cases hlt : i < m
      · obtain ⟨b, off, rfl, hc, hx1, hx2⟩ := (ra.ext h.ends).getI i hlt
        generalize xs.getD i 0 = x at hc hx1 hx2
        by_cases hg : 63 < x
        · go_wp2_with fail
          go_ret
          exact ⟨rfl, h.ends⟩
        · by_cases hl : x < -64
          · go_wp2_with fail
            go_ret
            exact ⟨rfl, h.ends⟩
          · obtain ⟨g3, hA3, hc3⟩ := h.own.numAt HS.out.1 i (by omega)
            obtain ⟨n, hn⟩ : ∃ n : Nat, (n : Int) = IntKind.u64.wrap ((L.getD i 0 : Nat) + IntKind.u64.wrap x) := ⟨(IntKind.u64.wrap ((L.getD i 0 : Nat) + IntKind.u64.wrap x)).toNat, by rw [IntKind.wrap_u64]; omega⟩
            have hs := dl_small (L.getD i 0) x n (HS.out.2.1 i (by rw [HS.out.1]; omega)) (by omega) hn
            have HS2 := Lib.hid (HS.out.next n hs.1 hs.2)
            have HN := Lib.hid hn
            clear hs hn
            generalize L.getD i 0 = last at hc3 HN
            subst hA3
            go_wp2_with (at_builtin; refine wpList_push rfl _ _ _ rfl 22 (.int .u64 0) 1 8 Try.underlying27 u64_info rfl (by decide) h rfl rfl rfl (by intro u hu; simp at hu; subst hu; rfl) (by unfold maxLen; omega) (by omega) ?_; intro A' c' w6 h6)
            have h7 : St noB w w6 [mlT (.slice A' (i + 1 + 1) c') (i + 1 + 1) (L ++ [n])] := by
              unfold mlT
              rw [numsV_append]
              have e : numsV [n] = [Value.int IntKind.u64 (IntKind.u64.wrap ((last : Int) + IntKind.u64.wrap x))] := by simp [numsV, HN.out]
              rw [e]; exact h6
            go_roundw
            case rel => first | exact ⟨i + 1, _, L ++ [n], by omega, rfl, by go_num, HS2, h7⟩ | ((repeat apply Exists.intro); exact ⟨⟨i + 1, _, L ++ [n], by omega, rfl, by go_num, HS2, h7⟩, rfl⟩)
            case measure => simp [intOf]; omega
      · obtain rfl : i = m := by omega
        have hL := HS.out.1
        have HP := Lib.hid (dprint_any A3 c3 L wr (by omega) (Own.nrow h.own hL) HS.out.2.1)
        rw [hL] at HP
        have hk := HS.out.2.2.2
        have hl10 := vb_len10 (i + 1) (by omega)
        have hd10 := vb_len10 (dl 0 first) (dl_lt 0 first (by omega))
        have hdl := dl_lt 0 first (by omega)
        have HZ : Hid ((vbl (deltas L)).length = (vb (i + 1)).length + ((vb (dl 0 first)).length + i)) := Lib.hid (by rw [vbl, List.length_append, deltas_len, hL, hk])
        obtain ⟨t, ht⟩ : ∃ t : ByteArray, t = ⟨(vbl (deltas L)).toArray⟩ := ⟨_, rfl⟩
        have htz : t.size = (vb (i + 1)).length + ((vb (dl 0 first)).length + i) := by rw [ht]; exact HZ.out
        rw [← ht] at HP
        have HG := Lib.hid HS.out.2.2.1
        have HLL := Lib.hid hL
        have HALL := Lib.hid HS.out.2.1
        have Hfirst := Lib.hid (fun w => rprint_any (dl 0 first) hdl w)
        have Hnum := Lib.hid (fun w => rprint_any (i + 1) (by omega) w)
        clear hL hk ht HZ HS
        obtain ⟨fb, hfb⟩ : ∃ fb : ByteArray, fb = ⟨(vb (dl 0 first)).toArray⟩ := ⟨_, rfl⟩
        obtain ⟨nb, hnb⟩ : ∃ nb : ByteArray, nb = ⟨(vb (i + 1)).toArray⟩ := ⟨_, rfl⟩
        have hfz : fb.size = (vb (dl 0 first)).length := by rw [hfb]; rfl
        have hnz : nb.size = (vb (i + 1)).length := by rw [hnb]; rfl
        rw [← hfb] at Hfirst
        rw [← hnb] at Hnum
        rw [← hfz] at htz hd10
        rw [← hnz] at htz hl10
        clear hfb hnb hfz hnz
        generalize dl 0 first = d0 at HG Hfirst hdl
        have hsum : ((nb.size : Int) + ((fb.size : Int) + i) == (nb.size : Int) + fb.size + i) = true := by rw [beq_iff_eq]; omega
        go_wp2_with (go_at_call 17; refine HP.out.mono ?_; rintro e w2 ⟨rfl, x2⟩; have h2 := h.ext x2)
        have Hnum2 := Hnum.out w2
        rw [show ((i + 1 : Nat) : Int) = (i : Int) + 1 by omega] at Hnum2
        refine Hnum2.mono ?_
        rintro e w3 ⟨rfl, x3⟩
        have h3 := h2.ext x3
        go_wp2_with fail
        refine (rdeltas_m h3 A3 c3 L (i + 1) HLL.out (by omega) (Own.nrow h3.own HLL.out) HALL.out).mono ?_
        rintro e w4 ⟨A4, c4, rfl, h4⟩
        obtain ⟨g4, rfl, hc4⟩ := h4.own.numAt (by rw [deltas_len]; exact HLL.out) 0 (by omega)
        rw [HG.out] at hc4
        go_wp2_with (go_at_call 18; refine (Hfirst.out _).mono ?_; rintro e w5 ⟨rfl, x5⟩)
        go_ret
        exact ⟨rfl, (h4.ext x5).ends⟩
  · go_enter Try.func5, Try.ntmps5
    go_wp2_with (go_at_call 8; refine (dawake_any _).mono ?_; rintro e w1 ⟨rfl, x1⟩)
    go_ret
    exact ⟨rfl, Mut.trans (by assumption) x1⟩
end Go.Proofs.Ytkjnpjkfagdegaa
