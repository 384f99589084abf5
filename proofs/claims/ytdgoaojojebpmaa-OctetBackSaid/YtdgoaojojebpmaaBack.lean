/- OctetBack: the walk. -/
import Derived.Test.YtdgoaojojebpmaaFours
import Derived.Test.YtdgoaojojebpmaaArg
namespace Go.Proofs.Ytdgoaojojebpmaa
open Go.RowKit
set_option linter.unusedVariables false
set_option linter.unusedSimpArgs false

theorem take_getD {α : Type} (l : List α) (d : α) (i : Nat) (h : i < l.length) : l.take (i + 1) = l.take i ++ [l.getD i d] := by
  rw [List.take_succ_eq_append_getElem h]
  congr 2
  rw [List.getD_eq_getElem?_getD, List.getElem?_eq_getElem h]; rfl
theorem split_getD {α : Type} (l : List α) (d : α) (i : Nat) (h : i < l.length) : l = l.take i ++ l.getD i d :: l.drop (i + 1) := by
  conv => lhs; rw [← List.take_append_drop i l, List.drop_eq_getElem_cons h]
  congr 2
  rw [List.getD_eq_getElem?_getD, List.getElem?_eq_getElem h]; rfl
def catS (ps : List ByteArray) : List UInt8 := ps.flatMap (fun p => p.data.toList)
def catN (ns : List Nat) : List UInt8 := ns.flatMap le4
theorem catS_snoc (ps : List ByteArray) (i : Nat) (h : i < ps.length) : catS (ps.take (i + 1)) = catS (ps.take i) ++ (ps.getD i ByteArray.empty).data.toList := by
  rw [take_getD ps ByteArray.empty i h]; simp [catS]
theorem catN_snoc (ns : List Nat) (i : Nat) (h : i < ns.length) : catN (ns.take (i + 1)) = catN (ns.take i) ++ le4 (ns.getD i 0) := by
  rw [take_getD ns 0 i h]; simp [catN]
theorem catS_split (ps : List ByteArray) (i : Nat) (h : i < ps.length) : catS ps = catS (ps.take i) ++ ((ps.getD i ByteArray.empty).data.toList ++ catS (ps.drop (i + 1))) := by
  conv => lhs; rw [split_getD ps ByteArray.empty i h]
  simp [catS]
theorem catN_split (ns : List Nat) (i : Nat) (h : i < ns.length) : catN ns = catN (ns.take i) ++ (le4 (ns.getD i 0) ++ catN (ns.drop (i + 1))) := by
  conv => lhs; rw [split_getD ns 0 i h]
  simp [catN]
theorem catN_len (ns : List Nat) : (catN ns).length = 4 * ns.length := by
  induction ns with
  | nil => rfl
  | cons n ns ih =>
    have : catN (n :: ns) = le4 n ++ catN ns := by simp [catN]
    rw [this, List.length_append, ih, List.length_cons]
    show 4 + 4 * ns.length = _; omega
/-- the bytes at a place are these -/
theorem extract_at (s : ByteArray) (a n : Nat) (l r m : List UInt8) (h : s.data.toList = l ++ (m ++ r)) (ha : a = l.length) (hn : n = m.length) : s.extract a (a + n) = ⟨m.toArray⟩ := by
  apply Go.WideShapes.bytes_inj
  rw [ext_data, h, ha, List.drop_left, show l.length + n - l.length = m.length by omega, List.take_left]
theorem four_at (s : ByteArray) (a n : Nat) (l r : List UInt8) (hn : n < 4294967296) (h : s.data.toList = l ++ (le4 n ++ r)) (ha : a = l.length) (hs : a + 4 ≤ s.size) : four (s[a]) (s[a + 1]) (s[a + 2]) (s[a + 3]) = n := by
  subst ha
  have e : ∀ i (hi : i < 4), s[l.length + i] = (le4 n).getD i 0 := by
    intro i hi
    have h1 : s.data.toList[l.length + i]? = some s[l.length + i] := by
      rw [List.getElem?_eq_getElem (by rw [Array.length_toList]; show l.length + i < s.size; omega)]; rfl
    rw [h, List.getElem?_append_right (by omega), List.getElem?_append_left (by show _ < 4; omega), Nat.add_sub_cancel_left] at h1
    rw [List.getD_eq_getElem?_getD, h1]; rfl
  have e0 : s[l.length] = (le4 n).getD 0 0 := e 0 (by omega)
  rw [e0, e 1 (by omega), e 2 (by omega), e 3 (by omega)]
  exact four_le4 n hn

set_option maxRecDepth 20000 in
set_option maxHeartbeats 4000000 in
theorem octetBack_walk (A : Option Addr) (ca : Nat) (ps : List ByteArray) (B : Option Addr) (cb : Nat) (ns : List Nat) (w : World) (ra : ArgRow repS 1 w A ps.length ps) (rb : ArgRow (repU .u32 4294967296) 1 w B ns.length ns) (hpa : ps.length ≤ 9223372036854775807) (hpb : ns.length ≤ 9223372036854775807) :
    Calls Try.prog 5 #[.slice A ps.length ca, .slice B ns.length cb] w fun e w' => e = .returned (.bool true) ∧ Ext w w' := by
  by_cases h1 : ps.length ≤ 100
  · by_cases h2 : ns.length ≤ 100
    · obtain ⟨p, hp⟩ : ∃ p, p = ps.length := ⟨_, rfl⟩
      obtain ⟨q, hq⟩ : ∃ q, q = ns.length := ⟨_, rfl⟩
      rw [← hp] at ra h1 hpa ⊢
      rw [← hq] at rb h2 hpb ⊢
      have HP := Lib.hid hp
      have HQ := Lib.hid hq
      clear hp hq
      go_enter Try.func5, Try.ntmps5
      go_wp2_with (go_at_call 8; refine (awake_any _).mono ?_; rintro e w1 ⟨rfl, x1⟩)
      have h := ((St.start noB w).ext x1).newWr
      go_loopw [34] (fun vi wr => ∃ i : Nat, i ≤ p ∧ vi = .int .i64 i ∧ (catS (ps.take i)).length ≤ 200 * i ∧ St noB w wr [wrT w1.heap.size (catS (ps.take i))]) (fun vi _ => p - (intOf vi).toNat)
      case atStart => exact ⟨0, by omega, rfl, by simp [catS], h⟩
      case round =>
        clear h
        obtain ⟨i, hi, rfl, hlen, h⟩ := hrel
        by_cases hlt : i < p
        · obtain ⟨b, off, rfl, hc, hsz⟩ := (ra.ext h.ends).getS i hlt
          have hsn0 := catS_snoc ps i (by rw [← HP.out]; exact hlt)
          obtain ⟨s, hs⟩ : ∃ s, s = ps.getD i ByteArray.empty := ⟨_, rfl⟩
          rw [← hs] at hc hsz hsn0
          have hsn := Lib.hid hsn0
          have hsz2 := hsz
          unfold maxLen at hsz2
          clear hs hsn0
          by_cases hs2 : s.size ≤ 200
          · have c := Lib.hid (text_st h s (by omega))
            have hl2 : (catS (ps.take i) ++ s.data.toList).length ≤ 200 * (i + 1) := by
              rw [List.length_append, data_len]; omega
            rw [← hsn.out] at c hl2
            go_wp2_with (go_at_call 17; refine c.out.mono ?_; rintro e w2 ⟨rfl, h2⟩)
            go_roundw
            case rel => first | exact ⟨i + 1, by omega, by go_num, hl2, h2⟩ | ((repeat apply Exists.intro); exact ⟨⟨i + 1, by omega, by go_num, hl2, h2⟩, rfl⟩)
            case measure => simp [intOf]; omega
          · go_wp2
            go_ret
            exact ⟨rfl, h.ends⟩
        · obtain rfl : i = p := by omega
          rw [show ps.take i = ps from List.take_of_length_le (by rw [← HP.out]; exact Nat.le_refl _)] at h hlen
          clear x1
          go_wp2
          go_loopw [46] (fun vi wr => ∃ j : Nat, j ≤ q ∧ vi = .int .i64 j ∧ St noB w wr [wrT w1.heap.size (catS ps ++ catN (ns.take j))]) (fun vi _ => q - (intOf vi).toNat)
          case atStart => exact ⟨0, by omega, rfl, by simpa [catN] using h⟩
          case round =>
            clear h
            obtain ⟨j, hj, rfl, h⟩ := hrel
            by_cases hlt2 : j < q
            · obtain ⟨b, off, rfl, hc, hsz⟩ := (rb.ext h.ends).getU j hlt2
              have hsn := catN_snoc ns j (by rw [← HQ.out]; exact hlt2)
              obtain ⟨n, hn⟩ : ∃ n, n = ns.getD j 0 := ⟨_, rfl⟩
              rw [← hn] at hc hsz hsn
              clear hn
              have hl3 : (catN (ns.take j)).length ≤ 400 := by rw [catN_len, List.length_take]; omega
              have c := wfour_st h n hsz (by rw [List.length_append]; omega)
              rw [List.append_assoc, ← hsn] at c
              have C := Lib.hid c
              clear c hsn
              go_wp2_with (go_at_call 19; refine C.out.mono ?_; rintro e w2 ⟨rfl, h2⟩)
              go_roundw
              case rel => first | exact ⟨j + 1, by omega, by go_num, h2⟩ | ((repeat apply Exists.intro); exact ⟨⟨j + 1, by omega, by go_num, h2⟩, rfl⟩)
              case measure => simp [intOf]; omega
            · obtain rfl : j = q := by omega
              rw [show ns.take j = ns from List.take_of_length_le (by rw [← HQ.out]; exact Nat.le_refl _)] at h
              obtain ⟨s, hs⟩ : ∃ s : ByteArray, s = ⟨(catS ps ++ catN ns).toArray⟩ := ⟨_, rfl⟩
              have c := str_st h
              rw [← hs] at c
              have hdata : s.data.toList = catS ps ++ catN ns := by rw [hs]
              have hsize : s.size = (catS ps).length + 4 * j := by rw [← data_len, hdata, List.length_append, catN_len, ← HQ.out]
              have hsm : s.size ≤ maxLen := by unfold maxLen; omega
              have HD := Lib.hid hdata
              have HS := Lib.hid hsize
              have C := Lib.hid c
              clear hs hdata hsize c
              go_wp2_with (first
                | (go_at_call 20; refine C.out.mono ?_; rintro e w2 ⟨rfl, rfl⟩)
                | (go_at_call 9; refine (new_st h s).mono ?_; rintro e w3 ⟨rfl, h3⟩))
              obtain ⟨rbk, hrbk⟩ : ∃ b, b = wr.heap.size := ⟨_, rfl⟩
              rw [← hrbk] at h3 ⊢
              clear hrbk h C
              have h4 := h3.swap.drop
              clear h3
              go_loopw [57] (fun vi wx => ∃ k : Nat, k ≤ i ∧ vi = .int .i64 k ∧ St noB w wx [rdT rbk s (catS (ps.take k)).length]) (fun vi _ => i - (intOf vi).toNat)
              case atStart => exact ⟨0, by omega, rfl, by simpa [catS] using h4⟩
              case round =>
                clear h4
                obtain ⟨k, hk, rfl, h⟩ := hrel
                by_cases hlt3 : k < i
                · obtain ⟨b, off, rfl, hc, hsz⟩ := (ra.ext h.ends).getS k hlt3
                  have hsn := catS_snoc ps k (by rw [← HP.out]; exact hlt3)
                  have hsp := catS_split ps k (by rw [← HP.out]; exact hlt3)
                  obtain ⟨t, ht⟩ : ∃ t, t = ps.getD k ByteArray.empty := ⟨_, rfl⟩
                  rw [← ht] at hc hsz hsn hsp
                  have hd2 : s.data.toList = catS (ps.take k) ++ (t.data.toList ++ (catS (ps.drop (k + 1)) ++ catN ns)) := by rw [HD.out, hsp]; simp
                  have hle : (catS (ps.take k)).length + t.size ≤ s.size := by
                    have := congrArg List.length hd2
                    rw [data_len, List.length_append, List.length_append, data_len] at this
                    omega
                  have he : s.extract (catS (ps.take k)).length ((catS (ps.take k)).length + t.size) = t := by
                    rw [extract_at s _ _ _ _ _ hd2 rfl (by rw [data_len])]
                  have c := take_st h hsm t.size hle
                  rw [he, show (catS (ps.take k)).length + t.size = (catS (ps.take (k + 1))).length by rw [hsn, List.length_append, data_len]] at c
                  have C := Lib.hid c
                  have hsz2 := hsz
                  unfold maxLen at hsz2
                  clear c ht hsn hsp hd2 he hle
                  go_wp2_with (go_at_call 12; refine C.out.mono ?_; rintro e w4 ⟨rfl, h4⟩)
                  go_roundw
                  case rel => first | exact ⟨k + 1, by omega, by go_num, h4⟩ | ((repeat apply Exists.intro); exact ⟨⟨k + 1, by omega, by go_num, h4⟩, rfl⟩)
                  case measure => simp [intOf]; omega
                · obtain rfl : k = i := by omega
                  rw [show ps.take k = ps from List.take_of_length_le (by rw [← HP.out]; exact Nat.le_refl _)] at h
                  go_wp2
                  go_loopw [78] (fun vi wx => ∃ m : Nat, m ≤ j ∧ vi = .int .i64 m ∧ St noB w wx [rdT rbk s ((catS ps).length + 4 * m)]) (fun vi _ => j - (intOf vi).toNat)
                  case atStart => exact ⟨0, by omega, rfl, h⟩
                  case round =>
                    clear h
                    obtain ⟨m, hm, rfl, h⟩ := hrel
                    by_cases hlt4 : m < j
                    · obtain ⟨b, off, rfl, hc, hsz⟩ := (rb.ext h.ends).getU m hlt4
                      have hsp := catN_split ns m (by rw [← HQ.out]; exact hlt4)
                      obtain ⟨t, ht⟩ : ∃ t, t = ns.getD m 0 := ⟨_, rfl⟩
                      rw [← ht] at hc hsz hsp
                      have hd2 : s.data.toList = (catS ps ++ catN (ns.take m)) ++ (le4 t ++ catN (ns.drop (m + 1))) := by rw [HD.out, hsp]; simp
                      have hle : (catS ps).length + 4 * m + 4 ≤ s.size := by rw [HS.out]; omega
                      have he := four_at s ((catS ps).length + 4 * m) t _ _ hsz hd2 (by rw [List.length_append, catN_len, List.length_take, ← HQ.out, Nat.min_eq_left hm]) hle
                      have c := four_st h hsm hle
                      rw [he] at c
                      have C := Lib.hid c
                      clear c ht hsp hd2 he hle
                      go_wp2_with (go_at_call 13; refine C.out.mono ?_; rintro e w4 ⟨rfl, h4⟩)
                      go_roundw
                      case rel => first | exact ⟨m + 1, by omega, by go_num, h4⟩ | ((repeat apply Exists.intro); exact ⟨⟨m + 1, by omega, by go_num, h4⟩, rfl⟩)
                      case measure => simp [intOf]; omega
                    · obtain rfl : m = j := by omega
                      have hz : s.size - ((catS ps).length + 4 * m) = 0 := by rw [HS.out]; omega
                      have c := left_any h.rd (by rw [HS.out]; omega) hsm
                      rw [hz] at c
                      have C := Lib.hid c
                      clear c hz
                      go_wp2_with (go_at_call 16; refine C.out.mono ?_; rintro e w4 ⟨rfl, x4⟩)
                      go_ret
                      exact ⟨rfl, (h.ext x4).ends⟩
    · go_enter Try.func5, Try.ntmps5
      go_wp2_with (go_at_call 8; refine (awake_any _).mono ?_; rintro e w1 ⟨rfl, hx⟩)
      go_ret
      refine ⟨rfl, ?_⟩
      (repeat (first | exact Mut.refl _ _ | assumption | apply Mut.alloc | apply Mut.drew | refine Mut.trans ?_ (After.ext _) | refine Mut.trans ?_ (by assumption)))
  · go_enter Try.func5, Try.ntmps5
    go_wp2_with (go_at_call 8; refine (awake_any _).mono ?_; rintro e w1 ⟨rfl, hx⟩)
    go_ret
    refine ⟨rfl, ?_⟩
    (repeat (first | exact Mut.refl _ _ | assumption | apply Mut.alloc | apply Mut.drew | refine Mut.trans ?_ (After.ext _) | refine Mut.trans ?_ (by assumption)))
end Go.Proofs.Ytdgoaojojebpmaa
