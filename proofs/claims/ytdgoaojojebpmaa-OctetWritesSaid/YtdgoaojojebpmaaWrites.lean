/- OctetWrites: the walk. -/
import Derived.Test.YtdgoaojojebpmaaFours
import Derived.Test.YtdgoaojojebpmaaArg
namespace Go.Proofs.Ytdgoaojojebpmaa
open Go.RowKit
set_option linter.unusedVariables false
set_option linter.unusedSimpArgs false

set_option maxRecDepth 20000 in
set_option maxHeartbeats 4000000 in
theorem octetWrites_walk (A : Option Addr) (ca : Nat) (ps : List ByteArray) (B : Option Addr) (cb : Nat) (ns : List Nat) (w : World) (ra : ArgRow repS 1 w A ps.length ps) (rb : ArgRow (repU .u32 4294967296) 1 w B ns.length ns) (hpa : ps.length ≤ 9223372036854775807) (hpb : ns.length ≤ 9223372036854775807) :
    Calls Try.prog 4 #[.slice A ps.length ca, .slice B ns.length cb] w fun e w' => e = .returned (.bool true) ∧ Ext w w' := by
  by_cases h1 : ps.length ≤ 100
  · by_cases h2 : ns.length ≤ 200
    · obtain ⟨p, hp⟩ : ∃ p, p = ps.length := ⟨_, rfl⟩
      obtain ⟨q, hq⟩ : ∃ q, q = ns.length := ⟨_, rfl⟩
      rw [← hp] at ra h1 hpa ⊢
      rw [← hq] at rb h2 hpb ⊢
      have HP := Lib.hid hp
      have HQ := Lib.hid hq
      clear hp hq
      go_enter Try.func4, Try.ntmps4
      go_wp2_with (go_at_call 8; refine (awake_any _).mono ?_; rintro e w1 ⟨rfl, x1⟩)
      have h := ((St.start noB w).ext x1).newWr
      clear x1
      go_loopw [6, 24] (fun v6 vi wr => ∃ (i : Nat) (l : List UInt8), i ≤ p ∧ vi = .int .i64 i ∧ v6 = .string ⟨l.toArray⟩ ∧ l.length ≤ 204 * i ∧ St noB w wr [wrT w1.heap.size l]) (fun _ vi _ => p - (intOf vi).toNat)
      case atStart => exact ⟨0, [], by omega, rfl, rfl, by simp, h⟩
      case round =>
        clear h
        obtain ⟨i, l, hi, rfl, rfl, hlen, h⟩ := hrel
        by_cases hlt : i < p
        · obtain ⟨b, off, rfl, hc, hsz⟩ := (ra.ext h.ends).getS i hlt
          obtain ⟨s, hs⟩ : ∃ s, s = ps.getD i ByteArray.empty := ⟨_, rfl⟩
          rw [← hs] at hc hsz
          have hsz2 := hsz
          unfold maxLen at hsz2
          clear hs
          by_cases hs2 : s.size ≤ 200
          · have hl1 : (l ++ s.data.toList).length ≤ 204 * i + 200 := by rw [List.length_append, data_len]; omega
            have CV := Lib.hid (fun x : World => Lib.run_convert_string_bytes (P := Try.prog) x 9 36 5 s Try.underlying9 Try.underlying36 Try.underlying5)
            have hrem : ((i : Int) % 2 == 0) = decide (i % 2 = 0) := by
              rcases Nat.mod_two_eq_zero_or_one i with h | h <;> simp [h] <;> omega
            have put : ∀ x : World, Ext wr x → Calls Try.prog 18 #[.pointer (some ⟨w1.heap.size, 0, none⟩), .slice (some ⟨x.heap.size, 0, none⟩) s.size (grownCap x s.size 0 5)] (Lib.bytesWorld x 5 s) fun e w' => e = .returned (.tuple #[]) ∧ St noB w w' [wrT w1.heap.size (l ++ s.data.toList)] := by
              intro x hx
              have c := put_st (h.ext (hx.trans (ext_bytesWorld x 5 s))) s.data.toList ⟨x.heap.size, 0, none⟩ (grownCap x s.size 0 5) (fun j hj => by
                rw [Go.WideShapes.add_plain, Nat.zero_add]
                exact Lib.bytesWorld_cell x 5 s j (by rw [← data_len]; exact hj)) (by rw [data_len]; omega)
              rw [data_len] at c
              exact c
            have PUT := Lib.hid put
            have T := Lib.hid (text_st h s (by omega))
            clear put
            have e1 := app_str l s
            have e2 : ((⟨(l ++ s.data.toList).toArray⟩ : ByteArray)).size ≤ 204 * i + 200 := by rw [← data_len]; exact hl1
            by_cases hlt2 : i < q
            · obtain ⟨b2, off2, rfl, hc2, hn2⟩ := (rb.ext h.ends).getU i hlt2
              have RB := Lib.hid rb
              obtain ⟨n, hn⟩ : ∃ n, n = ns.getD i 0 := ⟨_, rfl⟩
              rw [← hn] at hc2 hn2
              have HN := Lib.hid hn
              have e3 : (le4 n).length = 4 := rfl
              have HC2 := Lib.hid (fun (x : World) (hx : Ext wr x) => Ext.cell hx hc2)
              clear hn
              rcases Nat.mod_two_eq_zero_or_one i with hm | hm
              · have hd : ((i : Int) % 2 == 0) = true := by rw [hrem]; simp [hm]
                clear hrem
                go_wp2_with (first
                  | (go_at_call 17; refine T.out.mono ?_; rintro e w3 ⟨rfl, h3⟩; have hc3 := (RB.out.ext h3.ends).getU1 i hlt2; rw [← HN.out] at hc3; clear hc2)
                  | (go_at_call 19; refine (wfour_st h3 n hn2 (by omega)).mono ?_; rintro e w4 ⟨rfl, h4⟩; have hc4 := (RB.out.ext h4.ends).getU1 i hlt2; rw [← HN.out] at hc4; clear hc3)
                  | (go_at_call 14; refine (rbytes_any n hn2 _).mono ?_; rintro e w5 ⟨rfl, x5⟩))
                go_roundw
                case rel => first | exact ⟨i + 1, _, by omega, by go_num, by first | rw [app_str] | rw [app_str, app_str], by rw [List.length_append]; show _ + 4 ≤ _; omega, h4.ext x5⟩ | ((repeat apply Exists.intro); exact ⟨⟨i + 1, _, by omega, by go_num, by first | rw [app_str] | rw [app_str, app_str], by rw [List.length_append]; show _ + 4 ≤ _; omega, h4.ext x5⟩, rfl⟩)
                case measure => simp [intOf]; omega
              · have hd : ((i : Int) % 2 == 0) = false := by rw [hrem]; simp [hm]
                clear hrem
                have CV2 := CV.out
                go_wp2_with (first
                  | (go_at_call 18; refine (PUT.out wr (Mut.refl _ _)).mono ?_; rintro e w3 ⟨rfl, h3⟩; have hc3 := (RB.out.ext h3.ends).getU1 i hlt2; rw [← HN.out] at hc3; clear hc2)
                  | (go_at_call 19; refine (wfour_st h3 n hn2 (by omega)).mono ?_; rintro e w4 ⟨rfl, h4⟩; have hc4 := (RB.out.ext h4.ends).getU1 i hlt2; rw [← HN.out] at hc4; clear hc3)
                  | (go_at_call 14; refine (rbytes_any n hn2 _).mono ?_; rintro e w5 ⟨rfl, x5⟩))
                go_roundw
                case rel => first | exact ⟨i + 1, _, by omega, by go_num, by first | rw [app_str] | rw [app_str, app_str], by rw [List.length_append]; show _ + 4 ≤ _; omega, h4.ext x5⟩ | ((repeat apply Exists.intro); exact ⟨⟨i + 1, _, by omega, by go_num, by first | rw [app_str] | rw [app_str, app_str], by rw [List.length_append]; show _ + 4 ≤ _; omega, h4.ext x5⟩, rfl⟩)
                case measure => simp [intOf]; omega
            · have hnl : ¬ i < q := hlt2
              rcases Nat.mod_two_eq_zero_or_one i with hm | hm
              · have hd : ((i : Int) % 2 == 0) = true := by rw [hrem]; simp [hm]
                clear hrem
                go_wp2_with (go_at_call 17; refine T.out.mono ?_; rintro e w3 ⟨rfl, h3⟩)
                go_roundw
                case rel => first | exact ⟨i + 1, _, by omega, by go_num, by first | rfl | rw [app_str], by omega, h3⟩ | ((repeat apply Exists.intro); exact ⟨⟨i + 1, _, by omega, by go_num, by first | rfl | rw [app_str], by omega, h3⟩, rfl⟩)
                case measure => simp [intOf]; omega
              · have hd : ((i : Int) % 2 == 0) = false := by rw [hrem]; simp [hm]
                clear hrem
                have CV2 := CV.out
                go_wp2_with (go_at_call 18; refine (PUT.out wr (Mut.refl _ _)).mono ?_; rintro e w3 ⟨rfl, h3⟩)
                go_roundw
                case rel => first | exact ⟨i + 1, _, by omega, by go_num, by first | rfl | rw [app_str], by omega, h3⟩ | ((repeat apply Exists.intro); exact ⟨⟨i + 1, _, by omega, by go_num, by first | rfl | rw [app_str], by omega, h3⟩, rfl⟩)
                case measure => simp [intOf]; omega
          · go_wp2
            go_ret
            exact ⟨rfl, h.ends⟩
        · obtain rfl : i = p := by omega
          have C := Lib.hid (str_st h)
          go_wp2_with (go_at_call 20; refine C.out.mono ?_; rintro e w3 ⟨rfl, rfl⟩)
          go_ret
          exact ⟨rfl, h.ends⟩
    · go_enter Try.func4, Try.ntmps4
      go_wp2_with (go_at_call 8; refine (awake_any _).mono ?_; rintro e w1 ⟨rfl, hx⟩)
      go_ret
      refine ⟨rfl, ?_⟩
      (repeat (first | exact Mut.refl _ _ | assumption | apply Mut.alloc | apply Mut.drew | refine Mut.trans ?_ (After.ext _) | refine Mut.trans ?_ (by assumption)))
  · go_enter Try.func4, Try.ntmps4
    go_wp2_with (go_at_call 8; refine (awake_any _).mono ?_; rintro e w1 ⟨rfl, hx⟩)
    go_ret
    refine ⟨rfl, ?_⟩
    (repeat (first | exact Mut.refl _ _ | assumption | apply Mut.alloc | apply Mut.drew | refine Mut.trans ?_ (After.ext _) | refine Mut.trans ?_ (by assumption)))
end Go.Proofs.Ytdgoaojojebpmaa
