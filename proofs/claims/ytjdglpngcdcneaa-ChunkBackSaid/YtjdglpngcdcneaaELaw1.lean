/- Layer 21's laws: ChunkBack. -/
import Derived.Test.YtjdglpngcdcneaaEArg
namespace Go.Proofs.Ytjdglpngcdcneaa
open Go.RowKit Go.WideShapes
set_option linter.unusedVariables false
set_option linter.unusedSimpArgs false
set_option linter.unusedSectionVars false
set_option maxRecDepth 20000 in
set_option maxHeartbeats 8000000 in
theorem chunkBack_walk (A : Option Addr) (ca : Nat) (l : List Ev) (more : Int) (hmo : -9223372036854775808 ≤ more ∧ more < 9223372036854775808) (w : World) (ra : ArgRow repEv 5 w A l.length l) (hpa : l.length ≤ 9223372036854775807) :
    Calls Try.prog 3 #[.slice A l.length ca, .int .i64 more] w fun e w' => e = .returned (.bool true) ∧ Ext w w' := by
  have HA := Lib.hid awake_any
  have hr := ra.erow
  have hv : ∀ i, i < l.length → (l.getD i default).vl < 18446744073709551616 := fun i hi => (ra.evok i hi).vl
  clear ra
  obtain ⟨n, hn⟩ : ∃ n, l.length = n := ⟨_, rfl⟩
  rw [hn] at hpa ⊢
  by_cases h0 : n ≤ 300
  · have h0i : ¬ (300 : Int) < (n : Int) := by omega
    have HC := Lib.hid (fun w1 (x : Ext w w1) => rcheck_any A ca n l w1 hn (by omega) (hr.ext x))
    by_cases hc : checkE l = (0, 0)
    · rw [hc] at HC
      obtain ⟨hAl, hl6⟩ := allE_of l hc hv
      have hsl := streams_len l hAl hl6
      have hpk : (printE l).length ≤ 520000 := by
        have := packP_len (streamsP l) (by omega)
        unfold printE
        omega
      have HP := Lib.hid (fun w1 (x : Ext w w1) => print_ok A ca n l w1 hn (hr.ext x) hc hv)
      obtain ⟨k, hk, hk2⟩ : ∃ k : Nat, (IntKind.u64.wrap more).tmod 1000 = (k : Int) ∧ k < 1000 := by
        rw [IntKind.wrap_u64]
        generalize hz : more % 18446744073709551616 = z
        have h1 : 0 ≤ z := by omega
        obtain ⟨z, rfl⟩ := Int.eq_ofNat_of_zero_le h1
        exact ⟨z % 1000, by rw [Int.tmod_eq_emod_of_nonneg (by omega)]; omega, Nat.mod_lt _ (by omega)⟩
      have hb := rdE_back l hc hv (n + k) (by omega) (by omega)
      have hL := rdE_long l hc hv
      have hNg := rdE_neg (printE l)
      obtain ⟨ps, hps⟩ : ∃ ps : ByteArray, ps = ⟨(printE l).toArray⟩ := ⟨_, rfl⟩
      have hpl : ps.data.toList = printE l := by rw [hps]
      have hpz : ps.size ≤ 520000 := by rw [hps, bytes_size]; exact hpk
      rw [← hps] at HP
      rw [← hpl] at hb hL hNg
      have HB := Lib.hid (fun w => read_ok ps hpz ((n : Int) + k) (by omega) w l n (by rw [← Int.natCast_add]; exact hb) hn)
      have HN : Hid (∀ w, Calls Try.prog 9 #[.string ps, .int .i64 ((n : Int) - 1)] w fun e w' => e = .returned (.tuple #[.slice none 0 0, .int .i64 (if n = 0 then 1 else 3)]) ∧ Ext w w') := Lib.hid (fun w => by
        by_cases h : n = 0
        · have := read_no ps hpz ((n : Int) - 1) (by omega) w 1 (hNg _ (by omega)) (by omega)
          rw [if_pos h]
          exact this
        · have := read_no ps hpz ((n : Int) - 1) (by omega) w 3 (by rw [show (n : Int) - 1 = ((n - 1 : Nat) : Int) by omega]; exact hL (n - 1) (by omega)) (by omega)
          rw [if_neg h]
          exact this)
      have HSM := Lib.hid (fun w1 B (x : Ext w w1) (q : ERow w1 B l) => rsame_any A B ca n n n l l w1 hn hn (by omega) (hr.ext x) q)
      have HNL := Lib.hid hn
      clear hb hL hNg hpl hpz hps hpk hsl hAl hl6 hc hv hr hn
      go_enter Try.func3, Try.ntmps3
      go_wp2_with fail
      refine (HA.out w).mono ?_
      rintro _ w1 ⟨rfl, x1⟩
      go_wp2_with fail
      refine (HC.out w1 x1).mono ?_
      rintro _ w2 ⟨rfl, x2⟩
      go_wp2_with fail
      refine (HP.out w2 (x1.trans x2)).mono ?_
      rintro _ w3 ⟨rfl, x3⟩
      have x := Lib.hid (x1.trans (x2.trans x3))
      clear x1 x2 x3
      go_wp2_with fail
      refine (HB.out w3).mono ?_
      rintro _ w4 ⟨x0, rfl, h4⟩
      replace x := Lib.hid (x.out.trans h4.ends)
      have q := Own.erow h4.own HNL.out
      have HS := Lib.hid (HSM.out w4 _ x.out q)
      simp only [decide_true] at HS
      clear h4 q
      go_wp2_with fail
      refine HS.out.mono ?_
      rintro _ w5 ⟨rfl, x5⟩
      replace x := Lib.hid (x.out.trans x5)
      clear x5
      go_wp2_with fail
      refine (HN.out w5).mono ?_
      rintro _ w6 ⟨rfl, x6⟩
      by_cases hz : n = 0
      · rw [if_pos hz]
        subst hz
        go_wp2_with fail
        go_ret
        exact ⟨rfl, x.out.trans x6⟩
      · rw [if_neg hz]
        have hzb : ((n : Int) == 0) = false := by rw [beq_eq_false_iff_ne]; omega
        go_wp2_with fail
        go_ret
        exact ⟨rfl, x.out.trans x6⟩
    · have hcc := (check_code l).resolve_left hc
      generalize checkE l = C at *
      obtain ⟨c1, c2⟩ := C
      dsimp only at hcc HC
      have hcne : ((c2 : Int) != 0) = true := by rw [bne_iff_ne]; omega
      clear hc hcc hv hr
      go_enter Try.func3, Try.ntmps3
      go_wp2_with fail
      refine (HA.out w).mono ?_
      rintro _ w1 ⟨rfl, x1⟩
      go_wp2_with fail
      refine (HC.out w1 x1).mono ?_
      rintro _ w2 ⟨rfl, x2⟩
      go_wp2_with fail
      go_ret
      exact ⟨rfl, x1.trans x2⟩
  · have h0i : (300 : Int) < (n : Int) := by omega
    go_enter Try.func3, Try.ntmps3
    go_wp2_with fail
    refine (HA.out w).mono ?_
    rintro _ w1 ⟨rfl, x1⟩
    go_wp2_with fail
    refine (HA.out w1).mono ?_
    rintro _ w2 ⟨rfl, x2⟩
    go_wp2_with fail
    go_ret
    exact ⟨rfl, x1.trans x2⟩
end Go.Proofs.Ytjdglpngcdcneaa
