/- Layer 21's laws: ChunkOne. -/
import Derived.Test.YtjdglpngcdcneaaEArg
namespace Go.Proofs.Ytjdglpngcdcneaa
open Go.RowKit Go.WideShapes
set_option linter.unusedVariables false
set_option linter.unusedSimpArgs false
set_option linter.unusedSectionVars false
theorem printE_inj (a b : List Ev) (ha : checkE a = (0, 0)) (hb : checkE b = (0, 0)) (va : ∀ i, i < a.length → (a.getD i default).vl < 18446744073709551616) (vb : ∀ i, i < b.length → (b.getD i default).vl < 18446744073709551616) :
    printE a = printE b ↔ a = b := by
  constructor
  · intro h
    have h1 := rdE_back a ha va 65536 ((check_ok a).1 ha).1 (by omega)
    have h2 := rdE_back b hb vb 65536 ((check_ok b).1 hb).1 (by omega)
    rw [h, h2] at h1
    injection h1 with h3 _
    exact h3.symm
  · intro h
    rw [h]
set_option maxRecDepth 20000 in
set_option maxHeartbeats 8000000 in
theorem chunkOne_walk (A : Option Addr) (ca : Nat) (l : List Ev) (B : Option Addr) (cb : Nat) (k : List Ev) (w : World) (ra : ArgRow repEv 5 w A l.length l) (rb : ArgRow repEv 5 w B k.length k) (hpa : l.length ≤ 9223372036854775807) (hpb : k.length ≤ 9223372036854775807) :
    Calls Try.prog 4 #[.slice A l.length ca, .slice B k.length cb] w fun e w' => e = .returned (.bool true) ∧ Ext w w' := by
  have HA := Lib.hid awake_any
  have hr := ra.erow
  have hq := rb.erow
  have hv : ∀ i, i < l.length → (l.getD i default).vl < 18446744073709551616 := fun i hi => (ra.evok i hi).vl
  have hu : ∀ i, i < k.length → (k.getD i default).vl < 18446744073709551616 := fun i hi => (rb.evok i hi).vl
  clear ra rb
  obtain ⟨n, hn⟩ : ∃ n, l.length = n := ⟨_, rfl⟩
  obtain ⟨m, hm⟩ : ∃ m, k.length = m := ⟨_, rfl⟩
  rw [hn] at hpa ⊢
  rw [hm] at hpb ⊢
  by_cases h0 : n ≤ 120
  rotate_left
  · have h0i : (120 : Int) < (n : Int) := by omega
    go_enter Try.func4, Try.ntmps4
    go_wp2_with fail
    refine (HA.out w).mono ?_
    rintro _ w1 ⟨rfl, x1⟩
    go_wp2_with fail
    refine (HA.out w1).mono ?_
    rintro _ w2 ⟨rfl, x2⟩
    go_wp2_with fail
    go_ret
    exact ⟨rfl, x1.trans x2⟩
  have h0i : ¬ (120 : Int) < (n : Int) := by omega
  by_cases h1 : m ≤ 120
  rotate_left
  · have h1i : (120 : Int) < (m : Int) := by omega
    go_enter Try.func4, Try.ntmps4
    go_wp2_with fail
    refine (HA.out w).mono ?_
    rintro _ w1 ⟨rfl, x1⟩
    go_wp2_with fail
    refine (HA.out w1).mono ?_
    rintro _ w2 ⟨rfl, x2⟩
    go_wp2_with fail
    go_ret
    exact ⟨rfl, x1.trans x2⟩
  have h1i : ¬ (120 : Int) < (m : Int) := by omega
  have HC := Lib.hid (fun w1 (x : Ext w w1) => rcheck_any A ca n l w1 hn (by omega) (hr.ext x))
  have HD := Lib.hid (fun w1 (x : Ext w w1) => rcheck_any B cb m k w1 hm (by omega) (hq.ext x))
  by_cases hc : checkE l = (0, 0)
  rotate_left
  · have hcc := (check_code l).resolve_left hc
    generalize checkE l = C at *
    obtain ⟨c1, c2⟩ := C
    dsimp only at hcc HC
    have hcne : ((c2 : Int) != 0) = true := by rw [bne_iff_ne]; omega
    clear hc hcc hv hr hu hq
    go_enter Try.func4, Try.ntmps4
    go_wp2_with fail
    refine (HA.out w).mono ?_
    rintro _ w1 ⟨rfl, x1⟩
    go_wp2_with fail
    refine (HC.out w1 x1).mono ?_
    rintro _ w2 ⟨rfl, x2⟩
    go_wp2_with fail
    go_ret
    exact ⟨rfl, x1.trans x2⟩
  rw [hc] at HC
  by_cases hd : checkE k = (0, 0)
  rotate_left
  · have hcc := (check_code k).resolve_left hd
    generalize checkE k = C at *
    obtain ⟨c1, c2⟩ := C
    dsimp only at hcc HD
    have hcne : ((c2 : Int) != 0) = true := by rw [bne_iff_ne]; omega
    clear hd hcc hv hr hu hq
    go_enter Try.func4, Try.ntmps4
    go_wp2_with fail
    refine (HA.out w).mono ?_
    rintro _ w1 ⟨rfl, x1⟩
    go_wp2_with fail
    refine (HC.out w1 x1).mono ?_
    rintro _ w2 ⟨rfl, x2⟩
    go_wp2_with fail
    refine (HD.out w2 (x1.trans x2)).mono ?_
    rintro _ w3 ⟨rfl, x3⟩
    go_wp2_with fail
    go_ret
    exact ⟨rfl, x1.trans (x2.trans x3)⟩
  rw [hd] at HD
  have HP := Lib.hid (fun w1 (x : Ext w w1) => print_ok A ca n l w1 hn (hr.ext x) hc hv)
  have HQ := Lib.hid (fun w1 (x : Ext w w1) => print_ok B cb m k w1 hm (hq.ext x) hd hu)
  have HSM := Lib.hid (fun w1 (x : Ext w w1) => rsame_any A B ca cb n m l k w1 hn hm (by omega) (hr.ext x) (hq.ext x))
  have hin := printE_inj l k hc hd hv hu
  obtain ⟨d, hdd⟩ : ∃ d, decide (l = k) = d := ⟨_, rfl⟩
  rw [hdd] at HSM
  have hcmp : ((⟨(printE l).toArray⟩ : ByteArray).toList == (⟨(printE k).toArray⟩ : ByteArray).toList) = d := by
    rw [ByteArray.toList_eq, ByteArray.toList_eq, ← hdd]
    show (printE l == printE k) = _
    rw [Bool.eq_iff_iff, beq_iff_eq, decide_eq_true_eq]
    exact hin
  obtain ⟨ps, hps⟩ : ∃ ps : ByteArray, ps = ⟨(printE l).toArray⟩ := ⟨_, rfl⟩
  obtain ⟨pt, hpt⟩ : ∃ pt : ByteArray, pt = ⟨(printE k).toArray⟩ := ⟨_, rfl⟩
  rw [← hps] at HP hcmp
  rw [← hpt] at HQ hcmp
  clear hin hdd hps hpt hc hd hv hu hr hq hn hm
  go_enter Try.func4, Try.ntmps4
  go_wp2_with fail
  refine (HA.out w).mono ?_
  rintro _ w1 ⟨rfl, x1⟩
  go_wp2_with fail
  refine (HC.out w1 x1).mono ?_
  rintro _ w2 ⟨rfl, x2⟩
  go_wp2_with fail
  refine (HD.out w2 (x1.trans x2)).mono ?_
  rintro _ w3 ⟨rfl, x3⟩
  have x := Lib.hid (x1.trans (x2.trans x3))
  clear x1 x2 x3
  go_wp2_with fail
  refine (HP.out w3 x.out).mono ?_
  rintro _ w4 ⟨rfl, x4⟩
  replace x := Lib.hid (x.out.trans x4)
  clear x4
  go_wp2_with fail
  refine (HQ.out w4 x.out).mono ?_
  rintro _ w5 ⟨rfl, x5⟩
  replace x := Lib.hid (x.out.trans x5)
  clear x5
  go_wp2_with fail
  refine (HSM.out w5 x.out).mono ?_
  rintro _ w6 ⟨rfl, x6⟩
  replace x := Lib.hid (x.out.trans x6)
  clear x6
  cases d
  · go_wp2_with fail
    go_ret
    exact ⟨rfl, x.out⟩
  · go_wp2_with fail
    go_ret
    exact ⟨rfl, x.out⟩
end Go.Proofs.Ytjdglpngcdcneaa
