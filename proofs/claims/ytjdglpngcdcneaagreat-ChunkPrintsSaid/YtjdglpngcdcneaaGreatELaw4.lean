/- Layer 21's laws: ChunkPrints. -/
import Derived.Test.YtjdglpngcdcneaaGreatERs3
namespace Go.Proofs.YtjdglpngcdcneaaGreat
open Go.RowKit Go.WideShapes
set_option linter.unusedVariables false
set_option linter.unusedSimpArgs false
set_option linter.unusedSectionVars false
set_option maxRecDepth 20000 in
set_option maxHeartbeats 8000000 in
theorem chunkPrints_walk (A : Option Addr) (ca : Nat) (l : List Ev) (w : World) (ra : ArgRow repEv 5 w A l.length l) (hpa : l.length ≤ 9223372036854775807) :
    Calls Tryz.prog 3 #[.slice A l.length ca] w fun e w' => e = .returned (.bool true) ∧ Ext w w' := by
  have HA := Lib.hid awake_any
  have hr := ra.erow
  have hv : ∀ i, i < l.length → (l.getD i default).vl < 18446744073709551616 := fun i hi => (ra.evok i hi).vl
  clear ra
  obtain ⟨n, hn⟩ : ∃ n, l.length = n := ⟨_, rfl⟩
  rw [hn] at hpa ⊢
  have HN := Lib.hid hn
  by_cases h0 : n ≤ 120
  rotate_left
  · have h0i : (120 : Int) < (n : Int) := by omega
    go_enter Tryz.func3, Tryz.ntmps3
    go_wp2_with fail
    refine (HA.out w).mono ?_
    rintro _ w1 ⟨rfl, x1⟩
    go_wp2_with fail
    refine (HA.out w1).mono ?_
    rintro _ w2 ⟨rfl, x2⟩
    go_wp2_with fail
    go_ret
    exact ⟨rfl, x1.trans x2⟩
  have h0i : ¬ (120 : Int) < (n : Int) := by omega
  have HC := Lib.hid (fun w1 (x : Ext w w1) => rcheck_any A ca n l w1 hn (by omega) (hr.ext x))
  by_cases hc : checkE l = (0, 0)
  rotate_left
  · have HS := Lib.hid (fun w1 B cb (q : ERow w1 B l) => strs_bad B cb n l w1 hn (by omega) q hc)
    have HP := Lib.hid (fun w1 B cb (q : ERow w1 B l) => print_bad B cb n l w1 hn (by omega) q hc)
    have hcc := (check_code l).resolve_left hc
    generalize checkE l = C at *
    obtain ⟨c1, c2⟩ := C
    dsimp only at hcc HC HS HP
    have hcne : ((c2 : Int) != 0) = true := by rw [bne_iff_ne]; omega
    clear hc hcc hv hn
    go_enter Tryz.func3, Tryz.ntmps3
    go_wp2_with fail
    refine (HA.out w).mono ?_
    rintro _ w1 ⟨rfl, x1⟩
    have h := ((St.start noB w).ext x1).made 36 5 0 0 #[] (by omega) (by unfold maxLen; omega) rfl
    go_wp2_with (at_builtin; refine wpList_pushAll rfl _ _ _ rfl 36 (.agg #[.int .i64 0, .int .i64 0, .int .i64 0, .int .u64 0, .int .u64 0]) 5 40 Tryz.underlying22 ev_info rfl (by decide) h h A n ca (evsV l) rfl rfl (by rw [evsV_len]; have := HN.out; omega) (by intro e; have := hr.none e; have := HN.out; omega) (hr.ext h.ends).cells (evsV_one l) (by unfold maxLen; omega) (by omega) ?_; intro A2 c2 w2 h2 g2)
    have h3 : St noB w w2 [ownT 36 5 (.slice A2 n c2) n (evsV l)] := by simpa using h2
    clear h h2 g2 x1
    refine (HS.out w2 A2 c2 (Own.erow h3.own HN.out)).mono ?_
    rintro _ w3 ⟨rfl, x3⟩
    have x := Lib.hid (h3.ends.trans x3)
    clear h3 x3
    have h := ((St.start noB w).ext x.out).made 36 5 0 0 #[] (by omega) (by unfold maxLen; omega) rfl
    go_wp2_with (at_builtin; refine wpList_pushAll rfl _ _ _ rfl 36 (.agg #[.int .i64 0, .int .i64 0, .int .i64 0, .int .u64 0, .int .u64 0]) 5 40 Tryz.underlying22 ev_info rfl (by decide) h h A n ca (evsV l) rfl rfl (by rw [evsV_len]; have := HN.out; omega) (by intro e; have := hr.none e; have := HN.out; omega) (hr.ext h.ends).cells (evsV_one l) (by unfold maxLen; omega) (by omega) ?_; intro A3 c3 w4 h2 g2)
    have h3 : St noB w w4 [ownT 36 5 (.slice A3 n c3) n (evsV l)] := by simpa using h2
    clear h h2 g2
    refine (HP.out w4 A3 c3 (Own.erow h3.own HN.out)).mono ?_
    rintro _ w5 ⟨rfl, x5⟩
    replace x := Lib.hid (h3.ends.trans x5)
    clear h3 x5
    go_wp2_with fail
    refine (HC.out w5 x.out).mono ?_
    rintro _ w6 ⟨rfl, x6⟩
    replace x := Lib.hid (x.out.trans x6)
    clear x6
    go_wp2_with fail
    go_ret
    exact ⟨rfl, x.out⟩
  obtain ⟨hAl, _⟩ := allE_of l hc hv
  have HS := Lib.hid (fun w1 B cb (q : ERow w1 B l) => strs_ok B cb n l w1 hn q hc hv)
  have HP := Lib.hid (fun w1 B cb (q : ERow w1 B l) => print_ok B cb n l w1 hn q hc hv)
  have HRS := Lib.hid (fun w1 (x : Ext w w1) => rstrs_any A ca n l w1 hn (by omega) (hr.ext x) hAl)
  have HRP := Lib.hid (fun w1 (x : Ext w w1) => rprn_any A ca n l w1 hn (by omega) (hr.ext x) hAl)
  rw [hc] at HC
  obtain ⟨ss, hss⟩ : ∃ q : ByteArray, q = ⟨(streamsP l).toArray⟩ := ⟨_, rfl⟩
  obtain ⟨ps, hps⟩ : ∃ q : ByteArray, q = ⟨(printE l).toArray⟩ := ⟨_, rfl⟩
  rw [← hss] at HS HRS
  rw [← hps] at HP HRP
  clear hss hps hAl hc hv hn
  go_enter Tryz.func3, Tryz.ntmps3
  go_wp2_with fail
  refine (HA.out w).mono ?_
  rintro _ w1 ⟨rfl, x1⟩
  have h := ((St.start noB w).ext x1).made 36 5 0 0 #[] (by omega) (by unfold maxLen; omega) rfl
  go_wp2_with (at_builtin; refine wpList_pushAll rfl _ _ _ rfl 36 (.agg #[.int .i64 0, .int .i64 0, .int .i64 0, .int .u64 0, .int .u64 0]) 5 40 Tryz.underlying22 ev_info rfl (by decide) h h A n ca (evsV l) rfl rfl (by rw [evsV_len]; have := HN.out; omega) (by intro e; have := hr.none e; have := HN.out; omega) (hr.ext h.ends).cells (evsV_one l) (by unfold maxLen; omega) (by omega) ?_; intro A2 c2 w2 h2 g2)
  have h3 : St noB w w2 [ownT 36 5 (.slice A2 n c2) n (evsV l)] := by simpa using h2
  clear h h2 g2 x1
  refine (HS.out w2 A2 c2 (Own.erow h3.own HN.out)).mono ?_
  rintro _ w3 ⟨rfl, x3⟩
  have x := Lib.hid (h3.ends.trans x3)
  clear h3 x3
  have h := ((St.start noB w).ext x.out).made 36 5 0 0 #[] (by omega) (by unfold maxLen; omega) rfl
  go_wp2_with (at_builtin; refine wpList_pushAll rfl _ _ _ rfl 36 (.agg #[.int .i64 0, .int .i64 0, .int .i64 0, .int .u64 0, .int .u64 0]) 5 40 Tryz.underlying22 ev_info rfl (by decide) h h A n ca (evsV l) rfl rfl (by rw [evsV_len]; have := HN.out; omega) (by intro e; have := hr.none e; have := HN.out; omega) (hr.ext h.ends).cells (evsV_one l) (by unfold maxLen; omega) (by omega) ?_; intro A3 c3 w4 h2 g2)
  have h3 : St noB w w4 [ownT 36 5 (.slice A3 n c3) n (evsV l)] := by simpa using h2
  clear h h2 g2
  refine (HP.out w4 A3 c3 (Own.erow h3.own HN.out)).mono ?_
  rintro _ w5 ⟨rfl, x5⟩
  replace x := Lib.hid (h3.ends.trans x5)
  clear h3 x5
  go_wp2_with fail
  refine (HC.out w5 x.out).mono ?_
  rintro _ w6 ⟨rfl, x6⟩
  replace x := Lib.hid (x.out.trans x6)
  clear x6
  go_wp2_with fail
  refine (HRS.out w6 x.out).mono ?_
  rintro _ w7 ⟨rfl, x7⟩
  replace x := Lib.hid (x.out.trans x7)
  clear x7
  go_wp2_with fail
  refine (HRP.out w7 x.out).mono ?_
  rintro _ w8 ⟨rfl, x8⟩
  go_wp2_with fail
  go_ret
  exact ⟨rfl, x.out.trans x8⟩
end Go.Proofs.YtjdglpngcdcneaaGreat
