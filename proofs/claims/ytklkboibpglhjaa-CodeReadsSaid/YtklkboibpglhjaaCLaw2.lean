/- Layer 9: CodePrints. -/
import Derived.Test.YtklkboibpglhjaaGe
import Derived.Test.YtklkboibpglhjaaGd
namespace Go.Proofs.Ytklkboibpglhjaa
open Go.RowKit Go.WideShapes
set_option linter.unusedVariables false
set_option linter.unusedSimpArgs false
theorem few_small (p : Prg) (h : fewB p 100 = true) : p.rings.length ≤ 10 ∧ p.ths.length ≤ 10 ∧ ∀ l ∈ p.ths, l.length ≤ 100 := by
  unfold fewB at h
  simp only [Bool.and_eq_true, decide_eq_true_eq, List.all_eq_true] at h
  exact ⟨h.1.1.1, h.1.1.2, h.1.2⟩
set_option maxRecDepth 20000 in
set_option maxHeartbeats 8000000 in
theorem codePrints_walk (v : Value) (p : Prg) (w : World) (h : PArg w v p) :
    Calls Try.prog 4 #[v] w fun e w' => e = .returned (.bool true) ∧ Ext w w' := by
  have HA := Lib.hid h
  obtain ⟨A, B, ca, cb, rfl, _⟩ := h.arg
  generalize hn : p.rings.length = n at *
  generalize hm : p.ths.length = m at *
  have h1 := (St.start noB w).alloc #[Value.slice A n ca, Value.slice B m cb] 35
  have H := HA.out
  have HN := Lib.hid hn
  clear hn hm h HA
  have HF := Lib.hid (fun w' (x : Ext w w') => few_p _ p 100 (by omega) w' (H.ext x))
  go_enter Try.func4, Try.ntmps4
  go_wp2_with fail
  refine (cawake_any _).mono ?_
  rintro e w1 ⟨rfl, x1⟩
  have h2 := h1.ext x1
  clear h1 x1
  generalize w.heap.size = pb at h2 ⊢
  have hp0 := cell_of_heap h2.blk 0
  have hp1 := cell_of_heap h2.blk 1
  change w1.cell? _ = some (Value.slice A n ca) at hp0
  change w1.cell? _ = some (Value.slice B m cb) at hp1
  have H1 := H.ext h2.ends
  have HF1 := Lib.hid (HF.out w1 h2.ends)
  cases hfew : fewB p 100 with
  | false =>
    rw [hfew] at HF1
    clear hfew H H1 HF
    go_wp2_with fail
    refine HF1.out.mono ?_
    rintro e w2 ⟨rfl, x2⟩
    go_wp2_with fail
    refine (cawake_any _).mono ?_
    rintro e w3 ⟨rfl, x3⟩
    go_wp2_with fail
    go_ret
    exact ⟨rfl, (h2.ends.trans x2).trans x3⟩
  | true =>
    rw [hfew] at HF1
    obtain ⟨f1, f2, f3⟩ := few_small p hfew
    have HC := Lib.hid (fun w' (x : Ext w w') => copy_p _ p w' (H.ext x) (by omega) (by omega) (fun l hl => by have := f3 l hl; omega))
    clear hfew H1 HF f1 f2 f3
    go_wp2_with fail
    refine HF1.out.mono ?_
    rintro e w2 ⟨rfl, x2⟩
    have h3 := h2.ext x2
    clear h2 hp0 hp1 HF1 x2
    have hb := h3.blk
    go_wp2_with (refine wpList_load_row rfl _ _ rfl pb rfl 35 #[Value.slice A n ca, Value.slice B m cb] (0, 0) _ hb Try.underlying35 rfl (by kernel_rfl) ?_)
    refine (HC.out w2 h3.ends).mono ?_
    rintro e w3 ⟨u, rfl, a3, x3⟩
    have h4 := h3.ext x3
    clear hb h3 x3
    go_wp2_with fail
    refine (cprint_p u p w3 a3).mono ?_
    rintro e w4 ⟨rfl, x4⟩
    have h5 := h4.ext x4
    clear h4 x4 a3
    have HW := Lib.hid (fun w' (x : Ext w w') => rwritten_p _ p w' (H.ext x))
    have HP := Lib.hid (fun w' (x : Ext w w') => rprint_p _ p w' (H.ext x))
    have HD := Lib.hid (fun w' (x : Ext w w') => cdigest_p _ p w' (H.ext x))
    have HD2 := Lib.hid (fun w' (x : Ext w w') => rdigest_p _ p w' (H.ext x))
    generalize digB p = dd at HD HD2
    have hdd : (((dd : Nat) : Int) != ((dd : Nat) : Int)) = false := by simp
    clear H HC HN
    cases hwr : writtenB p with
    | false =>
      rw [if_neg (by simp), if_neg (by simp)]
      rw [hwr] at HW
      clear hwr HP
      have hss : ((⟨#[]⟩ : ByteArray) == ⟨#[]⟩) = true := by decide
      go_wp2_with fail
      have hrow := h5.blk
      (refine wp_region_after (by kernel_rfl) (by kernel_rfl) ?_; (repeat (first | go_big_quiet_skip | (go_big_quiet_want; first | (refine quiet_load_row _ _ rfl pb rfl 35 #[Value.slice A n ca, Value.slice B m cb] (0, 0) _ hrow Try.underlying35 rfl (by kernel_rfl) ?_; simp only [Act.put, List.setIfInBounds_toArray, List.set_cons_succ, List.set_cons_zero]; go_big_quiet_on) | (go_big_quiet_op; first | go_big_quiet_on | (apply Exists.intro; refine ⟨fun _ => ?_, ?_⟩; (· (first | (go_at_call 20; exact Calls.after (HD.out _ (h5.ends.trans (After.ext _)))) | (go_at_call 21; exact Calls.after (HD2.out _ (h5.ends.trans (After.ext _)))))); go_big_quiet_on))))); refine wpQuiet_nil ?_; rintro _ ⟨y, rfl⟩)
      have h6 := h5.ext y.ext
      clear hrow h5
      generalize y.w = w5 at h6 ⊢
      have hb := h6.blk
      go_wp2_with (refine wpList_load_row rfl _ _ rfl pb rfl 35 #[Value.slice A n ca, Value.slice B m cb] (0, 0) _ hb Try.underlying35 rfl (by kernel_rfl) ?_)
      refine (HW.out w5 h6.ends).mono ?_
      rintro e w6 ⟨rfl, x6⟩
      clear hb
      go_wp2_with fail
      go_ret
      exact ⟨by simp, h6.ends.trans x6⟩
    | true =>
      rw [if_pos rfl, if_pos rfl]
      have HP2 := Lib.hid (fun w' (x : Ext w w') => HP.out w' x hwr)
      rw [hwr] at HW
      clear hwr HP
      generalize (⟨(prB p).toArray⟩ : ByteArray) = s at HP2 ⊢
      go_wp2_with fail
      have hrow := h5.blk
      (refine wp_region_after (by kernel_rfl) (by kernel_rfl) ?_; (repeat (first | go_big_quiet_skip | (go_big_quiet_want; first | (refine quiet_load_row _ _ rfl pb rfl 35 #[Value.slice A n ca, Value.slice B m cb] (0, 0) _ hrow Try.underlying35 rfl (by kernel_rfl) ?_; simp only [Act.put, List.setIfInBounds_toArray, List.set_cons_succ, List.set_cons_zero]; go_big_quiet_on) | (go_big_quiet_op; first | go_big_quiet_on | (apply Exists.intro; refine ⟨fun _ => ?_, ?_⟩; (· (first | (go_at_call 20; exact Calls.after (HD.out _ (h5.ends.trans (After.ext _)))) | (go_at_call 21; exact Calls.after (HD2.out _ (h5.ends.trans (After.ext _)))))); go_big_quiet_on))))); refine wpQuiet_nil ?_; rintro _ ⟨y, rfl⟩)
      have h6 := h5.ext y.ext
      clear hrow h5
      generalize y.w = w5 at h6 ⊢
      have hb := h6.blk
      go_wp2_with (refine wpList_load_row rfl _ _ rfl pb rfl 35 #[Value.slice A n ca, Value.slice B m cb] (0, 0) _ hb Try.underlying35 rfl (by kernel_rfl) ?_)
      refine (HW.out w5 h6.ends).mono ?_
      rintro e w6 ⟨rfl, x6⟩
      have h7 := h6.ext x6
      clear hb h6
      have hb := h7.blk
      go_wp2_with (refine wpList_load_row rfl _ _ rfl pb rfl 35 #[Value.slice A n ca, Value.slice B m cb] (0, 0) _ hb Try.underlying35 rfl (by kernel_rfl) ?_)
      refine (HP2.out w6 h7.ends).mono ?_
      rintro e w7 ⟨rfl, x7⟩
      clear hb
      go_wp2_with fail
      go_ret
      exact ⟨by simp, h7.ends.trans x7⟩
end Go.Proofs.Ytklkboibpglhjaa
