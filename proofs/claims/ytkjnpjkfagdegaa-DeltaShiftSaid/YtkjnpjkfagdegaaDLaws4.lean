/- Layer 3's laws: a list moved. -/
import Derived.Test.YtkjnpjkfagdegaaDLaws3
import Derived.Deep.QuietTactic
import Derived.BigQuiet
import Derived.Deep.RegionWith
namespace Go.Proofs.Ytkjnpjkfagdegaa
open Go.RowKit
set_option linter.unusedVariables false
set_option linter.unusedSimpArgs false
/-- n moved by b -/
def mv (b n : Nat) : Nat := (n + b) % 18446744073709551616
theorem mv_lt (b n : Nat) : mv b n < 18446744073709551616 := Nat.mod_lt _ (by omega)
theorem dl_mv (b x y : Nat) (hx : x < 18446744073709551616) (hy : y < 18446744073709551616) : dl (mv b x) (mv b y) = dl x y := by
  have e : (mv b y + 18446744073709551616 - mv b x) % 18446744073709551616 = (y + 18446744073709551616 - x) % 18446744073709551616 := by
    unfold mv; omega
  unfold dl
  rw [e]
theorem mv_get (b : Nat) (l : List Nat) (i : Nat) (h : i < l.length) : (l.map (mv b)).getD i 0 = mv b (l.getD i 0) := by
  rw [List.getD_eq_getElem?_getD, List.getElem?_map, List.getD_eq_getElem?_getD, List.getElem?_eq_getElem h]; rfl
theorem allLt_mv (b : Nat) (l : List Nat) : AllLt (l.map (mv b)) := fun i hi => by
  rw [List.length_map] at hi
  rw [mv_get b l i hi]; exact mv_lt _ _
theorem deltas_mv (b : Nat) (l : List Nat) (j : Nat) (h : j + 1 < l.length) (ha : AllLt l) : (deltas (l.map (mv b))).getD (j + 1) 0 = (deltas l).getD (j + 1) 0 := by
  rw [deltas_get _ _ (by rw [List.length_map]; exact h), deltas_get _ _ h]
  unfold stepAt
  rw [prev_succ, prev_succ, mv_get b l j (by omega), mv_get b l (j + 1) h]
  exact dl_mv b _ _ (ha j (by omega)) (ha (j + 1) h)
theorem deltas_first (l : List Nat) (h : 0 < l.length) : (deltas l).getD 0 0 = dl 0 (l.getD 0 0) := by
  rw [deltas_get _ _ h]; unfold stepAt; simp only [prev, if_true]
theorem map_take (b : Nat) (l : List Nat) (i : Nat) (h : i < l.length) : (l.take (i + 1)).map (mv b) = (l.take i).map (mv b) ++ [mv b (l.getD i 0)] := by
  rw [take_snoc l i h, List.map_append]; rfl
/-- the steps of one number -/
theorem rd_one (w : World) (b v : Nat) (hv : v < 18446744073709551616) (hc : w.cell? ⟨b, 0, none⟩ = some (.int .u64 v)) :
    Calls Try.prog 15 #[.slice (some ⟨b, 0, none⟩) 1 1] w fun e w' => ∃ g c', e = .returned (.slice (some ⟨g, 0, none⟩) 1 c') ∧ w'.cell? ⟨g, 0, none⟩ = some (.int .u64 (dl 0 v : Nat)) ∧ Ext w w' := by
  have hr : NRow w (some ⟨b, 0, none⟩) [v] := by
    intro i hi
    obtain rfl : i = 0 := by simp at hi; exact hi
    refine ⟨b, 0, rfl, ?_⟩
    simpa using hc
  refine (rdeltas_m (St.start noB w) (some ⟨b, 0, none⟩) 1 [v] 1 rfl (by omega) hr (allLt_snoc [] v allLt_nil hv)).mono ?_
  rintro e w' ⟨A', c', rfl, h⟩
  have e1 : deltas [v] = [dl 0 v] := steps_one dl v
  rw [e1] at h
  obtain ⟨g, hA, hg⟩ := h.own.numAt rfl 0 (by omega)
  subst hA
  rw [get_one] at hg
  exact ⟨g, c', rfl, hg, h.ends⟩
set_option maxRecDepth 20000 in
set_option maxHeartbeats 4000000 in
theorem deltaShift_walk (A : Option Addr) (ca : Nat) (l : List Nat) (by' : Nat) (hby : by' < 18446744073709551616) (w : World) (ra : ArgRow (repU .u64 18446744073709551616) 1 w A l.length l) (hpa : l.length ≤ 9223372036854775807) :
    Calls Try.prog 6 #[.slice A l.length ca, .int .u64 by'] w fun e w' => e = .returned (.bool true) ∧ Ext w w' := by
  have ha := ra.allLt
  have hr := ra.nrow
  obtain ⟨m, hm⟩ : ∃ m, m = l.length := ⟨_, rfl⟩
  rw [← hm] at hpa ⊢
  have HM := Lib.hid hm.symm
  clear hm ra
  by_cases h00 : m = 0
  · subst h00
    clear hr ha
    go_enter Try.func6, Try.ntmps6
    go_wp2_with (go_at_call 8; refine (dawake_any _).mono ?_; rintro e w1 ⟨rfl, x1⟩)
    go_ret
    exact ⟨rfl, Mut.trans (by assumption) x1⟩
  · have hm0 : ((m : Int) == 0) = false := by rw [beq_eq_false_iff_ne]; omega
    by_cases h0 : m ≤ 100
    · have hr2 : ∀ i, i < m → ∃ b off, A = some ⟨b, off, none⟩ ∧ w.cell? ⟨b, off + i, none⟩ = some (.int .u64 (l.getD i 0 : Nat)) := fun i hi => hr i (by have := HM.out; omega)
      have ha2 : ∀ i, i < m → l.getD i 0 < 18446744073709551616 := fun i hi => ha i (by have := HM.out; omega)
      have HT : Hid (∀ i, i < m → (l.take (i + 1)).map (mv by') = (l.take i).map (mv by') ++ [mv by' (l.getD i 0)]) := Lib.hid (fun i hi => map_take by' l i (by have := HM.out; omega))
      go_enter Try.func6, Try.ntmps6
      go_wp2_with (go_at_call 8; refine (dawake_any _).mono ?_; rintro e w1 ⟨rfl, x1⟩)
      have h2 := ((St.start noB w).ext x1).nilOwn 22 1
      go_loopw [5, 26] (fun vo vi wr => ∃ (i : Nat) (v : Value), i ≤ m ∧ vo = v ∧ vi = .int .i64 i ∧ St noB w wr [mlT v i ((l.take i).map (mv by'))]) (fun _ vi _ => m - (intOf vi).toNat)
      case atStart => exact ⟨0, _, by omega, rfl, rfl, h2⟩
      case round =>
        clear h2 x1
        obtain ⟨i, v, hi, rfl, rfl, h⟩ := hrel
        obtain ⟨A3, c3, rfl⟩ := h.own.form
        by_cases hlt : i < m
        · obtain ⟨b, off, rfl, hc⟩ := hr2 i hlt
          have hc2 := h.ends.cell hc
          have hb := ha2 i hlt
          have HE := Lib.hid (HT.out i hlt)
          generalize l.getD i 0 = n at hb hc hc2 HE
          have HV := Lib.hid (show IntKind.u64.wrap ((n : Int) + by') = (mv by' n : Nat) by rw [IntKind.wrap_u64]; unfold mv; omega)
          clear hc ha2 hr2
          go_wp2_with (at_builtin; refine wpList_push rfl _ _ _ rfl 22 (.int .u64 0) 1 8 Try.underlying27 u64_info rfl (by decide) h rfl rfl rfl (by intro u hu; simp at hu; subst hu; rfl) (by unfold maxLen; omega) (by omega) ?_; intro A' c' w6 h6)
          have h7 : St noB w w6 [mlT (.slice A' (i + 1) c') (i + 1) ((l.take (i + 1)).map (mv by'))] := by
            unfold mlT
            rw [HE.out, numsV_append]
            rw [HV.out] at h6; exact h6
          go_roundw
          case rel => first | exact ⟨i + 1, _, by omega, rfl, by go_num, h7⟩ | ((repeat apply Exists.intro); exact ⟨⟨i + 1, _, by omega, rfl, by go_num, h7⟩, rfl⟩)
          case measure => simp [intOf]; omega
        · obtain rfl : i = m := by omega
          have hML : (l.take i).map (mv by') = l.map (mv by') := by rw [← HM.out, List.take_length]
          rw [hML] at h
          have HML := Lib.hid (show (l.map (mv by')).length = i by rw [List.length_map]; exact HM.out)
          have HEQ : Hid (∀ j, j + 1 < i → (deltas (l.map (mv by'))).getD (j + 1) 0 = (deltas l).getD (j + 1) 0) := Lib.hid (fun j hj => deltas_mv by' l j (by rw [HM.out]; exact hj) ha)
          have HF : Hid ((deltas (l.map (mv by'))).getD 0 0 = dl 0 (mv by' (l.getD 0 0))) := Lib.hid (by rw [deltas_first _ (by rw [HML.out]; omega), mv_get by' l 0 (by rw [HM.out]; omega)])
          have HDL := Lib.hid (show (deltas l).length = i by rw [deltas_len]; exact HM.out)
          have HDM := Lib.hid (show (deltas (l.map (mv by'))).length = i by rw [deltas_len]; exact HML.out)
          clear hML
          go_wp2_with fail
          refine (deltas_m h A ca l i HM.out (by omega) (hr.ext h.ends) ha).mono ?_
          rintro e w2 ⟨A4, c4, rfl, h4⟩
          go_wp2_with fail
          refine (deltas_m h4 A3 c3 (l.map (mv by')) i HML.out (by omega) (Own.nrow h4.swap.own HML.out) (allLt_mv by' l)).mono ?_
          rintro e w3 ⟨A5, c5, rfl, h5⟩
          have h6 := (h5.pull 2).drop
          clear h h4 h5
          change St noB w w3 [mlT _ _ _, mlT _ _ _] at h6
          obtain ⟨b0, o0, hA, hcl⟩ := hr2 0 (by omega)
          subst hA
          have HCL := Lib.hid hcl
          generalize l.getD 0 0 = n0 at hcl HF HCL
          clear hcl hr2 ha2 hr ha HT
          generalize deltas (l.map (mv by')) = db at h6 HEQ HF HDM
          generalize deltas l = da at h6 HEQ HDL
          obtain ⟨g5, _, e5, _⟩ := h6.own.slice (by omega)
          cases e5
          obtain ⟨g4, _, e4, _⟩ := h6.swap.own.slice (by omega)
          cases e4
          go_wp2_with fail
          go_loopw [55] (fun vj wr => ∃ j : Nat, j ≤ i ∧ vj = .int .i64 j ∧ St noB w wr [mlT (.slice (some ⟨g5, 0, none⟩) i c5) i db, mlT (.slice (some ⟨g4, 0, none⟩) i c4) i da]) (fun vj _ => i - (intOf vj).toNat)
          case atStart => exact ⟨0, by omega, rfl, h6⟩
          case round =>
            clear h6
            obtain ⟨j, hj, rfl, h⟩ := hrel
            by_cases hlj : j < i
            · have hli : (j : Int) < (i : Int) := by omega
              have hl0 : (0 : Int) ≤ (j : Int) := by omega
              cases j with
              | zero =>
                go_wp2_with fail
                (refine wp_region_after (by kernel_rfl) (by kernel_rfl) ?_; (repeat (first | go_big_quiet_skip | (go_big_quiet_want; first | (fail; simp only [Act.put, List.setIfInBounds_toArray, List.set_cons_succ, List.set_cons_zero]; go_big_quiet_on) | (go_big_quiet_op; first | go_big_quiet_on | (apply Exists.intro; refine ⟨fun _ => ?_, ?_⟩; (· (fail)); go_big_quiet_on))))); refine wpQuiet_nil ?_; rintro _ ⟨y, rfl⟩)
                have h7 := h.ext y.ext
                go_wp2_with fail
                go_roundw
                case rel => first | exact ⟨0 + 1, by omega, by go_num, h7⟩ | ((repeat apply Exists.intro); exact ⟨⟨0 + 1, by omega, by go_num, h7⟩, rfl⟩)
                case measure => first | (simp [intOf]; done) | (simp [intOf]; omega)
              | succ jj =>
                have k5 := h.own.cell (jj + 1) (by omega)
                rw [numsV_get _ _ (by rw [HDM.out]; exact hlj), HEQ.out jj hlj] at k5
                have k4 := h.swap.own.cell (jj + 1) (by omega)
                rw [numsV_get _ _ (by rw [HDL.out]; exact hlj)] at k4
                generalize da.getD (jj + 1) 0 = z at k5 k4
                have ka1 := fun a : After wr => (After.ext a).cell k5
                have ka2 := fun a : After wr => (After.ext a).cell k4
                have hj00 : (0 : Int) < (jj : Int) + 1 := by omega
                clear k4 k5
                go_wp2_with fail
                (refine wp_region_after (by kernel_rfl) (by kernel_rfl) ?_; (repeat (first | go_big_quiet_skip | (go_big_quiet_want; first | (fail; simp only [Act.put, List.setIfInBounds_toArray, List.set_cons_succ, List.set_cons_zero]; go_big_quiet_on) | (go_big_quiet_op; first | go_big_quiet_on | (apply Exists.intro; refine ⟨fun _ => ?_, ?_⟩; (· (fail)); go_big_quiet_on))))); refine wpQuiet_nil ?_; rintro _ ⟨y, rfl⟩)
                have h7 := h.ext y.ext
                clear ka1 ka2
                go_wp2_with fail
                go_roundw
                case rel => first | exact ⟨jj + 1 + 1, by omega, by go_num, h7⟩ | ((repeat apply Exists.intro); exact ⟨⟨jj + 1 + 1, by omega, by go_num, h7⟩, rfl⟩)
                case measure => simp [intOf]; omega
            · obtain rfl : j = i := by omega
              have k5 := h.own.cell 0 (by omega)
              rw [numsV_get _ _ (by rw [HDM.out]; omega), HF.out] at k5
              have hcl := h.ends.cell HCL.out
              rw [Nat.add_zero] at hcl
              have hV : IntKind.u64.wrap ((n0 : Int) + by') = (mv by' n0 : Nat) := by rw [IntKind.wrap_u64]; unfold mv; omega
              have hmv := mv_lt by' n0
              have HRD := Lib.hid (fun (w : World) (b : Nat) (hc : w.cell? ⟨b, 0, none⟩ = some (.int .u64 (mv by' n0 : Nat))) => rd_one w b (mv by' n0) hmv hc)
              have hi0 : (0 : Int) < (j : Int) := by omega
              have hjn : 0 < j := by omega
              have hx := h.ends
              generalize dl 0 (mv by' n0) = D at k5 HRD
              generalize mv by' n0 = V at hV HRD hmv
              clear h HCL HF
              go_wp2_with fail
              have xa : Ext wr (wr.alloc (.cells #[Value.int .u64 (V : Nat)] 22)) := (Mut.refl _ _).alloc _
              have ka5 := xa.cell k5
              have ka6 := xa.cell hcl
              go_region_with (first | (go_at_call 15; refine (HRD.out _ _ (by first | exact cell_of_heap (heap_alloc_self _ _) 0 | simp)).mono ?_; rintro e w' ⟨gq, cq, rfl, hcg, x5⟩; have x6 : Ext wr w' := Mut.trans (((Mut.refl noB wr).alloc _).drew) x5; have q5 := x6.cell k5; have q6 := x6.cell hcl))
              all_goals go_wp2_with fail
              all_goals go_ret
              all_goals exact ⟨rfl, hx.trans x6⟩
    · clear hr ha
      go_enter Try.func6, Try.ntmps6
      go_wp2_with (go_at_call 8; refine (dawake_any _).mono ?_; rintro e w1 ⟨rfl, x1⟩)
      go_ret
      exact ⟨rfl, Mut.trans (by assumption) x1⟩
end Go.Proofs.Ytkjnpjkfagdegaa
