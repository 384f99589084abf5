/- Layer 7: huff.Lengths. -/
import Derived.Test.YtclhmlgbhlmekaaHMir
import Derived.Test.YtclhmlgbhlmekaaHCodes
namespace Go.Proofs.Ytclhmlgbhlmekaa
open Go.RowKit
set_option linter.unusedVariables false
set_option linter.unusedSimpArgs false
theorem leaf_vs {vs : Nat → Value} (hv : ∀ k, ∃ A n c, vs k = .slice A n c) (n g : Nat) : ∀ k, ∃ A n' c, updA vs n (.slice (some ⟨g, 0, none⟩) 1 1) k = .slice A n' c := fun k => by
  by_cases e : k = n
  · subst e; rw [updA_self]; exact ⟨_, _, _, rfl⟩
  · rw [updA_ne _ _ e]; exact hv k
theorem new_flat {vs : Nat → Value} {l : List WN} {n : Nat} {v : Value} {x : Nat} (h : ∀ y ∈ l, y.2 < n) : (l ++ [(x, n)]).flatMap (trC (updA vs n v)) = l.flatMap (trC vs) ++ [.int .u64 (x : Nat), .int .i64 (n : Nat), v] := by
  have e : l.flatMap (trC (updA vs n v)) = l.flatMap (trC vs) := by
    rw [List.flatMap_def, List.flatMap_def, List.map_congr_left (fun y hy => show trC (updA vs n v) y = trC vs y by unfold trC; rw [updA_ne _ _ (by have := h y hy; omega)])]
  rw [List.flatMap_append, e, List.flatMap_singleton]
  unfold trC
  rw [updA_self]
theorem leaf_flat {vs : Nat → Value} {l : List WN} {n g : Nat} {x : Nat} (h : ∀ y ∈ l, y.2 < n) : (l ++ [(x, n)]).flatMap (trC (updA vs n (.slice (some ⟨g, 0, none⟩) 1 1))) = l.flatMap (trC vs) ++ [.int .u64 (x : Nat), .int .i64 (n : Nat), .slice (some ⟨g, 0, none⟩) 1 1] := new_flat h
theorem name_world {W : World} {P : World → Prop} (h : P W) : ∃ w5, W = w5 ∧ P w5 := ⟨W, rfl, h⟩
set_option maxRecDepth 20000 in
set_option maxHeartbeats 8000000 in
theorem lengths_any (f : Nat → Nat) (hf : ∀ i, f i < 18446744073709551616) (w : World) :
    Calls Try.prog 12 #[.agg (tabV .u64 f)] w fun e w' => e = .returned (.agg (tabV .u8 (lenT f))) ∧ Ext w w' := by
  obtain ⟨T, hT⟩ : ∃ T, T = tabV .u64 f := ⟨_, rfl⟩
  have hT0 : ∀ i, i < 256 → T[i]? = some (.int .u64 (f i)) := fun i hi => by rw [hT]; exact tabV_get _ _ i hi
  have hTs : T.size = 256 := by rw [hT, tabV_size]
  rw [← hT]
  have HT := Lib.hid hT
  clear hT
  have hz := zero8
  have h1 := ((((St.start noB w).alloc T 25).alloc (tabV .u8 (fun _ => 0)) 27).alloc #[] 50).alloc #[.slice (some ⟨w.heap.size + 1 + 1, 0, none⟩) 0 0] 48
  go_enter Try.func12, Try.ntmps12
  rw [size_alloc', size_alloc', size_alloc'] at h1
  have hb := (h1.pull 3).blk
  have hs8 : (Try.prog.info? 25).map (·.size) = some T.size := by rw [hTs]; kernel_rfl
  go_wp2_with (refine wpList_load_row rfl _ _ rfl w.heap.size rfl 25 T (0, 0) (.array 256 24) hb Try.underlying25 rfl hs8 ?_)
  clear hb hs8 hz
  generalize (((w.alloc (.cells T 25)).alloc (.cells (tabV .u8 (fun _ => 0)) 27)).alloc (.cells #[] 50)).alloc (.cells #[.slice (some ⟨w.heap.size + 1 + 1, 0, none⟩) 0 0] 48) = w1 at h1 ⊢
  generalize w.heap.size + 1 + 1 + 1 = b at h1 ⊢
  generalize w.heap.size + 1 + 1 = r0 at h1 ⊢
  generalize w.heap.size + 1 = tb at h1 ⊢
  generalize w.heap.size = lb at h1 ⊢
  have h2 := h1.swap
  have h3 := h2.tell (t' := ownT 50 3 (.slice (some ⟨r0, 0, none⟩) 0 0) 0 []) (fun fp hf => ⟨⟨rfl, .inr ⟨r0, 0, #[], rfl, Nat.zero_le _, hf.1, Nat.le_refl _, by decide, rfl, rfl⟩⟩, by rw [hf.2]; funext k; show (k = r0) = (some r0 = some k); simp only [Option.some.injEq, eq_comm]⟩)
  have h4 : St noB w w1 (hpT b (some ⟨r0, 0, none⟩) (leafS f 0).n 0 (fun _ => .slice none 0 0) (leafS f 0).l (lsT (leafS f 0).n (fun _ => .slice none 0 0) (leafS f 0).ls :: [blkT tb (tabV .u8 (fun _ => 0)) 27, blkT lb T 25])) :=
    ((h3.swap.lsNil (fun _ => .slice none 0 0) (fun _ => [])).pull 2).pull 2
  clear h1 h2 h3
  go_loopw [15] (fun v15 wr => ∃ (i : Nat) (A : Option Addr) (c : Nat) (vs : Nat → Value), v15 = .int .i64 i ∧ i ≤ 256 ∧ (∀ k, ∃ A n c, vs k = .slice A n c) ∧ St noB w wr (hpT b A (leafS f i).n c vs (leafS f i).l (lsT (leafS f i).n vs (leafS f i).ls :: [blkT tb (tabV .u8 (fun _ => 0)) 27, blkT lb T 25]))) (fun v15 _ => 256 - (intOf v15).toNat)
  case atStart => exact ⟨0, _, _, _, rfl, by omega, fun k => ⟨_, _, _, rfl⟩, h4⟩
  case round =>
    clear h4
    obtain ⟨i, A, c, vs, rfl, hi, hv, h⟩ := hrel
    obtain ⟨hn1, hn2, hn3, _⟩ := leafS_ok f hf i
    by_cases hlt : i < 256
    · have hl1 : (i : Int) < 256 := by omega
      have hT1 := fun w => index64 T i _ hlt (hT0 i hlt) w
      by_cases hz : 0 < f i
      · have hz2 : (0 : Int) < (f i : Int) := by omega
        have E : leafS f (i + 1) = ⟨(leafS f i).l ++ [(f i, (leafS f i).n)], (leafS f i).n + 1, updA (leafS f i).ls (leafS f i).n [UInt8.ofNat i], fun _ => 0⟩ := by rw [leafS, if_pos hz]
        have HE := Lib.hid E
        have k0 := hp_cell h
        have ht8 : (UInt8.ofNat i).toNat = i := by simp; omega
        have hw8 : IntKind.u8.wrap (i : Int) = (i : Int) := by rw [IntKind.wrap_u8]; omega
        have hlf := h.alloc #[.int .u8 ((UInt8.ofNat i).toNat : Nat)] 5
        have hd := ((hlf.leaf.pull 3).swap.lsAdd).pull 2
        rw [ht8] at hd
        have hv2 := Lib.hid (leaf_vs hv (leafS f i).n wr.heap.size)
        have hfl := Lib.hid (leaf_flat (vs := vs) (l := (leafS f i).l) (n := (leafS f i).n) (g := wr.heap.size) (x := f i) (fun x hx => (hn3 x hx).1))
        clear h hlf E hn3 ht8 hn1 hz
        generalize (leafS f i).l = l at hd HE hfl
        generalize (leafS f i).ls = ls at hd HE
        generalize (leafS f i).n = n at hd HE hfl hn2 hv2 k0
        generalize f i = x at hT1 hz2 HE hfl
        go_wp2_with (at_builtin; refine wpList_push rfl _ _ _ rfl 50 (.agg #[.int .u64 0, .int .i64 0, .slice none 0 0]) 3 40 Try.underlying48 tree_info rfl (by decide) hd rfl (by rw [size_alloc']; rfl) rfl (by intro q hq; simp at hq; rcases hq with rfl | rfl | rfl <;> rfl) (by unfold maxLen; omega) (by omega) ?_; intro A' c' w3 h3; have hp5 := cell_of_heap (h3.pull 2).blk 0; have hf5 := free_of_heap (h3.pull 2).blk 0; change w3.cell? _ = some (Value.slice A n c) at hp5; have h4 := Lib.hid ((h3.pull 2).set 0 (.slice A' (n + 1) c')))
        exact ⟨⟨i + 1, A', c', _, by go_num, by omega, hv2.out, by rw [HE.out]; unfold hpT; rw [hfl.out]; exact h4.out⟩, by simp [intOf]; omega⟩
      · have hz2 : ¬ (0 : Int) < (f i : Int) := by omega
        have E : leafS f (i + 1) = leafS f i := by rw [leafS, if_neg hz]
        rw [← E] at h
        generalize f i = x at hT1 hz2
        clear hn1 hn2 hn3 E hz
        go_wp2_with fail
        go_roundw
        case rel => first | exact ⟨i + 1, A, c, vs, by go_num, by omega, hv, h⟩ | ((repeat apply Exists.intro); exact ⟨⟨i + 1, A, c, vs, by go_num, by omega, hv, h⟩, rfl⟩)
        case measure => first | (simp [intOf]; done) | (simp [intOf]; omega)
    · have hl1 : ¬ (i : Int) < 256 := by omega
      have k0 := hp_cell h
      have HLD : Hid (lenT f = lenS (leafS f i)) := Lib.hid (by rw [show i = 256 by omega]; rfl)
      have HOK0 := Lib.hid (start_ok f hf i hi)
      generalize leafS f i = s1 at *
      by_cases h1 : s1.l.length = 1
      · have hn : s1.n = 1 := by omega
        have HLT : Hid (lenT f = upd (fun _ => 0) ((s1.ls 0).head?.getD 0).toNat 1) := Lib.hid (by rw [HLD.out]; unfold lenS; rw [if_pos h1])
        rw [hn] at h hn3 k0
        obtain ⟨g, rfl, hc⟩ := tr_cells h.swap.own h1 (by omega)
        have hq := (hc 0 (by omega)).2.2
        have hm : hget s1.l 0 ∈ s1.l := by rw [hget_lt _ _ (by omega)]; exact List.getElem_mem _
        obtain ⟨q1, _, q3⟩ := hn3 _ hm
        have q0 : (hget s1.l 0).2 = 0 := by omega
        rw [q0] at hq q3
        have ho := (h.pull 2).lsGet 0 (by omega)
        obtain ⟨y, hy⟩ : ∃ y, s1.ls 0 = [y] := List.length_eq_one_iff.1 q3
        rw [hy] at ho HLT
        obtain ⟨g0, c0, e0, _⟩ := ho.slice (by show 0 < 1; omega)
        have hy0 : wr.cell? ⟨g0, 0, none⟩ = some (.int .u8 y.toNat) := by rw [e0] at ho; exact Own.cell ho 0 (by show 0 < 1; omega)
        rw [e0] at hq
        change wr.cell? ⟨g, 2, none⟩ = some (Value.slice (some ⟨g0, 0, none⟩) 1 c0) at hq
        have hy8 := y.toNat_lt
        have h5 := h.pull 3
        have k3 := cell_of_heap h5.blk y.toNat
        rw [tabV_get _ _ _ (by omega)] at k3
        have f3 := free_of_heap h5.blk y.toNat
        have h6 := h5.set y.toNat (.int .u8 1)
        rw [show ((tabV .u8 (fun _ => 0)).setIfInBounds y.toNat (.int .u8 1)) = tabV .u8 (upd (fun _ => 0) y.toNat 1) from tabV_set _ _ _ 1 (by omega)] at h6
        have hb := Lib.hid h6.blk
        have HX := Lib.hid h6.ends
        change Hid (lenT f = upd (fun _ => 0) y.toNat 1) at HLT
        clear h h5 h6 ho e0 hc hn1 hn2 hn3 q1 q3 hm hy q0 hv
        generalize y.toNat = y at *
        obtain ⟨ct, hct⟩ : ∃ ct, ct = upd (fun _ => 0) y 1 := ⟨_, rfl⟩
        rw [← hct] at hb HLT
        clear hct
        go_wp2_with (first
          | (with_reducible refine (show wpList _ _ _ _ _ (World.setCell _ _ _) from ?_); refine wpList_load_row rfl _ _ rfl tb rfl 27 (tabV .u8 ct) (0, 0) (.array 256 5) hb.out Try.underlying27 rfl (size8 _) ?_)
          | (with_reducible refine (show wpList _ _ _ _ _ (World.setCell _ _ _) from ?_); refine wpList_store_row rfl _ _ _ rfl tb (tabV .u8 ct) rfl rfl 27 (tabV .u8 ct) hb.out (size8 _) rfl (tabV_one _ _) ?_; rw [setRow_self _ _ _ _ _ hb.out]))
        refine bodyPost_ret_by (v := .agg (tabV .u8 ct)) (results_cell_row rfl _ _ tb 27 (tabV .u8 ct) (0, 0) (.array 256 5) rfl hb.out Try.underlying27 rfl (size8 _)) rfl ?_
        rw [HLT.out]
        exact ⟨rfl, HX.out⟩
      · have hl2 : ¬ (s1.n : Int) = 1 := by omega
        have HL : Hid (lenT f = (roundsS (heapS s1).l.length (heapS s1)).tab) := Lib.hid (by rw [HLD.out]; unfold lenS; rw [if_neg h1])
        have HI := Lib.hid (init_st (fun k => vs_one hv k) h hn1.symm (by omega))
        clear h hn3 HLD
        have HN : Hid (s1.n = (heapS s1).l.length ∧ (heapS s1).n = s1.n ∧ (heapS s1).ls = s1.ls ∧ (heapS s1).l = hinit (s1.n / 2) s1.l) := Lib.hid ⟨by show _ = (hinit _ _).length; rw [hinit_len]; exact hn1, rfl, rfl, rfl⟩
        go_wp2_with fail
        refine (HI.out).mono ?_
        rintro _ w2 ⟨rfl, h2⟩
        have h3 : St noB w w2 (hpT b A (heapS s1).l.length c vs (heapS s1).l (lsT (heapS s1).n vs (heapS s1).ls :: [blkT tb (tabV .u8 (heapS s1).tab) 27, blkT lb T 25])) := by
          have e := HN.out.1; rw [← e]; exact h2
        have hN : (heapS s1).n = (heapS s1).l.length := by rw [← HN.out.1]; rfl
        clear h2 HI HN hl2 k0 h1 hn1 hn2
        generalize heapS s1 = s0 at *
        obtain ⟨R, hR⟩ : ∃ R, roundsS s0.l.length s0 = R := ⟨_, rfl⟩
        rw [hR] at HL
        have HR := Lib.hid hR
        clear hR
        have k0 := hp_cell h3
        go_wp2_with fail
        clear k0
        go_loopw [6] (fun v6 wr => ∃ (s : HS) (A : Option Addr) (c : Nat) (vs : Nat → Value), v6 = .int .i64 s.n ∧ Hid (HOK s) ∧ Hid (roundsS s.l.length s = R) ∧ (∀ k, ∃ A n c, vs k = .slice A n c) ∧ St noB w wr (hpT b A s.l.length c vs s.l (lsT s.n vs s.ls :: [blkT tb (tabV .u8 s.tab) 27, blkT lb T 25]))) (fun v6 _ => 512 - (intOf v6).toNat)
        case atStart => exact ⟨s0, A, c, vs, by rw [hN], HOK0, HR, hv, h3⟩
        case round =>
          clear h3 HOK0 HR hN
          obtain ⟨s, A, c, vs, rfl, HO, HR, hv, h⟩ := hrel
          have k0 := hp_cell h
          have hfew := HO.out.few
          have HS := several_any b A s.l.length c wr k0
          by_cases h2 : 2 ≤ s.l.length
          · rw [show decide (1 < s.l.length) = true by simp; omega] at HS
            have HS := Lib.hid HS
            go_wp2_with fail
            obtain ⟨m, hm⟩ : ∃ m, s.l.length = m + 2 := ⟨s.l.length - 2, by omega⟩
            have hl2 : (popL s.l).length = m + 1 := by rw [popL_len, hm]; rfl
            have hl3 : (popL (popL s.l)).length = m := by rw [popL_len, hl2]; rfl
            have e1 : (hpop s.l).take (m + 1) = popL s.l := by unfold popL; rw [hm]; rfl
            have e2 : (hpop (popL s.l)).take m = popL (popL s.l) := by show _ = (hpop (popL s.l)).take _; rw [hl2]; rfl
            have HR1 := Lib.hid (rounds_step s h2)
            have HO1 := Lib.hid (round_ok s HO.out h2)
            have hmem := two_perm s.l h2
            have m0 : hget s.l 0 ∈ s.l := hmem.mem_iff.1 (by simp)
            have m1 : hget (popL s.l) 0 ∈ s.l := hmem.mem_iff.1 (by simp)
            have mm : ∀ x ∈ popL (popL s.l), x.2 < s.n := fun x hx => HO.out.num x (hmem.mem_iff.1 (by simp [hx]))
            have ht := tot_perm (ls := s.ls) hmem
            rw [tot_append, tot_append] at ht
            have t0 : totS s.ls [hget s.l 0] = (s.ls (hget s.l 0).2).length := by simp [totS]
            have t1 : totS s.ls [hget (popL s.l) 0] = (s.ls (hget (popL s.l) 0).2).length := by simp [totS]
            have htot := HO.out.tot
            have ht3 : (s.ls (hget s.l 0).2).length + (s.ls (hget (popL s.l) 0).2).length ≤ 256 := by omega
            have p0 := HO.out.pos _ m0
            have p1 := HO.out.pos _ m1
            have w0 := HO.out.wt _ m0
            have w1 := HO.out.wt _ m1
            have n0 := HO.out.num _ m0
            have n1 := HO.out.num _ m1
            have E : Hid (roundS s = ⟨hpush (popL (popL s.l)) (sumW (hget s.l 0).1 (hget (popL s.l) 0).1, s.n), s.n + 1, updA s.ls s.n (s.ls (hget s.l 0).2 ++ s.ls (hget (popL s.l) 0).2), incs s.tab (s.ls (hget s.l 0).2 ++ s.ls (hget (popL s.l) 0).2)⟩) := Lib.hid rfl
            have htab := HO.out.tab
            rw [hm] at h
            have HA := Lib.hid (least_st hv h hm (by omega))
            rw [e1] at HA
            have HB := Lib.hid (fun w2 (h : St noB w w2 (hpT b A (m + 1) c vs (popL s.l) (lsT s.n vs s.ls :: [blkT tb (tabV .u8 s.tab) 27, blkT lb T 25]))) => least_st hv h hl2 (by omega))
            rw [e2] at HB
            obtain ⟨g0, cap0, ea, _, hca, _⟩ := ((h.pull 2).lsGet _ n0).slice p0
            obtain ⟨g1, cap1, eb, _, hcb, _⟩ := ((h.pull 2).lsGet _ n1).slice p1
            clear hmem m0 m1 ht t0 t1 htot e1 e2 HO h
            generalize popL (popL s.l) = l2 at *
            generalize hget (popL s.l) 0 = x1 at *
            generalize hget s.l 0 = x0 at *
            generalize popL s.l = l1 at *
            generalize roundS s = s' at *
            generalize s.ls = ls at *
            generalize s.tab = ct at *
            generalize hsn : s.n = n at *
            have HSN := Lib.hid hsn
            clear hsn
            obtain ⟨wt0, no0⟩ := x0
            obtain ⟨wt1, no1⟩ := x1
            simp only at *
            unfold trC at HA HB
            simp only at HA HB
            rw [ea] at HA
            rw [eb] at HB
            obtain ⟨b0, hb0⟩ : ∃ b0, ls no0 = b0 := ⟨_, rfl⟩
            obtain ⟨b1, hb1⟩ : ∃ b1, ls no1 = b1 := ⟨_, rfl⟩
            rw [hb0] at HA ht3 p0 E
            rw [hb1] at HB ht3 p1 E
            have RB0 : Hid (∀ w' L, St noB w w' (hpT b A m c vs l2 (lsT n vs ls :: L)) → RB w' (some ⟨g0, 0, none⟩) b0) := Lib.hid (fun w' L h => by
              have := (h.pull 2).lsGet _ n0
              rw [ea, hb0] at this
              exact Own.rb this rfl)
            have RB1 : Hid (∀ w' L, St noB w w' (hpT b A m c vs l2 (lsT n vs ls :: L)) → RB w' (some ⟨g1, 0, none⟩) b1) := Lib.hid (fun w' L h => by
              have := (h.pull 2).lsGet _ n1
              rw [eb, hb1] at this
              exact Own.rb this rfl)
            clear ea eb hb0 hb1 hca hcb
            obtain ⟨L0, hL0⟩ : ∃ L0, b0.length = L0 := ⟨_, rfl⟩
            obtain ⟨L1, hL1⟩ : ∃ L1, b1.length = L1 := ⟨_, rfl⟩
            rw [hL0] at HA ht3 p0
            rw [hL1] at HB ht3 p1
            have HL0 := Lib.hid hL0
            have HL1 := Lib.hid hL1
            clear hL0 hL1
            refine (HS.out).mono ?_
            rintro _ _ ⟨rfl, rfl⟩
            go_wp2_with fail
            refine HA.out.mono ?_
            rintro _ wa ⟨rfl, ha⟩
            go_wp2_with fail
            refine (HB.out _ ha).mono ?_
            rintro _ wb ⟨rfl, hb⟩
            have hb1 := (hb.alloc #[.int .u64 0, .int .i64 0, .slice none 0 0] 50).alloc #[.int .u64 0, .int .i64 0, .slice none 0 0] 50
            rw [size_alloc'] at hb1
            have hq1 := Lib.hid (hb1.pull 1).blk
            have hb2 := ((hb1.pull 1).row #[.int .u64 wt0, .int .i64 no0, .slice (some ⟨g0, 0, none⟩) L0 cap0]).pull 1
            have hq2 := Lib.hid hb2.blk
            have hb3 := hb2.row #[.int .u64 wt1, .int .i64 no1, .slice (some ⟨g1, 0, none⟩) L1 cap1]
            clear hb ha hb1 hb2 HA HB k0
            obtain ⟨w5, hw5, h5⟩ := name_world (P := fun x => St noB w x _) hb3
            have HW5 := Lib.hid hw5
            clear hb3 hw5
            have c10 := cell_of_heap h5.blk 0
            have c12 := cell_of_heap h5.blk 2
            have c00 := cell_of_heap (h5.pull 1).blk 0
            have c02 := cell_of_heap (h5.pull 1).blk 2
            change w5.cell? _ = some (.int .u64 wt1) at c10
            change w5.cell? _ = some (.int .u64 wt0) at c00
            change w5.cell? _ = some (.slice (some ⟨g1, 0, none⟩) L1 cap1) at c12
            change w5.cell? _ = some (.slice (some ⟨g0, 0, none⟩) L0 cap0) at c02
            have h6 : St noB w w5 (hpT b A m c vs l2 (lsT n vs ls :: [blkT tb (tabV .u8 ct) 27, blkT lb T 25])) := h5.drop.drop
            have hne : decide (m + 2 = 0) = false := by simp
            have HC := Lib.hid (concat_st (h6.alloc #[.slice (some ⟨g0, 0, none⟩) L0 cap0, .slice (some ⟨g1, 0, none⟩) L1 cap1] 30) (RB0.out · _) (RB1.out · _) HL0.out HL1.out (by omega) (by omega) (by omega))
            obtain ⟨bs, hbs⟩ : ∃ bs, b0 ++ b1 = bs := ⟨_, rfl⟩
            rw [hbs] at HC E
            have hbl : bs.length = L0 + L1 := by rw [← hbs, List.length_append, HL0.out, HL1.out]
            clear hbs h5 h6 RB0 RB1 HL0 HL1
            have hL0 : 0 < L0 + L1 := by omega
            generalize L0 + L1 = L at HC ht3 hbl hL0
            have HBL := Lib.hid hbl
            clear hbl
            by_cases hov : wt0 + wt1 < 18446744073709551616
            · have HSW : Hid (sumW wt0 wt1 = wt0 + wt1) := Lib.hid (by unfold sumW; rw [if_pos hov])
              rw [HSW.out] at E
              have hwr : IntKind.u64.wrap ((wt0 : Int) + (wt1 : Int)) = ((wt0 + wt1 : Nat) : Int) := by rw [IntKind.wrap_u64]; omega
              have hlt : ¬ ((wt0 + wt1 : Nat) : Int) < (wt0 : Int) := by omega
              generalize wt0 + wt1 = sw at hwr hlt E hov
              clear HSW
              go_wp2_with (first
              | (with_reducible refine (show wpList _ _ _ _ _ (World.alloc _ _) from ?_); refine wpList_store_row rfl _ _ _ rfl wb.heap.size #[.int .u64 wt0, .int .i64 no0, .slice (some ⟨g0, 0, none⟩) L0 cap0] rfl rfl 50 _ hq1.out (by kernel_rfl) rfl (by simp [Value.oneCell']) ?_)
              | (with_reducible refine (show wpList _ _ _ _ _ (World.setRow _ _ _) from ?_); refine wpList_store_row rfl _ _ _ rfl (wb.heap.size + 1) #[.int .u64 wt1, .int .i64 no1, .slice (some ⟨g1, 0, none⟩) L1 cap1] rfl rfl 50 _ hq2.out (by kernel_rfl) rfl (by simp [Value.oneCell']) ?_; rw [HW5.out]))
              refine HC.out.mono ?_
              rintro _ w6 ⟨A', c', rfl, h6⟩
              obtain ⟨gg, cc, e6, _⟩ := h6.own.slice hL0
              simp only [Value.slice.injEq] at e6
              obtain ⟨rfl, _, rfl⟩ := e6
              clear HC hlt hwr hq1 hq2 HW5 c10 c12 c00 c02
              go_wp2_with fail
              go_loopw [72] (fun v72 wr => ∃ k : Nat, v72 = .int .i64 k ∧ k ≤ L ∧ St noB w wr (ownT 5 1 (.slice (some ⟨gg, 0, none⟩) L c') L (bytesV bs) :: hpT b A m c vs l2 (lsT n vs ls :: [blkT tb (tabV .u8 (incs ct (bs.take k))) 27, blkT lb T 25]))) (fun v72 _ => L - (intOf v72).toNat)
              case atStart => exact ⟨0, rfl, Nat.zero_le _, h6⟩
              case round =>
                clear h6
                obtain ⟨k, rfl, hk, h⟩ := hrel
                by_cases hkl : k < L
                · have hki : (k : Int) < (L : Int) := by omega
                  have q := Own.cell h.own k (by omega)
                  rw [bytesV_get _ _ (by rw [HBL.out]; exact hkl)] at q
                  have ht : bs.take (k + 1) = bs.take k ++ [bs.getD k 0] := by
                    rw [List.take_succ_eq_append_getElem (by rw [HBL.out]; exact hkl)]; simp [hkl, HBL.out]
                  have hx8 := (bs.getD k 0).toNat_lt
                  have h4 := h.pull 4
                  have kt := cell_of_heap h4.blk (bs.getD k 0).toNat
                  rw [tabV_get _ _ _ (by omega)] at kt
                  have ft := free_of_heap h4.blk (bs.getD k 0).toNat
                  have hin := incs_lt htab (bs.take k) (bs.getD k 0).toNat
                  have h7 := h4.set (bs.getD k 0).toNat (.int .u8 ((((incs ct (bs.take k) (bs.getD k 0).toNat + 1) % 256 : Nat)) : Int))
                  rw [tabV_set _ _ _ _ (by omega), ← incs_snoc, ← ht] at h7
                  have h8 : St noB w _ (ownT 5 1 (.slice (some ⟨gg, 0, none⟩) L c') L (bytesV bs) :: hpT b A m c vs l2 (lsT n vs ls :: [blkT tb (tabV .u8 (incs ct (bs.take (k + 1)))) 27, blkT lb T 25])) := ((((h7.pull 4).pull 4).pull 4).pull 4)
                  clear h7 h4 ht h
                  change wr.cell? _ = some (Value.int .u8 (bs.getD k 0).toNat) at q
                  generalize (bs.getD k 0).toNat = y at q kt ft hin h8 hx8
                  generalize incs ct (bs.take k) y = z at kt hin h8
                  have hw8 : IntKind.u8.wrap ((z : Int) + 1) = (((z + 1) % 256 : Nat) : Int) := by rw [IntKind.wrap_u8]; omega
                  generalize (z + 1) % 256 = z1 at hw8 h8
                  have H8 := Lib.hid h8
                  clear h8
                  go_wp2_with fail
                  go_roundw
                  case rel => first | exact ⟨k + 1, by go_num, by omega, H8.out⟩ | ((repeat apply Exists.intro); exact ⟨⟨k + 1, by go_num, by omega, H8.out⟩, rfl⟩)
                  case measure => first | (simp [intOf]; done) | (simp [intOf]; omega)
                · have hki : ¬ (k : Int) < (L : Int) := by omega
                  rw [List.take_of_length_le (by rw [HBL.out]; omega)] at h
                  have h9 : St noB w wr (ownT 5 1 (.slice (some ⟨gg, 0, none⟩) L c') bs.length (bytesV bs) :: lsT n vs ls :: pull 0 (hpT b A m c vs l2 [blkT tb (tabV .u8 (incs ct bs)) 27, blkT lb T 25])) := by
                    rw [HBL.out]; exact (h.pull 3).swap
                  have h10 : St noB w wr (hpT b A m c vs l2 (lsT (n + 1) (updA vs n (.slice (some ⟨gg, 0, none⟩) L c')) (updA ls n bs) :: [blkT tb (tabV .u8 (incs ct bs)) 27, blkT lb T 25])) := ((h9.lsAdd).pull 2).pull 2
                  have HX := Lib.hid (updA_self vs n (.slice (some ⟨gg, 0, none⟩) L c'))
                  have HVV : Hid (∀ k, ∃ A3 n3 c3, updA vs n (.slice (some ⟨gg, 0, none⟩) L c') k = .slice A3 n3 c3) := Lib.hid (fun k => by
                    by_cases e : k = n
                    · subst e; rw [updA_self]; exact ⟨_, _, _, rfl⟩
                    · rw [updA_ne _ _ e]; exact hv k)
                  rw [hpT_congr b A m c (us := updA vs n (.slice (some ⟨gg, 0, none⟩) L c')) _ (fun x hx => (updA_ne _ _ (by have := mm x hx; omega)).symm)] at h10
                  generalize updA vs n (.slice (some ⟨gg, 0, none⟩) L c') = us at h10 HX HVV
                  have HP := Lib.hid (push_st (fun k => vs_one HVV.out k) h10 hl3 (by omega) sw n)
                  rw [HX.out] at HP
                  try simp only [Nat.cast_ofNat] at HP
                  have HE : Hid (∀ w7 A2 c2, St noB w w7 (hpT b A2 (m + 1) c2 us (hpush l2 (sw, n)) (lsT (n + 1) us (updA ls n bs) :: [blkT tb (tabV .u8 (incs ct bs)) 27, blkT lb T 25])) → St noB w w7 (hpT b A2 s'.l.length c2 us s'.l (lsT s'.n us s'.ls :: [blkT tb (tabV .u8 s'.tab) 27, blkT lb T 25]))) := Lib.hid (fun w7 A2 c2 h => by
                    rw [E.out]
                    show St noB w w7 (hpT b A2 (hpush l2 (sw, n)).length c2 us _ _)
                    rw [hpush_len, hl3]
                    exact h)
                  have HNN : Hid (s'.n = n + 1 ∧ roundsS s'.l.length s' = R) := Lib.hid ⟨by rw [E.out], by rw [← HR1.out, HR.out]⟩
                  have hlen : (n : Int) + 1 ≤ 512 := by omega
                  generalize incs ct bs = ct2 at h10 HP HE
                  generalize updA ls n bs = ls2 at h10 HP HE
                  generalize hpush l2 (sw, n) = l4 at HP HE
                  clear h h9 h10 HX E HR HR1
                  go_wp2_with fail
                  refine HP.out.mono ?_
                  rintro _ w7 ⟨rfl, A2, c2, h11⟩
                  clear HP
                  go_wp2_with fail
                  exact ⟨⟨s', A2, c2, us, by rw [HNN.out.1]; rfl, HO1, Lib.hid HNN.out.2, HVV.out, HE.out _ _ _ h11⟩, by rw [HSN.out]; simp only [intOf]; omega⟩
            · have HSW : Hid (sumW wt0 wt1 = 18446744073709551615) := Lib.hid (by unfold sumW; rw [if_neg hov])
              rw [HSW.out] at E
              have hwr : IntKind.u64.wrap ((wt0 : Int) + (wt1 : Int)) = ((wt0 + wt1 - 18446744073709551616 : Nat) : Int) := by rw [IntKind.wrap_u64]; omega
              have hlt : ((wt0 + wt1 - 18446744073709551616 : Nat) : Int) < (wt0 : Int) := by omega
              have hov : wt0 + wt1 - 18446744073709551616 < 18446744073709551616 := by omega
              generalize wt0 + wt1 - 18446744073709551616 = sq at hwr hlt hov
              clear HSW
              go_wp2_with (first
              | (with_reducible refine (show wpList _ _ _ _ _ (World.alloc _ _) from ?_); refine wpList_store_row rfl _ _ _ rfl wb.heap.size #[.int .u64 wt0, .int .i64 no0, .slice (some ⟨g0, 0, none⟩) L0 cap0] rfl rfl 50 _ hq1.out (by kernel_rfl) rfl (by simp [Value.oneCell']) ?_)
              | (with_reducible refine (show wpList _ _ _ _ _ (World.setRow _ _ _) from ?_); refine wpList_store_row rfl _ _ _ rfl (wb.heap.size + 1) #[.int .u64 wt1, .int .i64 no1, .slice (some ⟨g1, 0, none⟩) L1 cap1] rfl rfl 50 _ hq2.out (by kernel_rfl) rfl (by simp [Value.oneCell']) ?_; rw [HW5.out]))
              refine HC.out.mono ?_
              rintro _ w6 ⟨A', c', rfl, h6⟩
              obtain ⟨gg, cc, e6, _⟩ := h6.own.slice hL0
              simp only [Value.slice.injEq] at e6
              obtain ⟨rfl, _, rfl⟩ := e6
              clear HC hlt hwr hq1 hq2 HW5 c10 c12 c00 c02
              go_wp2_with fail
              go_loopw [72] (fun v72 wr => ∃ k : Nat, v72 = .int .i64 k ∧ k ≤ L ∧ St noB w wr (ownT 5 1 (.slice (some ⟨gg, 0, none⟩) L c') L (bytesV bs) :: hpT b A m c vs l2 (lsT n vs ls :: [blkT tb (tabV .u8 (incs ct (bs.take k))) 27, blkT lb T 25]))) (fun v72 _ => L - (intOf v72).toNat)
              case atStart => exact ⟨0, rfl, Nat.zero_le _, h6⟩
              case round =>
                clear h6
                obtain ⟨k, rfl, hk, h⟩ := hrel
                by_cases hkl : k < L
                · have hki : (k : Int) < (L : Int) := by omega
                  have q := Own.cell h.own k (by omega)
                  rw [bytesV_get _ _ (by rw [HBL.out]; exact hkl)] at q
                  have ht : bs.take (k + 1) = bs.take k ++ [bs.getD k 0] := by
                    rw [List.take_succ_eq_append_getElem (by rw [HBL.out]; exact hkl)]; simp [hkl, HBL.out]
                  have hx8 := (bs.getD k 0).toNat_lt
                  have h4 := h.pull 4
                  have kt := cell_of_heap h4.blk (bs.getD k 0).toNat
                  rw [tabV_get _ _ _ (by omega)] at kt
                  have ft := free_of_heap h4.blk (bs.getD k 0).toNat
                  have hin := incs_lt htab (bs.take k) (bs.getD k 0).toNat
                  have h7 := h4.set (bs.getD k 0).toNat (.int .u8 ((((incs ct (bs.take k) (bs.getD k 0).toNat + 1) % 256 : Nat)) : Int))
                  rw [tabV_set _ _ _ _ (by omega), ← incs_snoc, ← ht] at h7
                  have h8 : St noB w _ (ownT 5 1 (.slice (some ⟨gg, 0, none⟩) L c') L (bytesV bs) :: hpT b A m c vs l2 (lsT n vs ls :: [blkT tb (tabV .u8 (incs ct (bs.take (k + 1)))) 27, blkT lb T 25])) := ((((h7.pull 4).pull 4).pull 4).pull 4)
                  clear h7 h4 ht h
                  change wr.cell? _ = some (Value.int .u8 (bs.getD k 0).toNat) at q
                  generalize (bs.getD k 0).toNat = y at q kt ft hin h8 hx8
                  generalize incs ct (bs.take k) y = z at kt hin h8
                  have hw8 : IntKind.u8.wrap ((z : Int) + 1) = (((z + 1) % 256 : Nat) : Int) := by rw [IntKind.wrap_u8]; omega
                  generalize (z + 1) % 256 = z1 at hw8 h8
                  have H8 := Lib.hid h8
                  clear h8
                  go_wp2_with fail
                  go_roundw
                  case rel => first | exact ⟨k + 1, by go_num, by omega, H8.out⟩ | ((repeat apply Exists.intro); exact ⟨⟨k + 1, by go_num, by omega, H8.out⟩, rfl⟩)
                  case measure => first | (simp [intOf]; done) | (simp [intOf]; omega)
                · have hki : ¬ (k : Int) < (L : Int) := by omega
                  rw [List.take_of_length_le (by rw [HBL.out]; omega)] at h
                  have h9 : St noB w wr (ownT 5 1 (.slice (some ⟨gg, 0, none⟩) L c') bs.length (bytesV bs) :: lsT n vs ls :: pull 0 (hpT b A m c vs l2 [blkT tb (tabV .u8 (incs ct bs)) 27, blkT lb T 25])) := by
                    rw [HBL.out]; exact (h.pull 3).swap
                  have h10 : St noB w wr (hpT b A m c vs l2 (lsT (n + 1) (updA vs n (.slice (some ⟨gg, 0, none⟩) L c')) (updA ls n bs) :: [blkT tb (tabV .u8 (incs ct bs)) 27, blkT lb T 25])) := ((h9.lsAdd).pull 2).pull 2
                  have HX := Lib.hid (updA_self vs n (.slice (some ⟨gg, 0, none⟩) L c'))
                  have HVV : Hid (∀ k, ∃ A3 n3 c3, updA vs n (.slice (some ⟨gg, 0, none⟩) L c') k = .slice A3 n3 c3) := Lib.hid (fun k => by
                    by_cases e : k = n
                    · subst e; rw [updA_self]; exact ⟨_, _, _, rfl⟩
                    · rw [updA_ne _ _ e]; exact hv k)
                  rw [hpT_congr b A m c (us := updA vs n (.slice (some ⟨gg, 0, none⟩) L c')) _ (fun x hx => (updA_ne _ _ (by have := mm x hx; omega)).symm)] at h10
                  generalize updA vs n (.slice (some ⟨gg, 0, none⟩) L c') = us at h10 HX HVV
                  have HP := Lib.hid (push_st (fun k => vs_one HVV.out k) h10 hl3 (by omega) 18446744073709551615 n)
                  rw [HX.out] at HP
                  try simp only [Nat.cast_ofNat] at HP
                  have HE : Hid (∀ w7 A2 c2, St noB w w7 (hpT b A2 (m + 1) c2 us (hpush l2 (18446744073709551615, n)) (lsT (n + 1) us (updA ls n bs) :: [blkT tb (tabV .u8 (incs ct bs)) 27, blkT lb T 25])) → St noB w w7 (hpT b A2 s'.l.length c2 us s'.l (lsT s'.n us s'.ls :: [blkT tb (tabV .u8 s'.tab) 27, blkT lb T 25]))) := Lib.hid (fun w7 A2 c2 h => by
                    rw [E.out]
                    show St noB w w7 (hpT b A2 (hpush l2 (18446744073709551615, n)).length c2 us _ _)
                    rw [hpush_len, hl3]
                    exact h)
                  have HNN : Hid (s'.n = n + 1 ∧ roundsS s'.l.length s' = R) := Lib.hid ⟨by rw [E.out], by rw [← HR1.out, HR.out]⟩
                  have hlen : (n : Int) + 1 ≤ 512 := by omega
                  generalize incs ct bs = ct2 at h10 HP HE
                  generalize updA ls n bs = ls2 at h10 HP HE
                  generalize hpush l2 (18446744073709551615, n) = l4 at HP HE
                  clear h h9 h10 HX E HR HR1
                  go_wp2_with fail
                  refine HP.out.mono ?_
                  rintro _ w7 ⟨rfl, A2, c2, h11⟩
                  clear HP
                  go_wp2_with fail
                  exact ⟨⟨s', A2, c2, us, by rw [HNN.out.1]; rfl, HO1, Lib.hid HNN.out.2, HVV.out, HE.out _ _ _ h11⟩, by rw [HSN.out]; simp only [intOf]; omega⟩
          · rw [show decide (1 < s.l.length) = false by simp; omega] at HS
            have HS := Lib.hid HS
            have hb := Lib.hid (h.pull 3).blk
            have HX := Lib.hid h.ends
            have HT : Hid (lenT f = s.tab) := Lib.hid (by rw [HL.out, ← HR.out, rounds_end s (by omega)])
            clear HO hfew h
            generalize s.tab = ct at hb HT
            go_wp2_with fail
            refine (HS.out).mono ?_
            rintro _ _ ⟨rfl, rfl⟩
            go_wp2_with (first
              | (refine wpList_load_row rfl _ _ rfl tb rfl 27 (tabV .u8 ct) (0, 0) (.array 256 5) hb.out Try.underlying27 rfl (size8 _) ?_)
              | (refine wpList_store_row rfl _ _ _ rfl tb (tabV .u8 ct) rfl rfl 27 (tabV .u8 ct) hb.out (size8 _) rfl (tabV_one _ _) ?_; rw [setRow_self _ _ _ _ _ hb.out]))
            refine bodyPost_ret_by (v := .agg (tabV .u8 ct)) (results_cell_row rfl _ _ tb 27 (tabV .u8 ct) (0, 0) (.array 256 5) rfl hb.out Try.underlying27 rfl (size8 _)) rfl ?_
            rw [HT.out]
            exact ⟨rfl, HX.out⟩
end Go.Proofs.Ytclhmlgbhlmekaa
