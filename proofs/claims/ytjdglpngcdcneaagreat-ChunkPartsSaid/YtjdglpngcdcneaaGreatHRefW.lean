/- Layer 7, the document's: Lengths. -/
import Derived.Test.YtjdglpngcdcneaaGreatHRefM
import Derived.Test.YtjdglpngcdcneaaGreatHRefC
namespace Go.Proofs.YtjdglpngcdcneaaGreat
open Go.RowKit Go.WideShapes
set_option linter.unusedVariables false
set_option linter.unusedSimpArgs false
set_option linter.unusedSectionVars false
structure LR (s : HS) (W : Nat → Nat) (bs ds : Nat → List Nat) : Prop where
  weight : ∀ x ∈ s.l, W x.2 = x.1
  bytes : ∀ x ∈ s.l, bs x.2 = (s.ls x.2).map (·.toNat)
  deps : ∀ x ∈ s.l, ds x.2 = (s.ls x.2).map fun c => 0
  all : ∀ k, k < s.n → ∃ x ∈ s.l, x.2 = k
theorem LR.start (f : Nat → Nat) (W : Nat → Nat) (bs ds : Nat → List Nat) : LR (leafS f 0) W bs ds := by
  refine ⟨fun x hx => ?_, fun x hx => ?_, fun x hx => ?_, fun k hk => ?_⟩
  · exact absurd hx (List.not_mem_nil)
  · exact absurd hx (List.not_mem_nil)
  · exact absurd hx (List.not_mem_nil)
  · exact absurd hk (Nat.not_lt_zero k)
theorem LR.add {f : Nat → Nat} (hf : ∀ i, f i < 18446744073709551616) {i : Nat} (hi : i < 256) {W : Nat → Nat} {bs ds : Nat → List Nat} (h : LR (leafS f i) W bs ds) (h0 : 0 < f i) :
    LR (leafS f (i + 1)) (updA W (leafS f i).n (f i)) (updA bs (leafS f i).n [i]) (updA ds (leafS f i).n [0]) := by
  have E : leafS f (i + 1) = ⟨(leafS f i).l ++ [(f i, (leafS f i).n)], (leafS f i).n + 1, updA (leafS f i).ls (leafS f i).n [UInt8.ofNat i], fun _ => 0⟩ := by rw [leafS, if_pos h0]
  obtain ⟨g1, g2, g3, g4⟩ := leafS_ok f hf i
  rw [E]
  refine ⟨fun x hx => ?_, fun x hx => ?_, fun x hx => ?_, fun k hk => ?_⟩
  · rcases List.mem_append.1 hx with hx | hx
    · rw [updA_ne _ _ (by have := (g3 x hx).1; omega)]; exact h.weight x hx
    · rw [List.mem_singleton] at hx; subst hx; exact updA_self _ _ _
  · rcases List.mem_append.1 hx with hx | hx
    · have := (g3 x hx).1
      show updA bs _ [i] x.2 = (updA (leafS f i).ls _ _ x.2).map _
      rw [updA_ne _ _ (by omega), updA_ne _ _ (by omega)]; exact h.bytes x hx
    · rw [List.mem_singleton] at hx; subst hx
      show updA bs _ [i] (leafS f i).n = (updA (leafS f i).ls _ _ (leafS f i).n).map _
      rw [updA_self, updA_self, List.map_singleton, ofNat_lt hi]
  · rcases List.mem_append.1 hx with hx | hx
    · have := (g3 x hx).1
      show updA ds _ [0] x.2 = (updA (leafS f i).ls _ _ x.2).map _
      rw [updA_ne _ _ (by omega), updA_ne _ _ (by omega)]; exact h.deps x hx
    · rw [List.mem_singleton] at hx; subst hx
      show updA ds _ [0] (leafS f i).n = (updA (leafS f i).ls _ _ (leafS f i).n).map _
      rw [updA_self, updA_self, List.map_singleton]
  · by_cases e : k = (leafS f i).n
    · exact ⟨(f i, (leafS f i).n), by simp, e.symm⟩
    · obtain ⟨x, hx, e2⟩ := h.all k (by have : k < (leafS f i).n + 1 := hk; omega)
      exact ⟨x, List.mem_append_left _ hx, e2⟩
theorem LR.rr {f : Nat → Nat} (hf : ∀ i, f i < 18446744073709551616) {n : Nat} (hn : n ≤ 256) {W : Nat → Nat} {bs ds : Nat → List Nat} (h : LR (leafS f n) W bs ds) (vb : Nat → Value) (h1 : 1 ≤ (leafS f n).l.length) :
    RR (leavesB f n) (heapS (leafS f n)) (fun _ => 0) W bs ds vb := by
  obtain ⟨a1, a2, a3, a4⟩ := leaf_forest f hf n
  obtain ⟨g1, g2, g3, g4⟩ := leafS_ok f hf n
  have hok := start_ok f hf n hn
  have hhp := heap_start f n g1
  have hpl : ((heapS (leafS f n)).l).Perm (leafS f n).l := hinit_perm _ _
  have hpf : (forest (heapS (leafS f n))).Perm (forest (leafS f n)) := (hinit_perm _ _).map _
  have hbs1 : ∀ k, k < (leafS f n).n → bs k ≠ [] := fun k hk e => by
    obtain ⟨x, hx, rfl⟩ := h.all k hk
    rw [h.bytes x hx, List.map_eq_nil_iff] at e
    have := (g3 x hx).2.2
    rw [e] at this
    exact absurd this (by simp)
  have hnums : ∀ i, ((leafS f i).l.map (·.2)).Nodup := by
    intro i
    induction i with
    | zero => exact List.nodup_nil
    | succ i ih =>
      obtain ⟨q1, q2, q3, q4⟩ := leafS_ok f hf i
      rw [leafS]
      split
      · rw [List.map_append, List.nodup_append]
        refine ⟨ih, by simp, fun y hy z hz e => ?_⟩
        obtain ⟨x, hx, rfl⟩ := List.mem_map.1 hy
        simp only [List.map_cons, List.map_nil, List.mem_singleton] at hz
        have := (q3 x hx).1
        omega
      · exact ih
  have q0 : QK (leavesB f n) (forest (heapS (leafS f n))) (fun _ => 0) := QK.perm hpf.symm ⟨by rw [a1], fun i _ => rfl, fun T hT => by
      obtain ⟨j, _, e, _⟩ := a4 T hT
      rw [e]; exact krf_unit _, fun T hT c hc => by
      obtain ⟨j, _, e, _⟩ := a4 T hT
      rw [e]; simp⟩
  refine ⟨hok, hhp, (hpl.map (·.2)).nodup_iff.2 (hnums n), fun x hx => h.weight x (hpl.mem_iff.1 hx), fun x hx => h.bytes x (hpl.mem_iff.1 hx), fun x hx => h.deps x (hpl.mem_iff.1 hx), fun k hk hd => ?_, fun k hk e => absurd e (hbs1 k hk), fun k hk => ?_, q0, ?_⟩
  · obtain ⟨x, hx, e⟩ := h.all k hk
    exact absurd e (hd x (hpl.mem_iff.2 hx))
  · obtain ⟨x, hx, rfl⟩ := h.all k hk
    rw [h.weight x hx]; exact (g3 x hx).2.1
  · obtain ⟨x, hx, e⟩ := h.all ((leafS f n).n - 1) (by omega)
    exact ⟨x, hpl.mem_iff.2 hx, by show x.2 + 1 = (leafS f n).n; omega⟩
set_option maxRecDepth 20000 in
set_option maxHeartbeats 8000000 in
theorem rlengths_any (f : Nat → Nat) (hf : ∀ i, f i < 18446744073709551616) (w : World) :
    Calls Tryz.prog 45 #[.agg (tabV .u64 f)] w fun e w' => e = .returned (.agg (tabV .u8 (lenT f))) ∧ Ext w w' := by
  obtain ⟨T, hT⟩ : ∃ T, T = tabV .u64 f := ⟨_, rfl⟩
  have hT0 : ∀ i, i < 256 → T[i]? = some (.int .u64 (f i)) := fun i hi => by rw [hT]; exact tabV_get _ _ i hi
  rw [← hT]
  clear hT
  have hz := zero8
  obtain ⟨R, hR⟩ : ∃ R, R = lenT f := ⟨_, rfl⟩
  rw [← hR]
  have HLT := Lib.hid hR
  clear hR
  have h1 := (((St.start noB w).alloc T 76).alloc (tabV .u8 (fun _ => 0)) 74).alloc (tabV .u8 (fun _ => 0)) 74
  rw [size_alloc', size_alloc'] at h1
  go_enter Tryz.func45, Tryz.ntmps45
  go_wp2_with fail
  generalize ((w.alloc (.cells T 76)).alloc (.cells (tabV .u8 (fun _ => 0)) 74)).alloc (.cells (tabV .u8 (fun _ => 0)) 74) = w1 at h1 ⊢
  generalize w.heap.size + 1 + 1 = tb at h1 ⊢
  generalize w.heap.size + 1 = ob at h1 ⊢
  generalize w.heap.size = lb at h1 ⊢
  have h4 : St noB w w1 (ownT 119 3 (.slice none 0 0) (leafS f 0).n (rowL (fun _ => 0) (fun _ => .slice none 0 0) (fun _ => .slice none 0 0) (leafS f 0).n) :: lsI (leafS f 0).n (fun _ => .slice none 0 0) (fun _ => []) :: lsI (leafS f 0).n (fun _ => .slice none 0 0) (fun _ => []) :: [blkT tb (tabV .u8 (fun _ => 0)) 74, blkT ob (tabV .u8 (fun _ => 0)) 74, blkT lb T 76]) :=
    ((h1.lsINil _ _).lsINil _ _).nilOwn _ _
  clear h1 hz
  go_loopw [4, 5] (fun v4 v5 wr => ∃ (i : Nat) (A : Option Addr) (c : Nat) (W : Nat → Nat) (bs ds : Nat → List Nat) (vb vd : Nat → Value), v4 = .slice A (leafS f i).n c ∧ v5 = .int .i64 i ∧ i ≤ 256 ∧ Hid (LR (leafS f i) W bs ds) ∧ St noB w wr (ownT 119 3 (.slice A (leafS f i).n c) (leafS f i).n (rowL W vb vd (leafS f i).n) :: lsI (leafS f i).n vb bs :: lsI (leafS f i).n vd ds :: [blkT tb (tabV .u8 (fun _ => 0)) 74, blkT ob (tabV .u8 (fun _ => 0)) 74, blkT lb T 76])) (fun _ v5 _ => 256 - (intOf v5).toNat)
  case atStart => exact ⟨0, none, 0, _, _, _, _, _, rfl, rfl, by omega, Lib.hid (LR.start f _ _ _), h4⟩
  case round =>
    clear h4
    obtain ⟨i, A, c, W, bs, ds, vb, vd, rfl, rfl, hi, HL, h⟩ := hrel
    obtain ⟨hn1, hn2, _, _⟩ := leafS_ok f hf i
    by_cases hlt : i < 256
    · have hl1 : (i : Int) < 256 := by omega
      have kT := cell_of_heap (h.pull 5).blk i
      rw [hT0 i hlt] at kT
      by_cases hz : 0 < f i
      · have hz2 : (0 : Int) < (f i : Int) := by omega
        have HL2 := Lib.hid (HL.out.add hf hlt hz)
        have E : leafS f (i + 1) = ⟨(leafS f i).l ++ [(f i, (leafS f i).n)], (leafS f i).n + 1, updA (leafS f i).ls (leafS f i).n [UInt8.ofNat i], fun _ => 0⟩ := by rw [leafS, if_pos hz]
        have EN : Hid ((leafS f (i + 1)).n = (leafS f i).n + 1) := Lib.hid (by rw [E])
        have h5 := (h.alloc #[.int .i64 (i : Nat)] 3).alloc #[.int .i64 ((0 : Nat) : Int)] 3
        rw [size_alloc'] at h5
        have kT5 := cell_of_heap (h5.pull 7).blk i
        rw [hT0 i hlt] at kT5
        have h6 := ((h5.leafI.pull 4).swap.lsIAdd)
        have h7 := ((h6.pull 1).leafI.pull 3).swap.lsIAdd
        clear E HL hz hn1 h h5
        generalize hnn : (leafS f i).n = n at *
        generalize f i = x at *
        have h8 := h7.pull 2
        clear h6 h7 kT5
        go_wp2_with (at_builtin; refine wpList_push rfl _ _ _ rfl 119 (.agg #[.int .u64 0, .slice none 0 0, .slice none 0 0]) 3 56 Tryz.underlying117 rtree_info rfl (by decide) h8 rfl (by rw [size_alloc', size_alloc']; rfl) rfl (by intro q hq; simp at hq; rcases hq with rfl | rfl | rfl <;> rfl) (by unfold maxLen; omega) (by omega) ?_; intro A' c' w3 h3)
        have h9 : St noB w w3 (ownT 119 3 (.slice A' (n + 1) c') (n + 1) (rowL (updA W n x) (updA vb n (.slice (some ⟨wr.heap.size, 0, none⟩) 1 1)) (updA vd n (.slice (some ⟨wr.heap.size + 1, 0, none⟩) 1 1)) (n + 1)) :: lsI (n + 1) (updA vb n (.slice (some ⟨wr.heap.size, 0, none⟩) 1 1)) (updA bs n [i]) :: lsI (n + 1) (updA vd n (.slice (some ⟨wr.heap.size + 1, 0, none⟩) 1 1)) (updA ds n [0]) :: [blkT tb (tabV .u8 (fun _ => 0)) 74, blkT ob (tabV .u8 (fun _ => 0)) 74, blkT lb T 76]) := by
          rw [rowL_new]; exact h3
        exact ⟨⟨i + 1, A', c', _, _, _, _, _, by rw [EN.out], by go_num, by omega, HL2, by rw [EN.out]; exact h9⟩, by simp only [intOf]; omega⟩
      · have hz2 : ¬ (0 : Int) < (f i : Int) := by omega
        have E : leafS f (i + 1) = leafS f i := by rw [leafS, if_neg hz]
        rw [← E] at h HL
        have EN : Hid ((leafS f (i + 1)).n = (leafS f i).n) := Lib.hid (by rw [E])
        clear hz E hn1
        generalize f i = x at *
        go_wp2_with fail
        exact ⟨⟨i + 1, A, c, W, bs, ds, vb, vd, by rw [EN.out], by go_num, by omega, HL, h⟩, by simp only [intOf]; omega⟩
    · have hl1 : ¬ (i : Int) < 256 := by omega
      have HLD : Hid (R = lenS (leafS f i)) := Lib.hid (by rw [HLT.out, show i = 256 by omega]; rfl)
      have hn3 := (leafS_ok f hf i).2.2.1
      have HRR : Hid (1 ≤ (leafS f i).l.length → RR (leavesB f i) (heapS (leafS f i)) (fun _ => 0) W bs ds vb) := Lib.hid (fun h1 => HL.out.rr hf (by omega) vb h1)
      have hll := (leaf_forest f hf i).2.2.1
      have hlb := leavesB_len f i
      have HND := Lib.hid (leavesB_nodup f i (by omega))
      generalize hB0 : leavesB f i = L0 at *
      generalize leafS f i = s1 at *
      by_cases h1 : s1.l.length = 1
      · have hn : s1.n = 1 := by omega
        have HLT2 : Hid (R = upd (fun _ => 0) ((s1.ls 0).head?.getD 0).toNat 1) := Lib.hid (by rw [HLD.out]; unfold lenS; rw [if_pos h1])
        rw [hn] at h ⊢
        have hm : hget s1.l 0 ∈ s1.l := by rw [hget_lt _ _ (by omega)]; exact List.getElem_mem _
        obtain ⟨q1, _, q3⟩ := hn3 _ hm
        have q0 : (hget s1.l 0).2 = 0 := by omega
        have qb := HL.out.bytes _ hm
        rw [q0] at q3 qb
        obtain ⟨y, hy⟩ : ∃ y, s1.ls 0 = [y] := List.length_eq_one_iff.1 q3
        rw [hy] at qb HLT2
        have ho := (h.pull 1).lsIGet 0 (by omega)
        rw [qb] at ho
        obtain ⟨g0, c0, e0, _⟩ := ho.slice (by show 0 < 1; omega)
        obtain ⟨g, c1, e1, _⟩ := h.own.slice (by omega)
        simp only [Value.slice.injEq] at e1
        obtain ⟨rfl, _, rfl⟩ := e1
        have hy0 : wr.cell? ⟨g0, 0, none⟩ = some (.int .i64 y.toNat) := by rw [e0] at ho; exact Own.cell ho 0 (by show 0 < 1; omega)
        have hq := Own.cell h.own (0 * 3 + 1) (by omega)
        rw [rowL_get _ _ _ 1 0 1 (by omega) (by omega)] at hq
        change wr.cell? ⟨g, 1, none⟩ = some (vb 0) at hq
        rw [e0] at hq
        change wr.cell? ⟨g, 1, none⟩ = some (Value.slice (some ⟨g0, 0, none⟩) 1 c0) at hq
        have hy8 := y.toNat_lt
        have h5 := h.pull 3
        have k3 := cell_of_heap h5.blk y.toNat
        rw [tabV_get _ _ _ (by omega)] at k3
        have f3 := free_of_heap h5.blk y.toNat
        have h6 := h5.set y.toNat (.int .u8 1)
        rw [show ((tabV .u8 (fun _ => 0)).setIfInBounds y.toNat (.int .u8 1)) = tabV .u8 (upd (fun _ => 0) y.toNat 1) from tabV_set _ _ _ 1 (by omega)] at h6
        change Hid (R = upd (fun _ => 0) y.toNat 1) at HLT2
        rw [← HLT2.out] at h6
        have hb := Lib.hid h6.blk
        have h7 := (h6.pull 4).row (tabV .u8 R)
        have hq6 := Lib.hid (h6.pull 4).blk
        clear h h5 h6 ho e0 q1 q3 hm hy q0 HL HRR HND hn3 HLD HLT HLT2 qb
        generalize y.toNat = y at *
        go_wp2_with (first
          | (with_reducible refine (show wpList _ _ _ _ _ (World.setCell _ _ _) from ?_); refine wpList_load_row rfl _ _ rfl tb rfl 74 (tabV .u8 R) (0, 0) (.array 256 5) hb.out Tryz.underlying74 rfl (size8 _) ?_)
          | (with_reducible refine (show wpList _ _ _ _ _ (World.setCell _ _ _) from ?_); refine wpList_store_row rfl _ _ _ rfl ob (tabV .u8 R) rfl rfl 74 (tabV .u8 (fun _ => 0)) hq6.out (size8 _) (tabV_sizes _ _ _) (tabV_one _ _) ?_))
        refine bodyPost_ret_by (v := .agg (tabV .u8 R)) (results_cell_row rfl _ _ ob 74 (tabV .u8 R) (0, 0) (.array 256 5) rfl h7.blk Tryz.underlying74 rfl (size8 _)) rfl ?_
        exact ⟨rfl, h7.ends⟩
      · by_cases hn0 : s1.n = 0
        · have hll0 : s1.l.length = 0 := by omega
          have HR0 : Hid (R = fun _ => 0) := Lib.hid (by
            rw [HLD.out]; unfold lenS; rw [if_neg h1]
            have h2 : (heapS s1).l.length = 0 := by show (hinit _ _).length = 0; rw [hinit_len]; exact hll0
            rw [h2]; rfl)
          rw [hn0] at h ⊢
          have h5 := h.pull 3
          rw [← HR0.out] at h5
          have hb := Lib.hid h5.blk
          have h6 := h5.pull 4
          have h7 := h6.row (tabV .u8 R)
          have hq6 := Lib.hid h6.blk
          clear h HL HRR HND hn3 HLD HLT
          go_wp2_with fail
          go_loopw [7] (fun v7 wq => v7 = .int .i64 1 ∧ wq = wr) (fun v7 _ => 1)
          case atStart => exact ⟨rfl, rfl⟩
          case round =>
            obtain ⟨rfl, rfl⟩ := hrel
            go_wp2_with (first
              | (refine wpList_load_row rfl _ _ rfl tb rfl 74 (tabV .u8 R) (0, 0) (.array 256 5) hb.out Tryz.underlying74 rfl (size8 _) ?_)
              | (refine wpList_store_row rfl _ _ _ rfl ob (tabV .u8 R) rfl rfl 74 (tabV .u8 R) hq6.out (size8 _) (tabV_sizes _ _ _) (tabV_one _ _) ?_))
            refine bodyPost_ret_by (v := .agg (tabV .u8 R)) (results_cell_row rfl _ _ ob 74 (tabV .u8 R) (0, 0) (.array 256 5) rfl h7.blk Tryz.underlying74 rfl (size8 _)) rfl ?_
            exact ⟨rfl, h7.ends⟩
        · have hl2 : ¬ (s1.n : Int) = 1 := by omega
          have HRR0 := Lib.hid (HRR.out (by omega))
          have hsl : (heapS s1).l.length = s1.n := by show (hinit _ _).length = _; rw [hinit_len]; omega
          have HSN : Hid ((heapS s1).n = s1.n) := Lib.hid rfl
          obtain ⟨df, hdf⟩ : ∃ df, depS (heapS s1).l.length (heapS s1) (fun _ => 0) = df := ⟨_, rfl⟩
          have HDF : Hid (R = fun i => df i % 256) := Lib.hid (by
            rw [HLD.out]; unfold lenS; rw [if_neg h1, rounds_dep _ _ (fun _ => 0) (by funext i; rfl), hdf])
          have HD := Lib.hid hdf
          obtain ⟨N, hN⟩ : ∃ N, s1.n = N := ⟨_, rfl⟩
          rw [hN] at h hsl HSN hl2 hn0 ⊢
          have h256 : L0.length ≤ 256 := by omega
          have hN256 : N ≤ 256 := by omega
          clear HRR HL hdf hn3 HLD HLT h1 hll
          generalize heapS s1 = s0 at *
          rw [← HSN.out] at h
          have ev : Hid (Value.slice A N c = .slice A s0.n c) := Lib.hid (by rw [HSN.out])
          go_wp2_with fail
          rw [ev.out]
          go_loopw [4, 7] (fun v4 v7 wr => ∃ (s : HS) (d W : Nat → Nat) (bs ds : Nat → List Nat) (vb vd : Nat → Value) (A : Option Addr) (c k : Nat), v4 = .slice A s.n c ∧ v7 = .int .i64 k ∧ k + s.l.length = N + 1 ∧ 1 ≤ s.l.length ∧ Hid (RR L0 s d W bs ds vb) ∧ Hid (depS s.l.length s d = df) ∧ St noB w wr (ownT 119 3 (.slice A s.n c) s.n (rowL W vb vd s.n) :: lsI s.n vb bs :: lsI s.n vd ds :: [blkT tb (tabV .u8 (fun _ => 0)) 74, blkT ob (tabV .u8 (fun _ => 0)) 74, blkT lb T 76])) (fun _ v7 _ => N - (intOf v7).toNat)
          case atStart => exact ⟨s0, _, W, bs, ds, vb, vd, A, c, 1, rfl, rfl, by omega, by omega, HRR0, HD, h⟩
          case round =>
            clear h HRR0 HD ev
            obtain ⟨s, d, W, bs, ds, vb, vd, A, c, k, rfl, rfl, hkl, hl1', HRR, HD, h⟩ := hrel
            by_cases hlt : k < N
            · have hk1 : (k : Int) < (N : Int) := by omega
              have h2 : 2 ≤ s.l.length := by omega
              have hfew := HRR.out.ok.few
              obtain ⟨a, b, han, hbn, hab, hla, hlb', pa, pb, da, db, htot, wa8, wb8, hdeep, hstep⟩ := RR.pair HND.out h256 HRR.out h2
              obtain ⟨g, cg, eg, _⟩ := h.own.slice (by omega)
              simp only [Value.slice.injEq] at eg
              obtain ⟨rfl, _, rfl⟩ := eg
              have hk0 : ∀ k, k < s.n → wr.cell? ⟨g, k * 3, none⟩ = some (.int .u64 (W k : Nat)) := fun k hk => by
                have := Own.cell h.own (k * 3 + 0) (by omega)
                rw [rowL_get _ _ _ _ k 0 hk (by omega)] at this; exact this
              have hk1' : ∀ k, k < s.n → wr.cell? ⟨g, k * 3 + 1, none⟩ = some (vb k) := fun k hk => by
                have := Own.cell h.own (k * 3 + 1) (by omega)
                rw [rowL_get _ _ _ _ k 1 hk (by omega)] at this; exact this
              have hvv : ∀ k, k < s.n → (lvOf bs k = true → ∃ A n c, vb k = .slice (some A) n c) ∧ (lvOf bs k = false → vb k = .slice none 0 0) := fun k hk => ⟨fun e => by
                  have e2 := (lvOf_iff k).1 e
                  have hp : 0 < (bs k).length := List.length_pos_iff.2 e2
                  obtain ⟨g2, c2, e3, _⟩ := ((h.pull 1).lsIGet k hk).slice hp
                  exact ⟨_, _, _, e3⟩, fun e => by
                  refine HRR.out.nilv k hk ?_
                  unfold lvOf at e
                  cases hb : bs k with
                  | nil => rfl
                  | cons x r => rw [hb] at e; cases e⟩
              have HLa := Lib.hid (rleast_any W (lvOf bs) vb g s.n c (-1) (by omega) (by omega) wr hk0 hk1' hvv)
              have HLb := Lib.hid (fun w' (x : Ext wr w') => rleast_any W (lvOf bs) vb g s.n c (a : Int) (by omega) (by omega) w' (fun k hk => x.cell (hk0 k hk)) (fun k hk => x.cell (hk1' k hk)) hvv)
              rw [hla] at HLa
              rw [hlb'] at HLb
              clear hla hlb' hk1' hvv
              have qa0 := hk0 a han
              have qb0 := hk0 b hbn
              clear hk0
              obtain ⟨ga, cpa, ea, _⟩ := ((h.pull 1).lsIGet a han).slice pa
              obtain ⟨gb, cpb, eb, _⟩ := ((h.pull 1).lsIGet b hbn).slice pb
              obtain ⟨xa, cxa, fa, _⟩ := ((h.pull 2).lsIGet a han).slice (by omega)
              obtain ⟨xb, cxb, fb, _⟩ := ((h.pull 2).lsIGet b hbn).slice (by omega)
              have HST := Lib.hid hstep
              have HDE := Lib.hid hdeep
              have HDD : Hid (depS (roundS s).l.length (roundS s) (fun i => d i + cntF (bsOf s) i) = df) := Lib.hid (by
                rw [← HD.out, round_len s h2]
                obtain ⟨q, hq⟩ : ∃ q, s.l.length = q + 1 := ⟨s.l.length - 1, by omega⟩
                rw [hq, depS, if_neg (by omega)]; rfl)
              have HLN : Hid ((roundS s).n = s.n + 1 ∧ (roundS s).l.length = s.l.length - 1) := Lib.hid ⟨rfl, round_len s h2⟩
              clear hstep hdeep HRR HD
              generalize roundS s = s' at *
              generalize (fun i => d i + cntF (bsOf s) i) = d' at *
              obtain ⟨n, hn⟩ : ∃ n, s.n = n := ⟨_, rfl⟩
              rw [hn] at h HLa HLb HLN HST han hbn hfew ⊢
              obtain ⟨la, hla⟩ : ∃ la, (bs a).length = la := ⟨_, rfl⟩
              obtain ⟨lb2, hlb2⟩ : ∃ lb2, (bs b).length = lb2 := ⟨_, rfl⟩
              rw [hla] at pa da htot ea
              rw [hlb2] at pb db htot eb
              rw [da] at fa
              rw [db] at fb
              have hai : (a : Int) < (n : Int) := by omega
              have hbi : (b : Int) < (n : Int) := by omega
              go_wp2_with fail
              refine HLa.out.mono ?_
              rintro _ w2 ⟨rfl, x2⟩
              go_wp2_with fail
              refine (HLb.out w2 x2).mono ?_
              rintro _ w3 ⟨rfl, x3⟩
              have h3 := h.ext (x2.trans x3)
              have qa3 := Ext.cell (x2.trans x3) qa0
              have qb3 := Ext.cell (x2.trans x3) qb0
              have ra0 := fun y : After w3 => (After.ext y).cell qa3
              have rb0 := fun y : After w3 => (After.ext y).cell qb3
              clear HLa HLb h qa0 qb0
              obtain ⟨wa, hwa⟩ : ∃ wa, W a = wa := ⟨_, rfl⟩
              obtain ⟨wb, hwb⟩ : ∃ wb, W b = wb := ⟨_, rfl⟩
              rw [hwa] at qa3 ra0 wa8 HST
              rw [hwb] at qb3 rb0 wb8 HST
              by_cases hov : wa + wb < 18446744073709551616
              · have hsw : sumW wa wb = wa + wb := by unfold sumW; rw [if_pos hov]
                rw [hsw] at HST
                have hwr : IntKind.u64.wrap ((wa : Int) + (wb : Int)) = ((wa + wb : Nat) : Int) := by rw [IntKind.wrap_u64]; omega
                have hlt2 : ¬ ((wa + wb : Nat) : Int) < (wa : Int) := by omega
                clear hsw
                generalize wa + wb = sw at hwr hlt2 HST hov
                go_wp2_with fail
                (refine wp_region_after (by kernel_rfl) (by kernel_rfl) ?_; (repeat (first | go_big_quiet_skip | (go_big_quiet_want; first | (fail; simp only [Act.put, List.setIfInBounds_toArray, List.set_cons_succ, List.set_cons_zero]; go_big_quiet_on) | (go_big_quiet_op; first | go_big_quiet_on | (apply Exists.intro; refine ⟨fun _ => ?_, ?_⟩; (· (fail)); go_big_quiet_on))))); refine wpQuiet_nil ?_; rintro _ ⟨y, rfl⟩)
                have h4 := h3.ext y.ext
                have qa4 := Ext.cell y.ext qa3
                clear ra0 rb0 qa3 qb3 h3
                have h5 := h4.alloc #[.int .u64 0, .slice none 0 0, .slice none 0 0] 119
                have hq := Lib.hid h5.blk
                obtain ⟨w5, hw5, h6⟩ := name_world (P := fun x => St noB w x _) (h5.row #[.int .u64 (sw : Nat), .slice none 0 0, .slice none 0 0])
                have HW5 := Lib.hid hw5
                clear h5 hw5 h4
                go_wp2_with (with_reducible refine (show wpList _ _ _ _ _ (World.alloc _ _) from ?_); refine wpList_store_row rfl _ _ _ rfl y.w.heap.size #[.int .u64 (sw : Nat), .slice none 0 0, .slice none 0 0] rfl rfl 119 #[.int .u64 0, .slice none 0 0, .slice none 0 0] hq.out (by kernel_rfl) rfl (by simp [Value.oneCell']) ?_; rw [HW5.out])
                generalize y.w.heap.size = tt at h6 ⊢
                clear hq HW5 qa4
                have hcA : ∀ {w' : World} {L : List Thing}, St noB w w' (lsI n vb bs :: L) → ∀ j u, (intsV (bs a))[j]? = some u → w'.cell? ((⟨ga, 0, none⟩ : Addr).add j) = some u := fun h => by have := h.lsIGet a han; rw [ea, hla] at this; exact this.cellsI
                have hcB : ∀ {w' : World} {L : List Thing}, St noB w w' (lsI n vb bs :: L) → ∀ j u, (intsV (bs b))[j]? = some u → w'.cell? ((⟨gb, 0, none⟩ : Addr).add j) = some u := fun h => by have := h.lsIGet b hbn; rw [eb, hlb2] at this; exact this.cellsI
                have hrA : ∀ {w' : World}, Own w' 119 3 (.slice (some ⟨g, 0, none⟩) n c) n (rowL W vb vd n) → w'.cell? ⟨g, a * 3 + 1, none⟩ = some (.slice (some ⟨ga, 0, none⟩) la cpa) := fun h => by
                  have := Own.cell h (a * 3 + 1) (by omega)
                  rw [rowL_get _ _ _ _ a 1 han (by omega)] at this
                  rw [this]; show some (vb a) = _; rw [ea]
                have hrB : ∀ {w' : World}, Own w' 119 3 (.slice (some ⟨g, 0, none⟩) n c) n (rowL W vb vd n) → w'.cell? ⟨g, b * 3 + 1, none⟩ = some (.slice (some ⟨gb, 0, none⟩) lb2 cpb) := fun h => by
                  have := Own.cell h (b * 3 + 1) (by omega)
                  rw [rowL_get _ _ _ _ b 1 hbn (by omega)] at this
                  rw [this]; show some (vb b) = _; rw [eb]
                have hlA : (intsV (bs a)).length = la := by rw [intsV_len, hla]
                have hlB : (intsV (bs b)).length = lb2 := by rw [intsV_len, hlb2]
                have Hd := h6.ext ((Mut.refl noB w5).drew)
                have kt := cell_of_heap h6.blk 1
                change w5.cell? _ = some (Value.slice none 0 0) at kt
                have hS : (fun w' : World => w'.cell? ⟨g, a * 3 + 1, none⟩ = some (.slice (some ⟨ga, 0, none⟩) la cpa) ∧ w'.cell? ⟨g, b * 3 + 1, none⟩ = some (.slice (some ⟨gb, 0, none⟩) lb2 cpb)) w5.drew := ⟨hrA (Hd.pull 1).own, hrB (Hd.pull 1).own⟩
                refine wp_region_held (S := fun w' : World => w'.cell? ⟨g, a * 3 + 1, none⟩ = some (.slice (some ⟨ga, 0, none⟩) la cpa) ∧ w'.cell? ⟨g, b * 3 + 1, none⟩ = some (.slice (some ⟨gb, 0, none⟩) lb2 cpb)) (by kernel_rfl) ?_
                change wpAnyH _ _ _ _ _ _ _ _ (World.drew _)
                refine wpAnyH_take (i := 0) (v := ?_) rfl (by kernel_rfl) (by kernel_rfl) (by kernel_rfl) (fun _ _ _ h => h) (Or.inl ⟨by rfl, ?_⟩) hS ?_
                rotate_left
                · (intro w' hS'; obtain ⟨j1, j2⟩ := hS'; go_simp; try with_reducible rfl)
                refine wpAnyH_take (i := 2) (v := ?_) rfl (by kernel_rfl) (by kernel_rfl) (by kernel_rfl) (fun _ _ _ h => h) (Or.inl ⟨by rfl, ?_⟩) hS ?_
                rotate_left
                · (intro w' hS'; obtain ⟨j1, j2⟩ := hS'; go_simp; try with_reducible rfl)
                refine wpAnyH_take (i := 3) (v := ?_) rfl (by kernel_rfl) (by kernel_rfl) (by kernel_rfl) (fun _ _ _ h => h) (Or.inl ⟨by rfl, ?_⟩) hS ?_
                rotate_left
                · (intro w' hS'; obtain ⟨j1, j2⟩ := hS'; go_simp; try with_reducible rfl)
                refine wpAnyH_take (i := 4) (v := ?_) rfl (by kernel_rfl) (by kernel_rfl) (by kernel_rfl) (fun _ _ _ h => h) (Or.inl ⟨by rfl, ?_⟩) hS ?_
                rotate_left
                · (intro w' hS'; obtain ⟨j1, j2⟩ := hS'; go_simp; try with_reducible rfl)
                refine wpAnyH_take (i := 5) (v := ?_) rfl (by kernel_rfl) (by kernel_rfl) (by kernel_rfl) (fun _ _ _ h => h) (Or.inl ⟨by rfl, ?_⟩) hS ?_
                rotate_left
                · (intro w' hS'; obtain ⟨j1, j2⟩ := hS'; go_simp; try with_reducible rfl)
                refine wpAnyH_take (i := 6) (v := ?_) rfl (by kernel_rfl) (by kernel_rfl) (by kernel_rfl) (fun _ _ _ h => h) (Or.inl ⟨by rfl, ?_⟩) hS ?_
                rotate_left
                · (intro w' hS'; obtain ⟨j1, j2⟩ := hS'; go_simp; try with_reducible rfl)
                refine wpAnyH_take (i := 8) (v := ?_) rfl (by kernel_rfl) (by kernel_rfl) (by kernel_rfl) (fun _ _ _ h => h) (Or.inl ⟨by rfl, ?_⟩) hS ?_
                rotate_left
                · (intro w' hS'; obtain ⟨j1, j2⟩ := hS'; go_simp; try with_reducible rfl)
                refine wpAnyH_take (i := 9) (v := ?_) rfl (by kernel_rfl) (by kernel_rfl) (by kernel_rfl) (fun _ _ _ h => h) (Or.inl ⟨by rfl, ?_⟩) hS ?_
                rotate_left
                · (intro w' hS'; obtain ⟨j1, j2⟩ := hS'; go_simp; try with_reducible rfl)
                refine wpAnyH_take (i := 10) (v := ?_) rfl (by kernel_rfl) (by kernel_rfl) (by kernel_rfl) (fun _ _ _ h => h) (Or.inl ⟨by rfl, ?_⟩) hS ?_
                rotate_left
                · (intro w' hS'; obtain ⟨j1, j2⟩ := hS'; go_simp; try with_reducible rfl)
                refine wpAnyH_take (i := 11) (v := ?_) rfl (by kernel_rfl) (by kernel_rfl) (by kernel_rfl) (fun _ _ _ h => h) (Or.inl ⟨by rfl, ?_⟩) hS ?_
                rotate_left
                · (intro w' hS'; obtain ⟨j1, j2⟩ := hS'; go_simp; try with_reducible rfl)
                refine wpAnyH_take (i := 12) (v := ?_) rfl (by kernel_rfl) (by kernel_rfl) (by kernel_rfl) (fun _ _ _ h => h) (Or.inl ⟨by rfl, ?_⟩) hS ?_
                rotate_left
                · (intro w' hS'; obtain ⟨j1, j2⟩ := hS'; go_simp; try with_reducible rfl)
                refine wpAnyH_ready (rs := [1]) (by kernel_rfl) (by simp) ?_
                refine AllReadyH.cons rfl (fun K hK => ?_) AllReadyH.nil
                go_simp
                refine hK.out _ _ hS (fun _ => ?_)
                clear hK K
                have Hn := Hd.nilOwn 3 1
                refine wpAnyH_ready (rs := [7]) (by kernel_rfl) (by simp) ?_
                refine AllReadyH.cons rfl (fun K hK => ?_) AllReadyH.nil
                refine step_pushAll rfl _ _ _ rfl 3 (.int .i64 0) 1 8 Tryz.underlying49 int_info rfl (by decide) Hn ⟨ga, 0, none⟩ la cpa (intsV (bs a)) rfl rfl (by rw [Nat.mul_one]; exact hlA) (hcA (Hn.pull 3)) (intsV_one _) (by unfold maxLen; omega) (by omega) ?_
                intro A1 c1 w7 g4
                simp only [Nat.zero_add, List.nil_append] at g4 ⊢
                replace hS : (fun w' : World => w'.cell? ⟨g, a * 3 + 1, none⟩ = some (.slice (some ⟨ga, 0, none⟩) la cpa) ∧ w'.cell? ⟨g, b * 3 + 1, none⟩ = some (.slice (some ⟨gb, 0, none⟩) lb2 cpb)) w7 := ⟨hrA (g4.pull 2).own, hrB (g4.pull 2).own⟩
                refine hK.out _ _ hS (fun _ => ?_)
                clear hK K
                refine wpAnyH_ready (rs := [13]) (by kernel_rfl) (by simp) ?_
                refine AllReadyH.cons rfl (fun K hK => ?_) AllReadyH.nil
                refine step_pushAll rfl _ _ _ rfl 3 (.int .i64 0) 1 8 Tryz.underlying49 int_info rfl (by decide) g4 ⟨gb, 0, none⟩ lb2 cpb (intsV (bs b)) rfl rfl (by rw [Nat.mul_one]; exact hlB) (hcB (g4.pull 3)) (intsV_one _) (by unfold maxLen; omega) (by omega) ?_
                intro A2 c2 w8 g5
                replace hS : (fun w' : World => w'.cell? ⟨g, a * 3 + 1, none⟩ = some (.slice (some ⟨ga, 0, none⟩) la cpa) ∧ w'.cell? ⟨g, b * 3 + 1, none⟩ = some (.slice (some ⟨gb, 0, none⟩) lb2 cpb)) w8 := ⟨hrA (g5.pull 2).own, hrB (g5.pull 2).own⟩
                refine hK.out _ _ hS (fun _ => ?_)
                clear hK K
                refine wpAnyH_take (i := 14) (v := ?_) rfl (by kernel_rfl) (by kernel_rfl) (by kernel_rfl) (fun _ _ _ h => h) (Or.inl ⟨by rfl, ?_⟩) hS ?_
                rotate_left
                · (intro w' hS'; obtain ⟨j1, j2⟩ := hS'; go_simp; try with_reducible rfl)
                have kp := cell_of_heap (g5.pull 1).blk 1
                change w8.cell? _ = some (Value.slice none 0 0) at kp
                have fp := free_of_heap (g5.pull 1).blk 1
                have g6 := ((g5.pull 1).set 1 (.slice A2 (la + lb2) c2)).swap
                replace hS : (fun w' : World => w'.cell? ⟨g, a * 3 + 1, none⟩ = some (.slice (some ⟨ga, 0, none⟩) la cpa) ∧ w'.cell? ⟨g, b * 3 + 1, none⟩ = some (.slice (some ⟨gb, 0, none⟩) lb2 cpb)) _ := ⟨hrA (g6.pull 2).own, hrB (g6.pull 2).own⟩
                refine wpAnyH_ready (rs := [15]) (by kernel_rfl) (by simp) ?_
                refine AllReadyH.cons rfl (fun K hK => ?_) AllReadyH.nil
                go_simp
                refine hK.out _ _ hS (fun _ => ?_)
                clear hK K
                refine wpAnyH_done (by kernel_rfl) ?_ _
                clear hS Hn g4 g5 Hd kt kp fp hcA hcB hrA hrB hlA hlB h6
                have h7 : St noB w (w8.setCell ⟨tt, 1, none⟩ (.slice A2 (la + lb2) c2)) (blkT tt #[.int .u64 (sw : Nat), .slice A2 (la + lb2) c2, .slice none 0 0] 119 :: ownT 119 3 (.slice (some ⟨g, 0, none⟩) n c) n (rowL W vb vd n) :: lsI n vd ds :: ownT 3 1 (.slice A2 (la + lb2) c2) (la + lb2) (intsV (bs a) ++ intsV (bs b)) :: lsI n vb bs :: [blkT tb (tabV .u8 (fun _ => 0)) 74, blkT ob (tabV .u8 (fun _ => 0)) 74, blkT lb T 76]) := ((g6.pull 4).pull 3).pull 3
                clear g6
                go_wp2_with fail
                generalize w8.setCell ⟨tt, 1, none⟩ (.slice A2 (la + lb2) c2) = w9 at h7 ⊢
                generalize A2 = Ab at *
                generalize c2 = cb2 at *
                have hcA : ∀ {w' : World} {L : List Thing}, St noB w w' (lsI n vd ds :: L) → ∀ j u, (intsV (ds a))[j]? = some u → w'.cell? ((⟨xa, 0, none⟩ : Addr).add j) = some u := fun h => by have := h.lsIGet a han; rw [fa, da] at this; exact this.cellsI
                have hcB : ∀ {w' : World} {L : List Thing}, St noB w w' (lsI n vd ds :: L) → ∀ j u, (intsV (ds b))[j]? = some u → w'.cell? ((⟨xb, 0, none⟩ : Addr).add j) = some u := fun h => by have := h.lsIGet b hbn; rw [fb, db] at this; exact this.cellsI
                have hrA : ∀ {w' : World}, Own w' 119 3 (.slice (some ⟨g, 0, none⟩) n c) n (rowL W vb vd n) → w'.cell? ⟨g, a * 3 + 2, none⟩ = some (.slice (some ⟨xa, 0, none⟩) la cxa) := fun h => by
                  have := Own.cell h (a * 3 + 2) (by omega)
                  rw [rowL_get _ _ _ _ a 2 han (by omega)] at this
                  rw [this]; show some (vd a) = _; rw [fa]
                have hrB : ∀ {w' : World}, Own w' 119 3 (.slice (some ⟨g, 0, none⟩) n c) n (rowL W vb vd n) → w'.cell? ⟨g, b * 3 + 2, none⟩ = some (.slice (some ⟨xb, 0, none⟩) lb2 cxb) := fun h => by
                  have := Own.cell h (b * 3 + 2) (by omega)
                  rw [rowL_get _ _ _ _ b 2 hbn (by omega)] at this
                  rw [this]; show some (vd b) = _; rw [fb]
                have hlA : (intsV (ds a)).length = la := by rw [intsV_len, da]
                have hlB : (intsV (ds b)).length = lb2 := by rw [intsV_len, db]
                have Hd := h7.ext ((Mut.refl noB w9).drew)
                have kt := cell_of_heap h7.blk 2
                change w9.cell? _ = some (Value.slice none 0 0) at kt
                have hS : (fun w' : World => w'.cell? ⟨g, a * 3 + 2, none⟩ = some (.slice (some ⟨xa, 0, none⟩) la cxa) ∧ w'.cell? ⟨g, b * 3 + 2, none⟩ = some (.slice (some ⟨xb, 0, none⟩) lb2 cxb)) w9.drew := ⟨hrA (Hd.pull 1).own, hrB (Hd.pull 1).own⟩
                refine wp_region_held (S := fun w' : World => w'.cell? ⟨g, a * 3 + 2, none⟩ = some (.slice (some ⟨xa, 0, none⟩) la cxa) ∧ w'.cell? ⟨g, b * 3 + 2, none⟩ = some (.slice (some ⟨xb, 0, none⟩) lb2 cxb)) (by kernel_rfl) ?_
                change wpAnyH _ _ _ _ _ _ _ _ (World.drew _)
                refine wpAnyH_take (i := 0) (v := ?_) rfl (by kernel_rfl) (by kernel_rfl) (by kernel_rfl) (fun _ _ _ h => h) (Or.inl ⟨by rfl, ?_⟩) hS ?_
                rotate_left
                · (intro w' hS'; obtain ⟨j1, j2⟩ := hS'; go_simp; try with_reducible rfl)
                refine wpAnyH_take (i := 2) (v := ?_) rfl (by kernel_rfl) (by kernel_rfl) (by kernel_rfl) (fun _ _ _ h => h) (Or.inl ⟨by rfl, ?_⟩) hS ?_
                rotate_left
                · (intro w' hS'; obtain ⟨j1, j2⟩ := hS'; go_simp; try with_reducible rfl)
                refine wpAnyH_take (i := 3) (v := ?_) rfl (by kernel_rfl) (by kernel_rfl) (by kernel_rfl) (fun _ _ _ h => h) (Or.inl ⟨by rfl, ?_⟩) hS ?_
                rotate_left
                · (intro w' hS'; obtain ⟨j1, j2⟩ := hS'; go_simp; try with_reducible rfl)
                refine wpAnyH_take (i := 4) (v := ?_) rfl (by kernel_rfl) (by kernel_rfl) (by kernel_rfl) (fun _ _ _ h => h) (Or.inl ⟨by rfl, ?_⟩) hS ?_
                rotate_left
                · (intro w' hS'; obtain ⟨j1, j2⟩ := hS'; go_simp; try with_reducible rfl)
                refine wpAnyH_take (i := 5) (v := ?_) rfl (by kernel_rfl) (by kernel_rfl) (by kernel_rfl) (fun _ _ _ h => h) (Or.inl ⟨by rfl, ?_⟩) hS ?_
                rotate_left
                · (intro w' hS'; obtain ⟨j1, j2⟩ := hS'; go_simp; try with_reducible rfl)
                refine wpAnyH_take (i := 6) (v := ?_) rfl (by kernel_rfl) (by kernel_rfl) (by kernel_rfl) (fun _ _ _ h => h) (Or.inl ⟨by rfl, ?_⟩) hS ?_
                rotate_left
                · (intro w' hS'; obtain ⟨j1, j2⟩ := hS'; go_simp; try with_reducible rfl)
                refine wpAnyH_take (i := 8) (v := ?_) rfl (by kernel_rfl) (by kernel_rfl) (by kernel_rfl) (fun _ _ _ h => h) (Or.inl ⟨by rfl, ?_⟩) hS ?_
                rotate_left
                · (intro w' hS'; obtain ⟨j1, j2⟩ := hS'; go_simp; try with_reducible rfl)
                refine wpAnyH_take (i := 9) (v := ?_) rfl (by kernel_rfl) (by kernel_rfl) (by kernel_rfl) (fun _ _ _ h => h) (Or.inl ⟨by rfl, ?_⟩) hS ?_
                rotate_left
                · (intro w' hS'; obtain ⟨j1, j2⟩ := hS'; go_simp; try with_reducible rfl)
                refine wpAnyH_take (i := 10) (v := ?_) rfl (by kernel_rfl) (by kernel_rfl) (by kernel_rfl) (fun _ _ _ h => h) (Or.inl ⟨by rfl, ?_⟩) hS ?_
                rotate_left
                · (intro w' hS'; obtain ⟨j1, j2⟩ := hS'; go_simp; try with_reducible rfl)
                refine wpAnyH_take (i := 11) (v := ?_) rfl (by kernel_rfl) (by kernel_rfl) (by kernel_rfl) (fun _ _ _ h => h) (Or.inl ⟨by rfl, ?_⟩) hS ?_
                rotate_left
                · (intro w' hS'; obtain ⟨j1, j2⟩ := hS'; go_simp; try with_reducible rfl)
                refine wpAnyH_take (i := 12) (v := ?_) rfl (by kernel_rfl) (by kernel_rfl) (by kernel_rfl) (fun _ _ _ h => h) (Or.inl ⟨by rfl, ?_⟩) hS ?_
                rotate_left
                · (intro w' hS'; obtain ⟨j1, j2⟩ := hS'; go_simp; try with_reducible rfl)
                refine wpAnyH_ready (rs := [1]) (by kernel_rfl) (by simp) ?_
                refine AllReadyH.cons rfl (fun K hK => ?_) AllReadyH.nil
                go_simp
                refine hK.out _ _ hS (fun _ => ?_)
                clear hK K
                have Hn := Hd.nilOwn 3 1
                refine wpAnyH_ready (rs := [7]) (by kernel_rfl) (by simp) ?_
                refine AllReadyH.cons rfl (fun K hK => ?_) AllReadyH.nil
                refine step_pushAll rfl _ _ _ rfl 3 (.int .i64 0) 1 8 Tryz.underlying49 int_info rfl (by decide) Hn ⟨xa, 0, none⟩ la cxa (intsV (ds a)) rfl rfl (by rw [Nat.mul_one]; exact hlA) (hcA (Hn.pull 3)) (intsV_one _) (by unfold maxLen; omega) (by omega) ?_
                intro A1 c1 w7 g4
                simp only [Nat.zero_add, List.nil_append] at g4 ⊢
                replace hS : (fun w' : World => w'.cell? ⟨g, a * 3 + 2, none⟩ = some (.slice (some ⟨xa, 0, none⟩) la cxa) ∧ w'.cell? ⟨g, b * 3 + 2, none⟩ = some (.slice (some ⟨xb, 0, none⟩) lb2 cxb)) w7 := ⟨hrA (g4.pull 2).own, hrB (g4.pull 2).own⟩
                refine hK.out _ _ hS (fun _ => ?_)
                clear hK K
                refine wpAnyH_ready (rs := [13]) (by kernel_rfl) (by simp) ?_
                refine AllReadyH.cons rfl (fun K hK => ?_) AllReadyH.nil
                refine step_pushAll rfl _ _ _ rfl 3 (.int .i64 0) 1 8 Tryz.underlying49 int_info rfl (by decide) g4 ⟨xb, 0, none⟩ lb2 cxb (intsV (ds b)) rfl rfl (by rw [Nat.mul_one]; exact hlB) (hcB (g4.pull 3)) (intsV_one _) (by unfold maxLen; omega) (by omega) ?_
                intro A2 c2 w8 g5
                replace hS : (fun w' : World => w'.cell? ⟨g, a * 3 + 2, none⟩ = some (.slice (some ⟨xa, 0, none⟩) la cxa) ∧ w'.cell? ⟨g, b * 3 + 2, none⟩ = some (.slice (some ⟨xb, 0, none⟩) lb2 cxb)) w8 := ⟨hrA (g5.pull 2).own, hrB (g5.pull 2).own⟩
                refine hK.out _ _ hS (fun _ => ?_)
                clear hK K
                refine wpAnyH_take (i := 14) (v := ?_) rfl (by kernel_rfl) (by kernel_rfl) (by kernel_rfl) (fun _ _ _ h => h) (Or.inl ⟨by rfl, ?_⟩) hS ?_
                rotate_left
                · (intro w' hS'; obtain ⟨j1, j2⟩ := hS'; go_simp; try with_reducible rfl)
                have kp := cell_of_heap (g5.pull 1).blk 2
                change w8.cell? _ = some (Value.slice none 0 0) at kp
                have fp := free_of_heap (g5.pull 1).blk 2
                have g6 := ((g5.pull 1).set 2 (.slice A2 (la + lb2) c2)).swap
                replace hS : (fun w' : World => w'.cell? ⟨g, a * 3 + 2, none⟩ = some (.slice (some ⟨xa, 0, none⟩) la cxa) ∧ w'.cell? ⟨g, b * 3 + 2, none⟩ = some (.slice (some ⟨xb, 0, none⟩) lb2 cxb)) _ := ⟨hrA (g6.pull 2).own, hrB (g6.pull 2).own⟩
                refine wpAnyH_ready (rs := [15]) (by kernel_rfl) (by simp) ?_
                refine AllReadyH.cons rfl (fun K hK => ?_) AllReadyH.nil
                go_simp
                refine hK.out _ _ hS (fun _ => ?_)
                clear hK K
                refine wpAnyH_done (by kernel_rfl) ?_ _
                clear hS Hn g4 g5 Hd kt kp fp hcA hcB hrA hrB hlA hlB h7
                obtain ⟨gd, cd, ed, _⟩ := g6.own.slice (by omega)
                simp only [Value.slice.injEq] at ed
                obtain ⟨rfl, _, rfl⟩ := ed
                obtain ⟨dl, hdl⟩ : ∃ dl, ds a ++ ds b = dl := ⟨_, rfl⟩
                obtain ⟨bl, hbl⟩ : ∃ bl, bs a ++ bs b = bl := ⟨_, rfl⟩
                rw [hdl, hbl] at HST
                rw [hdl] at HDE
                have hdln : dl.length = la + lb2 := by rw [← hdl, List.length_append, da, db]
                have hbln : bl.length = la + lb2 := by rw [← hbl, List.length_append, hla, hlb2]
                have h8 : St noB w (w8.setCell ⟨tt, 2, none⟩ (.slice (some ⟨gd, 0, none⟩) (la + lb2) c2)) (ownT 3 1 (.slice (some ⟨gd, 0, none⟩) (la + lb2) c2) (la + lb2) (intsV (incL dl 0)) :: blkT tt #[.int .u64 (sw : Nat), .slice Ab (la + lb2) cb2, .slice (some ⟨gd, 0, none⟩) (la + lb2) c2] 119 :: ownT 119 3 (.slice (some ⟨g, 0, none⟩) n c) n (rowL W vb vd n) :: lsI n vd ds :: ownT 3 1 (.slice Ab (la + lb2) cb2) (la + lb2) (intsV bl) :: lsI n vb bs :: [blkT tb (tabV .u8 (fun _ => 0)) 74, blkT ob (tabV .u8 (fun _ => 0)) 74, blkT lb T 76]) := by
                  rw [incL_zero, ← hdl, ← hbl, intsV_append, intsV_append]; exact g6
                clear g6 ea eb fa fb hla hlb2 da db hdl hbl
                generalize hmm : la + lb2 = m at *
                go_wp2_with fail
                generalize w8.setCell ⟨tt, 2, none⟩ (.slice (some ⟨gd, 0, none⟩) m c2) = w10 at h8 ⊢
                have HDN := Lib.hid hdln
                have HBN := Lib.hid hbln
                clear hdln hbln
                go_loopw [12] (fun v12 wq => ∃ q : Nat, v12 = .int .i64 q ∧ q ≤ m ∧ St noB w wq (ownT 3 1 (.slice (some ⟨gd, 0, none⟩) m c2) m (intsV (incL dl q)) :: blkT tt #[.int .u64 (sw : Nat), .slice Ab m cb2, .slice (some ⟨gd, 0, none⟩) m c2] 119 :: ownT 119 3 (.slice (some ⟨g, 0, none⟩) n c) n (rowL W vb vd n) :: lsI n vd ds :: ownT 3 1 (.slice Ab m cb2) m (intsV bl) :: lsI n vb bs :: [blkT tb (tabV .u8 (fun _ => 0)) 74, blkT ob (tabV .u8 (fun _ => 0)) 74, blkT lb T 76])) (fun v12 _ => m - (intOf v12).toNat)
                case atStart => exact ⟨0, rfl, Nat.zero_le _, h8⟩
                case round =>
                  clear h8
                  obtain ⟨q, rfl, hq, h⟩ := hrel
                  have kt := cell_of_heap (h.pull 1).blk 2
                  change World.cell? _ _ = some (Value.slice (some ⟨gd, 0, none⟩) m c2) at kt
                  by_cases hqm : q < m
                  · have hqi : (q : Int) < (m : Int) := by omega
                    have c0 := Own.cell h.own q (by omega)
                    have f0 := Own.free h.own q
                    rw [intsV_get _ _ (by rw [incL_len _ _ (by rw [HDN.out]; omega), HDN.out]; exact hqm), incL_get _ _ (by rw [HDN.out]; exact hqm)] at c0
                    have hx : dl.getD q 0 ≤ 256 := by
                      rw [List.getD_eq_getElem?_getD, List.getElem?_eq_getElem (by rw [HDN.out]; exact hqm)]
                      exact HDE.out _ (List.getElem_mem _)
                    have h9 := h.stored q (.int .i64 ((dl.getD q 0 + 1 : Nat) : Int))
                    rw [intsV_set, incL_set _ _ (by rw [HDN.out]; exact hqm)] at h9
                    clear h
                    generalize dl.getD q 0 = x at *
                    go_wp2_with fail
                    exact ⟨⟨q + 1, by go_num, by omega, h9⟩, by simp only [intOf]; omega⟩
                  · obtain rfl : q = m := by omega
                    have hqi : ¬ (q : Int) < (q : Int) := by omega
                    have eD : incL dl q = dl.map (· + 1) := by
                      have := incL_all dl
                      rw [HDN.out] at this; exact this
                    rw [eD] at h
                    have g1 := (h.pull 2).stored (a * 3 + 1) (.slice none 0 0)
                    rw [rowL_set _ _ _ _ _ han] at g1
                    have g2 := g1.stored (b * 3 + 1) (.slice none 0 0)
                    rw [rowL_set _ _ _ _ _ hbn] at g2
                    have ka := Own.cell (h.pull 2).own (a * 3 + 1) (by omega)
                    rw [rowL_get _ _ _ _ a 1 han (by omega)] at ka
                    change World.cell? _ _ = some (vb a) at ka
                    have fka := Own.free (h.pull 2).own (a * 3 + 1)
                    have kb := Own.cell g1.own (b * 3 + 1) (by omega)
                    rw [rowL_get _ _ _ _ b 1 hbn (by omega)] at kb
                    change World.cell? _ _ = some (updA vb a (.slice none 0 0) b) at kb
                    rw [updA_ne _ _ (fun e => hab e.symm)] at kb
                    have fkb := Own.free g1.own (b * 3 + 1)
                    generalize vb a = ua at ka
                    generalize vb b = ub at kb
                    obtain ⟨w11, hw11, g3⟩ := name_world (P := fun x => St noB w x _) g2
                    have HW11 := Lib.hid hw11
                    have hbt := Lib.hid (g3.pull 2).blk
                    have g4 := ((g3.pull 5).lsIKill a).lsIKill b
                    have g5 : St noB w w11 (ownT 3 1 (.slice Ab q cb2) bl.length (intsV bl) :: lsI n (updA (updA vb a (.slice none 0 0)) b (.slice none 0 0)) (updA (updA bs a []) b []) :: ownT 119 3 (.slice (some ⟨g, 0, none⟩) n c) n (rowL W (updA (updA vb a (.slice none 0 0)) b (.slice none 0 0)) vd n) :: ownT 3 1 (.slice (some ⟨gd, 0, none⟩) q c2) q (intsV (dl.map (· + 1))) :: blkT tt #[.int .u64 (sw : Nat), .slice Ab q cb2, .slice (some ⟨gd, 0, none⟩) q c2] 119 :: lsI n vd ds :: [blkT tb (tabV .u8 (fun _ => 0)) 74, blkT ob (tabV .u8 (fun _ => 0)) 74, blkT lb T 76]) := by
                      rw [HBN.out]; exact g4.pull 5
                    have g6 := (g5.lsIAdd).pull 4
                    have g7 : St noB w w11 (ownT 3 1 (.slice (some ⟨gd, 0, none⟩) q c2) (dl.map (· + 1)).length (intsV (dl.map (· + 1))) :: lsI n vd ds :: lsI (n + 1) (updA (updA (updA vb a (.slice none 0 0)) b (.slice none 0 0)) n (.slice Ab q cb2)) (updA (updA (updA bs a []) b []) n bl) :: ownT 119 3 (.slice (some ⟨g, 0, none⟩) n c) n (rowL W (updA (updA vb a (.slice none 0 0)) b (.slice none 0 0)) vd n) :: blkT tt #[.int .u64 (sw : Nat), .slice Ab q cb2, .slice (some ⟨gd, 0, none⟩) q c2] 119 :: [blkT tb (tabV .u8 (fun _ => 0)) 74, blkT ob (tabV .u8 (fun _ => 0)) 74, blkT lb T 76]) := by
                      rw [List.length_map, HDN.out]; exact g6.pull 3
                    have g8 := (((g7.lsIAdd).pull 1).pull 2).pull 3
                    have g9 := g8.drop
                    clear g1 g2 g3 g4 g5 g6 g7 g8 h hw11
                    go_wp2_with (first
                      | (with_reducible refine (show wpList _ _ _ _ _ (World.setCell _ _ _) from ?_); rw [HW11.out]; refine wpList_load_row rfl _ _ rfl tt rfl 119 _ (0, 0) _ hbt.out Tryz.underlying119 rfl (by kernel_rfl) ?_)
                      | (at_builtin; refine wpList_push rfl _ _ _ rfl 119 (.agg #[.int .u64 0, .slice none 0 0, .slice none 0 0]) 3 56 Tryz.underlying117 rtree_info rfl (by decide) g9 rfl rfl rfl (by intro q hq; simp at hq; rcases hq with rfl | rfl | rfl <;> rfl) (by unfold maxLen; omega) (by omega) ?_; intro A' c' w12 g10))
                    have g11 : St noB w w12 (ownT 119 3 (.slice A' (n + 1) c') (n + 1) (rowL (updA W n sw) (updA (updA (updA vb a (.slice none 0 0)) b (.slice none 0 0)) n (.slice Ab q cb2)) (updA vd n (.slice (some ⟨gd, 0, none⟩) q c2)) (n + 1)) :: lsI (n + 1) (updA (updA (updA vb a (.slice none 0 0)) b (.slice none 0 0)) n (.slice Ab q cb2)) (updA (updA (updA bs a []) b []) n bl) :: lsI (n + 1) (updA vd n (.slice (some ⟨gd, 0, none⟩) q c2)) (updA ds n (dl.map (· + 1))) :: [blkT tb (tabV .u8 (fun _ => 0)) 74, blkT ob (tabV .u8 (fun _ => 0)) 74, blkT lb T 76]) := by
                      rw [rowL_new]; exact g10
                    exact ⟨⟨s', d', _, _, _, _, _, A', c', k + 1, by rw [HLN.out.1], by go_num, by rw [HLN.out.2]; omega, by rw [HLN.out.2]; omega, Lib.hid (HST.out (.slice Ab q cb2)), HDD, by rw [HLN.out.1]; exact g11⟩, by simp only [intOf]; omega⟩
              · have hsw : sumW wa wb = 18446744073709551615 := by unfold sumW; rw [if_neg hov]
                rw [hsw] at HST
                have hwr : IntKind.u64.wrap ((wa : Int) + (wb : Int)) = ((wa + wb - 18446744073709551616 : Nat) : Int) := by rw [IntKind.wrap_u64]; omega
                have hlt2 : ((wa + wb - 18446744073709551616 : Nat) : Int) < (wa : Int) := by omega
                clear hsw
                generalize wa + wb - 18446744073709551616 = sq at hwr hlt2
                go_wp2_with fail
                (refine wp_region_after (by kernel_rfl) (by kernel_rfl) ?_; (repeat (first | go_big_quiet_skip | (go_big_quiet_want; first | (fail; simp only [Act.put, List.setIfInBounds_toArray, List.set_cons_succ, List.set_cons_zero]; go_big_quiet_on) | (go_big_quiet_op; first | go_big_quiet_on | (apply Exists.intro; refine ⟨fun _ => ?_, ?_⟩; (· (fail)); go_big_quiet_on))))); refine wpQuiet_nil ?_; rintro _ ⟨y, rfl⟩)
                have h4 := h3.ext y.ext
                have qa4 := Ext.cell y.ext qa3
                clear ra0 rb0 qa3 qb3 h3
                have h5 := h4.alloc #[.int .u64 0, .slice none 0 0, .slice none 0 0] 119
                have hq := Lib.hid h5.blk
                obtain ⟨w5, hw5, h6⟩ := name_world (P := fun x => St noB w x _) (h5.row #[.int .u64 (18446744073709551615 : Nat), .slice none 0 0, .slice none 0 0])
                have HW5 := Lib.hid hw5
                clear h5 hw5 h4
                go_wp2_with (with_reducible refine (show wpList _ _ _ _ _ (World.alloc _ _) from ?_); refine wpList_store_row rfl _ _ _ rfl y.w.heap.size #[.int .u64 (18446744073709551615 : Nat), .slice none 0 0, .slice none 0 0] rfl rfl 119 #[.int .u64 0, .slice none 0 0, .slice none 0 0] hq.out (by kernel_rfl) rfl (by simp [Value.oneCell']) ?_; rw [HW5.out])
                generalize y.w.heap.size = tt at h6 ⊢
                clear hq HW5 qa4
                have hcA : ∀ {w' : World} {L : List Thing}, St noB w w' (lsI n vb bs :: L) → ∀ j u, (intsV (bs a))[j]? = some u → w'.cell? ((⟨ga, 0, none⟩ : Addr).add j) = some u := fun h => by have := h.lsIGet a han; rw [ea, hla] at this; exact this.cellsI
                have hcB : ∀ {w' : World} {L : List Thing}, St noB w w' (lsI n vb bs :: L) → ∀ j u, (intsV (bs b))[j]? = some u → w'.cell? ((⟨gb, 0, none⟩ : Addr).add j) = some u := fun h => by have := h.lsIGet b hbn; rw [eb, hlb2] at this; exact this.cellsI
                have hrA : ∀ {w' : World}, Own w' 119 3 (.slice (some ⟨g, 0, none⟩) n c) n (rowL W vb vd n) → w'.cell? ⟨g, a * 3 + 1, none⟩ = some (.slice (some ⟨ga, 0, none⟩) la cpa) := fun h => by
                  have := Own.cell h (a * 3 + 1) (by omega)
                  rw [rowL_get _ _ _ _ a 1 han (by omega)] at this
                  rw [this]; show some (vb a) = _; rw [ea]
                have hrB : ∀ {w' : World}, Own w' 119 3 (.slice (some ⟨g, 0, none⟩) n c) n (rowL W vb vd n) → w'.cell? ⟨g, b * 3 + 1, none⟩ = some (.slice (some ⟨gb, 0, none⟩) lb2 cpb) := fun h => by
                  have := Own.cell h (b * 3 + 1) (by omega)
                  rw [rowL_get _ _ _ _ b 1 hbn (by omega)] at this
                  rw [this]; show some (vb b) = _; rw [eb]
                have hlA : (intsV (bs a)).length = la := by rw [intsV_len, hla]
                have hlB : (intsV (bs b)).length = lb2 := by rw [intsV_len, hlb2]
                have Hd := h6.ext ((Mut.refl noB w5).drew)
                have kt := cell_of_heap h6.blk 1
                change w5.cell? _ = some (Value.slice none 0 0) at kt
                have hS : (fun w' : World => w'.cell? ⟨g, a * 3 + 1, none⟩ = some (.slice (some ⟨ga, 0, none⟩) la cpa) ∧ w'.cell? ⟨g, b * 3 + 1, none⟩ = some (.slice (some ⟨gb, 0, none⟩) lb2 cpb)) w5.drew := ⟨hrA (Hd.pull 1).own, hrB (Hd.pull 1).own⟩
                refine wp_region_held (S := fun w' : World => w'.cell? ⟨g, a * 3 + 1, none⟩ = some (.slice (some ⟨ga, 0, none⟩) la cpa) ∧ w'.cell? ⟨g, b * 3 + 1, none⟩ = some (.slice (some ⟨gb, 0, none⟩) lb2 cpb)) (by kernel_rfl) ?_
                change wpAnyH _ _ _ _ _ _ _ _ (World.drew _)
                refine wpAnyH_take (i := 0) (v := ?_) rfl (by kernel_rfl) (by kernel_rfl) (by kernel_rfl) (fun _ _ _ h => h) (Or.inl ⟨by rfl, ?_⟩) hS ?_
                rotate_left
                · (intro w' hS'; obtain ⟨j1, j2⟩ := hS'; go_simp; try with_reducible rfl)
                refine wpAnyH_take (i := 2) (v := ?_) rfl (by kernel_rfl) (by kernel_rfl) (by kernel_rfl) (fun _ _ _ h => h) (Or.inl ⟨by rfl, ?_⟩) hS ?_
                rotate_left
                · (intro w' hS'; obtain ⟨j1, j2⟩ := hS'; go_simp; try with_reducible rfl)
                refine wpAnyH_take (i := 3) (v := ?_) rfl (by kernel_rfl) (by kernel_rfl) (by kernel_rfl) (fun _ _ _ h => h) (Or.inl ⟨by rfl, ?_⟩) hS ?_
                rotate_left
                · (intro w' hS'; obtain ⟨j1, j2⟩ := hS'; go_simp; try with_reducible rfl)
                refine wpAnyH_take (i := 4) (v := ?_) rfl (by kernel_rfl) (by kernel_rfl) (by kernel_rfl) (fun _ _ _ h => h) (Or.inl ⟨by rfl, ?_⟩) hS ?_
                rotate_left
                · (intro w' hS'; obtain ⟨j1, j2⟩ := hS'; go_simp; try with_reducible rfl)
                refine wpAnyH_take (i := 5) (v := ?_) rfl (by kernel_rfl) (by kernel_rfl) (by kernel_rfl) (fun _ _ _ h => h) (Or.inl ⟨by rfl, ?_⟩) hS ?_
                rotate_left
                · (intro w' hS'; obtain ⟨j1, j2⟩ := hS'; go_simp; try with_reducible rfl)
                refine wpAnyH_take (i := 6) (v := ?_) rfl (by kernel_rfl) (by kernel_rfl) (by kernel_rfl) (fun _ _ _ h => h) (Or.inl ⟨by rfl, ?_⟩) hS ?_
                rotate_left
                · (intro w' hS'; obtain ⟨j1, j2⟩ := hS'; go_simp; try with_reducible rfl)
                refine wpAnyH_take (i := 8) (v := ?_) rfl (by kernel_rfl) (by kernel_rfl) (by kernel_rfl) (fun _ _ _ h => h) (Or.inl ⟨by rfl, ?_⟩) hS ?_
                rotate_left
                · (intro w' hS'; obtain ⟨j1, j2⟩ := hS'; go_simp; try with_reducible rfl)
                refine wpAnyH_take (i := 9) (v := ?_) rfl (by kernel_rfl) (by kernel_rfl) (by kernel_rfl) (fun _ _ _ h => h) (Or.inl ⟨by rfl, ?_⟩) hS ?_
                rotate_left
                · (intro w' hS'; obtain ⟨j1, j2⟩ := hS'; go_simp; try with_reducible rfl)
                refine wpAnyH_take (i := 10) (v := ?_) rfl (by kernel_rfl) (by kernel_rfl) (by kernel_rfl) (fun _ _ _ h => h) (Or.inl ⟨by rfl, ?_⟩) hS ?_
                rotate_left
                · (intro w' hS'; obtain ⟨j1, j2⟩ := hS'; go_simp; try with_reducible rfl)
                refine wpAnyH_take (i := 11) (v := ?_) rfl (by kernel_rfl) (by kernel_rfl) (by kernel_rfl) (fun _ _ _ h => h) (Or.inl ⟨by rfl, ?_⟩) hS ?_
                rotate_left
                · (intro w' hS'; obtain ⟨j1, j2⟩ := hS'; go_simp; try with_reducible rfl)
                refine wpAnyH_take (i := 12) (v := ?_) rfl (by kernel_rfl) (by kernel_rfl) (by kernel_rfl) (fun _ _ _ h => h) (Or.inl ⟨by rfl, ?_⟩) hS ?_
                rotate_left
                · (intro w' hS'; obtain ⟨j1, j2⟩ := hS'; go_simp; try with_reducible rfl)
                refine wpAnyH_ready (rs := [1]) (by kernel_rfl) (by simp) ?_
                refine AllReadyH.cons rfl (fun K hK => ?_) AllReadyH.nil
                go_simp
                refine hK.out _ _ hS (fun _ => ?_)
                clear hK K
                have Hn := Hd.nilOwn 3 1
                refine wpAnyH_ready (rs := [7]) (by kernel_rfl) (by simp) ?_
                refine AllReadyH.cons rfl (fun K hK => ?_) AllReadyH.nil
                refine step_pushAll rfl _ _ _ rfl 3 (.int .i64 0) 1 8 Tryz.underlying49 int_info rfl (by decide) Hn ⟨ga, 0, none⟩ la cpa (intsV (bs a)) rfl rfl (by rw [Nat.mul_one]; exact hlA) (hcA (Hn.pull 3)) (intsV_one _) (by unfold maxLen; omega) (by omega) ?_
                intro A1 c1 w7 g4
                simp only [Nat.zero_add, List.nil_append] at g4 ⊢
                replace hS : (fun w' : World => w'.cell? ⟨g, a * 3 + 1, none⟩ = some (.slice (some ⟨ga, 0, none⟩) la cpa) ∧ w'.cell? ⟨g, b * 3 + 1, none⟩ = some (.slice (some ⟨gb, 0, none⟩) lb2 cpb)) w7 := ⟨hrA (g4.pull 2).own, hrB (g4.pull 2).own⟩
                refine hK.out _ _ hS (fun _ => ?_)
                clear hK K
                refine wpAnyH_ready (rs := [13]) (by kernel_rfl) (by simp) ?_
                refine AllReadyH.cons rfl (fun K hK => ?_) AllReadyH.nil
                refine step_pushAll rfl _ _ _ rfl 3 (.int .i64 0) 1 8 Tryz.underlying49 int_info rfl (by decide) g4 ⟨gb, 0, none⟩ lb2 cpb (intsV (bs b)) rfl rfl (by rw [Nat.mul_one]; exact hlB) (hcB (g4.pull 3)) (intsV_one _) (by unfold maxLen; omega) (by omega) ?_
                intro A2 c2 w8 g5
                replace hS : (fun w' : World => w'.cell? ⟨g, a * 3 + 1, none⟩ = some (.slice (some ⟨ga, 0, none⟩) la cpa) ∧ w'.cell? ⟨g, b * 3 + 1, none⟩ = some (.slice (some ⟨gb, 0, none⟩) lb2 cpb)) w8 := ⟨hrA (g5.pull 2).own, hrB (g5.pull 2).own⟩
                refine hK.out _ _ hS (fun _ => ?_)
                clear hK K
                refine wpAnyH_take (i := 14) (v := ?_) rfl (by kernel_rfl) (by kernel_rfl) (by kernel_rfl) (fun _ _ _ h => h) (Or.inl ⟨by rfl, ?_⟩) hS ?_
                rotate_left
                · (intro w' hS'; obtain ⟨j1, j2⟩ := hS'; go_simp; try with_reducible rfl)
                have kp := cell_of_heap (g5.pull 1).blk 1
                change w8.cell? _ = some (Value.slice none 0 0) at kp
                have fp := free_of_heap (g5.pull 1).blk 1
                have g6 := ((g5.pull 1).set 1 (.slice A2 (la + lb2) c2)).swap
                replace hS : (fun w' : World => w'.cell? ⟨g, a * 3 + 1, none⟩ = some (.slice (some ⟨ga, 0, none⟩) la cpa) ∧ w'.cell? ⟨g, b * 3 + 1, none⟩ = some (.slice (some ⟨gb, 0, none⟩) lb2 cpb)) _ := ⟨hrA (g6.pull 2).own, hrB (g6.pull 2).own⟩
                refine wpAnyH_ready (rs := [15]) (by kernel_rfl) (by simp) ?_
                refine AllReadyH.cons rfl (fun K hK => ?_) AllReadyH.nil
                go_simp
                refine hK.out _ _ hS (fun _ => ?_)
                clear hK K
                refine wpAnyH_done (by kernel_rfl) ?_ _
                clear hS Hn g4 g5 Hd kt kp fp hcA hcB hrA hrB hlA hlB h6
                have h7 : St noB w (w8.setCell ⟨tt, 1, none⟩ (.slice A2 (la + lb2) c2)) (blkT tt #[.int .u64 (18446744073709551615 : Nat), .slice A2 (la + lb2) c2, .slice none 0 0] 119 :: ownT 119 3 (.slice (some ⟨g, 0, none⟩) n c) n (rowL W vb vd n) :: lsI n vd ds :: ownT 3 1 (.slice A2 (la + lb2) c2) (la + lb2) (intsV (bs a) ++ intsV (bs b)) :: lsI n vb bs :: [blkT tb (tabV .u8 (fun _ => 0)) 74, blkT ob (tabV .u8 (fun _ => 0)) 74, blkT lb T 76]) := ((g6.pull 4).pull 3).pull 3
                clear g6
                go_wp2_with fail
                generalize w8.setCell ⟨tt, 1, none⟩ (.slice A2 (la + lb2) c2) = w9 at h7 ⊢
                generalize A2 = Ab at *
                generalize c2 = cb2 at *
                have hcA : ∀ {w' : World} {L : List Thing}, St noB w w' (lsI n vd ds :: L) → ∀ j u, (intsV (ds a))[j]? = some u → w'.cell? ((⟨xa, 0, none⟩ : Addr).add j) = some u := fun h => by have := h.lsIGet a han; rw [fa, da] at this; exact this.cellsI
                have hcB : ∀ {w' : World} {L : List Thing}, St noB w w' (lsI n vd ds :: L) → ∀ j u, (intsV (ds b))[j]? = some u → w'.cell? ((⟨xb, 0, none⟩ : Addr).add j) = some u := fun h => by have := h.lsIGet b hbn; rw [fb, db] at this; exact this.cellsI
                have hrA : ∀ {w' : World}, Own w' 119 3 (.slice (some ⟨g, 0, none⟩) n c) n (rowL W vb vd n) → w'.cell? ⟨g, a * 3 + 2, none⟩ = some (.slice (some ⟨xa, 0, none⟩) la cxa) := fun h => by
                  have := Own.cell h (a * 3 + 2) (by omega)
                  rw [rowL_get _ _ _ _ a 2 han (by omega)] at this
                  rw [this]; show some (vd a) = _; rw [fa]
                have hrB : ∀ {w' : World}, Own w' 119 3 (.slice (some ⟨g, 0, none⟩) n c) n (rowL W vb vd n) → w'.cell? ⟨g, b * 3 + 2, none⟩ = some (.slice (some ⟨xb, 0, none⟩) lb2 cxb) := fun h => by
                  have := Own.cell h (b * 3 + 2) (by omega)
                  rw [rowL_get _ _ _ _ b 2 hbn (by omega)] at this
                  rw [this]; show some (vd b) = _; rw [fb]
                have hlA : (intsV (ds a)).length = la := by rw [intsV_len, da]
                have hlB : (intsV (ds b)).length = lb2 := by rw [intsV_len, db]
                have Hd := h7.ext ((Mut.refl noB w9).drew)
                have kt := cell_of_heap h7.blk 2
                change w9.cell? _ = some (Value.slice none 0 0) at kt
                have hS : (fun w' : World => w'.cell? ⟨g, a * 3 + 2, none⟩ = some (.slice (some ⟨xa, 0, none⟩) la cxa) ∧ w'.cell? ⟨g, b * 3 + 2, none⟩ = some (.slice (some ⟨xb, 0, none⟩) lb2 cxb)) w9.drew := ⟨hrA (Hd.pull 1).own, hrB (Hd.pull 1).own⟩
                refine wp_region_held (S := fun w' : World => w'.cell? ⟨g, a * 3 + 2, none⟩ = some (.slice (some ⟨xa, 0, none⟩) la cxa) ∧ w'.cell? ⟨g, b * 3 + 2, none⟩ = some (.slice (some ⟨xb, 0, none⟩) lb2 cxb)) (by kernel_rfl) ?_
                change wpAnyH _ _ _ _ _ _ _ _ (World.drew _)
                refine wpAnyH_take (i := 0) (v := ?_) rfl (by kernel_rfl) (by kernel_rfl) (by kernel_rfl) (fun _ _ _ h => h) (Or.inl ⟨by rfl, ?_⟩) hS ?_
                rotate_left
                · (intro w' hS'; obtain ⟨j1, j2⟩ := hS'; go_simp; try with_reducible rfl)
                refine wpAnyH_take (i := 2) (v := ?_) rfl (by kernel_rfl) (by kernel_rfl) (by kernel_rfl) (fun _ _ _ h => h) (Or.inl ⟨by rfl, ?_⟩) hS ?_
                rotate_left
                · (intro w' hS'; obtain ⟨j1, j2⟩ := hS'; go_simp; try with_reducible rfl)
                refine wpAnyH_take (i := 3) (v := ?_) rfl (by kernel_rfl) (by kernel_rfl) (by kernel_rfl) (fun _ _ _ h => h) (Or.inl ⟨by rfl, ?_⟩) hS ?_
                rotate_left
                · (intro w' hS'; obtain ⟨j1, j2⟩ := hS'; go_simp; try with_reducible rfl)
                refine wpAnyH_take (i := 4) (v := ?_) rfl (by kernel_rfl) (by kernel_rfl) (by kernel_rfl) (fun _ _ _ h => h) (Or.inl ⟨by rfl, ?_⟩) hS ?_
                rotate_left
                · (intro w' hS'; obtain ⟨j1, j2⟩ := hS'; go_simp; try with_reducible rfl)
                refine wpAnyH_take (i := 5) (v := ?_) rfl (by kernel_rfl) (by kernel_rfl) (by kernel_rfl) (fun _ _ _ h => h) (Or.inl ⟨by rfl, ?_⟩) hS ?_
                rotate_left
                · (intro w' hS'; obtain ⟨j1, j2⟩ := hS'; go_simp; try with_reducible rfl)
                refine wpAnyH_take (i := 6) (v := ?_) rfl (by kernel_rfl) (by kernel_rfl) (by kernel_rfl) (fun _ _ _ h => h) (Or.inl ⟨by rfl, ?_⟩) hS ?_
                rotate_left
                · (intro w' hS'; obtain ⟨j1, j2⟩ := hS'; go_simp; try with_reducible rfl)
                refine wpAnyH_take (i := 8) (v := ?_) rfl (by kernel_rfl) (by kernel_rfl) (by kernel_rfl) (fun _ _ _ h => h) (Or.inl ⟨by rfl, ?_⟩) hS ?_
                rotate_left
                · (intro w' hS'; obtain ⟨j1, j2⟩ := hS'; go_simp; try with_reducible rfl)
                refine wpAnyH_take (i := 9) (v := ?_) rfl (by kernel_rfl) (by kernel_rfl) (by kernel_rfl) (fun _ _ _ h => h) (Or.inl ⟨by rfl, ?_⟩) hS ?_
                rotate_left
                · (intro w' hS'; obtain ⟨j1, j2⟩ := hS'; go_simp; try with_reducible rfl)
                refine wpAnyH_take (i := 10) (v := ?_) rfl (by kernel_rfl) (by kernel_rfl) (by kernel_rfl) (fun _ _ _ h => h) (Or.inl ⟨by rfl, ?_⟩) hS ?_
                rotate_left
                · (intro w' hS'; obtain ⟨j1, j2⟩ := hS'; go_simp; try with_reducible rfl)
                refine wpAnyH_take (i := 11) (v := ?_) rfl (by kernel_rfl) (by kernel_rfl) (by kernel_rfl) (fun _ _ _ h => h) (Or.inl ⟨by rfl, ?_⟩) hS ?_
                rotate_left
                · (intro w' hS'; obtain ⟨j1, j2⟩ := hS'; go_simp; try with_reducible rfl)
                refine wpAnyH_take (i := 12) (v := ?_) rfl (by kernel_rfl) (by kernel_rfl) (by kernel_rfl) (fun _ _ _ h => h) (Or.inl ⟨by rfl, ?_⟩) hS ?_
                rotate_left
                · (intro w' hS'; obtain ⟨j1, j2⟩ := hS'; go_simp; try with_reducible rfl)
                refine wpAnyH_ready (rs := [1]) (by kernel_rfl) (by simp) ?_
                refine AllReadyH.cons rfl (fun K hK => ?_) AllReadyH.nil
                go_simp
                refine hK.out _ _ hS (fun _ => ?_)
                clear hK K
                have Hn := Hd.nilOwn 3 1
                refine wpAnyH_ready (rs := [7]) (by kernel_rfl) (by simp) ?_
                refine AllReadyH.cons rfl (fun K hK => ?_) AllReadyH.nil
                refine step_pushAll rfl _ _ _ rfl 3 (.int .i64 0) 1 8 Tryz.underlying49 int_info rfl (by decide) Hn ⟨xa, 0, none⟩ la cxa (intsV (ds a)) rfl rfl (by rw [Nat.mul_one]; exact hlA) (hcA (Hn.pull 3)) (intsV_one _) (by unfold maxLen; omega) (by omega) ?_
                intro A1 c1 w7 g4
                simp only [Nat.zero_add, List.nil_append] at g4 ⊢
                replace hS : (fun w' : World => w'.cell? ⟨g, a * 3 + 2, none⟩ = some (.slice (some ⟨xa, 0, none⟩) la cxa) ∧ w'.cell? ⟨g, b * 3 + 2, none⟩ = some (.slice (some ⟨xb, 0, none⟩) lb2 cxb)) w7 := ⟨hrA (g4.pull 2).own, hrB (g4.pull 2).own⟩
                refine hK.out _ _ hS (fun _ => ?_)
                clear hK K
                refine wpAnyH_ready (rs := [13]) (by kernel_rfl) (by simp) ?_
                refine AllReadyH.cons rfl (fun K hK => ?_) AllReadyH.nil
                refine step_pushAll rfl _ _ _ rfl 3 (.int .i64 0) 1 8 Tryz.underlying49 int_info rfl (by decide) g4 ⟨xb, 0, none⟩ lb2 cxb (intsV (ds b)) rfl rfl (by rw [Nat.mul_one]; exact hlB) (hcB (g4.pull 3)) (intsV_one _) (by unfold maxLen; omega) (by omega) ?_
                intro A2 c2 w8 g5
                replace hS : (fun w' : World => w'.cell? ⟨g, a * 3 + 2, none⟩ = some (.slice (some ⟨xa, 0, none⟩) la cxa) ∧ w'.cell? ⟨g, b * 3 + 2, none⟩ = some (.slice (some ⟨xb, 0, none⟩) lb2 cxb)) w8 := ⟨hrA (g5.pull 2).own, hrB (g5.pull 2).own⟩
                refine hK.out _ _ hS (fun _ => ?_)
                clear hK K
                refine wpAnyH_take (i := 14) (v := ?_) rfl (by kernel_rfl) (by kernel_rfl) (by kernel_rfl) (fun _ _ _ h => h) (Or.inl ⟨by rfl, ?_⟩) hS ?_
                rotate_left
                · (intro w' hS'; obtain ⟨j1, j2⟩ := hS'; go_simp; try with_reducible rfl)
                have kp := cell_of_heap (g5.pull 1).blk 2
                change w8.cell? _ = some (Value.slice none 0 0) at kp
                have fp := free_of_heap (g5.pull 1).blk 2
                have g6 := ((g5.pull 1).set 2 (.slice A2 (la + lb2) c2)).swap
                replace hS : (fun w' : World => w'.cell? ⟨g, a * 3 + 2, none⟩ = some (.slice (some ⟨xa, 0, none⟩) la cxa) ∧ w'.cell? ⟨g, b * 3 + 2, none⟩ = some (.slice (some ⟨xb, 0, none⟩) lb2 cxb)) _ := ⟨hrA (g6.pull 2).own, hrB (g6.pull 2).own⟩
                refine wpAnyH_ready (rs := [15]) (by kernel_rfl) (by simp) ?_
                refine AllReadyH.cons rfl (fun K hK => ?_) AllReadyH.nil
                go_simp
                refine hK.out _ _ hS (fun _ => ?_)
                clear hK K
                refine wpAnyH_done (by kernel_rfl) ?_ _
                clear hS Hn g4 g5 Hd kt kp fp hcA hcB hrA hrB hlA hlB h7
                obtain ⟨gd, cd, ed, _⟩ := g6.own.slice (by omega)
                simp only [Value.slice.injEq] at ed
                obtain ⟨rfl, _, rfl⟩ := ed
                obtain ⟨dl, hdl⟩ : ∃ dl, ds a ++ ds b = dl := ⟨_, rfl⟩
                obtain ⟨bl, hbl⟩ : ∃ bl, bs a ++ bs b = bl := ⟨_, rfl⟩
                rw [hdl, hbl] at HST
                rw [hdl] at HDE
                have hdln : dl.length = la + lb2 := by rw [← hdl, List.length_append, da, db]
                have hbln : bl.length = la + lb2 := by rw [← hbl, List.length_append, hla, hlb2]
                have h8 : St noB w (w8.setCell ⟨tt, 2, none⟩ (.slice (some ⟨gd, 0, none⟩) (la + lb2) c2)) (ownT 3 1 (.slice (some ⟨gd, 0, none⟩) (la + lb2) c2) (la + lb2) (intsV (incL dl 0)) :: blkT tt #[.int .u64 (18446744073709551615 : Nat), .slice Ab (la + lb2) cb2, .slice (some ⟨gd, 0, none⟩) (la + lb2) c2] 119 :: ownT 119 3 (.slice (some ⟨g, 0, none⟩) n c) n (rowL W vb vd n) :: lsI n vd ds :: ownT 3 1 (.slice Ab (la + lb2) cb2) (la + lb2) (intsV bl) :: lsI n vb bs :: [blkT tb (tabV .u8 (fun _ => 0)) 74, blkT ob (tabV .u8 (fun _ => 0)) 74, blkT lb T 76]) := by
                  rw [incL_zero, ← hdl, ← hbl, intsV_append, intsV_append]; exact g6
                clear g6 ea eb fa fb hla hlb2 da db hdl hbl
                generalize hmm : la + lb2 = m at *
                go_wp2_with fail
                generalize w8.setCell ⟨tt, 2, none⟩ (.slice (some ⟨gd, 0, none⟩) m c2) = w10 at h8 ⊢
                have HDN := Lib.hid hdln
                have HBN := Lib.hid hbln
                clear hdln hbln
                go_loopw [12] (fun v12 wq => ∃ q : Nat, v12 = .int .i64 q ∧ q ≤ m ∧ St noB w wq (ownT 3 1 (.slice (some ⟨gd, 0, none⟩) m c2) m (intsV (incL dl q)) :: blkT tt #[.int .u64 (18446744073709551615 : Nat), .slice Ab m cb2, .slice (some ⟨gd, 0, none⟩) m c2] 119 :: ownT 119 3 (.slice (some ⟨g, 0, none⟩) n c) n (rowL W vb vd n) :: lsI n vd ds :: ownT 3 1 (.slice Ab m cb2) m (intsV bl) :: lsI n vb bs :: [blkT tb (tabV .u8 (fun _ => 0)) 74, blkT ob (tabV .u8 (fun _ => 0)) 74, blkT lb T 76])) (fun v12 _ => m - (intOf v12).toNat)
                case atStart => exact ⟨0, rfl, Nat.zero_le _, h8⟩
                case round =>
                  clear h8
                  obtain ⟨q, rfl, hq, h⟩ := hrel
                  have kt := cell_of_heap (h.pull 1).blk 2
                  change World.cell? _ _ = some (Value.slice (some ⟨gd, 0, none⟩) m c2) at kt
                  by_cases hqm : q < m
                  · have hqi : (q : Int) < (m : Int) := by omega
                    have c0 := Own.cell h.own q (by omega)
                    have f0 := Own.free h.own q
                    rw [intsV_get _ _ (by rw [incL_len _ _ (by rw [HDN.out]; omega), HDN.out]; exact hqm), incL_get _ _ (by rw [HDN.out]; exact hqm)] at c0
                    have hx : dl.getD q 0 ≤ 256 := by
                      rw [List.getD_eq_getElem?_getD, List.getElem?_eq_getElem (by rw [HDN.out]; exact hqm)]
                      exact HDE.out _ (List.getElem_mem _)
                    have h9 := h.stored q (.int .i64 ((dl.getD q 0 + 1 : Nat) : Int))
                    rw [intsV_set, incL_set _ _ (by rw [HDN.out]; exact hqm)] at h9
                    clear h
                    generalize dl.getD q 0 = x at *
                    go_wp2_with fail
                    exact ⟨⟨q + 1, by go_num, by omega, h9⟩, by simp only [intOf]; omega⟩
                  · obtain rfl : q = m := by omega
                    have hqi : ¬ (q : Int) < (q : Int) := by omega
                    have eD : incL dl q = dl.map (· + 1) := by
                      have := incL_all dl
                      rw [HDN.out] at this; exact this
                    rw [eD] at h
                    have g1 := (h.pull 2).stored (a * 3 + 1) (.slice none 0 0)
                    rw [rowL_set _ _ _ _ _ han] at g1
                    have g2 := g1.stored (b * 3 + 1) (.slice none 0 0)
                    rw [rowL_set _ _ _ _ _ hbn] at g2
                    have ka := Own.cell (h.pull 2).own (a * 3 + 1) (by omega)
                    rw [rowL_get _ _ _ _ a 1 han (by omega)] at ka
                    change World.cell? _ _ = some (vb a) at ka
                    have fka := Own.free (h.pull 2).own (a * 3 + 1)
                    have kb := Own.cell g1.own (b * 3 + 1) (by omega)
                    rw [rowL_get _ _ _ _ b 1 hbn (by omega)] at kb
                    change World.cell? _ _ = some (updA vb a (.slice none 0 0) b) at kb
                    rw [updA_ne _ _ (fun e => hab e.symm)] at kb
                    have fkb := Own.free g1.own (b * 3 + 1)
                    generalize vb a = ua at ka
                    generalize vb b = ub at kb
                    obtain ⟨w11, hw11, g3⟩ := name_world (P := fun x => St noB w x _) g2
                    have HW11 := Lib.hid hw11
                    have hbt := Lib.hid (g3.pull 2).blk
                    have g4 := ((g3.pull 5).lsIKill a).lsIKill b
                    have g5 : St noB w w11 (ownT 3 1 (.slice Ab q cb2) bl.length (intsV bl) :: lsI n (updA (updA vb a (.slice none 0 0)) b (.slice none 0 0)) (updA (updA bs a []) b []) :: ownT 119 3 (.slice (some ⟨g, 0, none⟩) n c) n (rowL W (updA (updA vb a (.slice none 0 0)) b (.slice none 0 0)) vd n) :: ownT 3 1 (.slice (some ⟨gd, 0, none⟩) q c2) q (intsV (dl.map (· + 1))) :: blkT tt #[.int .u64 (18446744073709551615 : Nat), .slice Ab q cb2, .slice (some ⟨gd, 0, none⟩) q c2] 119 :: lsI n vd ds :: [blkT tb (tabV .u8 (fun _ => 0)) 74, blkT ob (tabV .u8 (fun _ => 0)) 74, blkT lb T 76]) := by
                      rw [HBN.out]; exact g4.pull 5
                    have g6 := (g5.lsIAdd).pull 4
                    have g7 : St noB w w11 (ownT 3 1 (.slice (some ⟨gd, 0, none⟩) q c2) (dl.map (· + 1)).length (intsV (dl.map (· + 1))) :: lsI n vd ds :: lsI (n + 1) (updA (updA (updA vb a (.slice none 0 0)) b (.slice none 0 0)) n (.slice Ab q cb2)) (updA (updA (updA bs a []) b []) n bl) :: ownT 119 3 (.slice (some ⟨g, 0, none⟩) n c) n (rowL W (updA (updA vb a (.slice none 0 0)) b (.slice none 0 0)) vd n) :: blkT tt #[.int .u64 (18446744073709551615 : Nat), .slice Ab q cb2, .slice (some ⟨gd, 0, none⟩) q c2] 119 :: [blkT tb (tabV .u8 (fun _ => 0)) 74, blkT ob (tabV .u8 (fun _ => 0)) 74, blkT lb T 76]) := by
                      rw [List.length_map, HDN.out]; exact g6.pull 3
                    have g8 := (((g7.lsIAdd).pull 1).pull 2).pull 3
                    have g9 := g8.drop
                    clear g1 g2 g3 g4 g5 g6 g7 g8 h hw11
                    go_wp2_with (first
                      | (with_reducible refine (show wpList _ _ _ _ _ (World.setCell _ _ _) from ?_); rw [HW11.out]; refine wpList_load_row rfl _ _ rfl tt rfl 119 _ (0, 0) _ hbt.out Tryz.underlying119 rfl (by kernel_rfl) ?_)
                      | (at_builtin; refine wpList_push rfl _ _ _ rfl 119 (.agg #[.int .u64 0, .slice none 0 0, .slice none 0 0]) 3 56 Tryz.underlying117 rtree_info rfl (by decide) g9 rfl rfl rfl (by intro q hq; simp at hq; rcases hq with rfl | rfl | rfl <;> rfl) (by unfold maxLen; omega) (by omega) ?_; intro A' c' w12 g10))
                    have g11 : St noB w w12 (ownT 119 3 (.slice A' (n + 1) c') (n + 1) (rowL (updA W n 18446744073709551615) (updA (updA (updA vb a (.slice none 0 0)) b (.slice none 0 0)) n (.slice Ab q cb2)) (updA vd n (.slice (some ⟨gd, 0, none⟩) q c2)) (n + 1)) :: lsI (n + 1) (updA (updA (updA vb a (.slice none 0 0)) b (.slice none 0 0)) n (.slice Ab q cb2)) (updA (updA (updA bs a []) b []) n bl) :: lsI (n + 1) (updA vd n (.slice (some ⟨gd, 0, none⟩) q c2)) (updA ds n (dl.map (· + 1))) :: [blkT tb (tabV .u8 (fun _ => 0)) 74, blkT ob (tabV .u8 (fun _ => 0)) 74, blkT lb T 76]) := by
                      rw [rowL_new]; exact g10
                    exact ⟨⟨s', d', _, _, _, _, _, A', c', k + 1, by rw [HLN.out.1], by go_num, by rw [HLN.out.2]; omega, by rw [HLN.out.2]; omega, Lib.hid (HST.out (.slice Ab q cb2)), HDD, by rw [HLN.out.1]; exact g11⟩, by simp only [intOf]; omega⟩
            · have hk1 : ¬ (k : Int) < (N : Int) := by omega
              have hl1 : s.l.length = 1 := by omega
              obtain ⟨hn0', hdd, pb, hdb, hb256, hby, hout⟩ := HRR.out.done hl1
              have HR2 : Hid (outF (bs (s.n - 1)) (ds (s.n - 1)) (bs (s.n - 1)).length = R) := Lib.hid (by rw [hout, HDF.out, ← HD.out, hdd])
              have hfew := HRR.out.ok.few
              obtain ⟨g, cg, eg, _⟩ := h.own.slice hn0'
              simp only [Value.slice.injEq] at eg
              obtain ⟨rfl, _, rfl⟩ := eg
              clear hdd hout HRR HD HDF
              obtain ⟨n, hn⟩ : ∃ n, s.n = n + 1 := ⟨s.n - 1, by omega⟩
              rw [hn] at h HR2 pb hdb hb256 hby hfew ⊢
              rw [Nat.add_sub_cancel] at HR2 pb hdb hb256 hby
              obtain ⟨ga, cpa, ea, _⟩ := ((h.pull 1).lsIGet n (by omega)).slice pb
              obtain ⟨gd, cpd, ed, _⟩ := ((h.pull 2).lsIGet n (by omega)).slice (by omega)
              have k0 := Own.cell h.own (n * 3 + 0) (by omega)
              have k1 := Own.cell h.own (n * 3 + 1) (by omega)
              have k2 := Own.cell h.own (n * 3 + 2) (by omega)
              rw [rowL_get _ _ _ _ n 0 (by omega) (by omega)] at k0
              rw [rowL_get _ _ _ _ n 1 (by omega) (by omega)] at k1
              rw [rowL_get _ _ _ _ n 2 (by omega) (by omega)] at k2
              change wr.cell? ⟨g, n * 3, none⟩ = some (.int .u64 (W n : Nat)) at k0
              change wr.cell? ⟨g, n * 3 + 1, none⟩ = some (vb n) at k1
              change wr.cell? ⟨g, n * 3 + 2, none⟩ = some (vd n) at k2
              rw [ea] at k1
              rw [ed] at k2
              rw [hdb] at k2
              obtain ⟨BL, hBL⟩ : ∃ BL, bs n = BL := ⟨_, rfl⟩
              obtain ⟨DL, hDL⟩ : ∃ DL, ds n = DL := ⟨_, rfl⟩
              obtain ⟨m, hm⟩ : ∃ m, BL.length = m := ⟨_, rfl⟩
              rw [hBL, hm] at k1 k2 HR2 pb hdb hb256 hby
              rw [hDL] at HR2 hdb
              have hob : ∀ {w' : World} {L : List Thing}, St noB w w' (lsI (n + 1) vb bs :: L) → Own w' 3 1 (.slice (some ⟨ga, 0, none⟩) m cpa) m (intsV BL) := fun h => by
                have := h.lsIGet n (by omega); rw [ea, hBL, hm] at this; exact this
              have hod : ∀ {w' : World} {L : List Thing}, St noB w w' (lsI (n + 1) vd ds :: L) → Own w' 3 1 (.slice (some ⟨gd, 0, none⟩) m cpd) m (intsV DL) := fun h => by
                have := h.lsIGet n (by omega); rw [ed, hDL, hdb] at this; exact this
              obtain ⟨wt, hwt⟩ : ∃ wt, W n = wt := ⟨_, rfl⟩
              rw [hwt] at k0
              have hNi : (0 : Int) < (N : Int) := by omega
              have h5 := h.alloc #[.int .u64 0, .slice none 0 0, .slice none 0 0] 119
              have hq := Lib.hid h5.blk
              obtain ⟨w5, hw5, h6⟩ := name_world (P := fun x => St noB w x _) (h5.row #[.int .u64 (wt : Nat), .slice (some ⟨ga, 0, none⟩) m cpa, .slice (some ⟨gd, 0, none⟩) m cpd])
              have HW5 := Lib.hid hw5
              clear h5 hw5
              go_wp2_with (with_reducible refine (show wpList _ _ _ _ _ (World.alloc _ _) from ?_); refine wpList_store_row rfl _ _ _ rfl wr.heap.size #[.int .u64 (wt : Nat), .slice (some ⟨ga, 0, none⟩) m cpa, .slice (some ⟨gd, 0, none⟩) m cpd] rfl rfl 119 #[.int .u64 0, .slice none 0 0, .slice none 0 0] hq.out (by kernel_rfl) rfl (by simp [Value.oneCell']) ?_; rw [HW5.out])
              generalize wr.heap.size = tt at h6 ⊢
              have h7 : St noB w w5 (blkT tb (tabV .u8 (outF BL DL 0)) 74 :: blkT tt #[.int .u64 (wt : Nat), .slice (some ⟨ga, 0, none⟩) m cpa, .slice (some ⟨gd, 0, none⟩) m cpd] 119 :: ownT 119 3 (.slice (some ⟨g, 0, none⟩) (n + 1) c) (n + 1) (rowL W vb vd (n + 1)) :: lsI (n + 1) vb bs :: lsI (n + 1) vd ds :: [blkT ob (tabV .u8 (fun _ => 0)) 74, blkT lb T 76]) := h6.pull 4
              have HBm := Lib.hid hm
              have HDm := Lib.hid hdb
              clear hq HW5 h6 h k0 k1 k2 hm hdb hwt ea ed hBL hDL
              go_loopw [14] (fun v14 wq => ∃ q : Nat, v14 = .int .i64 q ∧ q ≤ m ∧ St noB w wq (blkT tb (tabV .u8 (outF BL DL q)) 74 :: blkT tt #[.int .u64 (wt : Nat), .slice (some ⟨ga, 0, none⟩) m cpa, .slice (some ⟨gd, 0, none⟩) m cpd] 119 :: ownT 119 3 (.slice (some ⟨g, 0, none⟩) (n + 1) c) (n + 1) (rowL W vb vd (n + 1)) :: lsI (n + 1) vb bs :: lsI (n + 1) vd ds :: [blkT ob (tabV .u8 (fun _ => 0)) 74, blkT lb T 76])) (fun v14 _ => m - (intOf v14).toNat)
              case atStart => exact ⟨0, rfl, Nat.zero_le _, h7⟩
              case round =>
                clear h7
                obtain ⟨q, rfl, hq, h⟩ := hrel
                have kt1 := cell_of_heap (h.pull 1).blk 1
                change World.cell? _ _ = some (Value.slice (some ⟨ga, 0, none⟩) m cpa) at kt1
                by_cases hqm : q < m
                · have hqi : (q : Int) < (m : Int) := by omega
                  have kt2 := cell_of_heap (h.pull 1).blk 2
                  change World.cell? _ _ = some (Value.slice (some ⟨gd, 0, none⟩) m cpd) at kt2
                  have kb := Own.cell (hob (h.pull 3)) q (by omega)
                  rw [intsV_get _ _ (by rw [HBm.out]; exact hqm)] at kb
                  have kd := Own.cell (hod (h.pull 4)) q (by omega)
                  rw [intsV_get _ _ (by rw [HDm.out]; exact hqm)] at kd
                  have hy := hby q hqm
                  have kT := cell_of_heap h.blk (BL.getD q 0)
                  rw [tabV_get _ _ _ hy] at kT
                  have fT := free_of_heap h.blk (BL.getD q 0)
                  have h8 := h.set (BL.getD q 0) (.int .u8 ((DL.getD q 0 % 256 : Nat) : Int))
                  rw [tabV_set _ _ _ _ hy] at h8
                  have EO : Hid (outF BL DL (q + 1) = upd (outF BL DL q) (BL.getD q 0) (DL.getD q 0 % 256)) := Lib.hid rfl
                  rw [← EO.out] at h8
                  have kb8 := Own.cell (hob (h8.pull 3)) q (by omega)
                  rw [intsV_get _ _ (by rw [HBm.out]; exact hqm)] at kb8
                  have kd8 := Own.cell (hod (h8.pull 4)) q (by omega)
                  rw [intsV_get _ _ (by rw [HDm.out]; exact hqm)] at kd8
                  have kt18 := cell_of_heap (h8.pull 1).blk 1
                  change World.cell? _ _ = some (Value.slice (some ⟨ga, 0, none⟩) m cpa) at kt18
                  have kt28 := cell_of_heap (h8.pull 1).blk 2
                  change World.cell? _ _ = some (Value.slice (some ⟨gd, 0, none⟩) m cpd) at kt28
                  have hS8 : ((_ : World).cell? ⟨tt, 1, none⟩ = some (.slice (some ⟨ga, 0, none⟩) m cpa) ∧ (_ : World).cell? ⟨ga, q, none⟩ = some (.int .i64 (BL.getD q 0 : Nat)) ∧ (_ : World).cell? ⟨tt, 2, none⟩ = some (.slice (some ⟨gd, 0, none⟩) m cpd) ∧ (_ : World).cell? ⟨gd, q, none⟩ = some (.int .i64 (DL.getD q 0 : Nat))) := ⟨kt18, kb8, kt28, kd8⟩
                  clear EO kb8 kd8 kt18 kt28 h
                  have HS8 := Lib.hid hS8
                  clear hS8
                  generalize BL.getD q 0 = y at *
                  generalize DL.getD q 0 = z at *
                  generalize outF BL DL q y = z0 at *
                  have hyi : (y : Int) < 256 := by omega
                  have hwz : IntKind.u8.wrap (z : Int) = ((z % 256 : Nat) : Int) := by rw [IntKind.wrap_u8]; omega
                  go_wp2_with fail
                  have hS : (fun w' : World => w'.cell? ⟨tt, 1, none⟩ = some (.slice (some ⟨ga, 0, none⟩) m cpa) ∧ w'.cell? ⟨ga, q, none⟩ = some (.int .i64 (y : Nat)) ∧ w'.cell? ⟨tt, 2, none⟩ = some (.slice (some ⟨gd, 0, none⟩) m cpd) ∧ w'.cell? ⟨gd, q, none⟩ = some (.int .i64 (z : Nat))) (World.drew _) := ⟨kt1, kb, kt2, kd⟩
                  refine wp_region_held (S := fun w' : World => w'.cell? ⟨tt, 1, none⟩ = some (.slice (some ⟨ga, 0, none⟩) m cpa) ∧ w'.cell? ⟨ga, q, none⟩ = some (.int .i64 (y : Nat)) ∧ w'.cell? ⟨tt, 2, none⟩ = some (.slice (some ⟨gd, 0, none⟩) m cpd) ∧ w'.cell? ⟨gd, q, none⟩ = some (.int .i64 (z : Nat))) (by kernel_rfl) ?_
                  change wpAnyH _ _ _ _ _ _ _ _ (World.drew _)
                  refine wpAnyH_take (i := 0) (v := ?_) rfl (by kernel_rfl) (by kernel_rfl) (by kernel_rfl) (fun _ _ _ h => h) (Or.inl ⟨by rfl, ?_⟩) hS ?_
                  rotate_left
                  · (intro w' hS'; obtain ⟨j1, j2, j3, j4⟩ := hS'; go_simp; try with_reducible rfl)
                  refine wpAnyH_take (i := 1) (v := ?_) rfl (by kernel_rfl) (by kernel_rfl) (by kernel_rfl) (fun _ _ _ h => h) (Or.inl ⟨by rfl, ?_⟩) hS ?_
                  rotate_left
                  · (intro w' hS'; obtain ⟨j1, j2, j3, j4⟩ := hS'; go_simp; try with_reducible rfl)
                  refine wpAnyH_take (i := 2) (v := ?_) rfl (by kernel_rfl) (by kernel_rfl) (by kernel_rfl) (fun _ _ _ h => h) (Or.inl ⟨by rfl, ?_⟩) hS ?_
                  rotate_left
                  · (intro w' hS'; obtain ⟨j1, j2, j3, j4⟩ := hS'; go_simp; try with_reducible rfl)
                  refine wpAnyH_take (i := 3) (v := ?_) rfl (by kernel_rfl) (by kernel_rfl) (by kernel_rfl) (fun _ _ _ h => h) (Or.inl ⟨by rfl, ?_⟩) hS ?_
                  rotate_left
                  · (intro w' hS'; obtain ⟨j1, j2, j3, j4⟩ := hS'; go_simp; try with_reducible rfl)
                  refine wpAnyH_take (i := 4) (v := ?_) rfl (by kernel_rfl) (by kernel_rfl) (by kernel_rfl) (fun _ _ _ h => h) (Or.inl ⟨by rfl, ?_⟩) hS ?_
                  rotate_left
                  · (intro w' hS'; obtain ⟨j1, j2, j3, j4⟩ := hS'; go_simp; try with_reducible rfl)
                  refine wpAnyH_take (i := 5) (v := ?_) rfl (by kernel_rfl) (by kernel_rfl) (by kernel_rfl) (fun _ _ _ h => h) (Or.inl ⟨by rfl, ?_⟩) hS ?_
                  rotate_left
                  · (intro w' hS'; obtain ⟨j1, j2, j3, j4⟩ := hS'; go_simp; try with_reducible rfl)
                  refine wpAnyH_take (i := 6) (v := ?_) rfl (by kernel_rfl) (by kernel_rfl) (by kernel_rfl) (fun _ _ _ h => h) (Or.inl ⟨by rfl, ?_⟩) hS ?_
                  rotate_left
                  · (intro w' hS'; obtain ⟨j1, j2, j3, j4⟩ := hS'; go_simp; try with_reducible rfl)
                  refine wpAnyH_take (i := 7) (v := ?_) rfl (by kernel_rfl) (by kernel_rfl) (by kernel_rfl) (fun _ _ _ h => h) (Or.inl ⟨by rfl, ?_⟩) hS ?_
                  rotate_left
                  · (intro w' hS'; obtain ⟨j1, j2, j3, j4⟩ := hS'; go_simp; try with_reducible rfl)
                  refine wpAnyH_take (i := 8) (v := ?_) rfl (by kernel_rfl) (by kernel_rfl) (by kernel_rfl) (fun _ _ _ h => h) (Or.inl ⟨by rfl, ?_⟩) hS ?_
                  rotate_left
                  · (intro w' hS'; obtain ⟨j1, j2, j3, j4⟩ := hS'; go_simp; try with_reducible rfl)
                  refine wpAnyH_take (i := 9) (v := ?_) rfl (by kernel_rfl) (by kernel_rfl) (by kernel_rfl) (fun _ _ _ h => h) (Or.inl ⟨by rfl, ?_⟩) hS ?_
                  rotate_left
                  · (intro w' hS'; obtain ⟨j1, j2, j3, j4⟩ := hS'; go_simp; try with_reducible rfl)
                  refine wpAnyH_take (i := 10) (v := ?_) rfl (by kernel_rfl) (by kernel_rfl) (by kernel_rfl) (fun _ _ _ h => h) (Or.inl ⟨by rfl, ?_⟩) hS ?_
                  rotate_left
                  · (intro w' hS'; obtain ⟨j1, j2, j3, j4⟩ := hS'; go_simp; try with_reducible rfl)
                  refine wpAnyH_take (i := 11) (v := ?_) rfl (by kernel_rfl) (by kernel_rfl) (by kernel_rfl) (fun _ _ _ h => h) (Or.inl ⟨by rfl, ?_⟩) hS ?_
                  rotate_left
                  · (intro w' hS'; obtain ⟨j1, j2, j3, j4⟩ := hS'; go_simp; try with_reducible rfl)
                  refine wpAnyH_ready (rs := [12]) (by kernel_rfl) (by simp) ?_
                  refine AllReadyH.cons rfl (fun K hK => ?_) AllReadyH.nil
                  go_simp
                  refine hK.out _ _ HS8.out (fun _ => ?_)
                  clear hK K
                  refine wpAnyH_done (by kernel_rfl) ?_ _
                  have h9 := h8.ext ((Mut.refl noB _).drew)
                  go_wp2_with fail
                  exact ⟨⟨q + 1, by go_num, by omega, h9⟩, by simp only [intOf]; omega⟩
                · obtain rfl : q = m := by omega
                  have hqi : ¬ (q : Int) < (q : Int) := by omega
                  rw [HR2.out] at h
                  have hb := Lib.hid h.blk
                  have h8 := (h.pull 5).row (tabV .u8 R)
                  have hq8 := Lib.hid (h.pull 5).blk
                  clear h HR2
                  go_wp2_with (first
                    | (refine wpList_load_row rfl _ _ rfl tb rfl 74 (tabV .u8 R) (0, 0) (.array 256 5) hb.out Tryz.underlying74 rfl (size8 _) ?_)
                    | (refine wpList_store_row rfl _ _ _ rfl ob (tabV .u8 R) rfl rfl 74 (tabV .u8 (fun _ => 0)) hq8.out (size8 _) (tabV_sizes _ _ _) (tabV_one _ _) ?_))
                  refine bodyPost_ret_by (v := .agg (tabV .u8 R)) (results_cell_row rfl _ _ ob 74 (tabV .u8 R) (0, 0) (.array 256 5) rfl h8.blk Tryz.underlying74 rfl (size8 _)) rfl ?_
                  exact ⟨rfl, h8.ends⟩
end Go.Proofs.YtjdglpngcdcneaaGreat
