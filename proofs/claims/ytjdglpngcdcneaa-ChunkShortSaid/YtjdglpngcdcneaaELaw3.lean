/- Layer 21's laws: ChunkShort. -/
import Derived.Test.YtjdglpngcdcneaaEShort
namespace Go.Proofs.Ytjdglpngcdcneaa
open Go.RowKit Go.ChangeShapes Go.WideShapes Go.Deep
set_option linter.unusedVariables false
set_option linter.unusedSimpArgs false
set_option linter.unusedSectionVars false
def EArgV (v : Value) (e : Ev) : Prop := v = evV e ∧ EvOK e
set_option maxRecDepth 20000 in
theorem arg_ev {H : Type} {enc : TypeId × Value → H} {w : World} {base : Nat} {spare : Nat → Bool} {held : Bool} {r : Reach} {b0 : Nat} {v : Value} {d : DataW H} {p : List MemPlace} (hv : Value.okWide Try.prog w r b0 36 v) (h : DataW.Trod enc Try.prog w base spare held 36 v d p) : ∃ x, EArgV v x := by
  obtain ⟨cs, rfl, hsz⟩ := okWide_struct Try.underlying36 hv
  obtain ⟨fuel, hf⟩ := h
  have hsz5 : cs.size = 5 := hsz.trans (by kernel_rfl)
  obtain ⟨x, hx, hok⟩ := repEv_of fuel cs.toList _ (by simpa using hsz5) (by simpa [Value.cells] using hf)
  refine ⟨x, ?_, hok⟩
  obtain ⟨l⟩ := cs
  simp only at hx
  subst hx; rfl
theorem wpList_store_own {P : Program} {S : Nat → Prop} {W : World} {e : TypeId} {size g n cap : Nat} {L : List Thing} {ops : Array Oper} {rest : List Oper} {o : Oper} {a : Act} {w : World} {Q : Exit → Act → World → Prop} (hgd : o.guard = none) (t : TypeId) (p x : Operand) (ho : o.op = .store t p x)
    {xs : List Value} (h : St S W w (ownT e size (.slice (some ⟨g, 0, none⟩) n cap) n xs :: L)) (off : Nat) (hp : a.eval p = .pointer (some ⟨g, off, none⟩)) (seg : List Value) (hu : (a.eval x).cells.toList = seg) (ht : (P.info? t).map (·.size) = some seg.length)
    (hfit : off + seg.length ≤ n * size) (h1 : ∀ q ∈ seg, q.oneCell' = true)
    (hK : St S W (w.setCells g off seg) (ownT e size (.slice (some ⟨g, 0, none⟩) n cap) n (setN xs off seg) :: L) → wpList P ops Q rest (a.put o.dst undef) (w.setCells g off seg)) : wpList P ops Q (o :: rest) a w := by
  refine wpList_step (fun K hKK => ?_)
  exact step_store_own hgd t p x ho h off hp seg hu ht hfit h1 (fun h' => hKK _ _ (hK h'))
set_option maxRecDepth 20000 in
set_option maxHeartbeats 8000000 in
theorem chunkShort_walk (v : Value) (e : Ev) (nn : Nat) (he : EArgV v e) (hnn : nn < 65536) (w : World) :
    Calls Try.prog 5 #[v, .int .u16 nn] w fun r w' => r = .returned (.bool true) ∧ Ext w w' := by
  obtain ⟨rfl, hok⟩ := he
  have HA := Lib.hid awake_any
  have HRt := Lib.hid (fun w => rright_any w e)
  have HM := Lib.hid (fun w => rnames_any w e.kd)
  have hnm := namesE_cases e.kd
  have hvl := hok.vl
  have HSR := Lib.hid (fun m (hr : rightE e) ht hv hm hm2 => streams_rep m e hr ht hv hm hm2)
  have HCR := Lib.hid (fun m (hr : rightE e) hm2 => check_rep m e hr hm2)
  obtain ⟨th, kd, rg, tk, vl⟩ := e
  have h := (St.start noB w).alloc #[.int .i64 th, .int .i64 kd, .int .i64 rg, .int .u64 tk, .int .u64 vl] 36
  dsimp only [evV] at HRt hnm hvl HM HSR HCR ⊢
  by_cases hr : rightE ⟨th, kd, rg, tk, vl⟩
  rotate_left
  · rw [decide_eq_false hr] at HRt
    clear hr hnm HSR HCR
    go_enter Try.func5, Try.ntmps5
    go_wp2_with fail
    generalize w.alloc (.cells #[.int .i64 th, .int .i64 kd, .int .i64 rg, .int .u64 tk, .int .u64 vl] 36) = wr at h ⊢
    generalize w.heap.size = b at h ⊢
    have x0 := Lib.hid h.ends
    have c0 : _ = some (Value.int .i64 th) := cell_of_heap h.blk 0
    have c1 : _ = some (Value.int .i64 kd) := cell_of_heap h.blk 1
    have c2 : _ = some (Value.int .i64 rg) := cell_of_heap h.blk 2
    have c3 : _ = some (Value.int .u64 ((tk : Nat) : Int)) := cell_of_heap h.blk 3
    have c4 : _ = some (Value.int .u64 ((vl : Nat) : Int)) := cell_of_heap h.blk 4
    refine (HA.out _).mono ?_
    rintro _ w1 ⟨rfl, x1⟩
    have e0 := x1.cell c0
    have e1 := x1.cell c1
    have e2 := x1.cell c2
    have e3 := x1.cell c3
    have e4 := x1.cell c4
    have h1 := h.ext x1
    clear c0 c1 c2 c3 c4 h x0 x1
    go_wp2_with fail
    refine (HRt.out _).mono ?_
    rintro _ w2 ⟨rfl, x2⟩
    replace e0 := x2.cell e0
    replace e1 := x2.cell e1
    replace e2 := x2.cell e2
    replace e3 := x2.cell e3
    replace e4 := x2.cell e4
    replace h1 := h1.ext x2
    clear x2
    have x := Lib.hid h1.ends
    go_wp2_with fail
    refine (HA.out _).mono ?_
    rintro _ w3 ⟨rfl, x3⟩
    go_wp2_with fail
    go_ret
    exact ⟨rfl, x.out.trans x3⟩
  rw [decide_eq_true hr] at HRt
  have hgo : (tickB kd = false ∧ valB kd = false ∧ (namesE kd = ⟨#[82]⟩ ∨ namesE kd = ⟨#[]⟩)) ∨ namesE kd = ⟨#[82, 84]⟩ ∨ namesE kd = ⟨#[86]⟩ := by
    rcases hnm with ⟨q1, q2, q3, q4⟩ | ⟨q1, q2, q3, q4⟩ | ⟨q1, q2, q3, q4⟩ | ⟨q1, q2, q3, q4⟩
    · exact .inr (.inl q4)
    · exact .inl ⟨q1, q3, .inl q4⟩
    · exact .inr (.inr q4)
    · exact .inl ⟨q1, q3, .inr q4⟩
  clear hnm
  rcases hgo with ⟨ht, hv, hn⟩ | hn | hn
  rotate_left
  · rw [hn] at HM
    clear hr HSR HCR hn
    go_enter Try.func5, Try.ntmps5
    go_wp2_with fail
    generalize w.alloc (.cells #[.int .i64 th, .int .i64 kd, .int .i64 rg, .int .u64 tk, .int .u64 vl] 36) = wr at h ⊢
    generalize w.heap.size = b at h ⊢
    have x0 := Lib.hid h.ends
    have c0 : _ = some (Value.int .i64 th) := cell_of_heap h.blk 0
    have c1 : _ = some (Value.int .i64 kd) := cell_of_heap h.blk 1
    have c2 : _ = some (Value.int .i64 rg) := cell_of_heap h.blk 2
    have c3 : _ = some (Value.int .u64 ((tk : Nat) : Int)) := cell_of_heap h.blk 3
    have c4 : _ = some (Value.int .u64 ((vl : Nat) : Int)) := cell_of_heap h.blk 4
    refine (HA.out _).mono ?_
    rintro _ w1 ⟨rfl, x1⟩
    have e0 := x1.cell c0
    have e1 := x1.cell c1
    have e2 := x1.cell c2
    have e3 := x1.cell c3
    have e4 := x1.cell c4
    have h1 := h.ext x1
    clear c0 c1 c2 c3 c4 h x0 x1
    go_wp2_with fail
    refine (HRt.out _).mono ?_
    rintro _ w2 ⟨rfl, x2⟩
    replace e0 := x2.cell e0
    replace e1 := x2.cell e1
    replace e2 := x2.cell e2
    replace e3 := x2.cell e3
    replace e4 := x2.cell e4
    replace h1 := h1.ext x2
    clear x2
    have x := Lib.hid h1.ends
    go_wp2_with fail
    refine (HM.out _).mono ?_
    rintro _ _ ⟨rfl, rfl⟩
    go_wp2_with fail
    refine (HM.out _).mono ?_
    rintro _ _ ⟨rfl, rfl⟩
    go_wp2_with fail
    refine (HA.out _).mono ?_
    rintro _ w3 ⟨rfl, x3⟩
    go_wp2_with fail
    go_ret
    exact ⟨rfl, x.out.trans x3⟩
  · rw [hn] at HM
    clear hr HSR HCR hn
    go_enter Try.func5, Try.ntmps5
    go_wp2_with fail
    generalize w.alloc (.cells #[.int .i64 th, .int .i64 kd, .int .i64 rg, .int .u64 tk, .int .u64 vl] 36) = wr at h ⊢
    generalize w.heap.size = b at h ⊢
    have x0 := Lib.hid h.ends
    have c0 : _ = some (Value.int .i64 th) := cell_of_heap h.blk 0
    have c1 : _ = some (Value.int .i64 kd) := cell_of_heap h.blk 1
    have c2 : _ = some (Value.int .i64 rg) := cell_of_heap h.blk 2
    have c3 : _ = some (Value.int .u64 ((tk : Nat) : Int)) := cell_of_heap h.blk 3
    have c4 : _ = some (Value.int .u64 ((vl : Nat) : Int)) := cell_of_heap h.blk 4
    refine (HA.out _).mono ?_
    rintro _ w1 ⟨rfl, x1⟩
    have e0 := x1.cell c0
    have e1 := x1.cell c1
    have e2 := x1.cell c2
    have e3 := x1.cell c3
    have e4 := x1.cell c4
    have h1 := h.ext x1
    clear c0 c1 c2 c3 c4 h x0 x1
    go_wp2_with fail
    refine (HRt.out _).mono ?_
    rintro _ w2 ⟨rfl, x2⟩
    replace e0 := x2.cell e0
    replace e1 := x2.cell e1
    replace e2 := x2.cell e2
    replace e3 := x2.cell e3
    replace e4 := x2.cell e4
    replace h1 := h1.ext x2
    clear x2
    have x := Lib.hid h1.ends
    go_wp2_with fail
    refine (HM.out _).mono ?_
    rintro _ _ ⟨rfl, rfl⟩
    go_wp2_with fail
    refine (HM.out _).mono ?_
    rintro _ _ ⟨rfl, rfl⟩
    go_wp2_with fail
    refine (HA.out _).mono ?_
    rintro _ w3 ⟨rfl, x3⟩
    go_wp2_with fail
    go_ret
    exact ⟨rfl, x.out.trans x3⟩
  have HSR := Lib.hid (fun m hm hm2 => HSR.out m hr ht hv hm hm2)
  have HCR := Lib.hid (fun m hm2 => HCR.out m hr hm2)
  clear ht hv hr
  obtain ⟨k, hk, hk2⟩ : ∃ k : Nat, (nn : Int).tmod 2000 = (k : Int) ∧ k < 2000 := ⟨nn % 2000, by rw [Int.tmod_eq_emod_of_nonneg (by omega)]; omega, Nat.mod_lt _ (by omega)⟩
  have hmk := run_make_evs (k + 1) (by omega)
  simp only [Int.natCast_add, Int.natCast_one] at hmk
  rcases hn with hn | hn
  · rw [hn] at HM
    clear hn
    go_enter Try.func5, Try.ntmps5
    go_wp2_with fail
    generalize w.alloc (.cells #[.int .i64 th, .int .i64 kd, .int .i64 rg, .int .u64 tk, .int .u64 vl] 36) = wr at h ⊢
    generalize w.heap.size = b at h ⊢
    have x0 := Lib.hid h.ends
    have c0 : _ = some (Value.int .i64 th) := cell_of_heap h.blk 0
    have c1 : _ = some (Value.int .i64 kd) := cell_of_heap h.blk 1
    have c2 : _ = some (Value.int .i64 rg) := cell_of_heap h.blk 2
    have c3 : _ = some (Value.int .u64 ((tk : Nat) : Int)) := cell_of_heap h.blk 3
    have c4 : _ = some (Value.int .u64 ((vl : Nat) : Int)) := cell_of_heap h.blk 4
    refine (HA.out _).mono ?_
    rintro _ w1 ⟨rfl, x1⟩
    have e0 := x1.cell c0
    have e1 := x1.cell c1
    have e2 := x1.cell c2
    have e3 := x1.cell c3
    have e4 := x1.cell c4
    have h1 := h.ext x1
    clear c0 c1 c2 c3 c4 h x0 x1
    go_wp2_with fail
    refine (HRt.out _).mono ?_
    rintro _ w2 ⟨rfl, x2⟩
    replace e0 := x2.cell e0
    replace e1 := x2.cell e1
    replace e2 := x2.cell e2
    replace e3 := x2.cell e3
    replace e4 := x2.cell e4
    replace h1 := h1.ext x2
    clear x2
    have x := Lib.hid h1.ends
    go_wp2_with fail
    refine (HM.out _).mono ?_
    rintro _ _ ⟨rfl, rfl⟩
    go_wp2_with fail
    refine (HM.out _).mono ?_
    rintro _ _ ⟨rfl, rfl⟩
    clear e0 e1 e2 e3 e4
    have h2 := h1.made 36 5 (k + 1) (k + 1) (evsV (List.replicate (k + 1) zeroEv)).toArray (Nat.le_refl _) (by unfold maxLen; omega) (by simp [evsV_len])
    rw [List.take_of_length_le (by simp [evsV_len])] at h2
    have HE0 : Hid (evsV (List.replicate (k + 1) zeroEv) = evsV (repTo (k + 1) ⟨th, kd, rg, tk, vl⟩ 0)) := Lib.hid (by rw [repTo_zero])
    go_wp2_with fail
    clear hmk h1 x
    generalize w2.alloc (.cells (evsV (List.replicate (k + 1) zeroEv)).toArray 36) = w3 at h2 ⊢
    generalize w2.heap.size = x0 at h2 ⊢
    obtain ⟨m, hm⟩ : ∃ m, k + 1 = m := ⟨_, rfl⟩
    have hmi : (k : Int) + 1 = (m : Int) := by omega
    rw [hm] at h2 HE0
    rw [hmi, hm]
    go_loopw [36] (fun v36 wr => ∃ i : Nat, i ≤ m ∧ v36 = .int .i64 i ∧ St noB w wr [ownT 36 5 (.slice (some ⟨x0, 0, none⟩) m m) m (evsV (repTo m ⟨th, kd, rg, tk, vl⟩ i)), blkT b #[.int .i64 th, .int .i64 kd, .int .i64 rg, .int .u64 tk, .int .u64 vl] 36]) (fun v36 _ => m - (intOf v36).toNat)
    case atStart => exact ⟨0, by omega, rfl, by rw [← HE0.out]; exact h2⟩
    case round =>
      clear h2 HE0
      obtain ⟨i, hi, rfl, h⟩ := hrel
      by_cases hlt : i < m
      · have hlti : (i : Int) < (m : Int) := by omega
        have hl0 : (0 : Int) ≤ (i : Int) := by omega
        have h1 := h.pull 1
        have c0 : _ = some (Value.int .i64 th) := cell_of_heap h1.blk 0
        have c1 : _ = some (Value.int .i64 kd) := cell_of_heap h1.blk 1
        have c2 : _ = some (Value.int .i64 rg) := cell_of_heap h1.blk 2
        have c3 : _ = some (Value.int .u64 ((tk : Nat) : Int)) := cell_of_heap h1.blk 3
        have c4 : _ = some (Value.int .u64 ((vl : Nat) : Int)) := cell_of_heap h1.blk 4
        have HSN : Hid (setN (evsV (repTo m ⟨th, kd, rg, tk, vl⟩ i)) (i * 5) (evC ⟨th, kd, rg, tk, vl⟩) = evsV (repTo m ⟨th, kd, rg, tk, vl⟩ (i + 1))) := Lib.hid (by rw [← repTo_succ m _ i hlt]; exact flat_set evC_len _ i (by rw [repTo_len _ _ _ hi]; exact hlt) _)
        clear h1
        go_wp2_with (refine wpList_store_own rfl 36 _ _ rfl h (i * 5) rfl (evC ⟨th, kd, rg, tk, vl⟩) rfl ev_size (by rw [evC_len]; omega) (evC_one _) (fun h3 => ?_); rw [HSN.out] at h3; generalize World.setCells wr x0 (i * 5) (evC ⟨th, kd, rg, tk, vl⟩) = w4 at h3 ⊢)
        exact ⟨⟨i + 1, by omega, by go_num, h3⟩, by simp only [intOf]; omega⟩
      · obtain rfl : i = m := by omega
        have hlti : ¬ (i : Int) < (i : Int) := by omega
        rw [repTo_all] at h
        have HST := Lib.hid (strs_ok (some ⟨x0, 0, none⟩) i i (List.replicate i ⟨th, kd, rg, tk, vl⟩) wr (by simp) (Own.erow h.own (by simp)) (HCR.out i (by omega)) (fun j hj => by rw [rep_get _ _ j (by simpa using hj)]; exact hvl))
        have hsl := HSR.out i (by omega) (by omega)
        have x := Lib.hid h.ends
        obtain ⟨ss, hss⟩ : ∃ ss : ByteArray, ss = ⟨(streamsP (List.replicate i ⟨th, kd, rg, tk, vl⟩)).toArray⟩ := ⟨_, rfl⟩
        have hsz : ss.size ≤ 40 := by rw [hss, bytes_size]; exact hsl
        have hszi : (ss.size : Int) ≤ 40 := by omega
        rw [← hss] at HST
        clear hss hsl h
        go_wp2_with fail
        refine HST.out.mono ?_
        rintro _ w5 ⟨rfl, x5⟩
        go_wp2_with fail
        go_ret
        exact ⟨rfl, x.out.trans x5⟩
  · rw [hn] at HM
    clear hn
    go_enter Try.func5, Try.ntmps5
    go_wp2_with fail
    generalize w.alloc (.cells #[.int .i64 th, .int .i64 kd, .int .i64 rg, .int .u64 tk, .int .u64 vl] 36) = wr at h ⊢
    generalize w.heap.size = b at h ⊢
    have x0 := Lib.hid h.ends
    have c0 : _ = some (Value.int .i64 th) := cell_of_heap h.blk 0
    have c1 : _ = some (Value.int .i64 kd) := cell_of_heap h.blk 1
    have c2 : _ = some (Value.int .i64 rg) := cell_of_heap h.blk 2
    have c3 : _ = some (Value.int .u64 ((tk : Nat) : Int)) := cell_of_heap h.blk 3
    have c4 : _ = some (Value.int .u64 ((vl : Nat) : Int)) := cell_of_heap h.blk 4
    refine (HA.out _).mono ?_
    rintro _ w1 ⟨rfl, x1⟩
    have e0 := x1.cell c0
    have e1 := x1.cell c1
    have e2 := x1.cell c2
    have e3 := x1.cell c3
    have e4 := x1.cell c4
    have h1 := h.ext x1
    clear c0 c1 c2 c3 c4 h x0 x1
    go_wp2_with fail
    refine (HRt.out _).mono ?_
    rintro _ w2 ⟨rfl, x2⟩
    replace e0 := x2.cell e0
    replace e1 := x2.cell e1
    replace e2 := x2.cell e2
    replace e3 := x2.cell e3
    replace e4 := x2.cell e4
    replace h1 := h1.ext x2
    clear x2
    have x := Lib.hid h1.ends
    go_wp2_with fail
    refine (HM.out _).mono ?_
    rintro _ _ ⟨rfl, rfl⟩
    clear e0 e1 e2 e3 e4
    have h2 := h1.made 36 5 (k + 1) (k + 1) (evsV (List.replicate (k + 1) zeroEv)).toArray (Nat.le_refl _) (by unfold maxLen; omega) (by simp [evsV_len])
    rw [List.take_of_length_le (by simp [evsV_len])] at h2
    have HE0 : Hid (evsV (List.replicate (k + 1) zeroEv) = evsV (repTo (k + 1) ⟨th, kd, rg, tk, vl⟩ 0)) := Lib.hid (by rw [repTo_zero])
    go_wp2_with fail
    clear hmk h1 x
    generalize w2.alloc (.cells (evsV (List.replicate (k + 1) zeroEv)).toArray 36) = w3 at h2 ⊢
    generalize w2.heap.size = x0 at h2 ⊢
    obtain ⟨m, hm⟩ : ∃ m, k + 1 = m := ⟨_, rfl⟩
    have hmi : (k : Int) + 1 = (m : Int) := by omega
    rw [hm] at h2 HE0
    rw [hmi, hm]
    go_loopw [36] (fun v36 wr => ∃ i : Nat, i ≤ m ∧ v36 = .int .i64 i ∧ St noB w wr [ownT 36 5 (.slice (some ⟨x0, 0, none⟩) m m) m (evsV (repTo m ⟨th, kd, rg, tk, vl⟩ i)), blkT b #[.int .i64 th, .int .i64 kd, .int .i64 rg, .int .u64 tk, .int .u64 vl] 36]) (fun v36 _ => m - (intOf v36).toNat)
    case atStart => exact ⟨0, by omega, rfl, by rw [← HE0.out]; exact h2⟩
    case round =>
      clear h2 HE0
      obtain ⟨i, hi, rfl, h⟩ := hrel
      by_cases hlt : i < m
      · have hlti : (i : Int) < (m : Int) := by omega
        have hl0 : (0 : Int) ≤ (i : Int) := by omega
        have h1 := h.pull 1
        have c0 : _ = some (Value.int .i64 th) := cell_of_heap h1.blk 0
        have c1 : _ = some (Value.int .i64 kd) := cell_of_heap h1.blk 1
        have c2 : _ = some (Value.int .i64 rg) := cell_of_heap h1.blk 2
        have c3 : _ = some (Value.int .u64 ((tk : Nat) : Int)) := cell_of_heap h1.blk 3
        have c4 : _ = some (Value.int .u64 ((vl : Nat) : Int)) := cell_of_heap h1.blk 4
        have HSN : Hid (setN (evsV (repTo m ⟨th, kd, rg, tk, vl⟩ i)) (i * 5) (evC ⟨th, kd, rg, tk, vl⟩) = evsV (repTo m ⟨th, kd, rg, tk, vl⟩ (i + 1))) := Lib.hid (by rw [← repTo_succ m _ i hlt]; exact flat_set evC_len _ i (by rw [repTo_len _ _ _ hi]; exact hlt) _)
        clear h1
        go_wp2_with (refine wpList_store_own rfl 36 _ _ rfl h (i * 5) rfl (evC ⟨th, kd, rg, tk, vl⟩) rfl ev_size (by rw [evC_len]; omega) (evC_one _) (fun h3 => ?_); rw [HSN.out] at h3; generalize World.setCells wr x0 (i * 5) (evC ⟨th, kd, rg, tk, vl⟩) = w4 at h3 ⊢)
        exact ⟨⟨i + 1, by omega, by go_num, h3⟩, by simp only [intOf]; omega⟩
      · obtain rfl : i = m := by omega
        have hlti : ¬ (i : Int) < (i : Int) := by omega
        rw [repTo_all] at h
        have HST := Lib.hid (strs_ok (some ⟨x0, 0, none⟩) i i (List.replicate i ⟨th, kd, rg, tk, vl⟩) wr (by simp) (Own.erow h.own (by simp)) (HCR.out i (by omega)) (fun j hj => by rw [rep_get _ _ j (by simpa using hj)]; exact hvl))
        have hsl := HSR.out i (by omega) (by omega)
        have x := Lib.hid h.ends
        obtain ⟨ss, hss⟩ : ∃ ss : ByteArray, ss = ⟨(streamsP (List.replicate i ⟨th, kd, rg, tk, vl⟩)).toArray⟩ := ⟨_, rfl⟩
        have hsz : ss.size ≤ 40 := by rw [hss, bytes_size]; exact hsl
        have hszi : (ss.size : Int) ≤ 40 := by omega
        rw [← hss] at HST
        clear hss hsl h
        go_wp2_with fail
        refine HST.out.mono ?_
        rintro _ w5 ⟨rfl, x5⟩
        go_wp2_with fail
        go_ret
        exact ⟨rfl, x.out.trans x5⟩
end Go.Proofs.Ytjdglpngcdcneaa
