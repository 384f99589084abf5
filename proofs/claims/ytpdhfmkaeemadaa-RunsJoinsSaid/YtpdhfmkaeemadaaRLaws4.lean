/- Layer 4's laws: unpacked. -/
import Derived.Test.YtpdhfmkaeemadaaRLaws3
import Derived.Deep.Fields
namespace Go.Proofs.Ytpdhfmkaeemadaa
open Go.RowKit Go.WideShapes Go.ChangeShapes Go.Deep
set_option linter.unusedVariables false
set_option linter.unusedSimpArgs false
def repRun (o : Nat × Nat) (cs : List Value) : Prop := cs = [.int .u64 o.1, .int .u64 o.2] ∧ o.1 < 18446744073709551616 ∧ o.2 < 18446744073709551616
theorem repRun_of {H : Type} {enc : TypeId × Value → H} {w : World} {base : Nat} {spare : Nat → Bool} {held : Bool} (n : Nat) (cs : List Value) (y : DataW H × List MemPlace) (_ : cs.length = 2) (h : DataW.trod enc Try.prog w base spare held n 36 cs = some y) : ∃ a, repRun a cs := by
  obtain ⟨hl, hf⟩ := cells_of_struct Try.underlying36 (by kernel_rfl) (by kernel_rfl) h
  obtain ⟨v0, y0, n0, e0, t0⟩ := hf 0 _ rfl
  obtain ⟨v1, y1, n1, e1, t1⟩ := hf 1 _ rfl
  obtain ⟨a0, h0, _, k0⟩ := DataW.trod_int Try.underlying34 t0
  obtain ⟨a1, h1, _, k1⟩ := DataW.trod_int Try.underlying34 t1
  simp at h0 h1
  subst h0 h1
  obtain ⟨b0, rfl, j0⟩ := wf_u64 k0
  obtain ⟨b1, rfl, j1⟩ := wf_u64 k1
  match cs, hl with
  | [c0, c1], _ =>
    simp at e0 e1
    subst e0 e1
    exact ⟨(b0, b1), rfl, j0, j1⟩
theorem ArgRow.rrow {w : World} {A : Option Addr} {len : Nat} {p : List Rn} (h : ArgRow repRun 2 w A len p) : RRow w A p := by
  intro i hi
  rcases h.2 with h2 | ⟨b, off, hA, hc⟩
  · have := h.1; omega
  · obtain ⟨cs, ⟨rfl, _⟩, h2, h3⟩ := hc i p[i] (List.getElem?_eq_getElem hi)
    have hg : p.getD i (0, 0) = p[i] := by rw [List.getD_eq_getElem?_getD, List.getElem?_eq_getElem hi]; rfl
    rw [hg]
    exact ⟨b, off, hA, by simpa using h3 0 _ rfl, by simpa [Nat.add_assoc] using h3 1 _ rfl⟩
theorem ArgRow.allR {w : World} {A : Option Addr} {len : Nat} {p : List Rn} (h : ArgRow repRun 2 w A len p) : AllR p := by
  intro i hi
  rcases h.2 with h2 | ⟨b, off, hA, hc⟩
  · have := h.1; omega
  · obtain ⟨cs, ⟨rfl, h1, h2⟩, _⟩ := hc i p[i] (List.getElem?_eq_getElem hi)
    have hg : p.getD i (0, 0) = p[i] := by rw [List.getD_eq_getElem?_getD, List.getElem?_eq_getElem hi]; rfl
    rw [hg]; exact ⟨h1, h2⟩
theorem RRow.none {w : World} {A : Option Addr} {p : List Rn} (h : RRow w A p) : A = Option.none → p.length = 0 := by
  intro e
  rcases Nat.eq_zero_or_pos p.length with h0 | h0
  · exact h0
  · obtain ⟨b, off, e2, _⟩ := h 0 h0
    rw [e] at e2; cases e2
theorem RRow.cells {w : World} {A : Option Addr} {p : List Rn} (h : RRow w A p) : ∀ ad, A = some ad → ∀ j u, (runsV p)[j]? = some u → w.cell? (ad.add j) = some u := by
  intro ad e j u hj
  have hl : j < p.length * 2 := by
    rcases Nat.lt_or_ge j (runsV p).length with h | h
    · rwa [runsV_len] at h
    · rw [List.getElem?_eq_none h] at hj; cases hj
  obtain ⟨b, off, e2, h0, h1⟩ := h (j / 2) (by omega)
  rw [e] at e2
  cases e2
  rw [add_plain]
  rcases Nat.mod_two_eq_zero_or_one j with hm | hm
  · have hj2 : j = j / 2 * 2 := by omega
    rw [hj2] at hj
    rw [runsV_get0 p _ (by omega)] at hj
    cases hj
    rw [hj2, Nat.mul_div_cancel _ (by omega)]; exact h0
  · have hj2 : j = j / 2 * 2 + 1 := by omega
    rw [hj2] at hj
    rw [runsV_get1 p _ (by omega)] at hj
    cases hj
    rw [hj2, show (j / 2 * 2 + 1) / 2 = j / 2 by omega, ← Nat.add_assoc]; exact h1
theorem allLt_expand (p : List Rn) (h : AllR p) : AllLt (expand p) := by
  intro i hi
  have hm : (expand p).getD i 0 ∈ expand p := by
    rw [List.getD_eq_getElem?_getD, List.getElem?_eq_getElem hi]; exact List.getElem_mem hi
  generalize (expand p).getD i 0 = x at hm ⊢
  unfold expand at hm
  rw [List.mem_flatMap] at hm
  obtain ⟨r, hr, hx⟩ := hm
  rw [List.mem_replicate] at hx
  obtain ⟨k, hk, e⟩ := List.mem_iff_getElem.1 hr
  have := (h k hk).1
  rw [List.getD_eq_getElem?_getD, List.getElem?_eq_getElem hk] at this
  rw [hx.2, ← e]; exact this
theorem un_len (most : Nat) : ∀ (p : List Rn) (acc : List Nat), acc.length ≤ most → (un most p acc).1.length ≤ most
  | [], acc, h => h
  | r :: p, acc, h => by
    rw [un]
    split
    · simp
    · split
      · simp
      · exact un_len most p _ (by rw [List.length_append, List.length_replicate]; omega)
theorem unI_facts (p : List Rn) (most : Int) (B : Nat) (hB : most ≤ B) (ha : AllR p) : (unI p most).1.length ≤ B ∧ ((unI p most).2 = 0 → okR p ∧ pk (unI p most).1 = p ∧ AllLt (unI p most).1) := by
  unfold unI
  split
  · exact ⟨by simp, by simp⟩
  · refine ⟨Nat.le_trans (un_len _ p [] (by simp)) (by omega), fun h => ?_⟩
    have := un_zero most.toNat p [] trivial h
    rw [List.nil_append] at this
    rw [show expand [] = [] from rfl] at this
    rw [this.2]
    exact ⟨this.1, pk_expand p this.1, allLt_expand p ha⟩
theorem unI_err (p : List Rn) (most : Int) : (unI p most).2 ≤ 4 := by
  have : ∀ (m : Nat) (p : List Rn) (acc : List Nat), (un m p acc).2 ≤ 4 := by
    intro m p
    induction p with
    | nil => intro acc; simp [un]
    | cons r p ih =>
      intro acc
      rw [un]
      split
      · simp
      · split
        · simp
        · exact ih _
  unfold unI
  split
  · simp
  · exact this _ _ _
set_option maxRecDepth 20000 in
set_option maxHeartbeats 8000000 in
theorem runsUnpacks_walk (A : Option Addr) (ca : Nat) (p : List (Nat × Nat)) (most : Int) (hmo : -9223372036854775808 ≤ most ∧ most < 9223372036854775808) (w : World) (ra : ArgRow repRun 2 w A p.length p) (hpa : p.length ≤ 9223372036854775807) :
    Calls Try.prog 4 #[.slice A p.length ca, .int .i64 most] w fun e w' => e = .returned (.bool true) ∧ Ext w w' := by
  have ha := ra.allR
  have hr := ra.rrow
  obtain ⟨n, hn⟩ : ∃ n, n = p.length := ⟨_, rfl⟩
  rw [← hn] at hpa ⊢
  have HN := Lib.hid hn
  clear hn ra
  by_cases h0 : n ≤ 100
  · by_cases h1 : most ≤ 2000
    · have HF := Lib.hid (unI_facts p most 2000 h1 ha)
      have herr := unI_err p most
      have HT : Hid (∀ i, i < n → runsV (p.take (i + 1)) = runsV (p.take i) ++ [.int .u64 ((p.getD i (0, 0)).1 : Nat), .int .u64 ((p.getD i (0, 0)).2 : Nat)]) := Lib.hid (fun i hi => by
        have hi2 : i < p.length := by have := HN.out; omega
        rw [List.take_succ_eq_append_getElem hi2, runsV_append, List.getD_eq_getElem?_getD, List.getElem?_eq_getElem hi2]; rfl)
      go_enter Try.func4, Try.ntmps4
      go_wp2_with (first
        | (go_at_call 9; refine (rawake_any _).mono ?_; rintro e w1 ⟨rfl, x1⟩; have h := ((St.start noB w).ext x1).made 36 2 0 0 #[] (by omega) (by unfold maxLen; omega) rfl)
        | (at_builtin; refine wpList_pushAll rfl _ _ _ rfl 36 (.agg #[.int .u64 0, .int .u64 0]) 2 16 Try.underlying24 r_info rfl (by decide) h h A n ca (runsV p) rfl rfl (by rw [runsV_len]; have := HN.out; omega) (by intro e; have := hr.none e; have := HN.out; omega) (hr.ext h.ends).cells (runsV_one p) (by unfold maxLen; omega) (by omega) ?_; intro A2 c2 w2 h2 g2))
      have h3 : St noB w w2 [ownT 36 2 (.slice A2 n c2) n (runsV p)] := by simpa using h2
      clear h h2 g2
      refine (unpack_st h3 A2 c2 n p HN.out.symm (by omega) ha (fun w' hh => Own.rrow hh.own HN.out.symm) most (by omega)).mono ?_
      rintro e w3 ⟨v3, rfl, h4⟩
      have hFF := HF.out
      generalize hU : unI p most = U at h4 herr hFF ⊢
      have HU := Lib.hid hU
      clear hU HF
      obtain ⟨L, er⟩ := U
      simp only at h4 herr hFF ⊢
      obtain ⟨hLb, hok⟩ := hFF
      obtain ⟨q, hq⟩ : ∃ q, q = L.length := ⟨_, rfl⟩
      have HQ := Lib.hid hq
      have HOK := Lib.hid hok
      unfold nlT at h4
      rw [← hq] at h4 hLb
      clear hq hok h3
      obtain ⟨A3, c3, rfl⟩ := h4.own.form
      have h5 := h4.swap.drop.nilOwn 37 2
      clear h4
      go_wp2_with fail
      go_loopw [7, 34] (fun vo vi wr => ∃ (i : Nat) (v : Value), i ≤ n ∧ vo = v ∧ vi = .int .i64 i ∧ St noB w wr [ownT 37 2 v i (runsV (p.take i)), mlT (.slice A3 q c3) q L]) (fun _ vi _ => n - (intOf vi).toNat)
      case atStart => exact ⟨0, _, by omega, rfl, rfl, h5⟩
      case round =>
        clear h5
        obtain ⟨i, v, hi, rfl, rfl, h⟩ := hrel
        obtain ⟨A7, c7, rfl⟩ := h.own.form
        by_cases hlt : i < n
        · obtain ⟨b, off, rfl, hc0, hc1⟩ := (hr.ext h.ends) i (by have := HN.out; omega)
          have hE := HT.out i hlt
          generalize p.getD i (0, 0) = r at hc0 hc1 hE
          obtain ⟨xv, xc⟩ := r
          simp only at hc0 hc1 hE
          have HE := Lib.hid hE
          have h6 := (h.alloc #[Value.int .u64 xv, Value.int .u64 xc] 36).swap
          clear hE
          go_wp2_with (at_builtin; refine wpList_push rfl _ _ _ rfl 37 (.agg #[.int .u64 0, .int .u64 0]) 2 16 Try.underlying30 rr_info rfl (by decide) h6 rfl (by rw [World.size_alloc]; rfl) rfl (runsV_one [(xv, xc)]) (by unfold maxLen; omega) (by omega) ?_; intro A' c' w6 h7)
          have h8 : St noB w w6 [ownT 37 2 (.slice A' (i + 1) c') (i + 1) (runsV (p.take (i + 1))), mlT (.slice A3 q c3) q L] := by rw [HE.out]; exact h7.swap.drop
          go_roundw
          case rel => first | exact ⟨i + 1, _, by omega, rfl, by go_num, h8⟩ | ((repeat apply Exists.intro); exact ⟨⟨i + 1, _, by omega, rfl, by go_num, h8⟩, rfl⟩)
          case measure => simp [intOf]; omega
        · obtain rfl : i = n := by omega
          have HPT : Hid (p.take i = p) := Lib.hid (by rw [HN.out, List.take_length])
          rw [HPT.out] at h
          have HRU := Lib.hid (runpack_st h A7 c7 i p HN.out.symm (by omega) ha (fun w' hh => Own.rrow hh.own HN.out.symm) most (by omega))
          rw [HU.out] at HRU
          unfold nlT at HRU
          simp only at HRU
          rw [← HQ.out] at HRU
          go_wp2_with (go_at_call 15; refine HRU.out.mono ?_; rintro e w7 ⟨v7, rfl, h9⟩; obtain ⟨A9, c9, rfl⟩ := h9.own.form)
          clear HRU h
          refine (nsame_m h9 A3 A9 c3 c9 L L q HQ.out.symm HQ.out.symm (by omega) (Own.nrow (h9.pull 2).own HQ.out.symm) (Own.nrow h9.own HQ.out.symm) rfl).mono ?_
          rintro e w8 ⟨rfl, h10⟩
          clear h9
          by_cases he : er = 0
          · subst he
            obtain ⟨hok, hpk, hal⟩ := HOK.out rfl
            have HPK := Lib.hid hpk
            have h11 := h10.drop
            have HPP := Lib.hid (pack_st h11 A3 c3 L q HQ.out.symm (by omega) (Own.nrow h11.swap.own HQ.out.symm) hal)
            rw [HPK.out] at HPP
            clear hok hpk h10
            go_wp2_with (go_at_call 10; refine HPP.out.mono ?_; rintro e w9 ⟨A11, n11, c11, rfl, hn11, h12⟩; obtain rfl : n11 = i := (hn11.trans HN.out.symm); clear hn11)
            refine (rsame_any A11 A7 c11 c7 p n11 w9 HN.out.symm (by omega) (Own.rrow h12.own HN.out.symm) (Own.rrow h12.swap.own HN.out.symm)).mono ?_
            rintro e w10 ⟨rfl, x10⟩
            go_wp2_with fail
            go_ret
            exact ⟨rfl, (h12.ext x10).ends⟩
          · have hne : ((er : Int) != 0) = true := by rw [bne_iff_ne]; omega
            clear he
            go_wp2_with fail
            go_ret
            exact ⟨rfl, h10.ends⟩
    · clear hr ha
      go_enter Try.func4, Try.ntmps4
      go_wp2_with (go_at_call 9; refine (rawake_any _).mono ?_; rintro e w1 ⟨rfl, x1⟩)
      go_ret
      exact ⟨rfl, Mut.trans (by assumption) x1⟩
  · clear hr ha
    go_enter Try.func4, Try.ntmps4
    go_wp2_with (go_at_call 9; refine (rawake_any _).mono ?_; rintro e w1 ⟨rfl, x1⟩)
    go_ret
    exact ⟨rfl, Mut.trans (by assumption) x1⟩
end Go.Proofs.Ytpdhfmkaeemadaa
