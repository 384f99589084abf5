/- Layer 7: the book of codes. -/
import Derived.Test.YtclhmlgbhlmekaaHMapT
import Derived.Test.YtclhmlgbhlmekaaHCodes
import Derived.TacticsInMore
namespace Go.Proofs.Ytclhmlgbhlmekaa
open Go.RowKit
set_option linter.unusedVariables false
set_option linter.unusedSimpArgs false
def bookL (L C : Nat → Nat) : Nat → List Ent
  | 0 => []
  | i + 1 => if 0 < L i then bookL L C i ++ [(L i, C i, i)] else bookL L C i
theorem bookL_mem (L C : Nat → Nat) : ∀ (i : Nat) (x : Ent), x ∈ bookL L C i ↔ ∃ j, j < i ∧ 0 < L j ∧ x = (L j, C j, j)
  | 0, x => ⟨fun h => (List.not_mem_nil h).elim, fun ⟨j, h, _⟩ => by omega⟩
  | i + 1, x => by
    unfold bookL
    by_cases h0 : 0 < L i
    · rw [if_pos h0, List.mem_append, bookL_mem L C i x, List.mem_singleton]
      constructor
      · rintro (⟨j, h1, h2, h3⟩ | h)
        · exact ⟨j, by omega, h2, h3⟩
        · exact ⟨i, by omega, h0, h⟩
      · rintro ⟨j, h1, h2, h3⟩
        by_cases e : j = i
        · subst e; exact .inr h3
        · exact .inl ⟨j, by omega, h2, h3⟩
    · rw [if_neg h0, bookL_mem L C i x]
      constructor
      · rintro ⟨j, h1, h2, h3⟩; exact ⟨j, by omega, h2, h3⟩
      · rintro ⟨j, h1, h2, h3⟩
        by_cases e : j = i
        · subst e; exact absurd h2 h0
        · exact ⟨j, by omega, h2, h3⟩
theorem findE_none {E : List Ent} {k c : Nat} : findE E k c = none ↔ ∀ x ∈ E, ¬ (k = x.1 ∧ c = x.2.1) := by
  unfold findE; rw [List.find?_eq_none]; simp
/-- no two bytes have one code -/
def Apart (L C : Nat → Nat) : Prop := ∀ i j, i < 256 → j < 256 → 0 < L i → L i = L j → C i = C j → i = j
theorem book_new {L C : Nat → Nat} (hd : Apart L C) (i : Nat) (hi : i < 256) (h0 : 0 < L i) : findE (bookL L C i) (L i) (C i) = none := findE_none.2 fun x hx => by
  obtain ⟨j, h1, h2, rfl⟩ := (bookL_mem L C i x).1 hx
  rintro ⟨e1, e2⟩
  have := hd i j hi (by omega) h0 e1 e2
  omega
theorem wpList_update {S : Nat → Prop} {W w : World} {b : Nat} {E : List Ent} {M : List Thing} {ops : Array Oper} {rest : List Oper} {o : Oper} {a : Act} {Q : Exit → Act → World → Prop}
    (hg : o.guard = none) (m x v : Operand) (hop : o.op = Op.mapUpdate 107 m x v) (h : St S W w (mapT b E :: M)) (k c y : Nat) (hn : findE E k c = none)
    (hm : a.eval m = .map (some b)) (hx : a.eval x = keyV k c) (hv : a.eval v = .int .u8 y)
    (hK : ∀ w', St S W w' (mapT b (E ++ [(k, c, y)]) :: M) → wpList Try.prog ops Q rest (a.put o.dst undef) w') : wpList Try.prog ops Q (o :: rest) a w := by
  refine wpList_plain hg fun K' hK' => ?_
  obtain ⟨ob, hrun, h2⟩ := run_update h k c y hn
  unfold Oper.wp
  simp [execOp, hop, hm, hx, hv, hrun, Result.andThen]
  exact hK' _ _ (hK _ h2)
set_option maxRecDepth 20000 in
set_option maxHeartbeats 2000000 in
theorem book_st {S : Nat → Prop} {W w : World} {M : List Thing} (h : St S W w M) (L C : Nat → Nat) (hL : ∀ i, L i < 256) (hC : ∀ i, C i < 18446744073709551616) (hd : Apart L C) (bk : List Ent) (hb : bk = bookL L C 256) :
    Calls Try.prog 53 #[.agg (tabV .u8 L), .agg (tabV .u64 C)] w fun e w' => ∃ b, e = .returned (.map (some b)) ∧ St S W w' (mapT b bk :: M) := by
  have HB := Lib.hid hb
  clear hb
  obtain ⟨T8, hT8⟩ : ∃ T8, T8 = tabV .u8 L := ⟨_, rfl⟩
  have hT0 : ∀ i, i < 256 → T8[i]? = some (.int .u8 (L i)) := fun i hi => by rw [hT8]; exact tabV_get _ _ i hi
  have hTs : T8.size = 256 := by rw [hT8, tabV_size]
  rw [← hT8]
  have h1 := (h.alloc T8 27).alloc (tabV .u64 C) 25
  rw [size_alloc'] at h1
  have hq := Lib.hid (fun o => (((St.ext h1 ((Mut.refl noB _).alloc o))).pull 1).blk)
  have hs8 : (Try.prog.info? 27).map (·.size) = some T8.size := by rw [hTs]; kernel_rfl
  have h2 := h1.newMap
  have hmm := fun w => run_makeMap (P := Try.prog) 107 w
  clear hT8 h h1
  go_enter Try.func53, Try.ntmps53
  go_wp2_with (refine wpList_load_row rfl _ _ rfl w.heap.size rfl 27 T8 (0, 0) (.array 256 5) (hq.out _) Try.underlying27 rfl hs8 ?_)
  rw [size_alloc', size_alloc'] at h2
  clear hq hs8 hmm
  generalize ((w.alloc (.cells T8 27)).alloc (.cells (tabV .u64 C) 25)).alloc (.map #[] 0) = w1 at h2 ⊢
  generalize w.heap.size + 1 + 1 = mb at h2 ⊢
  generalize w.heap.size + 1 = cb at h2 ⊢
  generalize w.heap.size = lb at h2 ⊢
  go_loopw [10] (fun v10 wr => ∃ i : Nat, v10 = .int .i64 i ∧ i ≤ 256 ∧ St S W wr (mapT mb (bookL L C i) :: blkT cb (tabV .u64 C) 25 :: blkT lb T8 27 :: M)) (fun v10 _ => 256 - (intOf v10).toNat)
  case atStart => exact ⟨0, rfl, by omega, h2⟩
  case round =>
    clear h2
    obtain ⟨i, rfl, hi, h⟩ := hrel
    by_cases hlt : i < 256
    · have hl1 : (i : Int) < 256 := by omega
      have hT1 := fun w => index8 T8 i _ hlt (hT0 i hlt) w
      have kc := cell_of_heap (h.pull 1).blk i
      rw [tabV_get _ _ _ hlt] at kc
      have hLi := hL i
      by_cases hz : 0 < L i
      · have hz2 : (0 : Int) < (L i : Int) := by omega
        have HE : Hid (bookL L C (i + 1) = bookL L C i ++ [(L i, C i, i)]) := Lib.hid (by rw [bookL, if_pos hz])
        have hn := book_new hd i hlt hz
        have hw8 : IntKind.u8.wrap (i : Int) = (i : Int) := by rw [IntKind.wrap_u8]; omega
        have HN := Lib.hid hn
        clear hn hz
        generalize L i = x at *
        generalize C i = y at *
        generalize bookL L C i = E at *
        go_wp2_with (at_mapUpdate; refine wpList_update rfl _ _ _ rfl h x y i HN.out rfl rfl rfl ?_; intro w3 h3)
        rw [← HE.out] at h3
        exact ⟨⟨i + 1, by go_num, by omega, h3⟩, by simp only [intOf]; omega⟩
      · have hz2 : ¬ (0 : Int) < (L i : Int) := by omega
        have E : bookL L C (i + 1) = bookL L C i := by rw [bookL, if_neg hz]
        rw [← E] at h
        clear E
        generalize L i = x at hT1 hz2
        go_wp2_with fail
        go_roundw
        case rel => first | exact ⟨i + 1, by go_num, by omega, h⟩ | ((repeat apply Exists.intro); exact ⟨⟨i + 1, by go_num, by omega, h⟩, rfl⟩)
        case measure => first | (simp [intOf]; done) | (simp [intOf]; omega)
    · obtain rfl : i = 256 := by omega
      have hl1 : ¬ ((256 : Nat) : Int) < 256 := by omega
      rw [← HB.out] at h
      go_wp2_with fail
      go_ret
      exact ⟨mb, rfl, ((h.pull 1).drop.pull 1).drop⟩
end Go.Proofs.Ytclhmlgbhlmekaa
