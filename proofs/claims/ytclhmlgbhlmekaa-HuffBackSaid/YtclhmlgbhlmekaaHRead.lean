/- Layer 7: a text of n bytes is read. -/
import Derived.Test.YtclhmlgbhlmekaaHLens
import Derived.Test.YtclhmlgbhlmekaaHOne
import Derived.Test.YtclhmlgbhlmekaaHCanon
import Derived.Deep.RegionHeld
namespace Go.Proofs.Ytclhmlgbhlmekaa
open Go.RowKit
set_option linter.unusedVariables false
set_option linter.unusedSimpArgs false
theorem rls_le (l : List UInt8) (most : Nat) : ∀ (n a : Nat) (acc : List Nat), a ≤ l.length → (rls l most n a acc).2.2 ≤ l.length
  | 0, a, acc, h => h
  | n + 1, a, acc, h => by
    have hf := rd2_facts l a h
    rw [rls]
    split
    · split
      · exact hf.2.2.2.2
      · split
        · exact hf.2.2.2.2
        · exact rls_le l most n _ _ hf.2.2.2.2
    · exact hf.2.2.2.2
theorem rrl_le (l : List UInt8) (a : Nat) (most : Int) (h : a ≤ l.length) : (rrl l a most).2.2 ≤ l.length := by
  have hf := vrd_facts l a h
  unfold rrl
  split
  · exact h
  · split
    · exact rls_le l _ _ _ _ hf.2.2.2
    · exact hf.2.2.2
/-- so many bytes, one behind the other -/
def decP (E : List Ent) (f : Nat → Bool) (N : Nat) : Nat → Nat → List UInt8 → Option (List UInt8)
  | 0, _, acc => some acc
  | m + 1, a, acc => match oneP E f N a with
    | none => none
    | some y => decP E f N m y.2 (acc ++ [UInt8.ofNat y.1])
/-- a text of n bytes that begins with its lengths at a -/
def readP (l : List UInt8) (a n : Nat) : Option (List UInt8) :=
  if lensOK (rrl l a 256).2.1 (rrl l a 256).1 = true ∧ codE (tabL (rrl l a 256).1 256) = 0 ∧ n ≤ 8 * (l.length - (rrl l a 256).2.2) then
    decP (bookL (tabL (rrl l a 256).1 256) (codT (tabL (rrl l a 256).1 256)) 256) (sb (l.drop (rrl l a 256).2.2)) (8 * (l.length - (rrl l a 256).2.2)) n 0 []
  else none
theorem oneG_lt {E : List Ent} (h : ∀ x ∈ E, x.2.2 < 256) (f : Nat → Bool) (N a : Nat) : ∀ (m k : Nat) (y : Nat × Nat), oneG E f N a m k = some y → y.1 < 256
  | 0, k, y, e => by cases e
  | m + 1, k, y, e => by
    rw [oneG] at e
    split at e
    · cases e
    · split at e
      · rename_i x hx
        cases e
        exact h _ (List.mem_of_find?_eq_some hx)
      · exact oneG_lt h f N a m (k + 1) y e
theorem exec_load_row {P : Program} {ρ : Operand → Value} {o : Oper} {w : World} (ty : TypeId) (x : Operand) (ho : o.op = .load ty x)
    (g : Nat) (hx : ρ x = .pointer (some ⟨g, 0, none⟩)) (t : TypeId) (cs : Array Value) (fr : Nat × Nat) (d : TypeDesc) (hg : w.heap[g]? = some (.cells cs t fr))
    (hu : P.underlying ty = some d) (hd : (match d with | .struct _ | .array _ _ => true | _ => false) = true) (hi : (P.info? ty).map (·.size) = some cs.size) :
    (execOp ρ o).run P w = .ok (.value (.agg cs)) w := by
  unfold execOp
  simp only [ho, hx, Instr.loadAt, Instr.sureAddr, Sem.run_bind, Sem.run_pure, Result.andThen_ok, run_loadVar_row w g t ty cs fr d hg hu hd hi]
def strOf : Option (List UInt8) → ByteArray
  | none => ⟨#[]⟩
  | some l => ⟨l.toArray⟩
set_option maxRecDepth 20000 in
set_option maxHeartbeats 4000000 in
theorem read_st {S : Nat → Prop} {W w : World} {b a : Nat} {s : ByteArray} (h : St S W w [rdT b s a]) (hs : s.size ≤ 1000000) (ha : a ≤ s.size) (n : Nat) (hn : n < 18446744073709551616) (R : Option (List UInt8)) (hR : R = readP s.data.toList a n) :
    Calls Try.prog 39 #[.pointer (some ⟨b, 0, none⟩), .int .u64 n] w fun e w' => e = .returned (.tuple #[.string (strOf R), .bool R.isSome]) ∧ St S W w' [] := by
  have hle := rrl_le s.data.toList a 256 (by simpa using ha)
  obtain ⟨⟨L, er, a2⟩, hr⟩ : ∃ r, rrl s.data.toList a 256 = r := ⟨_, rfl⟩
  unfold readP at hR
  rw [hr] at hR hle
  simp only at hR hle
  rw [show s.data.toList.length = s.size by simp] at hR hle
  have HLE := Lib.hid (lengths_st h hs ha L er a2 hr)
  have HR := Lib.hid hR
  clear hR hr h
  go_enter Try.func39, Try.ntmps39
  go_wp2_with fail
  refine HLE.out.mono ?_
  rintro _ w1 ⟨t, ht, rfl, htt, h1⟩
  clear HLE
  have HTT := Lib.hid htt
  clear htt
  have hz := zero8
  have h2 := h1.alloc (tabV .u8 (fun _ => 0)) 27
  have hq := Lib.hid h2.blk
  obtain ⟨w3, hw3, h3⟩ := name_world (P := fun x => St S W x _) (h2.row (tabV .u8 t))
  have HW3 := Lib.hid hw3
  clear h1 h2 hw3
  have hq3 := Lib.hid h3.blk
  have HCo := Lib.hid (fun w => codes_any t (fun i _ => ht i) w)
  go_wp2_with (first
    | (with_reducible refine (show wpList _ _ _ _ _ (World.alloc _ _) from ?_); refine wpList_store_row rfl _ _ _ rfl w1.heap.size (tabV .u8 t) rfl rfl 27 (tabV .u8 (fun _ => 0)) hq.out (size8 _) (tabV_sizes _ _ _) (tabV_one _ _) ?_; rw [HW3.out])
    | (refine wpList_load_row rfl _ _ rfl w1.heap.size rfl 27 (tabV .u8 t) (0, 0) (.array 256 5) hq3.out Try.underlying27 rfl (size8 _) ?_))
  refine (HCo.out w3).mono ?_
  rintro _ w4 ⟨rfl, x4⟩
  generalize w1.heap.size = lb at h3 ⊢
  clear hq HW3 hq3 HCo hz
  have h1 := (h3.ext x4).alloc (tabV .u64 (fun _ => 0)) 25
  have hz := zero64
  have hq := Lib.hid h1.blk
  have h2 := h1.row (tabV .u64 (codT t))
  obtain ⟨w5, hw5, h5⟩ := name_world (P := fun x => St S W x _) h2
  have HW5 := Lib.hid hw5
  clear h1 h2 hw5 x4 h3
  have h6 := (h5.pull 1).pull 2
  have HL := Lib.hid (left_any h6.rd hle (by unfold maxLen; omega))
  go_wp2_with (with_reducible refine (show wpList _ _ _ _ _ (World.alloc _ _) from ?_); refine wpList_store_row rfl _ _ _ rfl w4.heap.size (tabV .u64 (codT t)) rfl rfl 25 (tabV .u64 (fun _ => 0)) hq.out (size64 _) (tabV_sizes _ _ _) (tabV_one _ _) ?_; rw [HW5.out])
  refine HL.out.mono ?_
  rintro _ w6 ⟨rfl, x6⟩
  have HT := Lib.hid (take_st (h6.ext x6) (by unfold maxLen; omega) (s.size - a2) (by omega))
  clear hq HW5 h5 h6 HL hz
  go_wp2_with fail
  refine HT.out.mono ?_
  rintro _ w7 ⟨rfl, h7⟩
  clear HT
  generalize w4.heap.size = cb at h7 ⊢
  obtain ⟨rs, hrs⟩ : ∃ rs, rs = s.extract a2 (a2 + (s.size - a2)) := ⟨_, rfl⟩
  have hrz : rs.size = s.size - a2 := by rw [hrs, ByteArray.size_extract]; omega
  have hrl : rs.data.toList = s.data.toList.drop a2 := by
    rw [hrs, ByteArray.data_extract, Array.toList_extract, List.extract_eq_take_drop, List.take_of_length_le (by simp)]
  rw [← hrs]
  rw [← hrl, ← hrz] at HR
  have hrs6 : rs.size ≤ 1000000 := by omega
  clear hrs hrz hrl x6
  have hw8 : IntKind.u64.wrap (rs.size : Int) = (rs.size : Int) := by rw [IntKind.wrap_u64]; omega
  have hw9 : IntKind.u64.wrap (8 * (rs.size : Int)) = 8 * (rs.size : Int) := by rw [IntKind.wrap_u64]; omega
  cases hok : lensOK er L with
  | false =>
    have HN : Hid (R = none) := Lib.hid (by rw [HR.out, hok, if_neg (fun h => by cases h.1)])
    clear HR HTT
    go_wp2_with fail
    go_ret2
    rw [HN.out]
    exact ⟨rfl, h7.drop.drop.drop⟩
  | true =>
    have e := HTT.out hok
    subst e
    by_cases hce : codE (tabL L 256) = 0
    · by_cases hnn : n ≤ 8 * rs.size
      · have HR2 : Hid (R = decP (bookL (tabL L 256) (codT (tabL L 256)) 256) (sb rs.data.toList) (8 * rs.size) n 0 []) := Lib.hid (by rw [HR.out, if_pos ⟨hok, hce, hnn⟩])
        have hnn2 : ¬ (8 * (rs.size : Int) < (n : Int)) := by omega
        have hap := apart_codT hce
        have hC := codT_lt (tabL L 256)
        have HM : Hid (∀ x ∈ bookL (tabL L 256) (codT (tabL L 256)) 256, x.2.2 < 256) := Lib.hid (fun x hx => by
          obtain ⟨j, h1, _, rfl⟩ := (bookL_mem _ _ _ _).1 hx
          exact h1)
        obtain ⟨E, hE⟩ : ∃ E, E = bookL (tabL L 256) (codT (tabL L 256)) 256 := ⟨_, rfl⟩
        rw [← hE] at HR2 HM
        have HBk := Lib.hid (fun (w : World) (M : List Thing) (h : St S W w M) => book_st h (tabL L 256) (codT (tabL L 256)) ht hC hap E hE)
        clear HR HTT hok hap hC hE
        rw [hce]
        clear hce
        generalize codT (tabL L 256) = C at *
        generalize tabL L 256 = t at *
        go_wp2_with fail
        have h8 := h7.ext ((Mut.refl noB w7).drew)
        have hS : (fun w' : World => w'.heap[lb]? = some (.cells (tabV .u8 t) 27 (0, 0)) ∧ w'.heap[cb]? = some (.cells (tabV .u64 C) 25 (0, 0))) w7.drew := ⟨(h8.pull 1).blk, (h8.pull 2).blk⟩
        refine wp_region_held (S := fun w' : World => w'.heap[lb]? = some (.cells (tabV .u8 t) 27 (0, 0)) ∧ w'.heap[cb]? = some (.cells (tabV .u64 C) 25 (0, 0))) (by kernel_rfl) ?_
        change wpAnyH _ _ _ _ _ _ _ _ (World.drew _)
        refine wpAnyH_take (i := 0) (v := ?_) rfl (by kernel_rfl) (by kernel_rfl) (by kernel_rfl) (fun _ _ _ h => h) (Or.inl ⟨by rfl, ?_⟩) hS ?_
        rotate_left
        · (intro w' hS'; go_simp; try with_reducible rfl)
        refine wpAnyH_take (i := 2) (v := .agg (tabV .u8 t)) rfl (by kernel_rfl) (by kernel_rfl) (by kernel_rfl) (fun _ _ _ h => h) (Or.inl ⟨by rfl, fun w' hS' => exec_load_row 27 _ rfl lb rfl 27 _ (0, 0) (.array 256 5) hS'.1 Try.underlying27 rfl (size8 _)⟩) hS ?_
        refine wpAnyH_take (i := 3) (v := .agg (tabV .u64 C)) rfl (by kernel_rfl) (by kernel_rfl) (by kernel_rfl) (fun _ _ _ h => h) (Or.inl ⟨by rfl, fun w' hS' => exec_load_row 25 _ rfl cb rfl 25 _ (0, 0) (.array 256 24) hS'.2 Try.underlying25 rfl (size64 _)⟩) hS ?_
        refine wpAnyH_ready (rs := [1]) (by kernel_rfl) (by simp) ?_
        refine AllReadyH.cons rfl (fun K hK => ?_) AllReadyH.nil
        go_simp
        refine (bnew_st h8 rs).mono ?_
        rintro _ w8 ⟨rfl, h9, _⟩
        generalize w7.drew.heap.size = bb at h9 ⊢
        replace hS : (fun w' : World => w'.heap[lb]? = some (.cells (tabV .u8 t) 27 (0, 0)) ∧ w'.heap[cb]? = some (.cells (tabV .u64 C) 25 (0, 0))) w8 := ⟨(h9.pull 2).blk, (h9.pull 3).blk⟩
        refine hK.out _ _ hS (fun _ => ?_)
        clear hK K
        refine wpAnyH_ready (rs := [4]) (by kernel_rfl) (by simp) ?_
        refine AllReadyH.cons rfl (fun K hK => ?_) AllReadyH.nil
        go_simp
        refine (HBk.out _ _ h9).mono ?_
        rintro _ w9 ⟨mb, rfl, h10⟩
        replace hS : (fun w' : World => w'.heap[lb]? = some (.cells (tabV .u8 t) 27 (0, 0)) ∧ w'.heap[cb]? = some (.cells (tabV .u64 C) 25 (0, 0))) w9 := ⟨(h10.pull 3).blk, (h10.pull 4).blk⟩
        refine hK.out _ _ hS (fun _ => ?_)
        clear hK K
        refine wpAnyH_take (i := 5) (v := ?_) rfl (by kernel_rfl) (by kernel_rfl) (by kernel_rfl) (fun _ _ _ h => h) (Or.inl ⟨by rfl, ?_⟩) hS ?_
        rotate_left
        · (intro w' hS'; go_simp; try with_reducible rfl)
        refine wpAnyH_take (i := 6) (v := ?_) rfl (by kernel_rfl) (by kernel_rfl) (by kernel_rfl) (fun _ _ _ h => h) (Or.inl ⟨by rfl, ?_⟩) hS ?_
        rotate_left
        · (intro w' hS'; go_simp; try with_reducible rfl)
        refine wpAnyH_done (by kernel_rfl) ?_ _
        have h11 : St S W w9 [mapT mb E, brT bb rs 0] := (((h10.pull 4).drop.pull 3).drop.pull 2).drop
        clear hS h8 h9 h10 HBk h7
        have h12 := (h11.swap).newWr
        clear h11
        go_wp2_with fail
        generalize w9.alloc (.cells #[.slice none 0 0] 89) = w10 at h12 ⊢
        generalize w9.heap.size = ob at h12 ⊢
        go_loopw [54] (fun v54 wr => ∃ (i a' : Nat) (acc : List UInt8), v54 = .int .u64 i ∧ i ≤ n ∧ a' ≤ 8 * rs.size ∧ Hid (acc.length = i) ∧ Hid (R = decP E (sb rs.data.toList) (8 * rs.size) (n - i) a' acc) ∧ St S W wr [wrT ob acc, brT bb rs a', mapT mb E]) (fun v54 _ => n - (intOf v54).toNat)
        case atStart => exact ⟨0, 0, [], rfl, by omega, by omega, Lib.hid rfl, HR2, h12⟩
        case round =>
          clear h12 HR2
          obtain ⟨i, a', acc, rfl, hi, ha', HLa, HR, h⟩ := hrel
          by_cases hlt : i < n
          · have hl1 : (i : Int) < (n : Int) := by omega
            obtain ⟨y, hy⟩ : ∃ y, oneP E (sb rs.data.toList) (8 * rs.size) a' = y := ⟨_, rfl⟩
            have HO := Lib.hid (one_st ((h.pull 2).pull 2) ha' (by omega) y hy.symm)
            have hR := HR.out
            rw [show n - i = (n - (i + 1)) + 1 by omega, decP, hy] at hR
            cases y with
            | none =>
              have HN : Hid (R = none) := Lib.hid hR
              clear hR HR hy
              go_wp2_with fail
              refine HO.out.mono ?_
              rintro _ w11 ⟨x, a3, ha3, rfl, _, h13⟩
              go_wp2_with fail
              go_ret2
              rw [HN.out]
              exact ⟨rfl, h13.drop.drop.drop⟩
            | some y =>
              have hyx := oneG_lt HM.out _ _ _ 56 0 y hy
              have HN : Hid (R = decP E (sb rs.data.toList) (8 * rs.size) (n - (i + 1)) y.2 (acc ++ [UInt8.ofNat y.1])) := Lib.hid hR
              clear hR HR hy
              go_wp2_with fail
              refine HO.out.mono ?_
              rintro _ w11 ⟨x, a3, ha3, rfl, hxy, h13⟩
              obtain ⟨e1, e2⟩ := hxy y rfl
              rw [← e1, ← e2] at HN
              rw [← e1] at hyx
              clear hxy e1 e2 HO
              have h14 := ((h13.pull 2).alloc #[.int .u8 (x : Nat)] 5)
              have hcell := cell_of_heap h14.blk 0
              have hla := HLa.out
              have HP : Hid (Calls Try.prog 55 #[.pointer (some ⟨ob, 0, none⟩), .slice (some ⟨w11.heap.size, 0, none⟩) 1 1] (w11.alloc (.cells #[.int .u8 (x : Nat)] 5)) fun e w' => e = .returned (.tuple #[]) ∧ St S W w' (wrT ob (acc ++ [UInt8.ofNat x]) :: [blkT w11.heap.size #[.int .u8 (x : Nat)] 5, brT bb rs a3, mapT mb E])) := Lib.hid (put_st h14.swap [UInt8.ofNat x] ⟨w11.heap.size, 0, none⟩ 1 (fun j hj => by
                have e : j = 0 := by rw [List.length_singleton] at hj; omega
                subst e
                rw [Go.WideShapes.add_plain, hcell]
                show some (Value.int .u8 (x : Nat)) = some (bv (UInt8.ofNat x))
                rw [bv_ofNat]
                show some (Value.int .u8 _) = some (Value.int .u8 _)
                rw [Nat.mod_eq_of_lt hyx]) (by rw [List.length_singleton]; omega))
              have HLa2 : Hid ((acc ++ [UInt8.ofNat x]).length = i + 1) := Lib.hid (by rw [List.length_append, hla]; rfl)
              clear hcell hla h14 h13 hyx
              go_wp2_with fail
              refine HP.out.mono ?_
              rintro _ w12 ⟨rfl, h15⟩
              have hi64 : IntKind.u64.wrap ((i : Int) + 1) = (i : Int) + 1 := by rw [IntKind.wrap_u64]; omega
              go_wp2_with fail
              exact ⟨⟨i + 1, a3, _, by go_num, by omega, ha3, HLa2, HN, h15.swap.drop⟩, by simp only [intOf]; omega⟩
          · obtain rfl : i = n := by omega
            have hl1 : ¬ ((i : Int) < (i : Int)) := by omega
            have HN : Hid (R = some acc) := Lib.hid (by rw [HR.out, Nat.sub_self]; rfl)
            have HS := Lib.hid (str_st h)
            clear HR
            go_wp2_with fail
            refine HS.out.mono ?_
            rintro _ _ ⟨rfl, rfl⟩
            go_wp2_with fail
            go_ret2
            rw [HN.out]
            exact ⟨rfl, h.drop.drop.drop⟩
      · have HN : Hid (R = none) := Lib.hid (by rw [HR.out, if_neg (fun h => hnn h.2.2)])
        have hnn2 : (8 * (rs.size : Int) < (n : Int)) := by omega
        clear HR HTT ht
        rw [hce]
        clear hce
        generalize codT (tabL L 256) = C at *
        generalize tabL L 256 = t at *
        go_wp2_with fail
        go_ret2
        rw [HN.out]
        exact ⟨rfl, h7.drop.drop.drop⟩
    · have HN : Hid (R = none) := Lib.hid (by rw [HR.out, if_neg (fun h => hce h.2.1)])
      have hce2 : ¬ (codE (tabL L 256) : Int) = 0 := by omega
      clear HR HTT ht
      generalize codE (tabL L 256) = ce at *
      generalize codT (tabL L 256) = C at *
      generalize tabL L 256 = t at *
      go_wp2_with fail
      go_ret2
      rw [HN.out]
      exact ⟨rfl, h7.drop.drop.drop⟩
end Go.Proofs.Ytclhmlgbhlmekaa
