/- Layer 21: bytes are read as events. -/
import Derived.Test.YtjdglpngcdcneaaGreatEUnp
namespace Go.Proofs.YtjdglpngcdcneaaGreat
open Go.RowKit Go.WideShapes
set_option linter.unusedVariables false
set_option linter.unusedSimpArgs false
set_option linter.unusedSectionVars false
def rdE (s : List UInt8) (most : Int) : List Ev × Nat :=
  if most < 0 ∨ 65536 < most then ([], 1)
  else if (unpackP s 4194304).2 ≠ 0 then ([], 3)
  else match unpackedP (unpackP s 4194304).1 most with
    | none => ([], 3)
    | some l => if checkE l = (0, 0) ∧ printE l = s then (l, 0) else ([], 3)
def RdOK (R : List Ev × Nat) (most : Int) (W : World) (e : Ending) (w' : World) : Prop :=
  (∃ (l : List Ev) (n x0 : Nat), R = (l, 0) ∧ l.length = n ∧ (n : Int) ≤ most ∧ n ≤ 65536 ∧ VLok l ∧ e = .returned (.tuple #[.slice (some ⟨x0, 0, none⟩) n n, .int .i64 0]) ∧ St noB W w' [ownT 36 5 (.slice (some ⟨x0, 0, none⟩) n n) n (evsV l)]) ∨
  (∃ c : Nat, R = ([], c) ∧ (c = 1 ∨ c = 3) ∧ e = .returned (.tuple #[.slice none 0 0, .int .i64 c]) ∧ Ext W w')
theorem Things.base {S : Nat → Prop} {W0 W w : World} (x : W0.heap.size ≤ W.heap.size) : ∀ {L : List Thing} {all : Nat → Prop}, Things S W w L all → Things S W0 w L all
  | [], _, h => h
  | t :: L, all, ⟨fp, rest, h1, h2, h3, h4, h5⟩ => ⟨fp, rest, h1, Things.base x h2, h3, h4, fun k hk => (h5 k hk).imp id (fun q => Nat.le_trans x q)⟩
theorem St.base {W0 W w : World} {L : List Thing} (h : St noB W w L) (x : Ext W0 W) : St noB W0 w L :=
  ⟨x.trans h.turn, let ⟨all, ht⟩ := h.things; ⟨all, ht.base x.size⟩⟩
theorem unpackP_len (l : List UInt8) (most : Int) (h : 0 ≤ most) : (unpackP l most).1.length ≤ most := by
  unfold unpackP
  split
  · simpa using h
  · split
    · simpa using h
    · split
      · simpa using h
      · split
        · simpa using h
        · rename_i t ht
          have := readP_len ht
          split
          · simp only; omega
          · simpa using h
set_option maxRecDepth 20000 in
set_option maxHeartbeats 8000000 in
theorem read_any (s : ByteArray) (hs : s.size ≤ 520000) (most : Int) (hm : -9223372036854775808 ≤ most ∧ most < 9223372036854775808) (w : World) :
    Calls Tryz.prog 12 #[.string s, .int .i64 most] w fun e w' => RdOK (rdE s.data.toList most) most w e w' := by
  obtain ⟨R, hR⟩ : ∃ R, rdE s.data.toList most = R := ⟨_, rfl⟩
  rw [hR]
  unfold rdE at hR
  by_cases h0 : most < 0
  · rw [if_pos (.inl h0)] at hR
    subst hR
    go_enter Tryz.func12, Tryz.ntmps12
    go_wp2_with fail
    go_ret2
    exact .inr ⟨1, rfl, .inl rfl, rfl, Mut.refl noB w⟩
  · by_cases h1 : 65536 < most
    · rw [if_pos (.inr h1)] at hR
      subst hR
      go_enter Tryz.func12, Tryz.ntmps12
      go_wp2_with fail
      go_ret2
      exact .inr ⟨1, rfl, .inl rfl, rfl, Mut.refl noB w⟩
    · rw [if_neg (by omega)] at hR
      obtain ⟨m, rfl⟩ : ∃ m : Nat, most = m := ⟨most.toNat, by omega⟩
      have HU := Lib.hid (unpack_any s hs 4194304 (by omega) w)
      have hul := unpackP_len s.data.toList 4194304 (by omega)
      obtain ⟨⟨t, er⟩, hu⟩ : ∃ u, unpackP s.data.toList 4194304 = u := ⟨_, rfl⟩
      rw [hu] at hR HU hul
      dsimp only at hR HU hul
      clear hu
      obtain ⟨ts, hts⟩ : ∃ ts : ByteArray, ts = ⟨t.toArray⟩ := ⟨_, rfl⟩
      have etl : ts.data.toList = t := by rw [hts]
      have etz : ts.size = t.length := by rw [hts]; rfl
      have HP := Lib.hid (fun w => unp_any ts (by omega) m (by omega) w)
      rw [etl] at HP
      rw [← hts] at HU
      clear hts etl
      by_cases he : er = 0
      · subst he
        rw [if_neg (by omega)] at hR
        have HRR := Lib.hid hR
        clear hR
        go_enter Tryz.func12, Tryz.ntmps12
        go_wp2_with fail
        refine HU.out.mono ?_
        rintro _ w1 ⟨rfl, x1⟩
        go_wp2_with fail
        refine (HP.out w1).mono ?_
        rintro _ w2 (⟨l, n, x0, e1, e2, e3, e4, rfl, h2⟩ | ⟨e1, rfl, x2⟩)
        · have HR2 := HRR.out
          rw [e1] at HR2
          dsimp only at HR2
          clear HRR HP HU e1
          have ER := Own.erow h2.own e2
          have HL := Lib.hid e2
          have HV := Lib.hid e4
          by_cases hc : checkE l = (0, 0)
          · have HPk := Lib.hid (print_ok (some ⟨x0, 0, none⟩) n n l w2 e2 ER hc (fun i _ => e4 i))
            obtain ⟨ps, hps⟩ : ∃ ps : ByteArray, ps = ⟨(printE l).toArray⟩ := ⟨_, rfl⟩
            rw [← hps] at HPk
            have hpe : printE l = ps.data.toList := by rw [hps]
            by_cases hp : printE l = s.data.toList
            · rw [if_pos ⟨hc, hp⟩] at HR2
              have HR := Lib.hid HR2
              have hcmp : (ps.toList == s.toList) = true := by
                rw [ByteArray.toList_eq, ByteArray.toList_eq, ← hpe, hp]; simp
              clear HR2 hp hpe hc ER e2 e4 hps
              go_wp2_with fail
              refine HPk.out.mono ?_
              rintro _ w4 ⟨rfl, x4⟩
              go_wp2_with fail
              go_ret2
              refine .inl ⟨l, n, x0, HR.out.symm, HL.out, by omega, by omega, HV.out, rfl, (h2.ext x4).base x1⟩
            · rw [if_neg (fun q => hp q.2)] at HR2
              have HR := Lib.hid HR2
              have hcmp : (ps.toList == s.toList) = false := by
                rw [beq_eq_false_iff_ne, ByteArray.toList_eq, ByteArray.toList_eq, ← hpe]; exact hp
              clear HR2 hp hpe hc ER e2 e4 hps
              go_wp2_with fail
              refine HPk.out.mono ?_
              rintro _ w4 ⟨rfl, x4⟩
              go_wp2_with fail
              go_ret2
              exact .inr ⟨3, HR.out.symm, .inr rfl, rfl, x1.trans (h2.ends.trans x4)⟩
          · rw [if_neg (fun q => hc q.1)] at HR2
            have HR := Lib.hid HR2
            have HPk := Lib.hid (print_bad (some ⟨x0, 0, none⟩) n n l w2 e2 (by omega) ER hc)
            have hcc := (check_code l).resolve_left hc
            generalize checkE l = C at *
            obtain ⟨c1, c2⟩ := C
            dsimp only at hcc HPk
            have hcne : ((c2 : Int) != 0) = true := by rw [bne_iff_ne]; omega
            clear HR2 hc hcc ER e2 e4
            go_wp2_with fail
            refine HPk.out.mono ?_
            rintro _ w4 ⟨rfl, x4⟩
            go_wp2_with fail
            go_ret2
            exact .inr ⟨3, HR.out.symm, .inr rfl, rfl, x1.trans (h2.ends.trans x4)⟩
        · have HR2 := HRR.out
          rw [e1] at HR2
          have HR := Lib.hid HR2
          clear HRR HP HU e1 HR2
          go_wp2_with fail
          go_ret2
          exact .inr ⟨3, HR.out.symm, .inr rfl, rfl, x1.trans x2⟩
      · rw [if_pos he] at hR
        have HR := Lib.hid hR
        have hne : ((er : Int) != 0) = true := by rw [bne_iff_ne]; omega
        clear hR HP he
        go_enter Tryz.func12, Tryz.ntmps12
        go_wp2_with fail
        refine HU.out.mono ?_
        rintro _ w1 ⟨rfl, x1⟩
        go_wp2_with fail
        go_ret2
        exact .inr ⟨3, HR.out.symm, .inr rfl, rfl, x1⟩
end Go.Proofs.YtjdglpngcdcneaaGreat
