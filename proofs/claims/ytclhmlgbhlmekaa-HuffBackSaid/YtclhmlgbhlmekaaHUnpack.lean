/- Layer 7: huff.Unpack. -/
import Derived.Test.YtclhmlgbhlmekaaHRead
import Derived.Test.YtclhmlgbhlmekaaHLenU
namespace Go.Proofs.Ytclhmlgbhlmekaa
open Go.RowKit
set_option linter.unusedVariables false
set_option linter.unusedSimpArgs false
/-- what is unpacked; why not -/
def unpackP (l : List UInt8) (most : Int) : List UInt8 × Nat :=
  if most < 0 then ([], 1) else if (vrd l 0).2.1 ≠ 0 then ([], 3) else if most.toNat < (vrd l 0).1 then ([], 4) else
  match readP l (vrd l 0).2.2 (vrd l 0).1 with
  | none => ([], 3)
  | some t => if packP t = l then (t, 0) else ([], 3)
theorem decP_len (E : List Ent) (f : Nat → Bool) (N : Nat) : ∀ (m a : Nat) (acc t : List UInt8), decP E f N m a acc = some t → t.length = acc.length + m
  | 0, a, acc, t, h => by cases h; rfl
  | m + 1, a, acc, t, h => by
    rw [decP] at h
    split at h
    · cases h
    · have := decP_len E f N m _ _ t h
      rw [this, List.length_append, List.length_singleton]; omega
theorem readP_len {l : List UInt8} {a n : Nat} {t : List UInt8} (h : readP l a n = some t) : t.length = n ∧ n ≤ 8 * l.length := by
  unfold readP at h
  split at h
  · rename_i hc
    have := decP_len _ _ _ _ _ _ _ h
    rw [List.length_nil, Nat.zero_add] at this
    exact ⟨this, by omega⟩
  · cases h
set_option maxRecDepth 20000 in
set_option maxHeartbeats 2000000 in
theorem unpack_any (s : ByteArray) (hs : s.size ≤ 100000) (most : Int) (hm : -9223372036854775808 ≤ most ∧ most < 9223372036854775808) (w : World) :
    Calls Try.prog 21 #[.string s, .int .i64 most] w fun e w' => e = .returned (.tuple #[.string ⟨(unpackP s.data.toList most).1.toArray⟩, .int .i64 (unpackP s.data.toList most).2]) ∧ Ext w w' := by
  obtain ⟨R, hR⟩ : ∃ R, unpackP s.data.toList most = R := ⟨_, rfl⟩
  rw [hR]
  unfold unpackP at hR
  by_cases h0 : most < 0
  · rw [if_pos h0] at hR
    subst hR
    go_enter Try.func21, Try.ntmps21
    go_wp2_with fail
    go_ret2
    exact ⟨rfl, Mut.refl _ _⟩
  · rw [if_neg h0] at hR
    have esz : s.data.toList.length = s.size := by simp
    have hv := vrd_facts s.data.toList 0 (by omega)
    have HN := Lib.hid (new_st (St.start noB w) s)
    have HV := Lib.hid (fun w1 (h : St noB w w1 [rdT w.heap.size s 0]) => vread_st h (by omega) (Nat.zero_le _))
    obtain ⟨⟨n, k, a⟩, hk⟩ : ∃ v, vrd s.data.toList 0 = v := ⟨_, rfl⟩
    rw [hk] at hR hv HV
    simp only at hR hv HV
    have HRD := Lib.hid (fun w1 (h : St noB w w1 [rdT w.heap.size s a]) => read_st h (by omega) (by omega) n hv.1 _ rfl)
    obtain ⟨q, hq⟩ : ∃ q, readP s.data.toList a n = q := ⟨_, rfl⟩
    rw [hq] at hR HRD
    have hql := fun t (e : q = some t) => readP_len (hq.trans e)
    rw [esz] at hql hv
    have h0b : ¬ most < 0 := h0
    have hmw : IntKind.u64.wrap most = most := by rw [IntKind.wrap_u64]; omega
    have HRR := Lib.hid hR
    clear hR hk hq h0
    generalize w.heap.size = rb at *
    go_enter Try.func21, Try.ntmps21
    go_wp2_with fail
    refine HN.out.mono ?_
    rintro _ w1 ⟨rfl, h1⟩
    go_wp2_with fail
    refine (HV.out w1 h1).mono ?_
    rintro _ w2 ⟨rfl, h2⟩
    clear HN HV h1
    have HX := Lib.hid h2.ends
    by_cases hk0 : k = 0
    · subst hk0
      by_cases hmn : most < (n : Int)
      · have HR : Hid (R = ([], 4)) := Lib.hid (by rw [← HRR.out, if_neg (by omega), if_pos (by omega)])
        clear HRR HRD
        go_wp2_with fail
        go_ret2
        rw [HR.out]
        exact ⟨rfl, HX.out⟩
      · have hmn2 : ¬ most < (n : Int) := hmn
        cases q with
        | none =>
          have HR : Hid (R = ([], 3)) := Lib.hid (by rw [← HRR.out, if_neg (by omega), if_neg (by omega)])
          clear HRR
          go_wp2_with fail
          refine (HRD.out w2 h2).mono ?_
          rintro _ w3 ⟨rfl, h3⟩
          clear HRD
          have HX3 := Lib.hid h3.ends
          go_wp2_with fail
          go_ret2
          rw [HR.out]
          exact ⟨rfl, HX3.out⟩
        | some t =>
          obtain ⟨hl1, hl2⟩ := hql t rfl
          obtain ⟨ts, hts⟩ : ∃ ts : ByteArray, ts = ⟨t.toArray⟩ := ⟨_, rfl⟩
          have etl : ts.data.toList = t := by rw [hts]
          have etz : ts.size = t.length := by rw [hts]; rfl
          have HPk := Lib.hid (fun w => pack_any ts (by omega) (fun i => by rw [etl]; have := lenT_text (l := t) (by omega) i; omega) w)
          rw [etl] at HPk
          change Hid (∀ w1, St noB w w1 [rdT rb s a] → Calls Try.prog _ _ w1 fun e w' => e = .returned (.tuple #[.string ⟨t.toArray⟩, .bool true]) ∧ St noB w w' []) at HRD
          rw [← hts] at HRD
          obtain ⟨ps, hps⟩ : ∃ ps : ByteArray, ps = ⟨(packP t).toArray⟩ := ⟨_, rfl⟩
          rw [← hps] at HPk
          have HTS := Lib.hid hts
          have hpe : packP t = ps.data.toList := by rw [hps]
          clear hps hts etl
          by_cases hp : packP t = s.data.toList
          · have HR : Hid (R = (t, 0)) := Lib.hid (by rw [← HRR.out, if_neg (by omega), if_neg (by omega)]; simp only; rw [if_pos hp])
            have hcmp : (ps.toList == s.toList) = true := by
              rw [ByteArray.toList_eq, ByteArray.toList_eq, ← hpe, hp]; simp
            clear HRR hp hpe
            go_wp2_with fail
            refine (HRD.out w2 h2).mono ?_
            rintro _ w3 ⟨rfl, h3⟩
            clear HRD
            have HX3 := Lib.hid h3.ends
            go_wp2_with fail
            refine (HPk.out w3).mono ?_
            rintro _ w4 ⟨rfl, x4⟩
            go_wp2_with fail
            go_ret2
            rw [HR.out, HTS.out]
            exact ⟨rfl, HX3.out.trans x4⟩
          · have HR : Hid (R = ([], 3)) := Lib.hid (by rw [← HRR.out, if_neg (by omega), if_neg (by omega)]; simp only; rw [if_neg hp])
            have hcmp : (ps.toList == s.toList) = false := by
              rw [beq_eq_false_iff_ne, ByteArray.toList_eq, ByteArray.toList_eq, ← hpe]; exact hp
            clear HRR hp hpe
            go_wp2_with fail
            refine (HRD.out w2 h2).mono ?_
            rintro _ w3 ⟨rfl, h3⟩
            clear HRD
            have HX3 := Lib.hid h3.ends
            go_wp2_with fail
            refine (HPk.out w3).mono ?_
            rintro _ w4 ⟨rfl, x4⟩
            go_wp2_with fail
            go_ret2
            rw [HR.out]
            exact ⟨rfl, HX3.out.trans x4⟩
    · have hk2 : ¬ (k : Int) = 0 := by omega
      have HR : Hid (R = ([], 3)) := Lib.hid (by rw [← HRR.out, if_pos hk0])
      clear HRR HRD
      go_wp2_with fail
      go_ret2
      rw [HR.out]
      exact ⟨rfl, HX.out⟩
end Go.Proofs.Ytclhmlgbhlmekaa
