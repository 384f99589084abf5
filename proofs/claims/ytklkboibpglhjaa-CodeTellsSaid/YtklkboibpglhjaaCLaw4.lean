/- Layer 9: CodeTells. -/
import Derived.Deep.DeepCutAuto
import Derived.Test.YtklkboibpglhjaaGd
namespace Go.Proofs.Ytklkboibpglhjaa
open Go.RowKit Go.WideShapes
set_option linter.unusedVariables false
set_option linter.unusedSimpArgs false
/-! where a name stands -/
theorem first_hit (f : Nat → Prop) : ∀ n : Nat, (∃ k, k < n ∧ f k ∧ ∀ j, j < k → ¬ f j) ∨ ∀ k, k < n → ¬ f k
  | 0 => .inr fun k hk => by omega
  | n + 1 => by
    rcases first_hit f n with ⟨k, hk, h1, h2⟩ | h
    · exact .inl ⟨k, by omega, h1, h2⟩
    · by_cases hn : f n
      · exact .inl ⟨n, by omega, hn, h⟩
      · refine .inr fun k hk => ?_
        by_cases e : k = n
        · rw [e]; exact hn
        · exact h k (by omega)
theorem find_spec (s : ByteArray) : (∃ k : Nat, k < 25 ∧ findI s = k ∧ nameL.getD k ByteArray.empty = s) ∨ (findI s = -1 ∧ ∀ k, k < 25 → nameL.getD k ByteArray.empty ≠ s) := by
  rcases first_hit (fun k => nameL.getD k ByteArray.empty = s) 25 with ⟨k, hk, h1, h2⟩ | h
  · exact .inl ⟨k, hk, Lib.idxOfS_hit nameL 25 k s hk (by decide) h1 h2, h1⟩
  · exact .inr ⟨Lib.idxOfS_miss nameL 25 s h, h⟩
theorem find_range (s : ByteArray) : -1 ≤ findI s ∧ findI s < 25 := by
  rcases find_spec s with ⟨k, hk, e, _⟩ | ⟨e, _⟩ <;> rw [e] <;> omega
set_option maxRecDepth 20000 in
theorem names_two : ∀ j : Fin 25, ∀ k : Fin 25, nameL.getD j.val ByteArray.empty = nameL.getD k.val ByteArray.empty → j = k := by decide
set_option maxRecDepth 20000 in
theorem names_some : ∀ j : Fin 25, nameL.getD j.val ByteArray.empty ≠ ⟨#[]⟩ := by decide
theorem name_in (k : Nat) (h : k < 25) : nameOf ((k : Int) + 1) = nameL.getD k ByteArray.empty := by
  unfold nameOf
  rw [if_pos (by omega)]
  congr 1
  omega
theorem name_out (op : Int) (h : ¬ (1 ≤ op ∧ op ≤ 25)) : nameOf op = ⟨#[]⟩ := by unfold nameOf; rw [if_neg h]; rfl
theorem bs_nil (s : ByteArray) (h : s.toList.isEmpty = true) : s = ⟨#[]⟩ := by
  refine (Lib.bytes_beq_iff s ⟨#[]⟩).1 ?_
  rw [List.isEmpty_iff.1 h]
  have : (⟨#[]⟩ : ByteArray).toList = [] := by rw [ByteArray.toList, ByteArray.toList.loop]; rfl
  rw [this]
  rfl
theorem bs_some (s : ByteArray) (h : s ≠ ⟨#[]⟩) : s.toList.isEmpty = false := by
  cases e : s.toList.isEmpty with
  | false => rfl
  | true => exact absurd (bs_nil s e) h
/-- what a name's instruction comes to -/
theorem find_name (s : ByteArray) : (decide (0 ≤ findI s) = true ∧ s ≠ ⟨#[]⟩ ∧ nameOf (if findI s < 0 then 0 else findI s + 1) = s) ∨
    (decide (0 ≤ findI s) = false ∧ (if findI s < 0 then 0 else findI s + 1) = 0) := by
  rcases find_spec s with ⟨k, hk, e, h⟩ | ⟨e, _⟩
  · refine .inl ⟨decide_eq_true (by omega), ?_, ?_⟩
    · rw [← h]; exact names_some ⟨k, hk⟩
    · rw [e, if_neg (by omega), name_in k hk, h]
  · exact .inr ⟨decide_eq_false (by omega), by rw [e]; rfl⟩
theorem find_back (op : Int) : (nameOf op = ⟨#[]⟩) ∨ (nameOf op ≠ ⟨#[]⟩ ∧ decide (0 ≤ findI (nameOf op)) = true ∧ (if findI (nameOf op) < 0 then 0 else findI (nameOf op) + 1) = op) := by
  by_cases h : 1 ≤ op ∧ op ≤ 25
  · obtain ⟨k, rfl⟩ : ∃ k : Nat, op = (k : Int) + 1 := ⟨(op - 1).toNat, by omega⟩
    have hk : k < 25 := by omega
    refine .inr ?_
    rw [name_in k hk]
    refine ⟨names_some ⟨k, hk⟩, ?_⟩
    rcases find_spec (nameL.getD k ByteArray.empty) with ⟨j, hj, e, hh⟩ | ⟨_, hh⟩
    · have := congrArg Fin.val (names_two ⟨j, hj⟩ ⟨k, hk⟩ hh)
      simp only at this
      subst this
      exact ⟨decide_eq_true (by omega), by rw [e, if_neg (by omega)]⟩
    · exact absurd rfl (hh k hk)
  · exact .inl (name_out op h)
/-- the document's Right -/
theorem rright_any (x : Ins) (hx : x.ok) (w : World) :
    Calls Try.prog 16 #[instrV x.op x.a x.b x.c x.d x.k] w fun e w' => e = .returned (.bool (rightI x)) ∧ Ext w w' := by
  obtain ⟨k, hk⟩ := (ev_right x hx).get
  exact (PRef.rondeauref09_Right.calls k _ _ _ _ _ _ _ w hk).mono fun e w' ⟨he, hb⟩ => ⟨he, Ext.of_below hb⟩
set_option maxRecDepth 20000 in
set_option maxHeartbeats 8000000 in
theorem codeTells_walk (v : Value) (x : Ins) (name : ByteArray) (h : IArg v x) (hn : name.size ≤ 140737488351232) (w : World) :
    Calls Try.prog 3 #[v, .string name] w fun e w' => e = .returned (.bool true) ∧ Ext w w' := by
  obtain ⟨rfl, hx⟩ := h
  have HNm := Lib.hid (fun w => name_any x.op hx.1 w)
  have HRn := Lib.hid (fun w => rname_any x.op hx.1 w)
  have HPl := Lib.hid (fun w => plain_any x.op w)
  have HSe := Lib.hid (fun w => seen_any x.op w)
  have HRi := Lib.hid (fun w => right_any x.op x.a x.b x.c x.d x.k hx.1 w)
  change Hid (∀ w, Calls _ _ _ _ fun e w' => e = .returned (.bool (rightI x)) ∧ Ext w w') at HRi
  have HRr := Lib.hid (fun w => rright_any x hx w)
  have HF := Lib.hid (fun w => find_any name (find_range name) w)
  have HB := Lib.hid (fun w => find_any (nameOf x.op) (find_range _) w)
  have HFs := Lib.hid (find_name name)
  have HBs := Lib.hid (find_back x.op)
  have HN2 := Lib.hid (fun w => rname_any (if findI name < 0 then 0 else findI name + 1) (by have := find_range name; split <;> omega) w)
  have hop := Lib.hid hx.1
  clear hx
  generalize rightI x = r at HRi HRr
  have hrr : (r == r) = true := by cases r <;> rfl
  obtain ⟨op, a, b, c, d, k⟩ := x
  simp only at HNm HRn HPl HSe HRi HRr HF HB HBs hop ⊢
  unfold instrV at HRi HRr ⊢
  generalize (if findI name < 0 then 0 else findI name + 1) = opN at HF HFs HN2
  generalize decide (0 ≤ findI name) = okN at HF HFs
  generalize (if findI (nameOf op) < 0 then 0 else findI (nameOf op) + 1) = opS at HB HBs
  generalize decide (0 ≤ findI (nameOf op)) = okS at HB HBs
  generalize hs : nameOf op = s at HNm HRn HB HBs
  clear hs
  have hss : (s.toList == s.toList) = true := (Lib.bytes_beq_iff s s).2 rfl
  have h1 := (St.start noB w).alloc #[Value.int .i64 op, Value.int .i64 a, Value.int .i64 b, Value.int .i64 c, Value.int .i64 d, Value.int .u64 k] 24
  go_enter Try.func3, Try.ntmps3
  go_wp2_with fail
  refine (cawake_any _).mono ?_
  rintro e w1 ⟨rfl, x1⟩
  have h2 := h1.ext x1
  clear h1 x1
  generalize w.heap.size = pb at h2 ⊢
  by_cases h50 : (50 : Int) < (name.size : Int)
  · go_wp2_with fail
    refine (cawake_any _).mono ?_
    rintro e w2 ⟨rfl, x2⟩
    go_wp2_with fail
    go_ret
    exact ⟨rfl, h2.ends.trans x2⟩
  · have hb := h2.blk
    have k0 := cell_of_heap hb 0
    change w1.cell? _ = some (Value.int .i64 op) at k0
    go_wp2_with fail
    refine (HRn.out _).mono ?_
    rintro e w2 ⟨rfl, x2⟩
    have h3 := h2.ext x2
    clear h2 x2 hb k0
    go_wp2_with fail
    refine (HF.out _).mono ?_
    rintro e w3 ⟨rfl, x3⟩
    have h4 := h3.ext x3
    clear h3 x3
    go_wp2_with fail
    refine (HB.out _).mono ?_
    rintro e w4 ⟨rfl, x4⟩
    have h5 := h4.ext x4
    clear h4 x4
    have hnn : (name.toList == name.toList) = true := (Lib.bytes_beq_iff name name).2 rfl
    have hb := h5.blk
    have k0 := cell_of_heap hb 0
    change w4.cell? _ = some (Value.int .i64 op) at k0
    go_upto_region 6 with fail
    go_cut [62] (fun v62 wx => v62 = .bool false ∧ Ext w4 wx)
    case first =>
      clear HPl HSe HRi HRr HNm HRn HF HB hop h5 hb hrr
      rcases HFs.out with ⟨rfl, n2, n3⟩ | ⟨rfl, rfl⟩
      · rw [n3] at HN2
        clear n3
        have ne := bs_some name n2
        clear n2 HFs
        rcases HBs.out with h | ⟨h1, rfl, rfl⟩
        · clear HBs
          subst h
          go_wp2_with fail
          refine (HN2.out _).mono ?_
          rintro e w5 ⟨rfl, x5⟩
          have k1 := x5.cell k0
          clear k0 HN2
          go_wp2_with fail
          go_meet
          exact ⟨rfl, x5⟩
        · clear HBs
          have se := bs_some s h1
          clear h1
          go_wp2_with fail
          refine (HN2.out _).mono ?_
          rintro e w5 ⟨rfl, x5⟩
          have k1 := x5.cell k0
          clear k0 HN2
          go_wp2_with fail
          go_meet
          exact ⟨rfl, x5⟩
      · rw [name_out 0 (by omega)] at HN2
        clear HFs
        by_cases hne : name = ⟨#[]⟩
        · subst hne
          clear HN2
          rcases HBs.out with h | ⟨h1, rfl, rfl⟩
          · clear HBs
            subst h
            go_wp2_with fail
            go_meet
            exact ⟨rfl, Mut.refl _ _⟩
          · clear HBs
            have se := bs_some s h1
            clear h1
            go_wp2_with fail
            go_meet
            exact ⟨rfl, Mut.refl _ _⟩
        · have ne := bs_some name hne
          have ne2 : (([] : List UInt8) == name.toList) = false := by
            cases e : name.toList with
            | nil => rw [e] at ne; cases ne
            | cons a l => rfl
          rcases HBs.out with h | ⟨h1, rfl, rfl⟩
          · clear HBs
            subst h
            go_wp2_with fail
            refine (HN2.out _).mono ?_
            rintro e w5 ⟨rfl, x5⟩
            have k1 := x5.cell k0
            clear k0 HN2
            go_wp2_with fail
            go_meet
            exact ⟨rfl, x5⟩
          · clear HBs
            have se := bs_some s h1
            clear h1
            go_wp2_with fail
            refine (HN2.out _).mono ?_
            rintro e w5 ⟨rfl, x5⟩
            have k1 := x5.cell k0
            clear k0 HN2
            go_wp2_with fail
            go_meet
            exact ⟨rfl, x5⟩
    case rest =>
      obtain ⟨rfl, x5⟩ := hcut
      have h6 := h5.ext x5
      clear h5 k0 hb HF HB HFs HBs HN2 HRn hnn x5
      have hb := h6.blk
      have k0 := cell_of_heap hb 0
      change wc.cell? _ = some (Value.int .i64 op) at k0
      have hop := hop.out
      by_cases o1 : op < 1
      · rw [show decide ((1 : Int) ≤ op ∧ op ≤ 17) = false from by first | exact decide_eq_false (by omega) | exact decide_eq_true (by omega)] at HPl
        rw [show decide ((18 : Int) ≤ op ∧ op ≤ 25) = false from by first | exact decide_eq_false (by omega) | exact decide_eq_true (by omega)] at HSe
        have q1 : decide ((1 : Int) ≤ op) = false := by first | exact decide_eq_false (by omega) | exact decide_eq_true (by omega)
        have q2 : decide ((18 : Int) ≤ op) = false := by first | exact decide_eq_false (by omega) | exact decide_eq_true (by omega)
        have q3 : decide (op ≤ 17) = true := by first | exact decide_eq_false (by omega) | exact decide_eq_true (by omega)
        have q4 : decide (op ≤ 25) = true := by first | exact decide_eq_false (by omega) | exact decide_eq_true (by omega)
        have ka := fun a : After wc => (After.ext a).cell k0
        go_wp2_with fail
        (refine wp_region_after (by kernel_rfl) (by kernel_rfl) ?_; (repeat (first | go_big_quiet_skip | (go_big_quiet_want; first | (refine quiet_load_row _ _ rfl pb rfl 24 #[Value.int .i64 op, Value.int .i64 a, Value.int .i64 b, Value.int .i64 c, Value.int .i64 d, Value.int .u64 k] (0, 0) _ hb Try.underlying24 rfl (by kernel_rfl) ?_; simp only [Act.put, List.setIfInBounds_toArray, List.set_cons_succ, List.set_cons_zero]; go_big_quiet_on) | (go_big_quiet_op; first | go_big_quiet_on | (apply Exists.intro; refine ⟨fun _ => ?_, ?_⟩; (· (first | (go_at_call 12; exact Calls.after (HNm.out _)) | (go_at_call 13; exact Calls.after_same (HPl.out _)) | (go_at_call 14; exact Calls.after_same (HSe.out _)) | (go_at_call 15; exact Calls.after (HRi.out _)) | (go_at_call 16; exact Calls.after (HRr.out _)))); go_big_quiet_on))))); refine wpQuiet_nil ?_; rintro _ ⟨y, rfl⟩)
        go_wp2_with fail
        go_ret
        exact ⟨by simp, h6.ends.trans y.ext⟩
      · by_cases o2 : op ≤ 17
        · rw [show decide ((1 : Int) ≤ op ∧ op ≤ 17) = true from by first | exact decide_eq_false (by omega) | exact decide_eq_true (by omega)] at HPl
          rw [show decide ((18 : Int) ≤ op ∧ op ≤ 25) = false from by first | exact decide_eq_false (by omega) | exact decide_eq_true (by omega)] at HSe
          have q1 : decide ((1 : Int) ≤ op) = true := by first | exact decide_eq_false (by omega) | exact decide_eq_true (by omega)
          have q2 : decide ((18 : Int) ≤ op) = false := by first | exact decide_eq_false (by omega) | exact decide_eq_true (by omega)
          have q3 : decide (op ≤ 17) = true := by first | exact decide_eq_false (by omega) | exact decide_eq_true (by omega)
          have q4 : decide (op ≤ 25) = true := by first | exact decide_eq_false (by omega) | exact decide_eq_true (by omega)
          have ka := fun a : After wc => (After.ext a).cell k0
          go_wp2_with fail
          (refine wp_region_after (by kernel_rfl) (by kernel_rfl) ?_; (repeat (first | go_big_quiet_skip | (go_big_quiet_want; first | (refine quiet_load_row _ _ rfl pb rfl 24 #[Value.int .i64 op, Value.int .i64 a, Value.int .i64 b, Value.int .i64 c, Value.int .i64 d, Value.int .u64 k] (0, 0) _ hb Try.underlying24 rfl (by kernel_rfl) ?_; simp only [Act.put, List.setIfInBounds_toArray, List.set_cons_succ, List.set_cons_zero]; go_big_quiet_on) | (go_big_quiet_op; first | go_big_quiet_on | (apply Exists.intro; refine ⟨fun _ => ?_, ?_⟩; (· (first | (go_at_call 12; exact Calls.after (HNm.out _)) | (go_at_call 13; exact Calls.after_same (HPl.out _)) | (go_at_call 14; exact Calls.after_same (HSe.out _)) | (go_at_call 15; exact Calls.after (HRi.out _)) | (go_at_call 16; exact Calls.after (HRr.out _)))); go_big_quiet_on))))); refine wpQuiet_nil ?_; rintro _ ⟨y, rfl⟩)
          go_wp2_with fail
          go_ret
          exact ⟨by simp, h6.ends.trans y.ext⟩
        · by_cases o3 : op ≤ 25
          · rw [show decide ((1 : Int) ≤ op ∧ op ≤ 17) = false from by first | exact decide_eq_false (by omega) | exact decide_eq_true (by omega)] at HPl
            rw [show decide ((18 : Int) ≤ op ∧ op ≤ 25) = true from by first | exact decide_eq_false (by omega) | exact decide_eq_true (by omega)] at HSe
            have q1 : decide ((1 : Int) ≤ op) = true := by first | exact decide_eq_false (by omega) | exact decide_eq_true (by omega)
            have q2 : decide ((18 : Int) ≤ op) = true := by first | exact decide_eq_false (by omega) | exact decide_eq_true (by omega)
            have q3 : decide (op ≤ 17) = false := by first | exact decide_eq_false (by omega) | exact decide_eq_true (by omega)
            have q4 : decide (op ≤ 25) = true := by first | exact decide_eq_false (by omega) | exact decide_eq_true (by omega)
            have ka := fun a : After wc => (After.ext a).cell k0
            go_wp2_with fail
            (refine wp_region_after (by kernel_rfl) (by kernel_rfl) ?_; (repeat (first | go_big_quiet_skip | (go_big_quiet_want; first | (refine quiet_load_row _ _ rfl pb rfl 24 #[Value.int .i64 op, Value.int .i64 a, Value.int .i64 b, Value.int .i64 c, Value.int .i64 d, Value.int .u64 k] (0, 0) _ hb Try.underlying24 rfl (by kernel_rfl) ?_; simp only [Act.put, List.setIfInBounds_toArray, List.set_cons_succ, List.set_cons_zero]; go_big_quiet_on) | (go_big_quiet_op; first | go_big_quiet_on | (apply Exists.intro; refine ⟨fun _ => ?_, ?_⟩; (· (first | (go_at_call 12; exact Calls.after (HNm.out _)) | (go_at_call 13; exact Calls.after_same (HPl.out _)) | (go_at_call 14; exact Calls.after_same (HSe.out _)) | (go_at_call 15; exact Calls.after (HRi.out _)) | (go_at_call 16; exact Calls.after (HRr.out _)))); go_big_quiet_on))))); refine wpQuiet_nil ?_; rintro _ ⟨y, rfl⟩)
            go_wp2_with fail
            go_ret
            exact ⟨by simp, h6.ends.trans y.ext⟩
          · rw [show decide ((1 : Int) ≤ op ∧ op ≤ 17) = false from by first | exact decide_eq_false (by omega) | exact decide_eq_true (by omega)] at HPl
            rw [show decide ((18 : Int) ≤ op ∧ op ≤ 25) = false from by first | exact decide_eq_false (by omega) | exact decide_eq_true (by omega)] at HSe
            have q1 : decide ((1 : Int) ≤ op) = true := by first | exact decide_eq_false (by omega) | exact decide_eq_true (by omega)
            have q2 : decide ((18 : Int) ≤ op) = true := by first | exact decide_eq_false (by omega) | exact decide_eq_true (by omega)
            have q3 : decide (op ≤ 17) = false := by first | exact decide_eq_false (by omega) | exact decide_eq_true (by omega)
            have q4 : decide (op ≤ 25) = false := by first | exact decide_eq_false (by omega) | exact decide_eq_true (by omega)
            have ka := fun a : After wc => (After.ext a).cell k0
            go_wp2_with fail
            (refine wp_region_after (by kernel_rfl) (by kernel_rfl) ?_; (repeat (first | go_big_quiet_skip | (go_big_quiet_want; first | (refine quiet_load_row _ _ rfl pb rfl 24 #[Value.int .i64 op, Value.int .i64 a, Value.int .i64 b, Value.int .i64 c, Value.int .i64 d, Value.int .u64 k] (0, 0) _ hb Try.underlying24 rfl (by kernel_rfl) ?_; simp only [Act.put, List.setIfInBounds_toArray, List.set_cons_succ, List.set_cons_zero]; go_big_quiet_on) | (go_big_quiet_op; first | go_big_quiet_on | (apply Exists.intro; refine ⟨fun _ => ?_, ?_⟩; (· (first | (go_at_call 12; exact Calls.after (HNm.out _)) | (go_at_call 13; exact Calls.after_same (HPl.out _)) | (go_at_call 14; exact Calls.after_same (HSe.out _)) | (go_at_call 15; exact Calls.after (HRi.out _)) | (go_at_call 16; exact Calls.after (HRr.out _)))); go_big_quiet_on))))); refine wpQuiet_nil ?_; rintro _ ⟨y, rfl⟩)
            go_wp2_with fail
            go_ret
            exact ⟨by simp, h6.ends.trans y.ext⟩
end Go.Proofs.Ytklkboibpglhjaa
