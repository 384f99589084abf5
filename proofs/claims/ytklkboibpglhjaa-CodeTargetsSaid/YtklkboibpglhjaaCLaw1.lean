/- Layer 9: CodeTargets, CodePrints. -/
import Derived.Test.YtklkboibpglhjaaGd
namespace Go.Proofs.Ytklkboibpglhjaa
open Go.RowKit Go.WideShapes
set_option linter.unusedVariables false
set_option linter.unusedSimpArgs false
theorem right_jump (x : Ins) (h : 15 ≤ x.op ∧ x.op ≤ 17) (hk : 256 < x.k) : rightI x = false := by
  unfold rightI rightB
  have : (limOf x.op).k = 256 := by
    have : x.op = 15 ∨ x.op = 16 ∨ x.op = 17 := by omega
    rcases this with e | e | e <;> rw [e] <;> rfl
  rw [this, decide_eq_false (show ¬ x.k ≤ 256 by omega), Bool.and_false]
set_option maxRecDepth 20000 in
set_option maxHeartbeats 8000000 in
theorem codeTargets_walk (v : Value) (x : Ins) (h : IArg v x) (w : World) :
    Calls Try.prog 8 #[v] w fun e w' => e = .returned (.bool true) ∧ Ext w w' := by
  obtain ⟨rfl, hx⟩ := h
  have HR := Lib.hid (fun w => right_any x.op x.a x.b x.c x.d x.k hx.1 w)
  have HJ := Lib.hid (fun w => jumps_any x.op x.a x.b x.c x.d x.k w)
  have HJK := Lib.hid (right_jump x)
  change Hid (∀ w, Calls _ _ _ _ fun e w' => e = .returned (.bool (rightI x)) ∧ Ext w w') at HR
  generalize rightI x = r at HR HJK
  obtain ⟨op, a, b, c, d, k⟩ := x
  simp only at HR HJ HJK ⊢
  unfold instrV at HR HJ ⊢
  clear hx
  by_cases e15 : op = 15
  · subst e15
    have h1 := (St.start noB w).alloc #[Value.int .i64 15, Value.int .i64 a, Value.int .i64 b, Value.int .i64 c, Value.int .i64 d, Value.int .u64 k] 24
    rw [show decide ((15 : Int) ≤ 15 ∧ (15 : Int) ≤ 17) = true from by decide] at HJ
    go_enter Try.func8, Try.ntmps8
    go_wp2_with fail
    refine (cawake_any _).mono ?_
    rintro e w1 ⟨rfl, x1⟩
    have h2 := h1.ext x1
    have hb := h2.blk
    have k0 := cell_of_heap hb 0
    have k1 := cell_of_heap hb 1
    have k2 := cell_of_heap hb 2
    have k3 := cell_of_heap hb 3
    have k4 := cell_of_heap hb 4
    have k5 := cell_of_heap hb 5
    change w1.cell? _ = some (Value.int .i64 _) at k0
    change w1.cell? _ = some (Value.int .i64 _) at k1
    change w1.cell? _ = some (Value.int .i64 _) at k2
    change w1.cell? _ = some (Value.int .i64 _) at k3
    change w1.cell? _ = some (Value.int .i64 _) at k4
    change w1.cell? _ = some (Value.int .u64 _) at k5
    clear hb
    go_wp2_with fail
    refine (HJ.out _).mono ?_
    rintro e w2 ⟨rfl, x2⟩
    clear k0 k1 k2 k3 k4 k5
    have h2 := h2.ext x2
    have hb := h2.blk
    have k0 := cell_of_heap hb 0
    have k1 := cell_of_heap hb 1
    have k2 := cell_of_heap hb 2
    have k3 := cell_of_heap hb 3
    have k4 := cell_of_heap hb 4
    have k5 := cell_of_heap hb 5
    change w2.cell? _ = some (Value.int .i64 _) at k0
    change w2.cell? _ = some (Value.int .i64 _) at k1
    change w2.cell? _ = some (Value.int .i64 _) at k2
    change w2.cell? _ = some (Value.int .i64 _) at k3
    change w2.cell? _ = some (Value.int .i64 _) at k4
    change w2.cell? _ = some (Value.int .u64 _) at k5
    clear hb
    by_cases hk : 256 < k
    · have hr := HJK.out (by omega) hk
      subst hr
      have hkk : (256 : Int) < (k : Int) := by omega
      clear hk
      go_wp2_with fail
      refine (HR.out _).mono ?_
      rintro e w3 ⟨rfl, x3⟩
      go_wp2_with fail
      go_ret
      exact ⟨rfl, h2.ends.trans x3⟩
    · have hkk : ¬ (256 : Int) < (k : Int) := by omega
      clear hk
      go_wp2_with fail
      go_ret
      exact ⟨rfl, h2.ends⟩
  · by_cases e16 : op = 16
    · subst e16
      clear e15
      have h1 := (St.start noB w).alloc #[Value.int .i64 16, Value.int .i64 a, Value.int .i64 b, Value.int .i64 c, Value.int .i64 d, Value.int .u64 k] 24
      rw [show decide ((15 : Int) ≤ 16 ∧ (16 : Int) ≤ 17) = true from by decide] at HJ
      go_enter Try.func8, Try.ntmps8
      go_wp2_with fail
      refine (cawake_any _).mono ?_
      rintro e w1 ⟨rfl, x1⟩
      have h2 := h1.ext x1
      have hb := h2.blk
      have k0 := cell_of_heap hb 0
      have k1 := cell_of_heap hb 1
      have k2 := cell_of_heap hb 2
      have k3 := cell_of_heap hb 3
      have k4 := cell_of_heap hb 4
      have k5 := cell_of_heap hb 5
      change w1.cell? _ = some (Value.int .i64 _) at k0
      change w1.cell? _ = some (Value.int .i64 _) at k1
      change w1.cell? _ = some (Value.int .i64 _) at k2
      change w1.cell? _ = some (Value.int .i64 _) at k3
      change w1.cell? _ = some (Value.int .i64 _) at k4
      change w1.cell? _ = some (Value.int .u64 _) at k5
      clear hb
      go_wp2_with fail
      refine (HJ.out _).mono ?_
      rintro e w2 ⟨rfl, x2⟩
      clear k0 k1 k2 k3 k4 k5
      have h2 := h2.ext x2
      have hb := h2.blk
      have k0 := cell_of_heap hb 0
      have k1 := cell_of_heap hb 1
      have k2 := cell_of_heap hb 2
      have k3 := cell_of_heap hb 3
      have k4 := cell_of_heap hb 4
      have k5 := cell_of_heap hb 5
      change w2.cell? _ = some (Value.int .i64 _) at k0
      change w2.cell? _ = some (Value.int .i64 _) at k1
      change w2.cell? _ = some (Value.int .i64 _) at k2
      change w2.cell? _ = some (Value.int .i64 _) at k3
      change w2.cell? _ = some (Value.int .i64 _) at k4
      change w2.cell? _ = some (Value.int .u64 _) at k5
      clear hb
      by_cases hk : 256 < k
      · have hr := HJK.out (by omega) hk
        subst hr
        have hkk : (256 : Int) < (k : Int) := by omega
        clear hk
        go_wp2_with fail
        refine (HR.out _).mono ?_
        rintro e w3 ⟨rfl, x3⟩
        go_wp2_with fail
        go_ret
        exact ⟨rfl, h2.ends.trans x3⟩
      · have hkk : ¬ (256 : Int) < (k : Int) := by omega
        clear hk
        go_wp2_with fail
        go_ret
        exact ⟨rfl, h2.ends⟩
    · by_cases e17 : op = 17
      · subst e17
        clear e15 e16
        have h1 := (St.start noB w).alloc #[Value.int .i64 17, Value.int .i64 a, Value.int .i64 b, Value.int .i64 c, Value.int .i64 d, Value.int .u64 k] 24
        rw [show decide ((15 : Int) ≤ 17 ∧ (17 : Int) ≤ 17) = true from by decide] at HJ
        go_enter Try.func8, Try.ntmps8
        go_wp2_with fail
        refine (cawake_any _).mono ?_
        rintro e w1 ⟨rfl, x1⟩
        have h2 := h1.ext x1
        have hb := h2.blk
        have k0 := cell_of_heap hb 0
        have k1 := cell_of_heap hb 1
        have k2 := cell_of_heap hb 2
        have k3 := cell_of_heap hb 3
        have k4 := cell_of_heap hb 4
        have k5 := cell_of_heap hb 5
        change w1.cell? _ = some (Value.int .i64 _) at k0
        change w1.cell? _ = some (Value.int .i64 _) at k1
        change w1.cell? _ = some (Value.int .i64 _) at k2
        change w1.cell? _ = some (Value.int .i64 _) at k3
        change w1.cell? _ = some (Value.int .i64 _) at k4
        change w1.cell? _ = some (Value.int .u64 _) at k5
        clear hb
        go_wp2_with fail
        refine (HJ.out _).mono ?_
        rintro e w2 ⟨rfl, x2⟩
        clear k0 k1 k2 k3 k4 k5
        have h2 := h2.ext x2
        have hb := h2.blk
        have k0 := cell_of_heap hb 0
        have k1 := cell_of_heap hb 1
        have k2 := cell_of_heap hb 2
        have k3 := cell_of_heap hb 3
        have k4 := cell_of_heap hb 4
        have k5 := cell_of_heap hb 5
        change w2.cell? _ = some (Value.int .i64 _) at k0
        change w2.cell? _ = some (Value.int .i64 _) at k1
        change w2.cell? _ = some (Value.int .i64 _) at k2
        change w2.cell? _ = some (Value.int .i64 _) at k3
        change w2.cell? _ = some (Value.int .i64 _) at k4
        change w2.cell? _ = some (Value.int .u64 _) at k5
        clear hb
        by_cases hk : 256 < k
        · have hr := HJK.out (by omega) hk
          subst hr
          have hkk : (256 : Int) < (k : Int) := by omega
          clear hk
          go_wp2_with fail
          refine (HR.out _).mono ?_
          rintro e w3 ⟨rfl, x3⟩
          go_wp2_with fail
          go_ret
          exact ⟨rfl, h2.ends.trans x3⟩
        · have hkk : ¬ (256 : Int) < (k : Int) := by omega
          clear hk
          go_wp2_with fail
          go_ret
          exact ⟨rfl, h2.ends⟩
      · rw [decide_eq_false (by omega)] at HJ
        have n15 : (op == 15) = false := by rw [beq_eq_false_iff_ne]; exact e15
        have n16 : (op == 16) = false := by rw [beq_eq_false_iff_ne]; exact e16
        have n17 : (op == 17) = false := by rw [beq_eq_false_iff_ne]; exact e17
        clear e15 e16 e17
        have h1 := (St.start noB w).alloc #[Value.int .i64 op, Value.int .i64 a, Value.int .i64 b, Value.int .i64 c, Value.int .i64 d, Value.int .u64 k] 24
        go_enter Try.func8, Try.ntmps8
        go_wp2_with fail
        refine (cawake_any _).mono ?_
        rintro e w1 ⟨rfl, x1⟩
        have h2 := h1.ext x1
        have hb := h2.blk
        have k0 := cell_of_heap hb 0
        have k1 := cell_of_heap hb 1
        have k2 := cell_of_heap hb 2
        have k3 := cell_of_heap hb 3
        have k4 := cell_of_heap hb 4
        have k5 := cell_of_heap hb 5
        change w1.cell? _ = some (Value.int .i64 _) at k0
        change w1.cell? _ = some (Value.int .i64 _) at k1
        change w1.cell? _ = some (Value.int .i64 _) at k2
        change w1.cell? _ = some (Value.int .i64 _) at k3
        change w1.cell? _ = some (Value.int .i64 _) at k4
        change w1.cell? _ = some (Value.int .u64 _) at k5
        clear hb
        go_wp2_with fail
        refine (HJ.out _).mono ?_
        rintro e w2 ⟨rfl, x2⟩
        clear k0 k1 k2 k3 k4 k5
        go_wp2_with fail
        go_ret
        exact ⟨rfl, h2.ends.trans x2⟩
end Go.Proofs.Ytklkboibpglhjaa
