/- Layer 9: CodeReads. -/
import Derived.Test.YtklkboibpglhjaaCCan
import Derived.Test.YtklkboibpglhjaaGd
import Derived.Test.YtklkboibpglhjaaCLaw2
namespace Go.Proofs.Ytklkboibpglhjaa
open Go.RowKit Go.WideShapes
set_option linter.unusedVariables false
set_option linter.unusedSimpArgs false
theorem PArg.nil (w : World) : PArg w (.agg #[.slice none 0 0, .slice none 0 0]) ⟨[], []⟩ :=
  ⟨⟨none, none, 0, 0, rfl, Nat.le_refl _, Nat.le_refl _, PRow.empty _ _ _⟩, (by intro l hl; cases hl), (by show 0 ≤ _; omega), (by show 0 ≤ _; omega), (by intro l hl; cases hl)⟩
theorem cread_q (s : ByteArray) (hs : s.size ≤ 140737488351232) (p : Prg) (n m : Nat) (k : Int) (hn : p.rings.length = n) (hm : p.ths.length = m) (hp : (rdAll s.data.toList).getD ⟨[], []⟩ = p) (hk : (if (rdAll s.data.toList).isSome then (0 : Int) else 3) = k) (w : World) :
    Calls Try.prog 24 #[.string s] w fun e w' => (∃ A B ca cb, e = .returned (.tuple #[.agg #[.slice A n ca, .slice B m cb], .int .i64 k]) ∧ PArg w' (.agg #[.slice A n ca, .slice B m cb]) p) ∧ Ext w w' := by
  refine (cread_p s hs w).mono ?_
  rw [hp, hk]
  rintro e w' ⟨⟨v, rfl, a⟩, x⟩
  obtain ⟨A, B, ca, cb, rfl, _⟩ := a.arg
  subst hn hm
  exact ⟨⟨A, B, ca, cb, rfl, a⟩, x⟩
theorem rread_q (s : ByteArray) (hs : s.size ≤ 140737488351232) (p : Prg) (n m : Nat) (k : Bool) (hn : p.rings.length = n) (hm : p.ths.length = m) (hp : (rdAll s.data.toList).getD ⟨[], []⟩ = p) (hk : (rdAll s.data.toList).isSome = k) (w : World) :
    Calls Try.prog 25 #[.string s] w fun e w' => (∃ A B ca cb, e = .returned (.tuple #[.agg #[.slice A n ca, .slice B m cb], .bool k]) ∧ PArg w' (.agg #[.slice A n ca, .slice B m cb]) p) ∧ Ext w w' := by
  refine (rread_p s hs w).mono ?_
  rw [hp, hk]
  rintro e w' ⟨⟨v, rfl, a⟩, x⟩
  obtain ⟨A, B, ca, cb, rfl, _⟩ := a.arg
  subst hn hm
  exact ⟨⟨A, B, ca, cb, rfl, a⟩, x⟩
set_option maxRecDepth 20000 in
set_option maxHeartbeats 8000000 in
theorem codeReads_walk (s : ByteArray) (hs : s.size ≤ 140737488351232) (w : World) :
    Calls Try.prog 5 #[.string s] w fun e w' => e = .returned (.bool true) ∧ Ext w w' := by
  have h0 := St.start noB w
  go_enter Try.func5, Try.ntmps5
  go_wp2_with fail
  refine (cawake_any _).mono ?_
  rintro e w1 ⟨rfl, x1⟩
  have h := h0.ext x1
  clear h0 x1
  by_cases h15 : (1500 : Int) < (s.size : Int)
  · go_wp2_with fail
    refine (cawake_any _).mono ?_
    rintro e w2 ⟨rfl, x2⟩
    go_wp2_with fail
    go_ret
    exact ⟨rfl, h.ends.trans x2⟩
  · cases hr : rdAll s.data.toList with
    | none =>
      have HC := Lib.hid (cread_q s hs ⟨[], []⟩ 0 0 3 rfl rfl (by rw [hr]; rfl) (by rw [hr]; rfl))
      have HR := Lib.hid (rread_q s hs ⟨[], []⟩ 0 0 false rfl rfl (by rw [hr]; rfl) (by rw [hr]; rfl))
      clear hr
      go_wp2_with fail
      refine (HC.out w1).mono ?_
      rintro e w2 ⟨⟨A, B, ca, cb, rfl, a1⟩, x2⟩
      replace h := h.ext x2
      have h1 := h.alloc #[Value.slice A 0 ca, Value.slice B 0 cb] 35
      have b1 := Lib.hid (a1.ext ((Mut.refl noB w2).alloc (.cells #[Value.slice A 0 ca, Value.slice B 0 cb] 35)))
      clear h a1 HC x2
      go_wp2_with fail
      refine (HR.out _).mono ?_
      rintro e w3 ⟨⟨A2, B2, ca2, cb2, rfl, a2⟩, x3⟩
      have h2 := (h1.ext x3).alloc #[Value.slice A2 0 ca2, Value.slice B2 0 cb2] 35
      have y3 := (Mut.refl noB w3).alloc (.cells #[Value.slice A2 0 ca2, Value.slice B2 0 cb2] 35)
      have b2 := Lib.hid (a2.ext y3)
      have b3 := Lib.hid ((b1.out.ext x3).ext y3)
      clear h1 a2 HR x3 y3 b1
      have q0 := cell_of_heap h2.blk 0
      have q1 := cell_of_heap h2.blk 1
      have p0 := cell_of_heap h2.swap.blk 0
      have p1 := cell_of_heap h2.swap.blk 1
      change World.cell? _ _ = some (Value.slice A2 0 ca2) at q0
      change World.cell? _ _ = some (Value.slice B2 0 cb2) at q1
      change World.cell? _ _ = some (Value.slice A 0 ca) at p0
      change World.cell? _ _ = some (Value.slice B 0 cb) at p1
      have SA := Lib.hid (same_any _ _ ⟨[], []⟩ ⟨[], []⟩ _ b3.out (PArg.nil _))
      rw [decide_eq_true rfl] at SA
      clear b2 b3
      go_wp2_with fail
      refine SA.out.mono ?_
      rintro e w4 ⟨rfl, x4⟩
      go_wp2_with fail
      go_ret
      exact ⟨rfl, h2.ends.trans x4⟩
    | some p =>
      obtain ⟨hwr, hok⟩ := rdAll_some _ _ hr
      have hpr : prB p = s.data.toList := dAll_canon s.data.toList p (by rw [dAll_eq]; exact hr)
      obtain ⟨n, hn⟩ : ∃ n, p.rings.length = n := ⟨_, rfl⟩
      obtain ⟨m, hm⟩ : ∃ m, p.ths.length = m := ⟨_, rfl⟩
      have HC := Lib.hid (cread_q s hs p n m 0 hn hm (by rw [hr]; rfl) (by rw [hr]; rfl))
      have HR := Lib.hid (rread_q s hs p n m true hn hm (by rw [hr]; rfl) (by rw [hr]; rfl))
      have HP := Lib.hid (fun v w (a : PArg w v p) => cprint_p v p w a)
      rw [hwr, if_pos rfl, if_pos rfl, show (⟨(prB p).toArray⟩ : ByteArray) = s by rw [hpr]] at HP
      clear hr hn hm hpr hwr hok
      go_wp2_with fail
      refine (HC.out w1).mono ?_
      rintro e w2 ⟨⟨A, B, ca, cb, rfl, a1⟩, x2⟩
      replace h := h.ext x2
      have h1 := h.alloc #[Value.slice A n ca, Value.slice B m cb] 35
      have b1 := Lib.hid (a1.ext ((Mut.refl noB w2).alloc (.cells #[Value.slice A n ca, Value.slice B m cb] 35)))
      clear h a1 HC x2
      go_wp2_with fail
      refine (HR.out _).mono ?_
      rintro e w3 ⟨⟨A2, B2, ca2, cb2, rfl, a2⟩, x3⟩
      have h2 := (h1.ext x3).alloc #[Value.slice A2 n ca2, Value.slice B2 m cb2] 35
      have y3 := (Mut.refl noB w3).alloc (.cells #[Value.slice A2 n ca2, Value.slice B2 m cb2] 35)
      have b2 := Lib.hid (a2.ext y3)
      have b3 := Lib.hid ((b1.out.ext x3).ext y3)
      clear h1 a2 HR x3 y3 b1
      have q0 := cell_of_heap h2.blk 0
      have q1 := cell_of_heap h2.blk 1
      have p0 := cell_of_heap h2.swap.blk 0
      have p1 := cell_of_heap h2.swap.blk 1
      change World.cell? _ _ = some (Value.slice A2 n ca2) at q0
      change World.cell? _ _ = some (Value.slice B2 m cb2) at q1
      change World.cell? _ _ = some (Value.slice A n ca) at p0
      change World.cell? _ _ = some (Value.slice B m cb) at p1
      have hss : (s.toList == s.toList) = true := (Lib.bytes_beq_iff s s).2 rfl
      go_wp2_with fail
      refine (HP.out _ _ b3.out).mono ?_
      rintro e w4 ⟨rfl, x4⟩
      have h3 := h2.ext x4
      have SA := Lib.hid (same_any _ _ p p _ (b3.out.ext x4) (b2.out.ext x4))
      rw [decide_eq_true rfl] at SA
      clear h2 b2 b3 p0 p1 q0 q1 HP
      have q0 := cell_of_heap h3.blk 0
      have q1 := cell_of_heap h3.blk 1
      have p0 := cell_of_heap h3.swap.blk 0
      have p1 := cell_of_heap h3.swap.blk 1
      change World.cell? _ _ = some (Value.slice A2 n ca2) at q0
      change World.cell? _ _ = some (Value.slice B2 m cb2) at q1
      change World.cell? _ _ = some (Value.slice A n ca) at p0
      change World.cell? _ _ = some (Value.slice B m cb) at p1
      go_wp2_with fail
      refine SA.out.mono ?_
      rintro e w5 ⟨rfl, x5⟩
      go_wp2_with fail
      go_ret
      exact ⟨rfl, h3.ends.trans x5⟩
end Go.Proofs.Ytklkboibpglhjaa
