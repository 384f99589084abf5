/- Layer 4: runs unpacked. -/
import Derived.Test.YtpdhfmkaeemadaaRAdd
namespace Go.Proofs.Ytpdhfmkaeemadaa
open Go.RowKit Go.WideShapes
set_option linter.unusedVariables false
set_option linter.unusedSimpArgs false
def AllR (p : List Rn) : Prop := ∀ i, i < p.length → (p.getD i (0, 0)).1 < 18446744073709551616 ∧ (p.getD i (0, 0)).2 < 18446744073709551616
theorem drop_cons (p : List Rn) (i : Nat) (h : i < p.length) : p.drop i = p.getD i (0, 0) :: p.drop (i + 1) := by
  rw [List.drop_eq_getElem_cons h, List.getD_eq_getElem?_getD, List.getElem?_eq_getElem h]; rfl
/-- what runs are unpacked to -/
def unI (p : List Rn) (most : Int) : List Nat × Nat := if most < 0 then ([], 1) else un most.toNat p []
section
variable {S : Nat → Prop} {W w : World} {M : List Thing}
set_option maxRecDepth 20000 in
set_option maxHeartbeats 4000000 in
theorem unpack_st (h : St S W w M) (A : Option Addr) (ca n : Nat) (p : List Rn) (hp : p.length = n) (hn : n ≤ 1000000) (ha : AllR p) (hr : ∀ w', St S W w' M → RRow w' A p) (most : Int) (hm : -9223372036854775808 ≤ most ∧ most ≤ 1000000) :
    Calls Try.prog 11 #[.slice A n ca, .int .i64 most] w fun e w' => ∃ v, e = .returned (.tuple #[v, .int .i64 (unI p most).2]) ∧ St S W w' (nlT v (unI p most).1 :: M) := by
  by_cases h0 : most < 0
  · rw [unI, if_pos h0]
    clear hr
    go_enter Try.func11, Try.ntmps11
    go_wp2_with fail
    go_ret2
    exact ⟨_, rfl, h.nilOwn _ _⟩
  · obtain ⟨most, rfl⟩ : ∃ k : Nat, most = k := ⟨most.toNat, by omega⟩
    have HR0 := Lib.hid (show unI p most = un most p [] by rw [unI, if_neg h0, Int.toNat_natCast])
    generalize unI p most = R at HR0 ⊢
    have ha2 : ∀ i, i < n → _ := fun i hi => ha i (by omega)
    have hr2 : ∀ w', St S W w' M → ∀ i, i < n → _ := fun w' hh i hi => hr w' hh i (by omega)
    have HDr : Hid (∀ i, i < n → p.drop i = p.getD i (0, 0) :: p.drop (i + 1)) := Lib.hid (fun i hi => drop_cons p i (by omega))
    have HDe : Hid (p.drop n = []) := Lib.hid (by rw [← hp]; simp)
    clear ha hr hp
    have h2 := h.nilOwn 34 1
    clear h
    go_enter Try.func11, Try.ntmps11
    go_wp2_with fail
    go_loopw [4, 12] (fun vl vi wr => ∃ (i k : Nat) (v : Value) (acc : List Nat), vl = v ∧ vi = .int .i64 i ∧ i ≤ n ∧ Hid (acc.length = k) ∧ k ≤ most ∧ Hid (R = un most (p.drop i) acc) ∧ St S W wr (mlT v k acc :: M)) (fun _ vi _ => n - (intOf vi).toNat)
    case atStart => exact ⟨0, 0, _, [], rfl, rfl, by omega, Lib.hid rfl, by omega, HR0, h2⟩
    case round =>
      clear h2 HR0
      obtain ⟨i, k, v, acc, rfl, rfl, hi, HL, hk, HR, h⟩ := hrel
      obtain ⟨A3, c3, rfl⟩ := h.own.form
      by_cases hlt : i < n
      · obtain ⟨b, off, rfl, hc0, hc1⟩ := hr2 _ h.drop i hlt
        obtain ⟨hb0, hb1⟩ := ha2 i hlt
        have hE := HR.out
        rw [HDr.out i hlt, un] at hE
        generalize p.getD i (0, 0) = r at hc0 hc1 hb0 hb1 hE
        obtain ⟨xv, xc⟩ := r
        simp only at hc0 hc1 hb0 hb1 hE
        have h1 := (h.alloc #[Value.int .u64 xv, Value.int .u64 xc] 36).swap
        clear HR
        by_cases hz : xc = 0
        · rw [if_pos (Or.inl hz)] at hE
          have HE := Lib.hid hE
          have HC := Lib.hid (add_zero h1 A3 k c3 xv xc hz most)
          clear hE hz ha2 hr2
          go_wp2_with (go_at_call 22; refine HC.out.mono ?_; rintro e w2 ⟨rfl, h3⟩)
          go_ret2
          rw [HE.out]
          exact ⟨_, rfl, h3.drop.drop.nilOwn _ _⟩
        · by_cases hs : acc.getLast? = some xv
          · rw [if_pos (Or.inr hs)] at hE
            have HE := Lib.hid hE
            have HC := Lib.hid (add_same A3 k c3 xv xc hz most acc h1 HL.out (by omega) hs)
            clear hE hz hs ha2 hr2
            go_wp2_with (go_at_call 22; refine HC.out.mono ?_; rintro e w2 ⟨rfl, h3⟩)
            go_ret2
            rw [HE.out]
            exact ⟨_, rfl, h3.drop.nilOwn _ _⟩
          · rw [if_neg (by rintro (h4 | h4); exact hz h4; exact hs h4), HL.out] at hE
            have HC := Lib.hid (add_go A3 k c3 xv xc hz hb0 hb1 most (by omega) hk acc h1 HL.out hs)
            have hz2 := hz
            clear hz hs ha2 hr2
            by_cases hlong : most < k + xc
            · rw [if_pos hlong] at hE
              have HE := Lib.hid hE
              clear hE
              go_wp2_with (go_at_call 22; refine HC.out.mono ?_; rintro e w2 ⟨v2, er, rfl, _, h3⟩; obtain ⟨rfl, h5⟩ := h3 hlong)
              go_ret2
              rw [HE.out]
              exact ⟨_, rfl, h5.drop.nilOwn _ _⟩
            · rw [if_neg hlong] at hE
              have HE := Lib.hid hE
              have hle : k + xc ≤ most := by omega
              clear hE
              go_wp2_with (go_at_call 22; refine HC.out.mono ?_; rintro e w2 ⟨v2, er, rfl, h3, _⟩; obtain ⟨rfl, A4, c4, rfl, h5⟩ := h3 hle)
              have h4 := h5.swap.drop
              have HL2 : Hid ((acc ++ List.replicate xc xv).length = k + xc) := Lib.hid (by rw [List.length_append, List.length_replicate, HL.out])
              go_roundw
              case rel => first | exact ⟨i + 1, k + xc, _, _, rfl, by go_num, by omega, HL2, hle, HE, h4⟩ | ((repeat apply Exists.intro); exact ⟨⟨i + 1, k + xc, _, _, rfl, by go_num, by omega, HL2, hle, HE, h4⟩, rfl⟩)
              case measure => simp [intOf]; omega
      · obtain rfl : i = n := by omega
        have hE := HR.out
        rw [HDe.out, un] at hE
        have HE := Lib.hid hE
        clear hE HR
        go_wp2_with fail
        go_ret2
        rw [HE.out]
        have hk2 := HL.out
        subst hk2
        exact ⟨_, rfl, h⟩
end
end Go.Proofs.Ytpdhfmkaeemadaa
