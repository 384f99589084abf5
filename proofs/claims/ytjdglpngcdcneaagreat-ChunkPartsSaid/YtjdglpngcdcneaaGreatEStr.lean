/- Layer 21: the streams. -/
import Derived.Test.YtjdglpngcdcneaaGreatENamed
namespace Go.Proofs.YtjdglpngcdcneaaGreat
open Go.RowKit Go.WideShapes
set_option linter.unusedVariables false
set_option linter.unusedSimpArgs false
set_option linter.unusedSectionVars false
set_option maxRecDepth 20000 in
set_option maxHeartbeats 2000000 in
theorem named_any (f : Fn) (w : World) : Calls Tryz.prog 61 #[.func f #[] #[]] w fun e w' => ∃ fb, e = .returned (.func (.func 93) #[] #[.pointer (some ⟨fb, 0, none⟩)]) ∧ Ext w w' ∧ w'.cell? ⟨fb, 0, none⟩ = some (.func f #[] #[]) := by
  have hmf : ∀ (fn : Fn) (first cap : Array Value) (w : World), (Instr.makeFunc fn first cap).run Tryz.prog w = .ok (.func fn first cap) w := fun _ _ _ _ => rfl
  go_enter Tryz.func61, Tryz.ntmps61
  go_wp2
  go_ret
  refine ⟨_, rfl, ((St.start noB w).alloc _ _).ends, ?_⟩
  rw [cell_new]
  rfl
def hasF (b : Nat) : Value := .func (.func 93) #[] #[.pointer (some ⟨b, 0, none⟩)]
def fnV (k : Nat) : Value := .func (.func k) #[] #[]
def strA (b1 b2 b3 : Nat) : Array Value :=
  #[fnV 58, fnV 18, fnV 53, fnV 59, fnV 60,
    hasF b1, fnV 18, fnV 53, fnV 63, fnV 64,
    hasF b2, fnV 66, fnV 67, fnV 68, fnV 69,
    hasF b3, fnV 66, fnV 67, fnV 71, fnV 72]
/-- the streams in memory -/
structure StrRow (w : World) (g b1 b2 b3 : Nat) : Prop where
  cell : ∀ j, w.cell? ⟨g, j, none⟩ = (strA b1 b2 b3)[j]?
  f1 : w.cell? ⟨b1, 0, none⟩ = some (.func (.func 62) #[] #[])
  f2 : w.cell? ⟨b2, 0, none⟩ = some (.func (.func 65) #[] #[])
  f3 : w.cell? ⟨b3, 0, none⟩ = some (.func (.func 70) #[] #[])
set_option maxRecDepth 20000 in
set_option maxHeartbeats 2000000 in
theorem streams_any (w : World) : Calls Tryz.prog 35 #[] w fun e w' => ∃ g b1 b2 b3, e = .returned (.slice (some ⟨g, 0, none⟩) 4 4) ∧ Ext w w' ∧ StrRow w' g b1 b2 b3 := by
  have HN := Lib.hid (fun f w => named_any f w)
  go_enter Tryz.func35, Tryz.ntmps35
  go_wp2_with fail
  refine (HN.out _ _).mono ?_
  rintro _ w1 ⟨b1, rfl, x1, h1⟩
  go_wp2_with fail
  refine (HN.out _ _).mono ?_
  rintro _ w2 ⟨b2, rfl, x2, h2⟩
  go_wp2_with fail
  refine (HN.out _ _).mono ?_
  rintro _ w3 ⟨b3, rfl, x3, h3⟩
  go_wp2_with fail
  go_ret
  have x4 := ((St.start noB w3).alloc (strA b1 b2 b3) 73).ends
  refine ⟨_, b1, b2, b3, rfl, ((x1.trans x2).trans x3).trans x4, fun j => ?_, ?_, ?_, ?_⟩
  · exact cell_new w3 (strA b1 b2 b3) 73 j
  · exact Ext.cell ((x2.trans x3).trans x4) h1
  · exact Ext.cell (x3.trans x4) h2
  · exact Ext.cell x4 h3
end Go.Proofs.YtjdglpngcdcneaaGreat
