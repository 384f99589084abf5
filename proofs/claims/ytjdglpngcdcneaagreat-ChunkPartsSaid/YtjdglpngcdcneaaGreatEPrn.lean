/- Layer 21: events are printed. -/
import Derived.Test.YtjdglpngcdcneaaGreatESts
import Derived.Test.YtjdglpngcdcneaaGreatHh
namespace Go.Proofs.YtjdglpngcdcneaaGreat
open Go.RowKit Go.WideShapes
set_option linter.unusedVariables false
set_option linter.unusedSimpArgs false
set_option linter.unusedSectionVars false
def printE (l : List Ev) : List UInt8 := packP (streamsP l)
set_option maxRecDepth 20000 in
set_option maxHeartbeats 8000000 in
theorem print_bad (A : Option Addr) (ca n : Nat) (l : List Ev) (w : World) (hn : l.length = n) (hl : n ≤ 1000000) (hr : ERow w A l) (hb : checkE l ≠ (0, 0)) :
    Calls Tryz.prog 8 #[.slice A n ca] w fun e w' => e = .returned (.tuple #[.string ⟨#[]⟩, .int .i64 (checkE l).2]) ∧ Ext w w' := by
  have HC := Lib.hid (strs_bad A ca n l w hn hl hr hb)
  have hc := (check_code l).resolve_left hb
  generalize checkE l = R at HC hc ⊢
  obtain ⟨a, c⟩ := R
  dsimp only at hc HC ⊢
  have hcne : ((c : Int) != 0) = true := by rw [bne_iff_ne]; omega
  clear hb hc
  go_enter Tryz.func8, Tryz.ntmps8
  go_wp2_with fail
  refine HC.out.mono ?_
  rintro _ w1 ⟨rfl, x1⟩
  go_wp2_with fail
  go_ret2
  exact ⟨rfl, x1⟩
set_option maxRecDepth 20000 in
set_option maxHeartbeats 8000000 in
theorem print_ok (A : Option Addr) (ca n : Nat) (l : List Ev) (w : World) (hn : l.length = n) (hr : ERow w A l) (hok : checkE l = (0, 0)) (hV : ∀ i, i < l.length → (l.getD i default).vl < 18446744073709551616) :
    Calls Tryz.prog 8 #[.slice A n ca] w fun e w' => e = .returned (.tuple #[.string ⟨(printE l).toArray⟩, .int .i64 0]) ∧ Ext w w' := by
  have hk := (check_ok l).1 hok
  have HC := Lib.hid (strs_ok A ca n l w hn hr hok hV)
  have hsz := streams_len l (fun i hi => ⟨hk.2 i hi, hV i hi⟩) hk.1
  have HP := Lib.hid (fun w => pack_any ⟨(streamsP l).toArray⟩ (by rw [bytes_size]; omega) (fun i => Nat.le_trans (lenT_text (by dsimp only; omega) i) (by decide)) w)
  have HE := Lib.hid (show printE l = packP (streamsP l) from rfl)
  clear hok hV hk
  generalize printE l = R at HE ⊢
  generalize streamsP l = X at *
  dsimp only at HP
  rw [← HE.out] at HP
  go_enter Tryz.func8, Tryz.ntmps8
  go_wp2_with fail
  refine HC.out.mono ?_
  rintro _ w1 ⟨rfl, x1⟩
  go_wp2_with fail
  refine (HP.out w1).mono ?_
  rintro _ w2 ⟨rfl, x2⟩
  go_wp2_with fail
  go_ret2
  exact ⟨rfl, x1.trans x2⟩
end Go.Proofs.YtjdglpngcdcneaaGreat
