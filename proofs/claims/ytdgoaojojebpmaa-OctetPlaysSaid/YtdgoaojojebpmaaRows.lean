/-
  No cell of these rows narrows 'for every input' (looked for: loops, veiled, ifaces, maps, wideKeys, modest, calm, conditions, laid).
  DERIVED. THE GIVEN ROWS OF THIS SEAT. 5 by the template 'for every input the law returns true; each argument reads behind the call as it read before'; 0 by the template 'total and deterministic' (their statements: YtdgoaojojebpmaaTotals.lean).
  GIVEN WITH THE SEED: the statements are not yours to turn. If you find one false, say at which input.
  Laid BY PROGRAM, IN A SANDBOX (cutbox-rows.mjs): the forced cells as the released guide's own fill.sh prints them over the translation 24906429f2710e34… (all of the seat's roots in one cut). By AI agents, Wed Nov 11 2026. No macro, syntax, notation, axiom, sorry.
-/
import Derived.Test.YtdgoaojojebpmaaChecked
import GoSem.Claim
import GoSem.ClaimJoined
import GoSem.ClaimMapViews
import Derived.JoinedTies
import Derived.KernelRfl
namespace Go.Proofs.Ytdgoaojojebpmaa
/- THE CELL 'sum', in the pinned program and in every row, IS THE sha256 OF THE DUMP (.gsa) THAT YtdgoaojojebpmaaProg.lean LOADS. Nothing in Lean hashes anything: it is a label: what it is worth is what the hold of that sum in a sandbox is worth. -/
noncomputable def Try.pinned : Pinned := { name := "ytdgoaojojebpmaa", sum := "24906429f2710e344f6d96fe218a7b3e32c1ba6fe2fda8265678b6961a867af6", checked := Try.checked }
namespace Rows
def none {H : Type} : Left H := { results := [], args := [] }

/-- 'rondeaulaw01.OctetPlays': WHATEVER THE INPUT: true; the input reads as it did. -/
def octetPlaysSpec : ChangeSpec := { name := "octetPlays", fn := fun _ => fun
  | [d1, d2] => { results := [.lit (.bool true)], args := [d1, d2] }
  | _ => none }
def octetPlaysRow : OpenClaim := { program := "ytdgoaojojebpmaa", sum := "24906429f2710e344f6d96fe218a7b3e32c1ba6fe2fda8265678b6961a867af6", func := "rondeau/rondeaulaw01.OctetPlays", spec := "octetPlays", apart := false }
def OctetPlaysSaid : Prop := octetPlaysRow.holds Try.pinned (OpenSpec.ofChange octetPlaysSpec)

/-- ITS FALSE NEIGHBOUR: 'it returns false'. Refute it at one input. -/
def octetPlaysWrong : ChangeSpec := { name := "octetPlays", fn := fun _ => fun
  | [d1, d2] => { results := [.lit (.bool false)], args := [d1, d2] }
  | _ => none }
def OctetPlaysWrongFalsely : Prop := octetPlaysRow.holds Try.pinned (OpenSpec.ofChange octetPlaysWrong)

/-- 'rondeaulaw01.OctetWrites': WHATEVER THE INPUT: true; the input reads as it did. -/
def octetWritesSpec : ChangeSpec := { name := "octetWrites", fn := fun _ => fun
  | [d1, d2] => { results := [.lit (.bool true)], args := [d1, d2] }
  | _ => none }
def octetWritesRow : OpenClaim := { program := "ytdgoaojojebpmaa", sum := "24906429f2710e344f6d96fe218a7b3e32c1ba6fe2fda8265678b6961a867af6", func := "rondeau/rondeaulaw01.OctetWrites", spec := "octetWrites", apart := false }
def OctetWritesSaid : Prop := octetWritesRow.holds Try.pinned (OpenSpec.ofChange octetWritesSpec)

/-- ITS FALSE NEIGHBOUR: 'it returns false'. Refute it at one input. -/
def octetWritesWrong : ChangeSpec := { name := "octetWrites", fn := fun _ => fun
  | [d1, d2] => { results := [.lit (.bool false)], args := [d1, d2] }
  | _ => none }
def OctetWritesWrongFalsely : Prop := octetWritesRow.holds Try.pinned (OpenSpec.ofChange octetWritesWrong)

/-- 'rondeaulaw01.OctetBack': WHATEVER THE INPUT: true; the input reads as it did. -/
def octetBackSpec : ChangeSpec := { name := "octetBack", fn := fun _ => fun
  | [d1, d2] => { results := [.lit (.bool true)], args := [d1, d2] }
  | _ => none }
def octetBackRow : OpenClaim := { program := "ytdgoaojojebpmaa", sum := "24906429f2710e344f6d96fe218a7b3e32c1ba6fe2fda8265678b6961a867af6", func := "rondeau/rondeaulaw01.OctetBack", spec := "octetBack", apart := false }
def OctetBackSaid : Prop := octetBackRow.holds Try.pinned (OpenSpec.ofChange octetBackSpec)

/-- ITS FALSE NEIGHBOUR: 'it returns false'. Refute it at one input. -/
def octetBackWrong : ChangeSpec := { name := "octetBack", fn := fun _ => fun
  | [d1, d2] => { results := [.lit (.bool false)], args := [d1, d2] }
  | _ => none }
def OctetBackWrongFalsely : Prop := octetBackRow.holds Try.pinned (OpenSpec.ofChange octetBackWrong)

/-- 'rondeaulaw01.OctetFours': WHATEVER THE INPUT: true; the input reads as it did. -/
def octetFoursSpec : ChangeSpec := { name := "octetFours", fn := fun _ => fun
  | [d1, d2] => { results := [.lit (.bool true)], args := [d1, d2] }
  | _ => none }
def octetFoursRow : OpenClaim := { program := "ytdgoaojojebpmaa", sum := "24906429f2710e344f6d96fe218a7b3e32c1ba6fe2fda8265678b6961a867af6", func := "rondeau/rondeaulaw01.OctetFours", spec := "octetFours", apart := false }
def OctetFoursSaid : Prop := octetFoursRow.holds Try.pinned (OpenSpec.ofChange octetFoursSpec)

/-- ITS FALSE NEIGHBOUR: 'it returns false'. Refute it at one input. -/
def octetFoursWrong : ChangeSpec := { name := "octetFours", fn := fun _ => fun
  | [d1, d2] => { results := [.lit (.bool false)], args := [d1, d2] }
  | _ => none }
def OctetFoursWrongFalsely : Prop := octetFoursRow.holds Try.pinned (OpenSpec.ofChange octetFoursWrong)

/-- 'rondeaulaw01.OctetParts': WHATEVER THE INPUT: true; the input reads as it did. -/
def octetPartsSpec : ChangeSpec := { name := "octetParts", fn := fun _ => fun
  | [d1, d2] => { results := [.lit (.bool true)], args := [d1, d2] }
  | _ => none }
def octetPartsRow : OpenClaim := { program := "ytdgoaojojebpmaa", sum := "24906429f2710e344f6d96fe218a7b3e32c1ba6fe2fda8265678b6961a867af6", func := "rondeau/rondeaulaw01.OctetParts", spec := "octetParts", apart := false }
def OctetPartsSaid : Prop := octetPartsRow.holds Try.pinned (OpenSpec.ofChange octetPartsSpec)

/-- ITS FALSE NEIGHBOUR: 'it returns false'. Refute it at one input. -/
def octetPartsWrong : ChangeSpec := { name := "octetParts", fn := fun _ => fun
  | [d1, d2] => { results := [.lit (.bool false)], args := [d1, d2] }
  | _ => none }
def OctetPartsWrongFalsely : Prop := octetPartsRow.holds Try.pinned (OpenSpec.ofChange octetPartsWrong)

/- THE SECOND FORM. 'bulk': how many values and letters a reading holds, each counted each time it is reached (what is shared counts as often as it is met; a slice's spare places count too). A statement '..UptoSaid' is the law's where the arguments, and the package variables that the reading takes, are together of bulk at most 1048576: NARROWER than '..Said'. Prove '..Said' where nothing that the law and all that it calls make is longer than what came in: it says more and counts as full. Else prove '..UptoSaid'. A law counts once. -/
mutual
def uptoBulk {H : Type} : DataW H → Nat
  | .lit (.string bytes) => bytes.length + 1
  | .lit _ => 1
  | .nil => 1
  | .ptr d => uptoBulk d + 1
  | .slice elems spare => uptoBulkAll elems + uptoBulkAll spare + 1
  | .agg parts => uptoBulkAll parts + 1
  | .iface _ d => uptoBulk d + 1
  | .map entries => uptoBulkEntries entries + 1
  | .held _ => 1
def uptoBulkAll {H : Type} : List (DataW H) → Nat
  | [] => 0
  | d :: r => uptoBulk d + uptoBulkAll r
def uptoBulkEntries {H : Type} : List (Lit × DataW H) → Nat
  | [] => 0
  | x :: r => uptoBulkEntry x + uptoBulkEntries r
def uptoBulkEntry {H : Type} : Lit × DataW H → Nat
  | (.string bytes, d) => bytes.length + uptoBulk d + 1
  | (_, d) => uptoBulk d + 1
 end
def uptoSmall : (H : Type) → List (DataW H) → Bool := fun _ ds => decide (uptoBulkAll ds ≤ 1048576)
def OpenSpec.upto (s : _root_.Go.ChangeSpec) : _root_.Go.OpenSpec := { _root_.Go.OpenSpec.ofChange s with cond := some uptoSmall }

/-- 'rondeaulaw01.OctetPlays', WHERE WHAT IT READS IS OF BULK AT MOST 1048576: true; the input reads as it did. -/
def octetPlaysUptoRow : OpenClaim := { program := "ytdgoaojojebpmaa", sum := "24906429f2710e344f6d96fe218a7b3e32c1ba6fe2fda8265678b6961a867af6", func := "rondeau/rondeaulaw01.OctetPlays", spec := "octetPlays", apart := false, narrowed := true }
def OctetPlaysUptoSaid : Prop := octetPlaysUptoRow.holds Try.pinned (OpenSpec.upto octetPlaysSpec)

/-- 'rondeaulaw01.OctetWrites', WHERE WHAT IT READS IS OF BULK AT MOST 1048576: true; the input reads as it did. -/
def octetWritesUptoRow : OpenClaim := { program := "ytdgoaojojebpmaa", sum := "24906429f2710e344f6d96fe218a7b3e32c1ba6fe2fda8265678b6961a867af6", func := "rondeau/rondeaulaw01.OctetWrites", spec := "octetWrites", apart := false, narrowed := true }
def OctetWritesUptoSaid : Prop := octetWritesUptoRow.holds Try.pinned (OpenSpec.upto octetWritesSpec)

/-- 'rondeaulaw01.OctetBack', WHERE WHAT IT READS IS OF BULK AT MOST 1048576: true; the input reads as it did. -/
def octetBackUptoRow : OpenClaim := { program := "ytdgoaojojebpmaa", sum := "24906429f2710e344f6d96fe218a7b3e32c1ba6fe2fda8265678b6961a867af6", func := "rondeau/rondeaulaw01.OctetBack", spec := "octetBack", apart := false, narrowed := true }
def OctetBackUptoSaid : Prop := octetBackUptoRow.holds Try.pinned (OpenSpec.upto octetBackSpec)

/-- 'rondeaulaw01.OctetFours', WHERE WHAT IT READS IS OF BULK AT MOST 1048576: true; the input reads as it did. -/
def octetFoursUptoRow : OpenClaim := { program := "ytdgoaojojebpmaa", sum := "24906429f2710e344f6d96fe218a7b3e32c1ba6fe2fda8265678b6961a867af6", func := "rondeau/rondeaulaw01.OctetFours", spec := "octetFours", apart := false, narrowed := true }
def OctetFoursUptoSaid : Prop := octetFoursUptoRow.holds Try.pinned (OpenSpec.upto octetFoursSpec)

/-- 'rondeaulaw01.OctetParts', WHERE WHAT IT READS IS OF BULK AT MOST 1048576: true; the input reads as it did. -/
def octetPartsUptoRow : OpenClaim := { program := "ytdgoaojojebpmaa", sum := "24906429f2710e344f6d96fe218a7b3e32c1ba6fe2fda8265678b6961a867af6", func := "rondeau/rondeaulaw01.OctetParts", spec := "octetParts", apart := false, narrowed := true }
def OctetPartsUptoSaid : Prop := octetPartsUptoRow.holds Try.pinned (OpenSpec.upto octetPartsSpec)

end Rows
end Go.Proofs.Ytdgoaojojebpmaa
