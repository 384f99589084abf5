/-
  No cell of these rows narrows 'for every input' (looked for: loops, veiled, ifaces, maps, wideKeys, modest, calm, conditions, laid).
  DERIVED. THE GIVEN ROWS OF THIS SEAT. 3 by the template 'for every input the law returns true; each argument reads behind the call as it read before'; 0 by the template 'total and deterministic' (their statements: YtjdglpngcdcneaaTotals.lean).
  GIVEN WITH THE SEED: the statements are not yours to turn. If you find one false, say at which input.
  Laid BY PROGRAM, IN A SANDBOX (cutbox-rows.mjs): the forced cells as the released guide's own fill.sh prints them over the translation d6da8bd3d87f53b3… (all of the seat's roots in one cut). By AI agents, Wed Nov 11 2026. No macro, syntax, notation, axiom, sorry.
-/
import Derived.Test.YtjdglpngcdcneaaChecked
import GoSem.Claim
import GoSem.ClaimJoined
import GoSem.ClaimMapViews
import Derived.JoinedTies
import Derived.KernelRfl
namespace Go.Proofs.Ytjdglpngcdcneaa
/- THE CELL 'sum', in the pinned program and in every row, IS THE sha256 OF THE DUMP (.gsa) THAT YtjdglpngcdcneaaProg.lean LOADS. Nothing in Lean hashes anything: it is a label: what it is worth is what the hold of that sum in a sandbox is worth. -/
noncomputable def Try.pinned : Pinned := { name := "ytjdglpngcdcneaa", sum := "d6da8bd3d87f53b30b3c0d55ff0b342cda630441673e3cddd50833d792563ee9", checked := Try.checked }
namespace Rows
def none {H : Type} : Left H := { results := [], args := [] }

/-- 'rondeaulaw21.ChunkBack': WHATEVER THE INPUT: true; the input reads as it did. -/
def chunkBackSpec : ChangeSpec := { name := "chunkBack", fn := fun _ => fun
  | [d1, d2] => { results := [.lit (.bool true)], args := [d1, d2] }
  | _ => none }
def chunkBackRow : OpenClaim := { program := "ytjdglpngcdcneaa", sum := "d6da8bd3d87f53b30b3c0d55ff0b342cda630441673e3cddd50833d792563ee9", func := "rondeau/rondeaulaw21.ChunkBack", spec := "chunkBack", unfollowed := true, recurses := true, plainKeys := false, apart := false }
def ChunkBackSaid : Prop := chunkBackRow.holds Try.pinned (OpenSpec.ofChange chunkBackSpec)

/-- ITS FALSE NEIGHBOUR: 'it returns false'. Refute it at one input. -/
def chunkBackWrong : ChangeSpec := { name := "chunkBack", fn := fun _ => fun
  | [d1, d2] => { results := [.lit (.bool false)], args := [d1, d2] }
  | _ => none }
def ChunkBackWrongFalsely : Prop := chunkBackRow.holds Try.pinned (OpenSpec.ofChange chunkBackWrong)

/-- 'rondeaulaw21.ChunkOne': WHATEVER THE INPUT: true; the input reads as it did. -/
def chunkOneSpec : ChangeSpec := { name := "chunkOne", fn := fun _ => fun
  | [d1, d2] => { results := [.lit (.bool true)], args := [d1, d2] }
  | _ => none }
def chunkOneRow : OpenClaim := { program := "ytjdglpngcdcneaa", sum := "d6da8bd3d87f53b30b3c0d55ff0b342cda630441673e3cddd50833d792563ee9", func := "rondeau/rondeaulaw21.ChunkOne", spec := "chunkOne", unfollowed := true, recurses := true, plainKeys := false, apart := false }
def ChunkOneSaid : Prop := chunkOneRow.holds Try.pinned (OpenSpec.ofChange chunkOneSpec)

/-- ITS FALSE NEIGHBOUR: 'it returns false'. Refute it at one input. -/
def chunkOneWrong : ChangeSpec := { name := "chunkOne", fn := fun _ => fun
  | [d1, d2] => { results := [.lit (.bool false)], args := [d1, d2] }
  | _ => none }
def ChunkOneWrongFalsely : Prop := chunkOneRow.holds Try.pinned (OpenSpec.ofChange chunkOneWrong)

/-- 'rondeaulaw21.ChunkShort': WHATEVER THE INPUT: true; the input reads as it did. -/
def chunkShortSpec : ChangeSpec := { name := "chunkShort", fn := fun _ => fun
  | [d1, d2] => { results := [.lit (.bool true)], args := [d1, d2] }
  | _ => none }
def chunkShortRow : OpenClaim := { program := "ytjdglpngcdcneaa", sum := "d6da8bd3d87f53b30b3c0d55ff0b342cda630441673e3cddd50833d792563ee9", func := "rondeau/rondeaulaw21.ChunkShort", spec := "chunkShort", unfollowed := true, recurses := true, plainKeys := false, apart := false }
def ChunkShortSaid : Prop := chunkShortRow.holds Try.pinned (OpenSpec.ofChange chunkShortSpec)

/-- ITS FALSE NEIGHBOUR: 'it returns false'. Refute it at one input. -/
def chunkShortWrong : ChangeSpec := { name := "chunkShort", fn := fun _ => fun
  | [d1, d2] => { results := [.lit (.bool false)], args := [d1, d2] }
  | _ => none }
def ChunkShortWrongFalsely : Prop := chunkShortRow.holds Try.pinned (OpenSpec.ofChange chunkShortWrong)

/- THE SECOND FORM. 'bulk': how many values and letters a reading holds, each counted each time it is reached (what is shared counts as often as it is met; a slice's spare places count too). A statement '..UptoSaid' is the law's where the arguments, and the package variables that the reading takes, are together of bulk at most 1048576: NARROWER than '..Said'. Prove '..Said' where nothing that the law and all that it calls make is longer than what came in: it says more and counts as full. Else prove '..UptoSaid'. A law counts once. -/
mutual
def uptoBulk {H : Type} : DataW H → Nat
  | .lit (.string bytes) => bytes.length + 1
  | .lit _ => 1
  | .nil => 1
  | .ptr d => uptoBulk d + 1
  | .slice elems spare => uptoBulkAll elems + uptoBulkAll spare + 1
  | .agg parts => uptoBulkAll parts + 1
  | .iface _ d => uptoBulk d + 1
  | .map entries => uptoBulkEntries entries + 1
  | .held _ => 1
def uptoBulkAll {H : Type} : List (DataW H) → Nat
  | [] => 0
  | d :: r => uptoBulk d + uptoBulkAll r
def uptoBulkEntries {H : Type} : List (Lit × DataW H) → Nat
  | [] => 0
  | x :: r => uptoBulkEntry x + uptoBulkEntries r
def uptoBulkEntry {H : Type} : Lit × DataW H → Nat
  | (.string bytes, d) => bytes.length + uptoBulk d + 1
  | (_, d) => uptoBulk d + 1
 end
def uptoSmall : (H : Type) → List (DataW H) → Bool := fun _ ds => decide (uptoBulkAll ds ≤ 1048576)
def OpenSpec.upto (s : _root_.Go.ChangeSpec) : _root_.Go.OpenSpec := { _root_.Go.OpenSpec.ofChange s with cond := some uptoSmall }

/-- 'rondeaulaw21.ChunkBack', WHERE WHAT IT READS IS OF BULK AT MOST 1048576: true; the input reads as it did. -/
def chunkBackUptoRow : OpenClaim := { program := "ytjdglpngcdcneaa", sum := "d6da8bd3d87f53b30b3c0d55ff0b342cda630441673e3cddd50833d792563ee9", func := "rondeau/rondeaulaw21.ChunkBack", spec := "chunkBack", unfollowed := true, recurses := true, plainKeys := false, apart := false, narrowed := true }
def ChunkBackUptoSaid : Prop := chunkBackUptoRow.holds Try.pinned (OpenSpec.upto chunkBackSpec)

/-- 'rondeaulaw21.ChunkOne', WHERE WHAT IT READS IS OF BULK AT MOST 1048576: true; the input reads as it did. -/
def chunkOneUptoRow : OpenClaim := { program := "ytjdglpngcdcneaa", sum := "d6da8bd3d87f53b30b3c0d55ff0b342cda630441673e3cddd50833d792563ee9", func := "rondeau/rondeaulaw21.ChunkOne", spec := "chunkOne", unfollowed := true, recurses := true, plainKeys := false, apart := false, narrowed := true }
def ChunkOneUptoSaid : Prop := chunkOneUptoRow.holds Try.pinned (OpenSpec.upto chunkOneSpec)

/-- 'rondeaulaw21.ChunkShort', WHERE WHAT IT READS IS OF BULK AT MOST 1048576: true; the input reads as it did. -/
def chunkShortUptoRow : OpenClaim := { program := "ytjdglpngcdcneaa", sum := "d6da8bd3d87f53b30b3c0d55ff0b342cda630441673e3cddd50833d792563ee9", func := "rondeau/rondeaulaw21.ChunkShort", spec := "chunkShort", unfollowed := true, recurses := true, plainKeys := false, apart := false, narrowed := true }
def ChunkShortUptoSaid : Prop := chunkShortUptoRow.holds Try.pinned (OpenSpec.upto chunkShortSpec)

end Rows
end Go.Proofs.Ytjdglpngcdcneaa
