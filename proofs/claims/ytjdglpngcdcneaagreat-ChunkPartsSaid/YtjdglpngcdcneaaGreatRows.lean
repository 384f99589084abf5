/-
  No cell of these rows narrows 'for every input' (looked for: loops, veiled, ifaces, maps, wideKeys, modest, calm, conditions, laid).
  DERIVED. THE GIVEN ROWS OF THIS SEAT. 3 by the template 'for every input the law returns true; each argument reads behind the call as it read before'; 0 by the template 'total and deterministic' (their statements: YtjdglpngcdcneaaGreatTotals.lean).
  GIVEN WITH THE SEED: the statements are not yours to turn. If you find one false, say at which input.
  Laid BY PROGRAM, IN A SANDBOX (cutbox-rows.mjs): the forced cells as the released guide's own fill.sh prints them over the translation 0d38b96ce3ba23d9… (all of the seat's roots in one cut). By AI agents, Wed Nov 11 2026. No macro, syntax, notation, axiom, sorry.
-/
import Derived.Test.YtjdglpngcdcneaaGreatChecked
import GoSem.Claim
import GoSem.ClaimJoined
import GoSem.ClaimMapViews
import Derived.JoinedTies
import Derived.KernelRfl
namespace Go.Proofs.YtjdglpngcdcneaaGreat
/- THE CELL 'sum', in the pinned program and in every row, IS THE sha256 OF THE DUMP (.gsa) THAT YtjdglpngcdcneaaGreatProg.lean LOADS. Nothing in Lean hashes anything: it is a label: what it is worth is what the hold of that sum in a sandbox is worth. -/
noncomputable def Tryz.pinned : Pinned := { name := "ytjdglpngcdcneaagreat", sum := "0d38b96ce3ba23d9826d5394a4ba942dc344ae3628ededf1baf501c8c3632d86", checked := Tryz.checked }
namespace Rows
def none {H : Type} : Left H := { results := [], args := [] }

/-- 'rondeaulaw21.ChunkPrints': WHATEVER THE INPUT: true; the input reads as it did. -/
def chunkPrintsSpec : ChangeSpec := { name := "chunkPrints", fn := fun _ => fun
  | [d] => { results := [.lit (.bool true)], args := [d] }
  | _ => none }
def chunkPrintsRow : OpenClaim := { program := "ytjdglpngcdcneaagreat", sum := "0d38b96ce3ba23d9826d5394a4ba942dc344ae3628ededf1baf501c8c3632d86", func := "rondeau/rondeaulaw21.ChunkPrints", spec := "chunkPrints", unfollowed := true, recurses := true, plainKeys := false, apart := false }
def ChunkPrintsSaid : Prop := chunkPrintsRow.holds Tryz.pinned (OpenSpec.ofChange chunkPrintsSpec)

/-- ITS FALSE NEIGHBOUR: 'it returns false'. Refute it at one input. -/
def chunkPrintsWrong : ChangeSpec := { name := "chunkPrints", fn := fun _ => fun
  | [d] => { results := [.lit (.bool false)], args := [d] }
  | _ => none }
def ChunkPrintsWrongFalsely : Prop := chunkPrintsRow.holds Tryz.pinned (OpenSpec.ofChange chunkPrintsWrong)

/-- 'rondeaulaw21.ChunkReads': WHATEVER THE INPUT: true; the input reads as it did. -/
def chunkReadsSpec : ChangeSpec := { name := "chunkReads", fn := fun _ => fun
  | [d1, d2] => { results := [.lit (.bool true)], args := [d1, d2] }
  | _ => none }
def chunkReadsRow : OpenClaim := { program := "ytjdglpngcdcneaagreat", sum := "0d38b96ce3ba23d9826d5394a4ba942dc344ae3628ededf1baf501c8c3632d86", func := "rondeau/rondeaulaw21.ChunkReads", spec := "chunkReads", unfollowed := true, recurses := true, plainKeys := false, apart := false }
def ChunkReadsSaid : Prop := chunkReadsRow.holds Tryz.pinned (OpenSpec.ofChange chunkReadsSpec)

/-- ITS FALSE NEIGHBOUR: 'it returns false'. Refute it at one input. -/
def chunkReadsWrong : ChangeSpec := { name := "chunkReads", fn := fun _ => fun
  | [d1, d2] => { results := [.lit (.bool false)], args := [d1, d2] }
  | _ => none }
def ChunkReadsWrongFalsely : Prop := chunkReadsRow.holds Tryz.pinned (OpenSpec.ofChange chunkReadsWrong)

/-- 'rondeaulaw21.ChunkParts': WHATEVER THE INPUT: true; the input reads as it did. -/
def chunkPartsSpec : ChangeSpec := { name := "chunkParts", fn := fun _ => fun
  | [d1, d2, d3] => { results := [.lit (.bool true)], args := [d1, d2, d3] }
  | _ => none }
def chunkPartsRow : OpenClaim := { program := "ytjdglpngcdcneaagreat", sum := "0d38b96ce3ba23d9826d5394a4ba942dc344ae3628ededf1baf501c8c3632d86", func := "rondeau/rondeaulaw21.ChunkParts", spec := "chunkParts", unfollowed := true, recurses := true, plainKeys := false, apart := false }
def ChunkPartsSaid : Prop := chunkPartsRow.holds Tryz.pinned (OpenSpec.ofChange chunkPartsSpec)

/-- ITS FALSE NEIGHBOUR: 'it returns false'. Refute it at one input. -/
def chunkPartsWrong : ChangeSpec := { name := "chunkParts", fn := fun _ => fun
  | [d1, d2, d3] => { results := [.lit (.bool false)], args := [d1, d2, d3] }
  | _ => none }
def ChunkPartsWrongFalsely : Prop := chunkPartsRow.holds Tryz.pinned (OpenSpec.ofChange chunkPartsWrong)

/- THE SECOND FORM. 'bulk': how many values and letters a reading holds, each counted each time it is reached (what is shared counts as often as it is met; a slice's spare places count too). A statement '..UptoSaid' is the law's where the arguments, and the package variables that the reading takes, are together of bulk at most 1048576: NARROWER than '..Said'. Prove '..Said' where nothing that the law and all that it calls make is longer than what came in: it says more and counts as full. Else prove '..UptoSaid'. A law counts once. -/
mutual
def uptoBulk {H : Type} : DataW H → Nat
  | .lit (.string bytes) => bytes.length + 1
  | .lit _ => 1
  | .nil => 1
  | .ptr d => uptoBulk d + 1
  | .slice elems spare => uptoBulkAll elems + uptoBulkAll spare + 1
  | .agg parts => uptoBulkAll parts + 1
  | .iface _ d => uptoBulk d + 1
  | .map entries => uptoBulkEntries entries + 1
  | .held _ => 1
def uptoBulkAll {H : Type} : List (DataW H) → Nat
  | [] => 0
  | d :: r => uptoBulk d + uptoBulkAll r
def uptoBulkEntries {H : Type} : List (Lit × DataW H) → Nat
  | [] => 0
  | x :: r => uptoBulkEntry x + uptoBulkEntries r
def uptoBulkEntry {H : Type} : Lit × DataW H → Nat
  | (.string bytes, d) => bytes.length + uptoBulk d + 1
  | (_, d) => uptoBulk d + 1
 end
def uptoSmall : (H : Type) → List (DataW H) → Bool := fun _ ds => decide (uptoBulkAll ds ≤ 1048576)
def OpenSpec.upto (s : _root_.Go.ChangeSpec) : _root_.Go.OpenSpec := { _root_.Go.OpenSpec.ofChange s with cond := some uptoSmall }

/-- 'rondeaulaw21.ChunkPrints', WHERE WHAT IT READS IS OF BULK AT MOST 1048576: true; the input reads as it did. -/
def chunkPrintsUptoRow : OpenClaim := { program := "ytjdglpngcdcneaagreat", sum := "0d38b96ce3ba23d9826d5394a4ba942dc344ae3628ededf1baf501c8c3632d86", func := "rondeau/rondeaulaw21.ChunkPrints", spec := "chunkPrints", unfollowed := true, recurses := true, plainKeys := false, apart := false, narrowed := true }
def ChunkPrintsUptoSaid : Prop := chunkPrintsUptoRow.holds Tryz.pinned (OpenSpec.upto chunkPrintsSpec)

/-- 'rondeaulaw21.ChunkReads', WHERE WHAT IT READS IS OF BULK AT MOST 1048576: true; the input reads as it did. -/
def chunkReadsUptoRow : OpenClaim := { program := "ytjdglpngcdcneaagreat", sum := "0d38b96ce3ba23d9826d5394a4ba942dc344ae3628ededf1baf501c8c3632d86", func := "rondeau/rondeaulaw21.ChunkReads", spec := "chunkReads", unfollowed := true, recurses := true, plainKeys := false, apart := false, narrowed := true }
def ChunkReadsUptoSaid : Prop := chunkReadsUptoRow.holds Tryz.pinned (OpenSpec.upto chunkReadsSpec)

/-- 'rondeaulaw21.ChunkParts', WHERE WHAT IT READS IS OF BULK AT MOST 1048576: true; the input reads as it did. -/
def chunkPartsUptoRow : OpenClaim := { program := "ytjdglpngcdcneaagreat", sum := "0d38b96ce3ba23d9826d5394a4ba942dc344ae3628ededf1baf501c8c3632d86", func := "rondeau/rondeaulaw21.ChunkParts", spec := "chunkParts", unfollowed := true, recurses := true, plainKeys := false, apart := false, narrowed := true }
def ChunkPartsUptoSaid : Prop := chunkPartsUptoRow.holds Tryz.pinned (OpenSpec.upto chunkPartsSpec)

end Rows
end Go.Proofs.YtjdglpngcdcneaaGreat
