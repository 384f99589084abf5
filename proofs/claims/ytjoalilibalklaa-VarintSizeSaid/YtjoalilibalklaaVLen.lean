/- math/bits.Len64, off the shelf. -/
import Derived.Shelf.Lay
import Derived.Shelf.LaySoft
import Derived.Shelf.Strconv.Itoa0
import Derived.Test.YtjoalilibalklaaRows
import Derived.Test.YtjoalilibalklaaMut
namespace Go.Proofs.Ytjoalilibalklaa
open Go.Shelf Go.RowKit
shelf_lay Lays.n129 Nm 129 at Try as Try.lays129
theorem len64_any (x : Nat) (w : World) (h : x < 18446744073709551616) :
    Calls Try.prog 19 #[.int .u64 x] w fun e w' => e = .returned (.int .i64 (Lib.bitLen x)) ∧ w = w' :=
  (Any.bits_Len64 Try.lays129 x w (by omega) (by omega)).mono fun e w' ⟨h1, h2⟩ => ⟨h1, h2.symm⟩
end Go.Proofs.Ytjoalilibalklaa
