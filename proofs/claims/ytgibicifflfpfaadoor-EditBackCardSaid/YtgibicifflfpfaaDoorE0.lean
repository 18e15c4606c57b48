/-
  What walks over texts use. Conditions: none.
-/
import Derived.Test.YtgibicifflfpfaaDoorXW
import Derived.Test.YtgibicifflfpfaaDoorEP1
set_option autoImplicit false
namespace Go.Proofs.YtgibicifflfpfaaDoor
open X
theorem putc4 (a b c d : Value) {w x y z : Value} : putc #[w, x, y, z] 0 #[a, b, c, d] = #[a, b, c, d] := (rfl)
end Go.Proofs.YtgibicifflfpfaaDoor
