import Derived.Test.YtinehdoenhodoaaAbT
import Derived.Test.YtinehdoenhodoaaAb23
/-! What is known: written by wip/ab/abgen.py (an own program). -/
set_option maxRecDepth 100000
namespace Go.Proofs.Ytinehdoenhodoaa.T
open Go Go.Ab
theorem known0 : (callA ap0 1000 (.func 8 [] []) [] 0 []).map (·.1) = some (.bool true) := by kernel_rfl
theorem known_ok {k lo : Nat} {H : AH} : callA ap (k + 1) (.func 8 [] []) [] lo H = some (.bool true, H) := rfl
theorem agree : Agree Try.prog ap := agree_known agree0 (fun _ => rfl) known0
end Go.Proofs.Ytinehdoenhodoaa.T
