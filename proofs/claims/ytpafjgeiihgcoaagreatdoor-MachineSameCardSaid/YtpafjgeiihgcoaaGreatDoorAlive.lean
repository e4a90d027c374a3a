/- A part of the proof: HbAl. No conditions. -/
import Derived.Test.YtpafjgeiihgcoaaGreatDoorSpec

section
/- The example that all statements of layer 30 ask: alive() is true. -/
set_option linter.unusedVariables false
namespace Go.Ev
open Go Go.Proofs
theorem alive_k : evalPure XC (kCode XC 100000 60) 5 [] = some (.v (.bool true), []) := by kernel_rfl
theorem alive_con : Con Tryz.prog 5 [] (.v (.bool true), []) := con_of_k XC_ok specC_ok alive_k
end Go.Ev
end
