/- A part of a proof of a law of the store, without conditions: its texts are: Ta Tb Tc. -/
import Derived.Test.YtefjnnghfloddaaGreatGk
/- The loads of the racks and the tolerance, in plain Lean. -/
namespace Go.Proofs.YtefjnnghfloddaaGreat.Abs
set_option linter.unusedVariables false
set_option linter.unusedSimpArgs false
set_option linter.unusedSectionVars false
def swp (l : List Int) (i j : Nat) : List Int := (l.set i (l.getD j 0)).set j (l.getD i 0)
end Go.Proofs.YtefjnnghfloddaaGreat.Abs

/- Specifications: Sort, Reverse, Rack, Loads. -/
namespace Go.Proofs.YtefjnnghfloddaaGreat.Abs
set_option linter.unusedVariables false
set_option linter.unusedSimpArgs false
set_option linter.unusedSectionVars false
end Go.Proofs.YtefjnnghfloddaaGreat.Abs

/- Specifications: Tolerance; the law StoreTolerates. -/
namespace Go.Proofs.YtefjnnghfloddaaGreat.Abs
set_option linter.unusedVariables false
set_option linter.unusedSimpArgs false
set_option linter.unusedSectionVars false
end Go.Proofs.YtefjnnghfloddaaGreat.Abs
