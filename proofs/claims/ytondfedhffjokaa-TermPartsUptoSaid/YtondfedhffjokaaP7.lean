/- The plain law of TermParts. -/
import Derived.Test.YtondfedhffjokaaP4
namespace Go.Proofs.Ytondfedhffjokaa.AM
open Go
set_option linter.unusedVariables false
theorem check_fits (t : Term) (lv : Int) : IntKind.i64.wrap (t.check lv) = t.check lv := by
  have : 0 ≤ t.check lv ∧ t.check lv ≤ 7 := by
    unfold Term.check
    split
    · decide
    · split
      · decide
      · split <;> decide
  exact wrap64 (by omega) (by omega)
end Go.Proofs.Ytondfedhffjokaa.AM
