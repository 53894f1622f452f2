/- The plain law of TermChecks. -/
import Derived.Test.YtohncglpjiplaaaB8
namespace Go.Proofs.Ytohncglpjiplaaa.AM
open Go
set_option linter.unusedVariables false
set_option linter.unusedSimpArgs false

end Go.Proofs.Ytohncglpjiplaaa.AM
