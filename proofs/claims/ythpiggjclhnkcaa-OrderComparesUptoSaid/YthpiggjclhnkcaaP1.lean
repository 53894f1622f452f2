/- The plain law of TermChecks. -/
import Derived.Test.YthpiggjclhnkcaaB8
namespace Go.Proofs.Ythpiggjclhnkcaa.AM
open Go
set_option linter.unusedVariables false
set_option linter.unusedSimpArgs false

end Go.Proofs.Ythpiggjclhnkcaa.AM
