import Derived.Test.YthpiggjclhnkcaaTn
import Derived.Test.YthpiggjclhnkcaaF1
namespace Go.Proofs.Ythpiggjclhnkcaa.AM
open Go
set_option linter.unusedVariables false
set_option linter.unusedSimpArgs false
end Go.Proofs.Ythpiggjclhnkcaa.AM
