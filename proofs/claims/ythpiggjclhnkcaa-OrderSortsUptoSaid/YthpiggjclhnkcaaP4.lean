/- The plain law of TermTall. -/
import Derived.Test.YthpiggjclhnkcaaP1
namespace Go.Proofs.Ythpiggjclhnkcaa.AM
open Go
set_option linter.unusedVariables false
set_option linter.unusedSimpArgs false

def tall (v : Int) : Nat → Term
  | 0 => .node 1 v ⟨#[]⟩ []
  | i + 1 => .node 3 0 ⟨#[115]⟩ [tall v i]
end Go.Proofs.Ythpiggjclhnkcaa.AM

/- The plain law of TermVars. -/
namespace Go.Proofs.Ythpiggjclhnkcaa.AM
open Go
set_option linter.unusedVariables false
set_option linter.unusedSimpArgs false

/-- Those of the second that are not among the first, behind the first. -/
def plus (l m : List Int) : List Int := l ++ m.filter (fun x => decide (x ∉ l))
end Go.Proofs.Ythpiggjclhnkcaa.AM

/- The plain law of TermShifts. -/
namespace Go.Proofs.Ythpiggjclhnkcaa.AM
open Go
set_option linter.unusedVariables false
set_option linter.unusedSimpArgs false

def fit (n : Int) : Prop := -9223372036854775808 ≤ n ∧ n ≤ 9223372036854775807
end Go.Proofs.Ythpiggjclhnkcaa.AM
