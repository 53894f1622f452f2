/- What is full: no variable in it is bound; what occurs in it. -/
import Derived.Test.YtohncglpjiplaaaS5
import Derived.Test.YtohncglpjiplaaaP4
namespace Go.Proofs.Ytohncglpjiplaaa.AM
open Go
set_option linter.unusedVariables false
set_option linter.unusedSimpArgs false
/-- Variables have no arguments, seals no variables. -/
def Term.okv (t : Term) : Prop := ∀ p ∈ t.parts, (p.kind = 1 → p.kids = []) ∧ (p.kind = 4 → ∀ q ∈ partss p.kids, q.kind ≠ 1)
def okvs (l : List Term) : Prop := ∀ p ∈ partss l, (p.kind = 1 → p.kids = []) ∧ (p.kind = 4 → ∀ q ∈ partss p.kids, q.kind ≠ 1)
def St.okv (s : St) : Prop := ∀ n u, s.at n = some u → u.okv
end Go.Proofs.Ytohncglpjiplaaa.AM
