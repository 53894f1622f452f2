/- The plain law of TermSame. -/
import Derived.Test.YtondfedhffjokaaP4
namespace Go.Proofs.Ytondfedhffjokaa.AM
open Go
set_option linter.unusedVariables false
set_option linter.unusedSimpArgs false
theorem same_num (t : Term) (h : t.fits) : same t (.node t.kind (IntKind.i64.wrap (t.num + 1)) t.name t.kids) = false := by
  cases h' : same t (.node t.kind (IntKind.i64.wrap (t.num + 1)) t.name t.kids) with
  | false => rfl
  | true =>
    have e : t.num = IntKind.i64.wrap (t.num + 1) := congrArg Term.num ((same_iff _ _).1 h')
    have hf := fit_num h
    unfold fit at hf
    rw [wrap_def] at e
    split at e <;> omega
theorem same_name (t : Term) (x : ByteArray) (hx : 0 < x.size) : same t (.node t.kind t.num (t.name ++ x) t.kids) = false := by
  cases h : same t (.node t.kind t.num (t.name ++ x) t.kids) with
  | false => rfl
  | true =>
    have e := (same_iff _ _).1 h
    have e1 : t.name = t.name ++ x := congrArg Term.name e
    have e2 := congrArg ByteArray.size e1
    rw [ByteArray.size_append] at e2
    omega
theorem same_more (t u : Term) : same t (.node t.kind t.num t.name (t.kids ++ [u])) = false := by
  cases h : same t (.node t.kind t.num t.name (t.kids ++ [u])) with
  | false => rfl
  | true =>
    have e := (same_iff _ _).1 h
    have e1 : t.kids = t.kids ++ [u] := congrArg Term.kids e
    have e2 := congrArg List.length e1
    simp at e2
end Go.Proofs.Ytondfedhffjokaa.AM
