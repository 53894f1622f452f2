/- The plain law of TermTall. -/
import Derived.Test.YtohncglpjiplaaaP1
namespace Go.Proofs.Ytohncglpjiplaaa.AM
open Go
set_option linter.unusedVariables false
set_option linter.unusedSimpArgs false

def tall (v : Int) : Nat → Term
  | 0 => .node 1 v ⟨#[]⟩ []
  | i + 1 => .node 3 0 ⟨#[115]⟩ [tall v i]
end Go.Proofs.Ytohncglpjiplaaa.AM

/- The plain law of TermVars. -/
namespace Go.Proofs.Ytohncglpjiplaaa.AM
open Go
set_option linter.unusedVariables false
set_option linter.unusedSimpArgs false

/-- Those of the second that are not among the first, behind the first. -/
def plus (l m : List Int) : List Int := l ++ m.filter (fun x => decide (x ∉ l))
theorem addVar_nodup {l : List Int} (h : l.Nodup) (p : Term) : (addVar l p).Nodup := by
  unfold addVar
  split
  · rename_i hh
    rw [List.nodup_append]
    refine ⟨h, by simp, fun a ha b hb e => ?_⟩
    simp only [List.mem_singleton] at hb
    exact hh.2 (hb ▸ e ▸ ha)
  · exact h
theorem vars_nodup (t : Term) : t.vars.Nodup := by
  have key : ∀ (ps : List Term) (l : List Int), l.Nodup → (ps.foldl addVar l).Nodup := by
    intro ps
    induction ps with
    | nil => intro l h; exact h
    | cons p ps ih => intro l h; exact ih _ (addVar_nodup h p)
  exact key _ _ List.nodup_nil
theorem vars_size (t : Term) : t.vars.length ≤ t.size := by
  have := vars_len t.parts []
  rw [parts_size] at this
  have h0 : ([] : List Int).length = 0 := rfl
  show (t.parts.foldl addVar []).length ≤ _
  omega
theorem nodup_take {l : List Int} (h : l.Nodup) {i : Nat} (hi : i < l.length) : l[i] ∉ l.take i := by
  intro hm
  obtain ⟨j, hj, e⟩ := List.getElem_of_mem hm
  rw [List.getElem_take] at e
  have hj' : j < i := by simp at hj; omega
  have hp := List.pairwise_iff_getElem.1 h j i (by omega) hi hj'
  exact hp e
end Go.Proofs.Ytohncglpjiplaaa.AM

/- The plain law of TermShifts. -/
namespace Go.Proofs.Ytohncglpjiplaaa.AM
open Go
set_option linter.unusedVariables false
set_option linter.unusedSimpArgs false

def fit (n : Int) : Prop := -9223372036854775808 ≤ n ∧ n ≤ 9223372036854775807
end Go.Proofs.Ytohncglpjiplaaa.AM
