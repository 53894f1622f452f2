/- The plain law of TermTall. -/
import Derived.Test.YthpiggjclhnkcaaP1
namespace Go.Proofs.Ythpiggjclhnkcaa.AM
open Go
set_option linter.unusedVariables false
set_option linter.unusedSimpArgs false

def tall (v : Int) : Nat → Term
  | 0 => .node 1 v ⟨#[]⟩ []
  | i + 1 => .node 3 0 ⟨#[115]⟩ [tall v i]
theorem tall_size (v : Int) : ∀ i, (tall v i).size = i + 1
  | 0 => rfl
  | i + 1 => by simp only [tall, Term.size, sizes, tall_size v i, Nat.add_zero]
theorem tall_deep (v : Int) : ∀ i, (tall v i).deep = i + 1
  | 0 => rfl
  | i + 1 => by simp only [tall, Term.deep, deeps, tall_deep v i]; omega
theorem tall_bulk (v : Int) : ∀ i, (tall v i).bulk = 2 * i + 1
  | 0 => rfl
  | i + 1 => by simp only [tall, Term.bulk, bulks, tall_bulk v i]; show 1 + _ + 1 = _; omega
theorem tall_all (v : Int) (h : 0 ≤ v) (h' : v < 4096) : ∀ i, (tall v i).parts.all (alone 1) = true
  | 0 => by simp [tall, Term.parts, partss, alone, Term.kind, Term.num, Term.name, Term.kids, h, h']
  | i + 1 => by
    simp only [tall, Term.parts, partss, List.append_nil, List.all_cons, tall_all v h h' i, Bool.and_true]
    rfl
theorem tall_vars (v : Int) : ∀ i, (tall v i).vars = [v] := by
  have key : ∀ i (l : List Int), (tall v i).parts.foldl addVar l = addVar l (.node 1 v ⟨#[]⟩ []) := by
    intro i
    induction i with
    | zero => intro l; rfl
    | succ i ih =>
      intro l
      simp only [tall, Term.parts, partss, List.append_nil, List.foldl_cons]
      rw [show addVar l (.node 3 0 ⟨#[115]⟩ [tall v i]) = l from if_neg (by simp [Term.kind])]
      exact ih l
  intro i
  show (tall v i).parts.foldl addVar [] = _
  rw [key]
  simp [addVar, Term.kind, Term.num]
theorem tall_check (v : Int) (h : 0 ≤ v) (h' : v < 4096) (i : Nat) (hi : i < 256) : (tall v i).check 1 = if i < 60 then 0 else 7 := by
  unfold Term.check
  rw [tall_size, tall_deep, tall_all v h h' i, if_neg (by omega)]
  by_cases hh : i < 60
  · rw [if_neg (by omega), if_pos hh]; rfl
  · rw [if_pos (by omega), if_neg hh]
theorem tall_ok (v : Int) (h : 0 ≤ v) (h' : v < 4096) (i : Nat) (hi : i < 256) (n : Int) (hn : n = i) : ((tall v i).check 1 == 0) = decide (n < 60) := by
  rw [tall_check v h h' i hi]
  by_cases hh : i < 60
  · rw [if_pos hh, decide_eq_true (show n < 60 by omega)]; rfl
  · rw [if_neg hh, decide_eq_false (show ¬ n < 60 by omega)]; rfl
theorem tall_seven (v : Int) (h : 0 ≤ v) (h' : v < 4096) (i : Nat) (hi : i < 256) (hn : 60 ≤ i) : ((tall v i).check 1 == 7) = true := by
  rw [tall_check v h h' i hi, if_neg (by omega)]; rfl
end Go.Proofs.Ythpiggjclhnkcaa.AM
