/- The plain law of TermVars. -/
import Derived.Test.YthpiggjclhnkcaaP2
namespace Go.Proofs.Ythpiggjclhnkcaa.AM
open Go
set_option linter.unusedVariables false
set_option linter.unusedSimpArgs false

/-- Those of the second that are not among the first, behind the first. -/
def plus (l m : List Int) : List Int := l ++ m.filter (fun x => decide (x ∉ l))
theorem addVar_nodup {l : List Int} (h : l.Nodup) (p : Term) : (addVar l p).Nodup := by
  unfold addVar
  split
  · rename_i hh
    rw [List.nodup_append]
    refine ⟨h, by simp, fun a ha b hb e => ?_⟩
    simp only [List.mem_singleton] at hb
    exact hh.2 (hb ▸ e ▸ ha)
  · exact h
theorem vars_nodup (t : Term) : t.vars.Nodup := by
  have key : ∀ (ps : List Term) (l : List Int), l.Nodup → (ps.foldl addVar l).Nodup := by
    intro ps
    induction ps with
    | nil => intro l h; exact h
    | cons p ps ih => intro l h; exact ih _ (addVar_nodup h p)
  exact key _ _ List.nodup_nil
/-- To begin with l is to put what there is besides l behind it. -/
theorem fold_plus (ps : List Term) (l : List Int) : ∀ (m : List Int), ps.foldl addVar (plus l m) = plus l (ps.foldl addVar m) := by
  induction ps with
  | nil => intro m; rfl
  | cons p ps ih =>
    intro m
    simp only [List.foldl_cons]
    have e : addVar (plus l m) p = plus l (addVar m p) := by
      unfold addVar plus
      by_cases h1 : p.kind = 1
      · by_cases h2 : p.num ∈ m
        · by_cases h3 : p.num ∈ l
          · simp [h1, h2, h3]
          · simp [h1, h2, h3]
        · by_cases h3 : p.num ∈ l
          · simp [h1, h2, h3]
          · simp [h1, h2, h3]
      · simp [h1]
    rw [e, ih]
theorem vars_pair (a b : Term) (s : ByteArray) : (Term.node 3 0 s [a, b]).vars = plus a.vars b.vars := by
  show (Term.node 3 0 s [a, b]).parts.foldl addVar [] = _
  simp only [Term.parts, partss, List.append_nil, List.foldl_cons, List.foldl_append]
  rw [show addVar [] (.node 3 0 s [a, b]) = [] from if_neg (by simp [Term.kind])]
  have := fold_plus b.parts a.vars []
  simp only [plus, List.filter_nil, List.append_nil] at this
  exact this
theorem plus_take {l m : List Int} {i : Nat} (h : i < m.length) : plus l (m.take (i + 1)) = if m[i] ∈ l then plus l (m.take i) else plus l (m.take i) ++ [m[i]] := by
  unfold plus
  rw [List.take_succ_eq_append_getElem h, List.filter_append]
  by_cases hm : m[i] ∈ l <;> simp [hm]
theorem plus_len (l m : List Int) : (plus l m).length ≤ l.length + m.length := by
  unfold plus
  rw [List.length_append]
  have := List.length_filter_le (fun x => decide (x ∉ l)) m
  omega
theorem vars_size (t : Term) : t.vars.length ≤ t.size := by
  have := vars_len t.parts []
  rw [parts_size] at this
  have h0 : ([] : List Int).length = 0 := rfl
  show (t.parts.foldl addVar []).length ≤ _
  omega
theorem nodup_take {l : List Int} (h : l.Nodup) {i : Nat} (hi : i < l.length) : l[i] ∉ l.take i := by
  intro hm
  obtain ⟨j, hj, e⟩ := List.getElem_of_mem hm
  rw [List.getElem_take] at e
  have hj' : j < i := by simp at hj; omega
  have hp := List.pairwise_iff_getElem.1 h j i (by omega) hi hj'
  exact hp e
end Go.Proofs.Ythpiggjclhnkcaa.AM
