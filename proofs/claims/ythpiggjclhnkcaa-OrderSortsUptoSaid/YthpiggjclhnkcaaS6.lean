/- What is full: no variable in it is bound; what occurs in it. -/
import Derived.Test.YthpiggjclhnkcaaS5
import Derived.Test.YthpiggjclhnkcaaP4
namespace Go.Proofs.Ythpiggjclhnkcaa.AM
open Go
set_option linter.unusedVariables false
set_option linter.unusedSimpArgs false
theorem mem_fold (k : Int) : ∀ (ps : List Term) (l : List Int), k ∈ ps.foldl addVar l ↔ k ∈ l ∨ ∃ p ∈ ps, p.kind = 1 ∧ p.num = k
  | [], l => by simp
  | p :: ps, l => by
    rw [List.foldl_cons, mem_fold k ps]
    have h1 : k ∈ addVar l p ↔ k ∈ l ∨ (p.kind = 1 ∧ p.num = k) := by
      unfold addVar
      split
      · rename_i h; simp only [List.mem_append, List.mem_singleton, h.1, true_and]
        exact or_congr Iff.rfl ⟨fun e => e.symm, fun e => e.symm⟩
      · rename_i h
        constructor
        · exact .inl
        · rintro (h' | ⟨h1, h2⟩)
          · exact h'
          · exact Classical.byContradiction fun hn => h ⟨h1, by rw [h2]; exact hn⟩
    rw [h1]
    simp only [List.mem_cons]
    constructor
    · rintro ((h | h) | ⟨q, hq, h⟩)
      · exact .inl h
      · exact .inr ⟨p, .inl rfl, h⟩
      · exact .inr ⟨q, .inr hq, h⟩
    · rintro (h | ⟨q, rfl | hq, h⟩)
      · exact .inl (.inl h)
      · exact .inl (.inr h)
      · exact .inr ⟨q, hq, h⟩
theorem mem_vars (k : Int) (t : Term) : k ∈ t.vars ↔ ∃ p ∈ t.parts, p.kind = 1 ∧ p.num = k := by
  unfold Term.vars; rw [mem_fold]; simp
theorem vars_nil {t : Term} : t.vars = [] ↔ ∀ p ∈ t.parts, p.kind ≠ 1 := by
  constructor
  · intro h p hp hk
    have := (mem_vars p.num t).2 ⟨p, hp, hk, rfl⟩
    rw [h] at this; cases this
  · intro h
    cases hv : t.vars with
    | nil => rfl
    | cons k l =>
      obtain ⟨p, hp, hk, _⟩ := (mem_vars k t).1 (by rw [hv]; simp)
      exact absurd hk (h p hp)
/-- Variables have no arguments, seals no variables. -/
def Term.okv (t : Term) : Prop := ∀ p ∈ t.parts, (p.kind = 1 → p.kids = []) ∧ (p.kind = 4 → ∀ q ∈ partss p.kids, q.kind ≠ 1)
def okvs (l : List Term) : Prop := ∀ p ∈ partss l, (p.kind = 1 → p.kids = []) ∧ (p.kind = 4 → ∀ q ∈ partss p.kids, q.kind ≠ 1)
theorem alone_okv {t : Term} {lv : Int} (h : t.parts.all (alone lv) = true) : t.okv := by
  intro p hp
  have ha := List.all_eq_true.1 h p hp
  constructor
  · intro hk
    simp only [alone, hk] at ha
    simp at ha
    exact ha.2
  · intro hk q hq hq1
    unfold alone at ha
    rw [hk] at ha
    simp only [show ((4 : Int) == 1) = false from rfl, show ((4 : Int) == 2) = false from rfl, show ((4 : Int) == 3) = false from rfl, show ((4 : Int) == 4) = true from rfl, cond_false, cond_true, Bool.and_eq_true] at ha
    obtain ⟨⟨_, h1⟩, h2⟩ := ha
    have hkl : p.kids.length = 1 := by have := beq_iff_eq.1 h1; omega
    match hks : p.kids, hkl with
    | [a], _ =>
      rw [hks] at h2 hq
      simp [partss] at hq
      have hv : a.vars = [] := by simpa using h2
      exact vars_nil.1 hv q hq hq1
def St.okv (s : St) : Prop := ∀ n u, s.at n = some u → u.okv
end Go.Proofs.Ythpiggjclhnkcaa.AM
