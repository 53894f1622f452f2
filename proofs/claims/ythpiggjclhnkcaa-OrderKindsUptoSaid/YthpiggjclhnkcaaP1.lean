/- The plain law of TermChecks. -/
import Derived.Test.YthpiggjclhnkcaaB8
namespace Go.Proofs.Ythpiggjclhnkcaa.AM
open Go
set_option linter.unusedVariables false
set_option linter.unusedSimpArgs false

theorem check_zero {t : Term} {lv : Int} : t.check lv = 0 ↔ t.size ≤ 1000 ∧ t.deep ≤ 60 ∧ t.parts.all (alone lv) = true := by
  unfold Term.check
  by_cases h1 : 1000 < t.size
  · rw [if_pos h1]; exact ⟨fun h => absurd h (by decide), fun h => by omega⟩
  · by_cases h2 : 60 < t.deep
    · rw [if_neg h1, if_pos h2]; exact ⟨fun h => absurd h (by decide), fun h => by omega⟩
    · by_cases h3 : t.parts.all (alone lv) = true
      · rw [if_neg h1, if_neg h2, if_pos h3]; exact ⟨fun _ => ⟨by omega, by omega, h3⟩, fun _ => rfl⟩
      · rw [if_neg h1, if_neg h2, if_neg h3]; exact ⟨fun h => absurd h (by decide), fun h => absurd h.2.2 h3⟩
theorem partss_mem {l : List Term} {t x : Term} (h : t ∈ l) (hx : x ∈ t.parts) : x ∈ partss l := by
  induction l with
  | nil => cases h
  | cons y l ih =>
    rw [partss, List.mem_append]
    rcases List.mem_cons.1 h with rfl | h
    · exact .inl hx
    · exact .inr (ih h)
theorem deeps_mem {t : Term} {l : List Term} (h : t ∈ l) : t.deep ≤ deeps l := by
  induction l with
  | nil => cases h
  | cons x l ih =>
    simp only [deeps]
    rcases List.mem_cons.1 h with rfl | h
    · omega
    · have := ih h; omega
theorem check_kid {t : Term} {lv : Int} (h : t.check lv = 0) {i : Nat} (hi : i < t.kids.length) : t.kids[i].check lv = 0 := by
  rw [check_zero] at h ⊢
  obtain ⟨h1, h2, h3⟩ := h
  have hm := List.getElem_mem hi
  have hs := sizes_mem hm
  have hd := deeps_mem hm
  rw [t.size_kids] at h1
  rw [t.deep_kids] at h2
  refine ⟨by omega, by omega, ?_⟩
  rw [List.all_eq_true] at h3 ⊢
  intro x hx
  exact h3 x (by rw [t.parts_kids]; exact List.mem_cons_of_mem _ (partss_mem hm hx))
theorem check_seal_big {t : Term} {n lv : Int} (h : 1000 ≤ t.size ∨ 60 ≤ t.deep) : (Term.node 4 n ⟨#[]⟩ [t]).check lv ≠ 0 := by
  rw [Ne, check_zero]
  rintro ⟨h1, h2, _⟩
  simp only [Term.size, sizes, Term.deep, deeps] at h1 h2
  omega
theorem check_seal {t : Term} {n lv : Int} (h : t.check lv = 0) (h1 : t.size < 1000) (h2 : t.deep < 60) (hn : 0 ≤ n) : ((Term.node 4 n ⟨#[]⟩ [t]).check lv == 0) = (((t.vars.length : Int) == 0) && decide (n < lv)) := by
  rw [Bool.eq_iff_iff, beq_iff_eq, check_zero]
  rw [check_zero] at h
  simp only [Term.size, sizes, Term.deep, deeps, Term.parts, partss, List.append_nil, List.all_cons, h.2.2, Bool.and_true, alone, Term.kind, Term.num, Term.name, Term.kids, List.length_cons, List.length_nil]
  simp
  constructor
  · rintro ⟨_, _, ⟨_, h4⟩, h5⟩; exact ⟨h5, of_decide_eq_true h4⟩
  · rintro ⟨h5, h4⟩; exact ⟨by omega, by omega, ⟨hn, decide_eq_true h4⟩, h5⟩
theorem check_pair {t : Term} {s : ByteArray} {lv : Int} (h : t.check lv = 0) (h2 : t.deep < 60) (hs : s.size ≤ 64) : (Term.node 3 0 s [t, t]).check lv ≠ 4 := by
  rw [check_zero] at h
  unfold Term.check
  by_cases h1 : 1000 < (Term.node 3 0 s [t, t]).size
  · rw [if_pos h1]; decide
  · rw [if_neg h1]
    have : ¬ 60 < (Term.node 3 0 s [t, t]).deep := by simp only [Term.deep, deeps]; omega
    rw [if_neg this]
    have : (Term.node 3 0 s [t, t]).parts.all (alone lv) = true := by
      simp only [Term.parts, partss, List.append_nil, List.all_cons, List.all_append, h.2.2, Bool.and_true, alone, Term.kind, Term.num, Term.name, Term.kids, List.length_cons, List.length_nil]
      have hs' : (s.size : Int) ≤ 64 := by omega
      simp [hs']
    rw [if_pos this]; decide
end Go.Proofs.Ythpiggjclhnkcaa.AM
