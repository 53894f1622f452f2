/- The plain law of TermChecks. -/
import Derived.Test.YthpiggjclhnkcaaB8
namespace Go.Proofs.Ythpiggjclhnkcaa.AM
open Go
set_option linter.unusedVariables false
set_option linter.unusedSimpArgs false

theorem check_zero {t : Term} {lv : Int} : t.check lv = 0 ↔ t.size ≤ 1000 ∧ t.deep ≤ 60 ∧ t.parts.all (alone lv) = true := by
  unfold Term.check
  by_cases h1 : 1000 < t.size
  · rw [if_pos h1]; exact ⟨fun h => absurd h (by decide), fun h => by omega⟩
  · by_cases h2 : 60 < t.deep
    · rw [if_neg h1, if_pos h2]; exact ⟨fun h => absurd h (by decide), fun h => by omega⟩
    · by_cases h3 : t.parts.all (alone lv) = true
      · rw [if_neg h1, if_neg h2, if_pos h3]; exact ⟨fun _ => ⟨by omega, by omega, h3⟩, fun _ => rfl⟩
      · rw [if_neg h1, if_neg h2, if_neg h3]; exact ⟨fun h => absurd h (by decide), fun h => absurd h.2.2 h3⟩
theorem partss_mem {l : List Term} {t x : Term} (h : t ∈ l) (hx : x ∈ t.parts) : x ∈ partss l := by
  induction l with
  | nil => cases h
  | cons y l ih =>
    rw [partss, List.mem_append]
    rcases List.mem_cons.1 h with rfl | h
    · exact .inl hx
    · exact .inr (ih h)
end Go.Proofs.Ythpiggjclhnkcaa.AM
