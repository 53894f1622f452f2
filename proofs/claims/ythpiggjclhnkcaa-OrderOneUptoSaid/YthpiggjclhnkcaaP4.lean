/- The plain law of TermShifts. -/
import Derived.Test.YthpiggjclhnkcaaP3
namespace Go.Proofs.Ythpiggjclhnkcaa.AM
open Go
set_option linter.unusedVariables false
set_option linter.unusedSimpArgs false

theorem wrap_def (x : Int) : IntKind.i64.wrap x = if x % 18446744073709551616 ≥ 9223372036854775808 then x % 18446744073709551616 - 18446744073709551616 else x % 18446744073709551616 := by
  simp only [IntKind.wrap, IntKind.bits, IntKind.signed, Bool.true_and, decide_eq_true_eq, show (2 : Int) ^ 64 = 18446744073709551616 from rfl, show (2 : Int) ^ (64 - 1) = 9223372036854775808 from rfl]
theorem wrap_wrap (x y : Int) : IntKind.i64.wrap (IntKind.i64.wrap x + y) = IntKind.i64.wrap (x + y) := by
  simp only [wrap_def]
  split <;> split <;> split <;> omega
theorem wrap_wrap' (x y : Int) : IntKind.i64.wrap (x + IntKind.i64.wrap y) = IntKind.i64.wrap (x + y) := by
  rw [Int.add_comm, wrap_wrap, Int.add_comm]
theorem wrap_inj {x y a : Int} (hx : -9223372036854775808 ≤ x ∧ x ≤ 9223372036854775807) (hy : -9223372036854775808 ≤ y ∧ y ≤ 9223372036854775807) (h : IntKind.i64.wrap (x + a) = IntKind.i64.wrap (y + a)) : x = y := by
  simp only [wrap_def] at h
  split at h <;> split at h <;> omega
mutual
theorem shift_shift (a b : Int) : ∀ t : Term, (t.shift a).shift b = t.shift (IntKind.i64.wrap (a + b))
  | .node k n s ks => by
    simp only [Term.shift, shifts_shifts a b ks]
    by_cases h : k = 1
    · simp only [h, if_true]; rw [wrap_wrap, wrap_wrap', Int.add_assoc]
    · simp only [if_neg h]
theorem shifts_shifts (a b : Int) : ∀ l : List Term, shifts b (shifts a l) = shifts (IntKind.i64.wrap (a + b)) l
  | [] => rfl
  | t :: l => by simp only [shifts, shift_shift a b t, shifts_shifts a b l]
end
mutual
theorem shift_back (a : Int) : ∀ t : Term, t.fits → (t.shift a).shift (IntKind.i64.wrap (0 - a)) = t
  | .node k n s ks, h => by
    simp only [Term.shift, shifts_back a ks h.2.2]
    by_cases hk : k = 1
    · simp only [hk, if_true]; rw [wrap_wrap, wrap_wrap', show n + a + (0 - a) = n by omega, wrap64 h.2.1.1 h.2.1.2]
    · simp only [if_neg hk]
theorem shifts_back (a : Int) : ∀ l : List Term, fitss l → shifts (IntKind.i64.wrap (0 - a)) (shifts a l) = l
  | [], _ => rfl
  | t :: l, h => by simp only [shifts, shift_back a t h.1, shifts_back a l h.2]
end
mutual
theorem shift_parts (a : Int) : ∀ t : Term, (t.shift a).parts = t.parts.map (Term.shift a)
  | .node k n s ks => by simp only [Term.shift, Term.parts, List.map_cons, shifts_parts a ks]
theorem shifts_parts (a : Int) : ∀ l : List Term, partss (shifts a l) = (partss l).map (Term.shift a)
  | [] => rfl
  | t :: l => by simp only [shifts, partss, List.map_append, shift_parts a t, shifts_parts a l]
end
mutual
theorem fits_parts : ∀ t : Term, t.fits → ∀ p ∈ t.parts, p.fits
  | .node k n s ks, h, p, hp => by
    rw [Term.parts] at hp
    rcases List.mem_cons.1 hp with rfl | hp
    · exact h
    · exact fitss_parts ks h.2.2 p hp
theorem fitss_parts : ∀ l : List Term, fitss l → ∀ p ∈ partss l, p.fits
  | [], _, p, hp => by simp [partss] at hp
  | t :: l, h, p, hp => by
    rw [partss, List.mem_append] at hp
    exact hp.elim (fits_parts t h.1 p) (fitss_parts l h.2 p)
end
def fit (n : Int) : Prop := -9223372036854775808 ≤ n ∧ n ≤ 9223372036854775807
theorem fit_num {t : Term} (h : t.fits) : fit t.num := by cases t; exact h.2.1
theorem shift_kind (a : Int) (p : Term) : (p.shift a).kind = p.kind := by cases p; rfl
theorem shift_num (a : Int) (p : Term) : (p.shift a).num = if p.kind = 1 then IntKind.i64.wrap (p.num + a) else p.num := by cases p; rfl
theorem addVar_shift (a : Int) {l : List Int} {p : Term} (hl : ∀ x ∈ l, fit x) (hp : p.fits) : addVar (l.map fun n => IntKind.i64.wrap (n + a)) (p.shift a) = (addVar l p).map (fun n => IntKind.i64.wrap (n + a)) := by
  unfold addVar
  rw [shift_kind, shift_num]
  by_cases hk : p.kind = 1
  · have hm : (IntKind.i64.wrap (p.num + a) ∈ l.map fun n => IntKind.i64.wrap (n + a)) ↔ p.num ∈ l := by
      constructor
      · intro h
        obtain ⟨x, hx, e⟩ := List.mem_map.1 h
        have := wrap_inj (hl x hx) (fit_num hp) e
        exact this ▸ hx
      · intro h; exact List.mem_map.2 ⟨_, h, rfl⟩
    simp only [hk, if_true, true_and]
    by_cases h : p.num ∈ l
    · rw [if_neg (by rw [hm]; simp [h]), if_neg (by simp [h])]
    · rw [if_pos (by rw [hm]; exact h), if_pos h, List.map_append]; rfl
  · rw [if_neg (by simp [hk]), if_neg (by simp [hk])]
theorem addVar_fit {l : List Int} {p : Term} (hl : ∀ x ∈ l, fit x) (hp : p.fits) : ∀ x ∈ addVar l p, fit x := by
  unfold addVar
  split
  · intro x hx
    rcases List.mem_append.1 hx with h | h
    · exact hl x h
    · rw [List.mem_singleton.1 h]; exact fit_num hp
  · exact hl
theorem vars_shift (a : Int) (t : Term) (h : t.fits) : (t.shift a).vars = t.vars.map (fun n => IntKind.i64.wrap (n + a)) := by
  have key : ∀ (ps : List Term) (l : List Int), (∀ p ∈ ps, p.fits) → (∀ x ∈ l, fit x) → (ps.map (Term.shift a)).foldl addVar (l.map fun n => IntKind.i64.wrap (n + a)) = (ps.foldl addVar l).map (fun n => IntKind.i64.wrap (n + a)) := by
    intro ps
    induction ps with
    | nil => intro l _ _; rfl
    | cons p ps ih =>
      intro l hp hl
      simp only [List.map_cons, List.foldl_cons]
      rw [addVar_shift a hl (hp p (List.mem_cons_self ..))]
      exact ih _ (fun q hq => hp q (List.mem_cons_of_mem _ hq)) (addVar_fit hl (hp p (List.mem_cons_self ..)))
  have := key t.parts [] (fits_parts t h) (fun x hx => by cases hx)
  rw [← shift_parts] at this
  exact this
end Go.Proofs.Ythpiggjclhnkcaa.AM
