/- The plain law of TermTall. -/
import Derived.Test.YthpiggjclhnkcaaP1
namespace Go.Proofs.Ythpiggjclhnkcaa.AM
open Go
set_option linter.unusedVariables false
set_option linter.unusedSimpArgs false

def tall (v : Int) : Nat → Term
  | 0 => .node 1 v ⟨#[]⟩ []
  | i + 1 => .node 3 0 ⟨#[115]⟩ [tall v i]
theorem tall_size (v : Int) : ∀ i, (tall v i).size = i + 1
  | 0 => rfl
  | i + 1 => by simp only [tall, Term.size, sizes, tall_size v i, Nat.add_zero]
theorem tall_deep (v : Int) : ∀ i, (tall v i).deep = i + 1
  | 0 => rfl
  | i + 1 => by simp only [tall, Term.deep, deeps, tall_deep v i]; omega
theorem tall_bulk (v : Int) : ∀ i, (tall v i).bulk = 2 * i + 1
  | 0 => rfl
  | i + 1 => by simp only [tall, Term.bulk, bulks, tall_bulk v i]; show 1 + _ + 1 = _; omega
theorem tall_all (v : Int) (h : 0 ≤ v) (h' : v < 4096) : ∀ i, (tall v i).parts.all (alone 1) = true
  | 0 => by simp [tall, Term.parts, partss, alone, Term.kind, Term.num, Term.name, Term.kids, h, h']
  | i + 1 => by
    simp only [tall, Term.parts, partss, List.append_nil, List.all_cons, tall_all v h h' i, Bool.and_true]
    rfl
theorem tall_vars (v : Int) : ∀ i, (tall v i).vars = [v] := by
  have key : ∀ i (l : List Int), (tall v i).parts.foldl addVar l = addVar l (.node 1 v ⟨#[]⟩ []) := by
    intro i
    induction i with
    | zero => intro l; rfl
    | succ i ih =>
      intro l
      simp only [tall, Term.parts, partss, List.append_nil, List.foldl_cons]
      rw [show addVar l (.node 3 0 ⟨#[115]⟩ [tall v i]) = l from if_neg (by simp [Term.kind])]
      exact ih l
  intro i
  show (tall v i).parts.foldl addVar [] = _
  rw [key]
  simp [addVar, Term.kind, Term.num]
theorem tall_check (v : Int) (h : 0 ≤ v) (h' : v < 4096) (i : Nat) (hi : i < 256) : (tall v i).check 1 = if i < 60 then 0 else 7 := by
  unfold Term.check
  rw [tall_size, tall_deep, tall_all v h h' i, if_neg (by omega)]
  by_cases hh : i < 60
  · rw [if_neg (by omega), if_pos hh]; rfl
  · rw [if_pos (by omega), if_neg hh]
theorem tall_ok (v : Int) (h : 0 ≤ v) (h' : v < 4096) (i : Nat) (hi : i < 256) (n : Int) (hn : n = i) : ((tall v i).check 1 == 0) = decide (n < 60) := by
  rw [tall_check v h h' i hi]
  by_cases hh : i < 60
  · rw [if_pos hh, decide_eq_true (show n < 60 by omega)]; rfl
  · rw [if_neg hh, decide_eq_false (show ¬ n < 60 by omega)]; rfl
theorem tall_seven (v : Int) (h : 0 ≤ v) (h' : v < 4096) (i : Nat) (hi : i < 256) (hn : 60 ≤ i) : ((tall v i).check 1 == 7) = true := by
  rw [tall_check v h h' i hi, if_neg (by omega)]; rfl
end Go.Proofs.Ythpiggjclhnkcaa.AM

/- The plain law of TermVars. -/
namespace Go.Proofs.Ythpiggjclhnkcaa.AM
open Go
set_option linter.unusedVariables false
set_option linter.unusedSimpArgs false

/-- Those of the second that are not among the first, behind the first. -/
def plus (l m : List Int) : List Int := l ++ m.filter (fun x => decide (x ∉ l))
theorem addVar_nodup {l : List Int} (h : l.Nodup) (p : Term) : (addVar l p).Nodup := by
  unfold addVar
  split
  · rename_i hh
    rw [List.nodup_append]
    refine ⟨h, by simp, fun a ha b hb e => ?_⟩
    simp only [List.mem_singleton] at hb
    exact hh.2 (hb ▸ e ▸ ha)
  · exact h
theorem vars_nodup (t : Term) : t.vars.Nodup := by
  have key : ∀ (ps : List Term) (l : List Int), l.Nodup → (ps.foldl addVar l).Nodup := by
    intro ps
    induction ps with
    | nil => intro l h; exact h
    | cons p ps ih => intro l h; exact ih _ (addVar_nodup h p)
  exact key _ _ List.nodup_nil
/-- To begin with l is to put what there is besides l behind it. -/
theorem fold_plus (ps : List Term) (l : List Int) : ∀ (m : List Int), ps.foldl addVar (plus l m) = plus l (ps.foldl addVar m) := by
  induction ps with
  | nil => intro m; rfl
  | cons p ps ih =>
    intro m
    simp only [List.foldl_cons]
    have e : addVar (plus l m) p = plus l (addVar m p) := by
      unfold addVar plus
      by_cases h1 : p.kind = 1
      · by_cases h2 : p.num ∈ m
        · by_cases h3 : p.num ∈ l
          · simp [h1, h2, h3]
          · simp [h1, h2, h3]
        · by_cases h3 : p.num ∈ l
          · simp [h1, h2, h3]
          · simp [h1, h2, h3]
      · simp [h1]
    rw [e, ih]
theorem vars_pair (a b : Term) (s : ByteArray) : (Term.node 3 0 s [a, b]).vars = plus a.vars b.vars := by
  show (Term.node 3 0 s [a, b]).parts.foldl addVar [] = _
  simp only [Term.parts, partss, List.append_nil, List.foldl_cons, List.foldl_append]
  rw [show addVar [] (.node 3 0 s [a, b]) = [] from if_neg (by simp [Term.kind])]
  have := fold_plus b.parts a.vars []
  simp only [plus, List.filter_nil, List.append_nil] at this
  exact this
theorem plus_take {l m : List Int} {i : Nat} (h : i < m.length) : plus l (m.take (i + 1)) = if m[i] ∈ l then plus l (m.take i) else plus l (m.take i) ++ [m[i]] := by
  unfold plus
  rw [List.take_succ_eq_append_getElem h, List.filter_append]
  by_cases hm : m[i] ∈ l <;> simp [hm]
theorem plus_len (l m : List Int) : (plus l m).length ≤ l.length + m.length := by
  unfold plus
  rw [List.length_append]
  have := List.length_filter_le (fun x => decide (x ∉ l)) m
  omega
theorem vars_size (t : Term) : t.vars.length ≤ t.size := by
  have := vars_len t.parts []
  rw [parts_size] at this
  have h0 : ([] : List Int).length = 0 := rfl
  show (t.parts.foldl addVar []).length ≤ _
  omega
theorem nodup_take {l : List Int} (h : l.Nodup) {i : Nat} (hi : i < l.length) : l[i] ∉ l.take i := by
  intro hm
  obtain ⟨j, hj, e⟩ := List.getElem_of_mem hm
  rw [List.getElem_take] at e
  have hj' : j < i := by simp at hj; omega
  have hp := List.pairwise_iff_getElem.1 h j i (by omega) hi hj'
  exact hp e
end Go.Proofs.Ythpiggjclhnkcaa.AM

/- The plain law of TermShifts. -/
namespace Go.Proofs.Ythpiggjclhnkcaa.AM
open Go
set_option linter.unusedVariables false
set_option linter.unusedSimpArgs false

theorem wrap_def (x : Int) : IntKind.i64.wrap x = if x % 18446744073709551616 ≥ 9223372036854775808 then x % 18446744073709551616 - 18446744073709551616 else x % 18446744073709551616 := by
  simp only [IntKind.wrap, IntKind.bits, IntKind.signed, Bool.true_and, decide_eq_true_eq, show (2 : Int) ^ 64 = 18446744073709551616 from rfl, show (2 : Int) ^ (64 - 1) = 9223372036854775808 from rfl]
theorem wrap_wrap (x y : Int) : IntKind.i64.wrap (IntKind.i64.wrap x + y) = IntKind.i64.wrap (x + y) := by
  simp only [wrap_def]
  split <;> split <;> split <;> omega
theorem wrap_wrap' (x y : Int) : IntKind.i64.wrap (x + IntKind.i64.wrap y) = IntKind.i64.wrap (x + y) := by
  rw [Int.add_comm, wrap_wrap, Int.add_comm]
theorem wrap_inj {x y a : Int} (hx : -9223372036854775808 ≤ x ∧ x ≤ 9223372036854775807) (hy : -9223372036854775808 ≤ y ∧ y ≤ 9223372036854775807) (h : IntKind.i64.wrap (x + a) = IntKind.i64.wrap (y + a)) : x = y := by
  simp only [wrap_def] at h
  split at h <;> split at h <;> omega
mutual
theorem shift_shift (a b : Int) : ∀ t : Term, (t.shift a).shift b = t.shift (IntKind.i64.wrap (a + b))
  | .node k n s ks => by
    simp only [Term.shift, shifts_shifts a b ks]
    by_cases h : k = 1
    · simp only [h, if_true]; rw [wrap_wrap, wrap_wrap', Int.add_assoc]
    · simp only [if_neg h]
theorem shifts_shifts (a b : Int) : ∀ l : List Term, shifts b (shifts a l) = shifts (IntKind.i64.wrap (a + b)) l
  | [] => rfl
  | t :: l => by simp only [shifts, shift_shift a b t, shifts_shifts a b l]
end
mutual
theorem shift_back (a : Int) : ∀ t : Term, t.fits → (t.shift a).shift (IntKind.i64.wrap (0 - a)) = t
  | .node k n s ks, h => by
    simp only [Term.shift, shifts_back a ks h.2.2]
    by_cases hk : k = 1
    · simp only [hk, if_true]; rw [wrap_wrap, wrap_wrap', show n + a + (0 - a) = n by omega, wrap64 h.2.1.1 h.2.1.2]
    · simp only [if_neg hk]
theorem shifts_back (a : Int) : ∀ l : List Term, fitss l → shifts (IntKind.i64.wrap (0 - a)) (shifts a l) = l
  | [], _ => rfl
  | t :: l, h => by simp only [shifts, shift_back a t h.1, shifts_back a l h.2]
end
mutual
theorem shift_parts (a : Int) : ∀ t : Term, (t.shift a).parts = t.parts.map (Term.shift a)
  | .node k n s ks => by simp only [Term.shift, Term.parts, List.map_cons, shifts_parts a ks]
theorem shifts_parts (a : Int) : ∀ l : List Term, partss (shifts a l) = (partss l).map (Term.shift a)
  | [] => rfl
  | t :: l => by simp only [shifts, partss, List.map_append, shift_parts a t, shifts_parts a l]
end
mutual
theorem fits_parts : ∀ t : Term, t.fits → ∀ p ∈ t.parts, p.fits
  | .node k n s ks, h, p, hp => by
    rw [Term.parts] at hp
    rcases List.mem_cons.1 hp with rfl | hp
    · exact h
    · exact fitss_parts ks h.2.2 p hp
theorem fitss_parts : ∀ l : List Term, fitss l → ∀ p ∈ partss l, p.fits
  | [], _, p, hp => by simp [partss] at hp
  | t :: l, h, p, hp => by
    rw [partss, List.mem_append] at hp
    exact hp.elim (fits_parts t h.1 p) (fitss_parts l h.2 p)
end
def fit (n : Int) : Prop := -9223372036854775808 ≤ n ∧ n ≤ 9223372036854775807
theorem fit_num {t : Term} (h : t.fits) : fit t.num := by cases t; exact h.2.1
theorem shift_kind (a : Int) (p : Term) : (p.shift a).kind = p.kind := by cases p; rfl
theorem shift_num (a : Int) (p : Term) : (p.shift a).num = if p.kind = 1 then IntKind.i64.wrap (p.num + a) else p.num := by cases p; rfl
theorem addVar_shift (a : Int) {l : List Int} {p : Term} (hl : ∀ x ∈ l, fit x) (hp : p.fits) : addVar (l.map fun n => IntKind.i64.wrap (n + a)) (p.shift a) = (addVar l p).map (fun n => IntKind.i64.wrap (n + a)) := by
  unfold addVar
  rw [shift_kind, shift_num]
  by_cases hk : p.kind = 1
  · have hm : (IntKind.i64.wrap (p.num + a) ∈ l.map fun n => IntKind.i64.wrap (n + a)) ↔ p.num ∈ l := by
      constructor
      · intro h
        obtain ⟨x, hx, e⟩ := List.mem_map.1 h
        have := wrap_inj (hl x hx) (fit_num hp) e
        exact this ▸ hx
      · intro h; exact List.mem_map.2 ⟨_, h, rfl⟩
    simp only [hk, if_true, true_and]
    by_cases h : p.num ∈ l
    · rw [if_neg (by rw [hm]; simp [h]), if_neg (by simp [h])]
    · rw [if_pos (by rw [hm]; exact h), if_pos h, List.map_append]; rfl
  · rw [if_neg (by simp [hk]), if_neg (by simp [hk])]
theorem addVar_fit {l : List Int} {p : Term} (hl : ∀ x ∈ l, fit x) (hp : p.fits) : ∀ x ∈ addVar l p, fit x := by
  unfold addVar
  split
  · intro x hx
    rcases List.mem_append.1 hx with h | h
    · exact hl x h
    · rw [List.mem_singleton.1 h]; exact fit_num hp
  · exact hl
theorem vars_shift (a : Int) (t : Term) (h : t.fits) : (t.shift a).vars = t.vars.map (fun n => IntKind.i64.wrap (n + a)) := by
  have key : ∀ (ps : List Term) (l : List Int), (∀ p ∈ ps, p.fits) → (∀ x ∈ l, fit x) → (ps.map (Term.shift a)).foldl addVar (l.map fun n => IntKind.i64.wrap (n + a)) = (ps.foldl addVar l).map (fun n => IntKind.i64.wrap (n + a)) := by
    intro ps
    induction ps with
    | nil => intro l _ _; rfl
    | cons p ps ih =>
      intro l hp hl
      simp only [List.map_cons, List.foldl_cons]
      rw [addVar_shift a hl (hp p (List.mem_cons_self ..))]
      exact ih _ (fun q hq => hp q (List.mem_cons_of_mem _ hq)) (addVar_fit hl (hp p (List.mem_cons_self ..)))
  have := key t.parts [] (fits_parts t h) (fun x hx => by cases hx)
  rw [← shift_parts] at this
  exact this
end Go.Proofs.Ythpiggjclhnkcaa.AM
