/- What seals do, over levels one below the next one. -/
import Derived.Test.YthpiggjclhnkcaaF2
namespace Go.Proofs.Ythpiggjclhnkcaa.AM
open Go
set_option linter.unusedVariables false
set_option linter.unusedSimpArgs false
set_option linter.unusedSectionVars false
/-- Levels 0 to k. -/
def C (k : Nat) : Lt := chainL (k + 1)
section
variable {k : Nat} (hk : k < 16)
include hk
end

/-! Seals that are of one part each. -/
mutual
def Term.fine (lv : Int) : Term → Bool
  | .node k n s ks => (k != 4 || (ks.length == 1 && decide (0 ≤ n) && decide (n < lv))) && fines lv ks
def fines (lv : Int) : List Term → Bool
  | [] => true
  | t :: ts => t.fine lv && fines lv ts
end
theorem alone_fine {lv : Int} {k n : Int} {s : ByteArray} {ks : List Term} (h : alone lv (.node k n s ks) = true) : (k != 4 || (ks.length == 1 && decide (0 ≤ n) && decide (n < lv))) = true := by
  by_cases h4 : k = 4
  · subst h4
    have e1 : ((4 : Int) == 1) = false := rfl
    have e2 : ((4 : Int) == 2) = false := rfl
    have e3 : ((4 : Int) == 3) = false := rfl
    have e4 : ((4 : Int) == 4) = true := rfl
    simp only [alone, Term.kind, Term.num, Term.kids, Term.name, e1, e2, e3, e4, cond_true, cond_false, Bool.and_eq_true, decide_eq_true_eq, beq_iff_eq] at h
    simp only [bne_self_eq_false, Bool.false_or, Bool.and_eq_true, beq_iff_eq, decide_eq_true_eq]
    obtain ⟨⟨⟨⟨_, h1⟩, h2⟩, h3⟩, _⟩ := h
    exact ⟨⟨by omega, of_decide_eq_true h1⟩, of_decide_eq_true h2⟩
  · simp [h4]
mutual
theorem fine_of (lv : Int) : ∀ t : Term, t.parts.all (alone lv) = true → t.fine lv = true
  | .node k n s ks, h => by
    rw [Term.parts, List.all_cons, Bool.and_eq_true] at h
    rw [Term.fine, alone_fine h.1, fines_of lv ks h.2]; rfl
theorem fines_of (lv : Int) : ∀ ts : List Term, (partss ts).all (alone lv) = true → fines lv ts = true
  | [], _ => rfl
  | t :: ts, h => by
    rw [partss, List.all_append, Bool.and_eq_true] at h
    rw [fines, fine_of lv t h.1, fines_of lv ts h.2]; rfl
end
theorem fine_eq (lv : Int) (t : Term) : t.fine lv = ((t.kind != 4 || (t.kids.length == 1 && decide (0 ≤ t.num) && decide (t.num < lv))) && fines lv t.kids) := by cases t; rfl
theorem fine_seal {lv : Int} {t : Term} (h : t.fine lv = true) (h4 : t.kind = 4) : t.isS = true ∧ 0 ≤ t.num ∧ t.num < lv := by
  rw [fine_eq, Bool.and_eq_true] at h
  simp [h4] at h
  exact ⟨isS_iff.2 ⟨h4, h.1.1.1⟩, h.1.1.2, h.1.2⟩

/-! Erased. -/
theorem isS_cases (t : Term) : (∃ n s x, t = .node 4 n s [x]) ∨ t.isS = false := by
  cases h : t.isS with
  | false => exact .inr rfl
  | true =>
    obtain ⟨h1, h2⟩ := isS_iff.1 h
    cases t with
    | node k n s ks =>
      obtain rfl : k = 4 := h1
      have h2 : ks.length = 1 := h2
      match ks, h2 with
      | [x], _ => exact .inl ⟨n, s, x, rfl⟩
theorem erase_s (n : Int) (s : ByteArray) (x : Term) : (Term.node 4 n s [x]).erase = x.erase := by simp [Term.erase, erases]
/-- By the seals that are of one part, and the kids of what is none. -/
theorem term_ind {Q : Term → Prop} (hs : ∀ n s x, Q x → Q (.node 4 n s [x])) (hn : ∀ t : Term, t.isS = false → (∀ x ∈ t.kids, Q x) → Q t) (t : Term) : Q t := by
  have key : ∀ (m : Nat) (t : Term), t.size ≤ m → Q t := by
    intro m
    induction m with
    | zero => intro t h; have := t.size_kids; omega
    | succ m ih =>
      intro t h
      have hS := t.size_kids
      rcases isS_cases t with ⟨n, s, x, rfl⟩ | hf
      · refine hs n s x (ih x ?_); simp only [Term.size, sizes] at h; omega
      · exact hn t hf fun x hx => ih x (by have := sizes_mem hx; omega)
  exact key t.size t (Nat.le_refl _)
theorem bulks_le {f : Term → Term} : ∀ l : List Term, (∀ x ∈ l, (f x).bulk ≤ x.bulk) → bulks (l.map f) ≤ bulks l
  | [], _ => Nat.le_refl _
  | x :: l, h => by
    have h1 := h x (by simp)
    have h2 := bulks_le l fun y hy => h y (by simp [hy])
    simp only [List.map_cons, bulks]; omega
theorem erase_bulk (t : Term) : t.erase.bulk ≤ t.bulk := by
  induction t using term_ind with
  | hs n s x ih => rw [erase_s]; simp only [Term.bulk, bulks]; omega
  | hn t hf ih => rw [erase_node hf, Term.bulk, t.bulk_kids, erases_map]; have := bulks_le t.kids ih; omega
/-! Opened. -/
section
variable {k : Nat} (hk : k < 16)
include hk
end

/-! Hidden. -/
section
variable {k : Nat} (hk : k < 16)
include hk
end
theorem name_nil {a : ByteArray} (h : (a.toList == (⟨#[]⟩ : ByteArray).toList) = true) : a = ⟨#[]⟩ := ByteArray.ext_list (beq_iff_eq.1 h)
theorem alone_cases {lv : Int} {t : Term} (h : alone lv t = true) :
    (t.kind = 1 ∧ t.name = ⟨#[]⟩ ∧ t.kids = []) ∨ (t.kind = 2 ∧ t.name = ⟨#[]⟩ ∧ t.kids = []) ∨ (t.kind = 3 ∧ t.num = 0 ∧ t.kids.length ≤ 8) ∨
    (t.kind = 4 ∧ t.name = ⟨#[]⟩ ∧ 0 ≤ t.num ∧ t.num < lv ∧ ∃ x, t.kids = [x] ∧ x.vars = []) := by
  unfold alone at h
  by_cases h1 : t.kind = 1
  · left
    have e : (t.kind == 1) = true := by rw [beq_iff_eq]; exact h1
    rw [e, cond_true] at h
    simp only [Bool.and_eq_true] at h
    obtain ⟨⟨_, h2⟩, h3⟩ := h
    exact ⟨h1, name_nil h2, List.eq_nil_of_length_eq_zero (by have := beq_iff_eq.1 h3; omega)⟩
  · have e : (t.kind == 1) = false := by rw [beq_eq_false_iff_ne]; exact h1
    rw [e, cond_false] at h
    by_cases h2 : t.kind = 2
    · right; left
      have e : (t.kind == 2) = true := by rw [beq_iff_eq]; exact h2
      rw [e, cond_true] at h
      simp only [Bool.and_eq_true] at h
      exact ⟨h2, name_nil h.1, List.eq_nil_of_length_eq_zero (by have := beq_iff_eq.1 h.2; omega)⟩
    · have e : (t.kind == 2) = false := by rw [beq_eq_false_iff_ne]; exact h2
      rw [e, cond_false] at h
      by_cases h3 : t.kind = 3
      · right; right; left
        have e : (t.kind == 3) = true := by rw [beq_iff_eq]; exact h3
        rw [e, cond_true] at h
        simp only [Bool.and_eq_true] at h
        exact ⟨h3, beq_iff_eq.1 h.1.1, by have := of_decide_eq_true h.2; omega⟩
      · have e : (t.kind == 3) = false := by rw [beq_eq_false_iff_ne]; exact h3
        rw [e, cond_false] at h
        by_cases h4 : t.kind = 4
        · right; right; right
          have e : (t.kind == 4) = true := by rw [beq_iff_eq]; exact h4
          rw [e, cond_true] at h
          simp only [Bool.and_eq_true] at h
          obtain ⟨⟨⟨⟨h5, h6⟩, h7⟩, h8⟩, h9⟩ := h
          have hl : t.kids.length = 1 := by have := beq_iff_eq.1 h8; omega
          refine ⟨h4, name_nil h5, of_decide_eq_true h6, of_decide_eq_true h7, ?_⟩
          match hk : t.kids, hl with
          | [x], _ =>
            rw [hk] at h9
            have h9 : ((x.vars.length : Int) == 0) = true := h9
            exact ⟨x, rfl, List.eq_nil_of_length_eq_zero (by have := beq_iff_eq.1 h9; omega)⟩
        · have e : (t.kind == 4) = false := by rw [beq_eq_false_iff_ne]; exact h4
          rw [e, cond_false] at h; cases h
end Go.Proofs.Ythpiggjclhnkcaa.AM
