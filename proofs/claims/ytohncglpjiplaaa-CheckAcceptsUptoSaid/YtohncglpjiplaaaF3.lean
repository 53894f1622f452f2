/- What seals do, over levels one below the next one. -/
import Derived.Test.YtohncglpjiplaaaF2
namespace Go.Proofs.Ytohncglpjiplaaa.AM
open Go
set_option linter.unusedVariables false
set_option linter.unusedSimpArgs false
set_option linter.unusedSectionVars false
theorem chain_tab : ((List.range 16).all fun k => decide ((chainL (k + 1)).bottom = 0) && decide ((chainL (k + 1)).top = (k : Nat)) && (List.range (k + 1)).all fun a => (List.range (k + 1)).all fun b =>
    ((chainL (k + 1)).leq (a : Nat) (b : Nat) == decide (a ≤ b)) && decide ((chainL (k + 1)).join (a : Nat) (b : Nat) = ((max a b : Nat) : Int)) && decide ((chainL (k + 1)).meet (a : Nat) (b : Nat) = ((min a b : Nat) : Int))) = true := by decide +kernel
/-- Levels 0 to k. -/
def C (k : Nat) : Lt := chainL (k + 1)
section
variable {k : Nat} (hk : k < 16)
include hk
theorem C_ok : (C k).Ok := chainL_ok hk
theorem C_n : ((C k).n : Int) = k + 1 := by show (((k + 1 : Nat) : Int)) = _; omega
theorem C_tab : (C k).bottom = 0 ∧ (C k).top = (k : Nat) ∧ ∀ a b, a ≤ k → b ≤ k → (C k).leq (a : Nat) (b : Nat) = decide (a ≤ b) ∧ (C k).join (a : Nat) (b : Nat) = ((max a b : Nat) : Int) ∧ (C k).meet (a : Nat) (b : Nat) = ((min a b : Nat) : Int) := by
  have h := List.all_eq_true.1 chain_tab k (by simpa using hk)
  simp only [Bool.and_eq_true, decide_eq_true_eq, List.all_eq_true, List.mem_range, beq_iff_eq] at h
  refine ⟨h.1.1, h.1.2, fun a b ha hb => ?_⟩
  have := h.2 a (by omega) b (by omega)
  exact ⟨this.1.1, this.1.2, this.2⟩
theorem C_bot : (C k).bottom = 0 := (C_tab hk).1
theorem C_top : (C k).top = (k : Nat) := (C_tab hk).2.1
theorem C_join {a b : Int} (h1 : 0 ≤ a) (h2 : a ≤ (k : Nat)) (h3 : 0 ≤ b) (h4 : b ≤ (k : Nat)) : (C k).join a b = max a b := by
  obtain ⟨x, rfl⟩ : ∃ x : Nat, a = x := ⟨a.toNat, by omega⟩
  obtain ⟨y, rfl⟩ : ∃ y : Nat, b = y := ⟨b.toNat, by omega⟩
  rw [((C_tab hk).2.2 x y (by omega) (by omega)).2.1]; omega
theorem C_lev (n : Int) : 0 ≤ (C k).lev n ∧ (C k).lev n ≤ (k : Nat) := by
  unfold Lt.lev
  rw [C_top hk, C_n hk]
  split <;> omega
mutual
theorem sj_rng : ∀ t : Term, 0 ≤ t.sj (C k) ∧ t.sj (C k) ≤ (k : Nat)
  | .node kd n s ks => by
    rw [sj_eq]
    refine sjs_rng ks _ ?_ ?_
    · split
      · exact (C_lev hk _).1
      · rw [C_bot hk]; exact Int.le_refl _
    · split
      · exact (C_lev hk _).2
      · rw [C_bot hk]; omega
theorem sjs_rng : ∀ (ts : List Term) (a : Int), 0 ≤ a → a ≤ (k : Nat) → 0 ≤ sjs (C k) ts a ∧ sjs (C k) ts a ≤ (k : Nat)
  | [], a, h1, h2 => ⟨h1, h2⟩
  | t :: ts, a, h1, h2 => by
    obtain ⟨h3, h4⟩ := sj_rng t
    rw [sjs, C_join hk h1 h2 h3 h4]
    exact sjs_rng ts _ (by omega) (by omega)
end
end

/-! Seals that are of one part each. -/
mutual
def Term.fine (lv : Int) : Term → Bool
  | .node k n s ks => (k != 4 || (ks.length == 1 && decide (0 ≤ n) && decide (n < lv))) && fines lv ks
def fines (lv : Int) : List Term → Bool
  | [] => true
  | t :: ts => t.fine lv && fines lv ts
end
/-! Erased. -/
theorem isS_cases (t : Term) : (∃ n s x, t = .node 4 n s [x]) ∨ t.isS = false := by
  cases h : t.isS with
  | false => exact .inr rfl
  | true =>
    obtain ⟨h1, h2⟩ := isS_iff.1 h
    cases t with
    | node k n s ks =>
      obtain rfl : k = 4 := h1
      have h2 : ks.length = 1 := h2
      match ks, h2 with
      | [x], _ => exact .inl ⟨n, s, x, rfl⟩
theorem erase_s (n : Int) (s : ByteArray) (x : Term) : (Term.node 4 n s [x]).erase = x.erase := by simp [Term.erase, erases]
/-- By the seals that are of one part, and the kids of what is none. -/
theorem term_ind {Q : Term → Prop} (hs : ∀ n s x, Q x → Q (.node 4 n s [x])) (hn : ∀ t : Term, t.isS = false → (∀ x ∈ t.kids, Q x) → Q t) (t : Term) : Q t := by
  have key : ∀ (m : Nat) (t : Term), t.size ≤ m → Q t := by
    intro m
    induction m with
    | zero => intro t h; have := t.size_kids; omega
    | succ m ih =>
      intro t h
      have hS := t.size_kids
      rcases isS_cases t with ⟨n, s, x, rfl⟩ | hf
      · refine hs n s x (ih x ?_); simp only [Term.size, sizes] at h; omega
      · exact hn t hf fun x hx => ih x (by have := sizes_mem hx; omega)
  exact key t.size t (Nat.le_refl _)
theorem bulks_le {f : Term → Term} : ∀ l : List Term, (∀ x ∈ l, (f x).bulk ≤ x.bulk) → bulks (l.map f) ≤ bulks l
  | [], _ => Nat.le_refl _
  | x :: l, h => by
    have h1 := h x (by simp)
    have h2 := bulks_le l fun y hy => h y (by simp [hy])
    simp only [List.map_cons, bulks]; omega
theorem erase_bulk (t : Term) : t.erase.bulk ≤ t.bulk := by
  induction t using term_ind with
  | hs n s x ih => rw [erase_s]; simp only [Term.bulk, bulks]; omega
  | hn t hf ih => rw [erase_node hf, Term.bulk, t.bulk_kids, erases_map]; have := bulks_le t.kids ih; omega
/-! Opened. -/
section
variable {k : Nat} (hk : k < 16)
include hk
end

/-! Hidden. -/
section
variable {k : Nat} (hk : k < 16)
include hk
end
end Go.Proofs.Ytohncglpjiplaaa.AM
