/- What isn't seen, and holes. -/
import Derived.Test.YtljmkgjemmoegaaF4
namespace Go.Proofs.Ytljmkgjemmoegaa.AM
open Go
set_option linter.unusedVariables false
set_option linter.unusedSimpArgs false
set_option linter.unusedSectionVars false
def holeK : List Term → Bool
  | [] => false
  | y :: _ => same y (.node 3 0 hole [])
mutual
def Term.oh (l : Lt) (x : Int) : Term → Bool
  | .node k n s ks => if k = 4 ∧ l.leq n x = false then decide (n = l.top) && holeK ks else ohs l x ks
def ohs (l : Lt) (x : Int) : List Term → Bool
  | [] => true
  | t :: ts => t.oh l x && ohs l x ts
end
theorem oh_eq (l : Lt) (x : Int) (t : Term) : t.oh l x = if t.kind = 4 ∧ l.leq t.num x = false then decide (t.num = l.top) && holeK t.kids else ohs l x t.kids := by cases t; rfl
theorem ohs_take {l : Lt} {x : Int} {ts : List Term} {i : Nat} (h : i < ts.length) : ohs l x (ts.drop i) = (ts[i].oh l x && ohs l x (ts.drop (i + 1))) := by rw [drop_get h]; rfl
section
variable {k : Nat} (hk : k < 16)
include hk
mutual
theorem see_low {x : Int} (h1 : x ≤ (k : Nat)) : ∀ t : Term, t.sj (C k) ≤ x → t.see (C k) x = t
  | .node kd n s ks, h => by
    have hb := sj_base hk (.node kd n s ks)
    have hge : ∀ a : Int, 0 ≤ a → a ≤ (k : Nat) → a ≤ sjs (C k) ks a := fun a h1 h2 => sjs_ge hk ks h1 h2
    rw [sj_eq] at h
    have h0 := hge _ hb.1 hb.2
    have h' : sjs (C k) ks (if kd = 4 then (C k).lev n else (C k).bottom) ≤ x := h
    have h0' : (if kd = 4 then (C k).lev n else (C k).bottom) ≤ sjs (C k) ks (if kd = 4 then (C k).lev n else (C k).bottom) := h0
    rw [Term.see, if_neg, sees_low h1 ks _ hb.1 hb.2 h]
    rintro ⟨e4, e⟩
    rw [if_pos e4] at h' h0'
    have := C_lev hk n
    rw [C_leq hk, decide_eq_false_iff_not] at e
    omega
theorem sees_low {x : Int} (h1 : x ≤ (k : Nat)) : ∀ (ts : List Term) (a : Int), 0 ≤ a → a ≤ (k : Nat) → sjs (C k) ts a ≤ x → sees (C k) x ts = ts
  | [], _, _, _, _ => rfl
  | t :: ts, a, h3, h4, h => by
    have ht := sj_rng hk t
    have hm := sjs_mem hk (t :: ts) a t h3 h4 (by simp)
    rw [sjs, C_join hk h3 h4 ht.1 ht.2] at h
    rw [sjs, C_join hk h3 h4 ht.1 ht.2] at hm
    rw [sees, see_low h1 t (by omega), sees_low h1 ts _ (by omega) (by omega) h]
end
mutual
theorem see_oh {x : Int} : ∀ t : Term, t.parts.all (alone ((k + 1 : Nat) : Int)) = true → (t.see (C k) x = t ↔ t.oh (C k) x = true)
  | .node kd n s ks, h => by
    rw [Term.parts, List.all_cons, Bool.and_eq_true] at h
    have oh' : (Term.node kd n s ks).oh (C k) x = if kd = 4 ∧ (C k).leq n x = false then decide (n = (C k).top) && holeK ks else ohs (C k) x ks := rfl
    rw [Term.see, oh']
    by_cases h4 : kd = 4
    · subst h4
      rcases alone_cases h.1 with ⟨c, _⟩ | ⟨c, _⟩ | ⟨c, _⟩ | ⟨_, h2, h3, h5, y, h6, h7⟩
      · exact absurd c (by show ¬ (4 : Int) = 1; decide)
      · exact absurd c (by show ¬ (4 : Int) = 2; decide)
      · exact absurd c (by show ¬ (4 : Int) = 3; decide)
      · obtain rfl : s = ⟨#[]⟩ := h2
        obtain rfl : ks = [y] := h6
        have h3 : 0 ≤ n := h3
        have h5 : n < ((k + 1 : Nat) : Int) := h5
        rw [C_lev_in h3 (by omega)]
        by_cases hq : (C k).leq n x = false
        · rw [if_pos ⟨rfl, hq⟩, if_pos ⟨rfl, hq⟩]
          simp only [Bool.and_eq_true, decide_eq_true_eq, holeK, same_iff]
          unfold putS
          simp only [Term.node.injEq, true_and, List.cons.injEq, and_true]
          exact ⟨fun ⟨e1, e2⟩ => ⟨e1.symm, e2.symm⟩, fun ⟨e1, e2⟩ => ⟨e1.symm, e2.symm⟩⟩
        · rw [if_neg (fun e => hq e.2), if_neg (fun e => hq e.2)]
          simp only [Term.node.injEq, true_and]
          exact sees_oh [y] h.2
    · rw [if_neg (fun e => h4 e.1), if_neg (fun e => h4 e.1)]
      simp only [Term.node.injEq, true_and]
      exact sees_oh ks h.2
theorem sees_oh {x : Int} : ∀ ts : List Term, (partss ts).all (alone ((k + 1 : Nat) : Int)) = true → (sees (C k) x ts = ts ↔ ohs (C k) x ts = true)
  | [], _ => by simp [sees, ohs]
  | t :: ts, h => by
    rw [partss, List.all_append, Bool.and_eq_true] at h
    rw [sees, ohs, Bool.and_eq_true, List.cons.injEq, see_oh t h.1, sees_oh ts h.2]
end
/-- Seen as it is: low, or but for holes. -/
theorem see_same {x : Int} (h1 : x ≤ (k : Nat)) (h0 : 0 ≤ x) {t : Term} (h : t.check ((k + 1 : Nat) : Int) = 0) : same (t.see (C k) x) t = ((C k).leq (t.sj (C k)) x || t.oh (C k) x) := by
  have hs := see_oh hk (x := x) t (check_zero.1 h).2.2
  have hr := sj_rng hk t
  rw [Bool.eq_iff_iff, same_iff, Bool.or_eq_true, hs, C_leq hk, decide_eq_true_eq]
  constructor
  · exact .inr
  · rintro (h2 | h2)
    · exact hs.1 (see_low hk h1 t h2.2.1)
    · exact h2
end
end Go.Proofs.Ytljmkgjemmoegaa.AM
