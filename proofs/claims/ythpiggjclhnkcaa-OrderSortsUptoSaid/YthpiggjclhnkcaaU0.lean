/- Terms made one: what is computed. -/
import Derived.Test.YthpiggjclhnkcaaF3
import Derived.Test.YthpiggjclhnkcaaS6
import Derived.Test.YthpiggjclhnkcaaS4
namespace Go.Proofs.Ythpiggjclhnkcaa.AM
open Go
set_option linter.unusedVariables false
set_option linter.unusedSimpArgs false
set_option linter.unusedSectionVars false
/-- What two that are no variables ask for: pairs more, or nothing. -/
def meetT (x y : Term) : Option (List (Term × Term)) :=
  if x.kind = 2 ∧ y.kind = 2 ∧ x.num = y.num then some []
  else if x.kind = 3 ∧ y.kind = 3 ∧ x.name = y.name ∧ x.kids.length = y.kids.length then some (x.kids.zip y.kids)
  else none
/-- One pair, walked. -/
def mwk (l : Lt) (s : St) (lv : Int) (a b : Term) : St × Int × Option (List (Term × Term)) :=
  if a.kind = 1 ∧ b.kind = 1 ∧ a.num = b.num then (s, lv, some [])
  else if a.kind = 1 then ((s.bind a.num b).1, lv, if (s.bind a.num b).2 = 0 then some [] else none)
  else if b.kind = 1 then ((s.bind b.num a).1, lv, if (s.bind b.num a).2 = 0 then some [] else none)
  else (s, l.join lv (l.join (sopen l a).2 (sopen l b).2), meetT (sopen l a).1 (sopen l b).1)
def mone (l : Lt) (s : St) (lv : Int) (a b : Term) : St × Int × Option (List (Term × Term)) := mwk l s lv (s.wk a) (s.wk b)
def mt (l : Lt) : Nat → St → Int → List (Term × Term) → St × Bool × Int × Int
  | _, s, lv, [] => (s, true, lv, 0)
  | 0, s, lv, _ :: _ => (s, false, lv, 3)
  | k + 1, s, lv, (a, b) :: ps => match mone l s lv a b with
    | (s', lv', some q) => mt l k s' lv' (q ++ ps)
    | (s', lv', none) => (s', false, lv', 0)
def matchS (l : Lt) (s : St) (as bs : List Term) : St × Bool × Int × Int :=
  if as.length = bs.length then mt l 2000 s l.bottom (as.zip bs) else (s, false, l.bottom, 0)

/-! What terms may be. -/
/-- Terms that may be, over levels 0 to k, and are not too great. -/
structure Gd (k : Nat) (t : Term) : Prop where
  all : t.parts.all (alone ((k + 1 : Nat) : Int)) = true
  bulk : t.bulk ≤ 2 ^ 20
def Gr (t : Term) : Prop := ∀ p ∈ t.parts, p.kind ≠ 1
theorem gr_vars {t : Term} : Gr t ↔ t.vars = [] := vars_nil.symm
theorem Gr.kid {t x : Term} (h : Gr t) (hx : x ∈ t.kids) : Gr x := fun p hp => h p (by rw [t.parts_kids]; exact List.mem_cons_of_mem _ (partss_mem hx hp))
theorem Gr.self {t : Term} (h : Gr t) : t.kind ≠ 1 := h t (by rw [t.parts_kids]; simp)
section
variable {k : Nat}
theorem Gd.self {t : Term} (h : Gd k t) : alone ((k + 1 : Nat) : Int) t = true := by
  have := h.all; rw [t.parts_kids, List.all_cons, Bool.and_eq_true] at this; exact this.1
theorem Gd.cases {t : Term} (h : Gd k t) : (t.kind = 1 ∧ t.name = ⟨#[]⟩ ∧ t.kids = []) ∨ (t.kind = 2 ∧ t.name = ⟨#[]⟩ ∧ t.kids = []) ∨ (t.kind = 3 ∧ t.num = 0 ∧ t.kids.length ≤ 8) ∨
    (t.kind = 4 ∧ t.name = ⟨#[]⟩ ∧ 0 ≤ t.num ∧ t.num < ((k + 1 : Nat) : Int) ∧ ∃ x, t.kids = [x] ∧ x.vars = []) := alone_cases h.self
theorem Gd.kid {t x : Term} (h : Gd k t) (hx : x ∈ t.kids) : Gd k x := by
  refine ⟨?_, ?_⟩
  · have := h.all
    rw [List.all_eq_true] at this ⊢
    exact fun p hp => this p (by rw [t.parts_kids]; exact List.mem_cons_of_mem _ (partss_mem hx hp))
  · have := h.bulk; have := t.bulk_kids; have := bulks_mem hx; omega
theorem Gd.fine {t : Term} (h : Gd k t) : t.fine ((k + 1 : Nat) : Int) = true := fine_of _ t h.all
theorem Gd.okv {t : Term} (h : Gd k t) : t.okv := alone_okv h.all
theorem Gd.put {x : Term} (h : Gd k x) (hg : Gr x) (hb : x.bulk + 1 ≤ 2 ^ 20) {n : Int} (h0 : 0 ≤ n) (h1 : n ≤ (k : Nat)) : Gd k (putS x n) := by
  refine ⟨?_, by show 0 + (x.bulk + 0) + 1 ≤ _; omega⟩
  show (Term.parts (.node 4 n ⟨#[]⟩ [x])).all _ = true
  rw [Term.parts, List.all_cons, partss, partss, List.append_nil, h.all, Bool.and_true]
  have e : (((⟨#[]⟩ : ByteArray).toList) == (⟨#[]⟩ : ByteArray).toList) = true := by simp
  have hv : x.vars = [] := gr_vars.1 hg
  have d1 : decide (n ≥ 0) = true := decide_eq_true h0
  have d2 : decide (n < ((k + 1 : Nat) : Int)) = true := decide_eq_true (by omega)
  show (bif (4 : Int) == 1 then _ else bif (4 : Int) == 2 then _ else bif (4 : Int) == 3 then _ else bif (4 : Int) == 4 then (((⟨#[]⟩ : ByteArray).toList) == (⟨#[]⟩ : ByteArray).toList) && decide (n ≥ 0) && decide (n < ((k + 1 : Nat) : Int)) && ((([x] : List Term).length : Int) == 0 + 1) && (((x.vars.length : Int) == 0)) else false) = true
  rw [e, d1, d2, hv]; rfl
/-! Opened. -/
variable (hk : k < 16)
include hk
end

/-! Full. -/
section
variable {k : Nat} (hk : k < 16)
include hk
end
/-- A store of terms that may be. -/
structure Sg (k : Nat) (s : St) : Prop where
  ok : s.Ok (2 ^ 20)
  gd : ∀ n u, s.at n = some u → Gd k u
def Ps (k : Nat) (ps : List (Term × Term)) : Prop := ∀ p ∈ ps, Gd k p.1 ∧ Gd k p.2
theorem walk_gd {k : Nat} {s : St} (h : Sg k s) : ∀ (n : Nat) (t : Term), Gd k t → Gd k (s.walk n t)
  | 0, t, ht => ht
  | n + 1, t, ht => by
    cases hl : s.look t with
    | none => rw [walk_stop hl]; exact ht
    | some u =>
      rw [walk_nx hl]
      have hat : s.at t.num = some u := by
        rw [look_at] at hl
        split at hl
        · exact hl
        · cases hl
      exact walk_gd h n u (h.gd _ _ hat)
theorem Sg.wk {k : Nat} {s : St} (h : Sg k s) {t : Term} (ht : Gd k t) : Gd k (s.wk t) := walk_gd h _ t ht
theorem Sg.bind {k : Nat} {s : St} (h : Sg k s) (v : Int) {t : Term} (ht : Gd k t) : Sg k (s.bind v t).1 := by
  refine ⟨h.ok.bind v t ht.bulk, fun n u hu => ?_⟩
  rcases bind_cases s v t with ⟨e, _⟩ | ⟨_, _, _, _, e, _⟩
  · rw [e] at hu; exact h.gd n u hu
  · rw [bind_at e] at hu
    split at hu
    · cases hu; exact ht
    · exact h.gd n u hu
/-- Bound as it was, and more. -/
def Ext (s s' : St) : Prop := ∀ n u, s.at n = some u → s'.at n = some u
theorem Ext.refl (s : St) : Ext s s := fun _ _ h => h
theorem Ext.trans {s s1 s2 : St} (h : Ext s s1) (h' : Ext s1 s2) : Ext s s2 := fun n u hu => h' n u (h n u hu)
theorem Ext.bind (s : St) (v : Int) (t : Term) : Ext s (s.bind v t).1 := fun n u hu => by
  rcases bind_cases s v t with ⟨e, _⟩ | ⟨_, _, hv, _, e, _⟩
  · rw [e]; exact hu
  · rw [bind_at e]
    split
    · rename_i h; subst h; rw [hv] at hu; cases hu
    · exact hu
section
variable {k : Nat} (hk : k < 16)
include hk
/-! One pair. -/
/-! What was made one is one and the same, erased. -/
def EqA (s : St) (a b : Term) : Prop := ∀ x y, Fil s a x → Fil s b y → x.erase = y.erase
/-! What is one and the same, erased, is made one, and nothing is bound. -/
def EqE (s : St) (a b : Term) : Prop := ∃ x y, Fil s a x ∧ Fil s b y ∧ x.erase = y.erase
/-! The level. -/
structure Lo (k : Nat) (J : Int) (s : St) : Prop where
  le : ∀ n u, s.at n = some u → u.sj (C k) ≤ J
def Pj (k : Nat) (J : Int) (ps : List (Term × Term)) : Prop := ∀ p ∈ ps, p.1.sj (C k) ≤ J ∧ p.2.sj (C k) ≤ J
omit hk in
theorem Lo.wk {J : Int} {s : St} (h : Lo k J s) : ∀ (n : Nat) (t : Term), t.sj (C k) ≤ J → (s.walk n t).sj (C k) ≤ J
  | 0, t, ht => ht
  | n + 1, t, ht => by
    cases hl : s.look t with
    | none => rw [walk_stop hl]; exact ht
    | some u =>
      rw [walk_nx hl]
      refine Lo.wk h n u ?_
      rw [look_at] at hl
      split at hl
      · exact h.le _ _ hl
      · cases hl
omit hk in
theorem Lo.bind {J : Int} {s : St} (h : Lo k J s) (v : Int) {t : Term} (ht : t.sj (C k) ≤ J) : Lo k J (s.bind v t).1 := ⟨fun n u hu => by
  rcases bind_cases s v t with ⟨e, _⟩ | ⟨_, _, _, _, e, _⟩
  · rw [e] at hu; exact h.le n u hu
  · rw [bind_at e] at hu
    split at hu
    · cases hu; exact ht
    · exact h.le n u hu⟩
end
end Go.Proofs.Ythpiggjclhnkcaa.AM
