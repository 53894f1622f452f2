/- Terms made one: what is computed. -/
import Derived.Test.YtegfpnpghfcopaaF3
import Derived.Test.YtegfpnpghfcopaaS6
namespace Go.Proofs.Ytegfpnpghfcopaa.AM
open Go
set_option linter.unusedVariables false
set_option linter.unusedSimpArgs false
set_option linter.unusedSectionVars false
/-- What two that are no variables ask for: pairs more, or nothing. -/
def meetT (x y : Term) : Option (List (Term × Term)) :=
  if x.kind = 2 ∧ y.kind = 2 ∧ x.num = y.num then some []
  else if x.kind = 3 ∧ y.kind = 3 ∧ x.name = y.name ∧ x.kids.length = y.kids.length then some (x.kids.zip y.kids)
  else none
/-- One pair, walked. -/
def mwk (l : Lt) (s : St) (lv : Int) (a b : Term) : St × Int × Option (List (Term × Term)) :=
  if a.kind = 1 ∧ b.kind = 1 ∧ a.num = b.num then (s, lv, some [])
  else if a.kind = 1 then ((s.bind a.num b).1, lv, if (s.bind a.num b).2 = 0 then some [] else none)
  else if b.kind = 1 then ((s.bind b.num a).1, lv, if (s.bind b.num a).2 = 0 then some [] else none)
  else (s, l.join lv (l.join (sopen l a).2 (sopen l b).2), meetT (sopen l a).1 (sopen l b).1)
def mone (l : Lt) (s : St) (lv : Int) (a b : Term) : St × Int × Option (List (Term × Term)) := mwk l s lv (s.wk a) (s.wk b)
def mt (l : Lt) : Nat → St → Int → List (Term × Term) → St × Bool × Int × Int
  | _, s, lv, [] => (s, true, lv, 0)
  | 0, s, lv, _ :: _ => (s, false, lv, 3)
  | k + 1, s, lv, (a, b) :: ps => match mone l s lv a b with
    | (s', lv', some q) => mt l k s' lv' (q ++ ps)
    | (s', lv', none) => (s', false, lv', 0)
def matchS (l : Lt) (s : St) (as bs : List Term) : St × Bool × Int × Int :=
  if as.length = bs.length then mt l 2000 s l.bottom (as.zip bs) else (s, false, l.bottom, 0)

/-! What terms may be. -/
/-- Terms that may be, over levels 0 to k, and are not too great. -/
structure Gd (k : Nat) (t : Term) : Prop where
  all : t.parts.all (alone ((k + 1 : Nat) : Int)) = true
  bulk : t.bulk ≤ 2 ^ 20
def Gr (t : Term) : Prop := ∀ p ∈ t.parts, p.kind ≠ 1
theorem gr_vars {t : Term} : Gr t ↔ t.vars = [] := vars_nil.symm
theorem Gr.kid {t x : Term} (h : Gr t) (hx : x ∈ t.kids) : Gr x := fun p hp => h p (by rw [t.parts_kids]; exact List.mem_cons_of_mem _ (partss_mem hx hp))
theorem Gr.self {t : Term} (h : Gr t) : t.kind ≠ 1 := h t (by rw [t.parts_kids]; simp)
section
variable {k : Nat}
theorem Gd.self {t : Term} (h : Gd k t) : alone ((k + 1 : Nat) : Int) t = true := by
  have := h.all; rw [t.parts_kids, List.all_cons, Bool.and_eq_true] at this; exact this.1
theorem Gd.cases {t : Term} (h : Gd k t) : (t.kind = 1 ∧ t.name = ⟨#[]⟩ ∧ t.kids = []) ∨ (t.kind = 2 ∧ t.name = ⟨#[]⟩ ∧ t.kids = []) ∨ (t.kind = 3 ∧ t.num = 0 ∧ t.kids.length ≤ 8) ∨
    (t.kind = 4 ∧ t.name = ⟨#[]⟩ ∧ 0 ≤ t.num ∧ t.num < ((k + 1 : Nat) : Int) ∧ ∃ x, t.kids = [x] ∧ x.vars = []) := alone_cases h.self
theorem Gd.kid {t x : Term} (h : Gd k t) (hx : x ∈ t.kids) : Gd k x := by
  refine ⟨?_, ?_⟩
  · have := h.all
    rw [List.all_eq_true] at this ⊢
    exact fun p hp => this p (by rw [t.parts_kids]; exact List.mem_cons_of_mem _ (partss_mem hx hp))
  · have := h.bulk; have := t.bulk_kids; have := bulks_mem hx; omega
theorem Gd.fine {t : Term} (h : Gd k t) : t.fine ((k + 1 : Nat) : Int) = true := fine_of _ t h.all
theorem Gd.okv {t : Term} (h : Gd k t) : t.okv := alone_okv h.all
theorem Gd.bulk_kid {t x : Term} (h : Gd k t) (hx : x ∈ t.kids) : x.bulk + 1 ≤ t.bulk := by have := t.bulk_kids; have := bulks_mem hx; omega
theorem Gd.put {x : Term} (h : Gd k x) (hg : Gr x) (hb : x.bulk + 1 ≤ 2 ^ 20) {n : Int} (h0 : 0 ≤ n) (h1 : n ≤ (k : Nat)) : Gd k (putS x n) := by
  refine ⟨?_, by show 0 + (x.bulk + 0) + 1 ≤ _; omega⟩
  show (Term.parts (.node 4 n ⟨#[]⟩ [x])).all _ = true
  rw [Term.parts, List.all_cons, partss, partss, List.append_nil, h.all, Bool.and_true]
  have e : (((⟨#[]⟩ : ByteArray).toList) == (⟨#[]⟩ : ByteArray).toList) = true := by simp
  have hv : x.vars = [] := gr_vars.1 hg
  have d1 : decide (n ≥ 0) = true := decide_eq_true h0
  have d2 : decide (n < ((k + 1 : Nat) : Int)) = true := decide_eq_true (by omega)
  show (bif (4 : Int) == 1 then _ else bif (4 : Int) == 2 then _ else bif (4 : Int) == 3 then _ else bif (4 : Int) == 4 then (((⟨#[]⟩ : ByteArray).toList) == (⟨#[]⟩ : ByteArray).toList) && decide (n ≥ 0) && decide (n < ((k + 1 : Nat) : Int)) && ((([x] : List Term).length : Int) == 0 + 1) && (((x.vars.length : Int) == 0)) else false) = true
  rw [e, d1, d2, hv]; rfl
theorem Gd.slt {t : Term} (h : Gd k t) (h4 : t.kind = 4) : ∃ n x, t = .node 4 n ⟨#[]⟩ [x] ∧ 0 ≤ n ∧ n ≤ (k : Nat) ∧ Gr x := by
  rcases h.cases with ⟨h1, _⟩ | ⟨h1, _⟩ | ⟨h1, _⟩ | ⟨_, h2, h3, h5, x, h6, h7⟩
  · omega
  · omega
  · omega
  · cases t with
    | node kd n s ks =>
      obtain rfl : kd = 4 := h4
      obtain rfl : s = ⟨#[]⟩ := h2
      obtain rfl : ks = [x] := h6
      have h3 : 0 ≤ n := h3
      have h5 : n < ((k + 1 : Nat) : Int) := h5
      exact ⟨n, x, rfl, h3, by omega, gr_vars.2 h7⟩
theorem Gd.notS {t : Term} (h : Gd k t) (hs : t.isS = false) : t.kind ≠ 4 := fun h4 => by
  have := (fine_seal h.fine h4).1; rw [hs] at this; cases this
theorem Gd.var {t : Term} (h : Gd k t) (h1 : t.kind = 1) : t = .node 1 t.num ⟨#[]⟩ [] := by
  rcases h.cases with ⟨_, h2, h3⟩ | ⟨h2, _⟩ | ⟨h2, _⟩ | ⟨h2, _⟩
  · cases t with
    | node kd n s ks => obtain rfl : kd = 1 := h1; obtain rfl : s = _ := h2; obtain rfl : ks = [] := h3; rfl
  all_goals omega

/-! Opened. -/
theorem gd_opn {t : Term} : Gd k t → ∀ a, Gd k (t.opn (C k) a).1 := by
  induction t using term_ind with
  | hs n s x ih => intro h a; rw [opn_s]; exact ih (h.kid (by simp [Term.kids])) _
  | hn t hf ih => intro h a; rw [opn_node hf]; exact h
theorem gr_opn {t : Term} : Gr t → ∀ a, Gr (t.opn (C k) a).1 := by
  induction t using term_ind with
  | hs n s x ih => intro h a; rw [opn_s]; exact ih (h.kid (by simp [Term.kids])) _
  | hn t hf ih => intro h a; rw [opn_node hf]; exact h
theorem gr_seal {t : Term} (h : Gd k t) (h4 : t.kind = 4) : Gr t := by
  obtain ⟨n, x, rfl, _, _, hx⟩ := h.slt h4
  intro p hp
  simp only [Term.parts, partss, List.append_nil, List.mem_cons] at hp
  rcases hp with rfl | hp
  · show (4 : Int) ≠ 1; decide
  · exact hx p hp
theorem puts4_mem {n : Int} {l : List Term} {x : Term} (h : x ∈ puts4 n l) : ∃ y ∈ l, x = putS y n := by
  unfold puts4 at h; rw [List.mem_map] at h; obtain ⟨y, h1, h2⟩ := h; exact ⟨y, h1, h2.symm⟩
variable (hk : k < 16)
include hk
theorem gd_sopen {t x : Term} (h : Gd k t) (hx : x ∈ (sopen (C k) t).1.kids) : Gd k x := by
  unfold sopen at hx
  split at hx
  · rename_i hs
    obtain ⟨y, hy, rfl⟩ := puts4_mem (show x ∈ puts4 _ _ from hx)
    rw [C_bot hk] at hy ⊢
    have hg := gd_opn h 0
    have hr := gr_opn (gr_seal h (isS_iff.1 hs).1) 0 (k := k)
    have hm := opn_max hk t 0 (Int.le_refl _) (by omega)
    exact (hg.kid hy).put (hr.kid hy) (by have := hg.bulk_kid hy; have := hg.bulk; omega) hm.1 hm.2.1
  · exact h.kid hx
/-- What was opened is a number, or a name. -/
theorem sopen_cases {t : Term} (h : Gd k t) (h1 : t.kind ≠ 1) : ((sopen (C k) t).1.kind = 2 ∧ (sopen (C k) t).1.name = ⟨#[]⟩ ∧ (sopen (C k) t).1.kids = []) ∨ ((sopen (C k) t).1.kind = 3 ∧ (sopen (C k) t).1.num = 0 ∧ (sopen (C k) t).1.kids.length ≤ 8) := by
  have hg := gd_opn h 0
  have key : (t.opn (C k) 0).1.kind ≠ 1 := by
    by_cases h4 : t.kind = 4
    · exact (gr_opn (gr_seal h h4) 0).self
    · rw [opn_node (by simp [Term.isS, h4])]; exact h1
  have k4 : (t.opn (C k) 0).1.kind ≠ 4 := hg.notS (opn_end _ _ _)
  have hn : (sopen (C k) t).1.num = (t.opn (C k) 0).1.num := by
    unfold sopen
    split
    · rw [C_bot hk]; rfl
    · rename_i hs
      rw [opn_node (by simpa using hs)]
  obtain ⟨e1, e2, e3, _⟩ := sopen_like hk t
  rw [e1, e2, hn]
  rcases hg.cases with ⟨c1, _⟩ | ⟨c1, c2, c3⟩ | ⟨c1, c2, c3⟩ | ⟨c1, _⟩
  · exact absurd c1 key
  · exact .inl ⟨c1, c2, List.eq_nil_of_length_eq_zero (by rw [e3, c3]; rfl)⟩
  · exact .inr ⟨c1, c2, by rw [e3]; exact c3⟩
  · exact absurd c1 k4
end

/-! Full. -/
theorem fils_len {s : St} : ∀ {ts xs : List Term}, Fils s ts xs → xs.length = ts.length
  | _, _, .nil => rfl
  | _, _, .cons _ h => by simp [fils_len h]
theorem fil_wk {s : St} {t u x : Term} (h : s.wk t = s.wk u) (hf : Fil s t x) : Fil s u x := by
  cases hf with
  | mk hf => rw [h] at hf ⊢; exact .mk hf
theorem wk_kind {s : St} {t : Term} (h : t.kind ≠ 1) : s.wk t = t := walk_at _ h
theorem fil_put {s : St} {t x : Term} (n : Int) (h : Fil s t x) : Fil s (putS t n) (putS x n) := by
  have e : s.wk (putS t n) = putS t n := wk_kind (by show (4 : Int) ≠ 1; decide)
  have := Fil.mk (s := s) (t := putS t n) (xs := [x]) (by rw [e]; exact .cons h .nil)
  rw [e] at this
  exact this
theorem fils_put {s : St} (n : Int) : ∀ {ts xs : List Term}, Fils s ts xs → Fils s (puts4 n ts) (puts4 n xs)
  | _, _, .nil => .nil
  | _, _, .cons h hs => .cons (fil_put n h) (fils_put n hs)
theorem fil_opn {s : St} {k : Nat} {t : Term} : Gd k t → t.kind ≠ 1 → ∀ (a : Int) (x : Term), Fil s t x → ∃ ys, Fils s (t.opn (C k) a).1.kids ys ∧ x.erase = .node (t.opn (C k) a).1.kind (t.opn (C k) a).1.num (t.opn (C k) a).1.name (erases ys) := by
  induction t using term_ind with
  | hs n sn u ih =>
    intro hg h1 a x hf
    obtain ⟨n', u', e, _, _, hu⟩ := hg.slt (show (Term.node 4 n sn [u]).kind = 4 from rfl)
    simp only [Term.node.injEq, List.cons.injEq, and_true, true_and] at e
    obtain ⟨rfl, rfl, rfl⟩ := e
    cases hf with
    | mk hf =>
      rw [wk_kind h1] at hf
      cases hf with
      | cons h1' h2' =>
        cases h2'
        rw [opn_s, wk_kind h1]
        show ∃ ys, _ ∧ (Term.node 4 n _ [_]).erase = _
        rw [erase_s]
        exact ih (hg.kid (by simp [Term.kids])) hu.self _ _ h1'
  | hn t hf ih =>
    intro hg h1 a x hx
    rw [opn_node hf]
    cases hx with
    | mk hx =>
      rw [wk_kind h1] at hx ⊢
      refine ⟨_, hx, erase_node ?_⟩
      rw [isS_like (t := .node t.kind t.num t.name _) (u := t) rfl (fils_len hx)]
      exact hf
section
variable {k : Nat} (hk : k < 16)
include hk
theorem fil_open {s : St} {t x : Term} (hg : Gd k t) (h1 : t.kind ≠ 1) (hf : Fil s t x) : ∃ ys, Fils s (sopen (C k) t).1.kids ys ∧ x.erase = .node (sopen (C k) t).1.kind (sopen (C k) t).1.num (sopen (C k) t).1.name (erases ys) := by
  obtain ⟨ys, e1, e2⟩ := fil_opn hg h1 (C k).bottom x hf
  unfold sopen
  split
  · exact ⟨_, fils_put _ e1, by rw [erases_puts4]; exact e2⟩
  · rename_i hs
    rw [opn_node (by simpa using hs)] at e1 e2
    exact ⟨ys, e1, e2⟩
end
end Go.Proofs.Ytegfpnpghfcopaa.AM
