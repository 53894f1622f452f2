/- What is seen of clauses. -/
import Derived.Test.YtljmkgjemmoegaaF3
namespace Go.Proofs.Ytljmkgjemmoegaa.AM
open Go
set_option linter.unusedVariables false
set_option linter.unusedSimpArgs false
set_option linter.unusedSectionVars false
def colons : ByteArray := ⟨#[58, 58]⟩
/-- A clause at a level. -/
def Term.lab (t : Term) : Bool := decide (t.kind = 3) && (t.name.toList == colons.toList) && decide (t.kids.length = 2)
def plain1 (t : Term) : Term := if t.lab = true then (t.kids[1]?.getD t).erase else t.erase
def plain (ts : List Term) : List Term := ts.map plain1
mutual
def Term.see (l : Lt) (lv : Int) : Term → Term
  | .node k n s ks => if k = 4 ∧ l.leq (l.lev n) lv = false then putS (.node 3 0 hole []) l.top else .node k n s (sees l lv ks)
def sees (l : Lt) (lv : Int) : List Term → List Term
  | [] => []
  | t :: ts => t.see l lv :: sees l lv ts
end
def hid1 (l : Lt) (lv : Int) (n : Term) : Bool := decide (n.kind = 2) && decide (0 ≤ n.num) && decide (n.num < ((l.n : Nat) : Int)) && !(l.leq n.num lv)
def hid (l : Lt) (lv : Int) (t : Term) : Bool := t.lab && hid1 l lv (t.kids[0]?.getD t)
def low (l : Lt) (lv : Int) (ts : List Term) : List Term := (ts.filter fun t => !(hid l lv t)).map (Term.see l lv)
theorem lab_iff {t : Term} : t.lab = true ↔ t.kind = 3 ∧ t.name = colons ∧ t.kids.length = 2 := by
  simp only [Term.lab, Bool.and_eq_true, decide_eq_true_eq, beq_iff_eq]
  exact ⟨fun ⟨⟨h1, h2⟩, h3⟩ => ⟨h1, ByteArray.ext_list h2, h3⟩, fun ⟨h1, h2, h3⟩ => ⟨⟨h1, by rw [h2]⟩, h3⟩⟩
theorem lab_like {t u : Term} (h1 : t.kind = u.kind) (h2 : t.name = u.name) (h3 : t.kids.length = u.kids.length) : t.lab = u.lab := by simp [Term.lab, h1, h2, h3]
theorem see_eq (l : Lt) (lv : Int) (t : Term) : t.see l lv = if t.kind = 4 ∧ l.leq (l.lev t.num) lv = false then putS (.node 3 0 hole []) l.top else .node t.kind t.num t.name (sees l lv t.kids) := by cases t; rfl
theorem sees_map (l : Lt) (lv : Int) : ∀ ts, sees l lv ts = ts.map (Term.see l lv)
  | [] => rfl
  | t :: ts => by rw [sees, sees_map l lv ts]; rfl
theorem sees_len (l : Lt) (lv : Int) (ts : List Term) : (sees l lv ts).length = ts.length := by rw [sees_map, List.length_map]
theorem sees_take {l : Lt} {lv : Int} {ts : List Term} {i : Nat} (h : i < ts.length) : sees l lv (ts.take (i + 1)) = sees l lv (ts.take i) ++ [ts[i].see l lv] := by
  rw [sees_map, sees_map, List.take_succ_eq_append_getElem h, List.map_append]; rfl
theorem plain_len (ts : List Term) : (plain ts).length = ts.length := by simp [plain]
theorem plain_take {ts : List Term} {i : Nat} (h : i < ts.length) : plain (ts.take (i + 1)) = plain (ts.take i) ++ [plain1 ts[i]] := by
  unfold plain; rw [List.take_succ_eq_append_getElem h, List.map_append]; rfl
theorem low_len (l : Lt) (lv : Int) (ts : List Term) : (low l lv ts).length ≤ ts.length := by unfold low; rw [List.length_map]; exact List.length_filter_le _ _
theorem low_in {l : Lt} {lv : Int} {ts : List Term} {i : Nat} (h : i < ts.length) (hh : hid l lv ts[i] = false) : low l lv (ts.take (i + 1)) = low l lv (ts.take i) ++ [ts[i].see l lv] := by
  unfold low; rw [List.take_succ_eq_append_getElem h, List.filter_append, List.map_append]; simp [hh]
theorem low_out {l : Lt} {lv : Int} {ts : List Term} {i : Nat} (h : i < ts.length) (hh : hid l lv ts[i] = true) : low l lv (ts.take (i + 1)) = low l lv (ts.take i) := by
  unfold low; rw [List.take_succ_eq_append_getElem h, List.filter_append, List.map_append]; simp [hh]
theorem plain1_lab {t : Term} (h : t.lab = true) (h1 : 1 < t.kids.length) : plain1 t = t.kids[1].erase := by
  unfold plain1; rw [if_pos h, List.getElem?_eq_getElem h1]; rfl
theorem plain1_no {t : Term} (h : t.lab = false) : plain1 t = t.erase := by
  unfold plain1; rw [if_neg (by rw [h]; exact Bool.false_ne_true)]
theorem hid_no {l : Lt} {lv : Int} {t : Term} (h : t.lab = false) : hid l lv t = false := by unfold hid; rw [h]; rfl
theorem hid_lab {l : Lt} {lv : Int} {t : Term} (h : t.lab = true) (h0 : 0 < t.kids.length) : hid l lv t = hid1 l lv t.kids[0] := by
  unfold hid; rw [h, List.getElem?_eq_getElem h0]; rfl

/-! How much it takes. -/
mutual
theorem see_bulk (l : Lt) (lv : Int) : ∀ t : Term, (t.see l lv).bulk ≤ 6 * t.bulk
  | .node k n s ks => by
    rw [Term.see]
    split
    · show 0 + ((hole.size + 0 + 1) + 0) + 1 ≤ _
      have : hole.size = 4 := rfl
      simp only [Term.bulk]; omega
    · simp only [Term.bulk]; have := sees_bulk l lv ks; omega
theorem sees_bulk (l : Lt) (lv : Int) : ∀ ts : List Term, bulks (sees l lv ts) ≤ 6 * bulks ts
  | [] => Nat.le_refl _
  | t :: ts => by rw [sees, bulks, bulks]; have := see_bulk l lv t; have := sees_bulk l lv ts; omega
end
theorem low_bulk (l : Lt) (lv : Int) : ∀ ts : List Term, bulks (low l lv ts) ≤ 6 * bulks ts
  | [] => Nat.le_refl _
  | t :: ts => by
    have h := low_bulk l lv ts
    unfold low at h ⊢
    cases hh : hid l lv t with
    | true => simp only [List.filter_cons, hh, Bool.not_true, Bool.false_eq_true, if_false, bulks]; omega
    | false =>
      simp only [List.filter_cons, hh, Bool.not_false, if_true, List.map_cons, bulks]
      have := see_bulk l lv t; omega
theorem plain1_bulk (t : Term) : (plain1 t).bulk ≤ t.bulk := by
  cases h : t.lab with
  | false => rw [plain1_no h]; exact erase_bulk t
  | true =>
    have h1 : 1 < t.kids.length := by have := (lab_iff.1 h).2.2; omega
    rw [plain1_lab h h1]
    have := erase_bulk t.kids[1]; have := bulks_mem (List.getElem_mem h1); have := t.bulk_kids; omega
theorem plain_bulk (ts : List Term) : bulks (plain ts) ≤ bulks ts := bulks_le ts fun x _ => plain1_bulk x
theorem bulks_append : ∀ l m : List Term, bulks (l ++ m) = bulks l + bulks m
  | [], m => by simp [bulks]
  | x :: l, m => by simp only [List.cons_append, bulks, bulks_append l m]; omega

/-! Over levels one below the next one. -/
section
variable {k : Nat} (hk : k < 16)
include hk
theorem see_hole {lv : Int} (h1 : 0 ≤ lv) (h2 : lv ≤ (k : Nat)) : (putS (.node 3 0 hole []) (C k).top).see (C k) lv = putS (.node 3 0 hole []) (C k).top := by
  show (Term.node 4 (C k).top ⟨#[]⟩ [.node 3 0 hole []]).see (C k) lv = _
  rw [Term.see]
  split
  · rfl
  · rw [sees, sees, Term.see, if_neg (by rintro ⟨h, _⟩; exact absurd h (by decide))]; rfl
mutual
theorem see_see {x y : Int} (h1 : 0 ≤ x) (h2 : x ≤ (k : Nat)) (h3 : 0 ≤ y) (h4 : y ≤ (k : Nat)) : ∀ t : Term, (t.see (C k) x).see (C k) y = t.see (C k) (min x y)
  | .node kd n s ks => by
    obtain ⟨l1, l2⟩ := C_lev hk n
    rw [Term.see, Term.see]
    by_cases a : kd = 4 ∧ (C k).leq ((C k).lev n) x = false
    · rw [if_pos a, see_hole hk h3 h4, if_pos]
      refine ⟨a.1, ?_⟩
      have := a.2
      rw [C_leq hk] at this ⊢
      rw [decide_eq_false_iff_not] at this ⊢
      omega
    · rw [if_neg a, Term.see]
      by_cases b : kd = 4 ∧ (C k).leq ((C k).lev n) y = false
      · rw [if_pos b, if_pos]
        refine ⟨b.1, ?_⟩
        have := b.2
        rw [C_leq hk] at this ⊢
        rw [decide_eq_false_iff_not] at this ⊢
        omega
      · rw [if_neg b, if_neg, sees_sees h1 h2 h3 h4 ks]
        rintro ⟨e4, e⟩
        have a' : (C k).leq ((C k).lev n) x ≠ false := fun h => a ⟨e4, h⟩
        have b' : (C k).leq ((C k).lev n) y ≠ false := fun h => b ⟨e4, h⟩
        rw [C_leq hk, Ne, decide_eq_false_iff_not] at a' b'
        rw [C_leq hk, decide_eq_false_iff_not] at e
        omega
theorem sees_sees {x y : Int} (h1 : 0 ≤ x) (h2 : x ≤ (k : Nat)) (h3 : 0 ≤ y) (h4 : y ≤ (k : Nat)) : ∀ ts : List Term, sees (C k) y (sees (C k) x ts) = sees (C k) (min x y) ts
  | [] => rfl
  | t :: ts => by rw [sees, sees, sees, see_see h1 h2 h3 h4 t, sees_sees h1 h2 h3 h4 ts]
end
mutual
theorem see_top : ∀ t : Term, t.see (C k) (k : Nat) = t
  | .node kd n s ks => by
    obtain ⟨l1, l2⟩ := C_lev hk n
    rw [Term.see, if_neg, sees_top ks]
    rintro ⟨_, e⟩
    rw [C_leq hk, decide_eq_false_iff_not] at e
    omega
theorem sees_top : ∀ ts : List Term, sees (C k) (k : Nat) ts = ts
  | [] => rfl
  | t :: ts => by rw [sees, see_top t, sees_top ts]
end
/-- What is seen of a clause at a level is one. -/
theorem see_lab {x : Int} (t : Term) : (t.see (C k) x).lab = t.lab := by
  rw [see_eq]
  split
  · rename_i h
    have e1 : t.lab = false := by
      cases hl : t.lab with
      | false => rfl
      | true => have := (lab_iff.1 hl).1; rw [h.1] at this; cases this
    rw [e1]; rfl
  · exact lab_like rfl rfl (sees_len _ _ _)
theorem see_hid {x y : Int} (h1 : 0 ≤ y) (t : Term) : hid (C k) y (t.see (C k) x) = hid (C k) y t := by
  cases hl : t.lab with
  | false => rw [hid_no hl, hid_no ((see_lab hk t).trans hl)]
  | true =>
    have hl' := (see_lab hk (x := x) t).trans hl
    obtain ⟨k1, _, k3⟩ := lab_iff.1 hl
    have e : t.see (C k) x = .node t.kind t.num t.name (sees (C k) x t.kids) := by rw [see_eq, if_neg (fun h => by rw [k1] at h; exact absurd h.1 (by decide))]
    have h0 : 0 < t.kids.length := by omega
    have h0' : 0 < (t.see (C k) x).kids.length := by rw [e]; show 0 < (sees _ _ _).length; rw [sees_len]; omega
    rw [hid_lab hl h0, hid_lab hl' h0']
    have e2 : (t.see (C k) x).kids[0] = (t.kids[0]).see (C k) x := by simp only [e, Term.kids, sees_map, List.getElem_map]
    rw [e2, see_eq]
    split
    · rename_i h
      unfold hid1
      rw [h.1]; rfl
    · rfl
theorem hid_mono {x y : Int} (h1 : x ≤ y) (h2 : 0 ≤ x) (h3 : y ≤ (k : Nat)) (t : Term) (h : hid (C k) y t = true) : hid (C k) x t = true := by
  unfold hid hid1 at h ⊢
  simp only [Bool.and_eq_true, Bool.not_eq_true', decide_eq_true_eq] at h ⊢
  obtain ⟨e1, ⟨⟨e2, e3⟩, e4⟩, e5⟩ := h
  refine ⟨e1, ⟨⟨e2, e3⟩, e4⟩, ?_⟩
  rw [C_leq hk, decide_eq_false_iff_not] at e5 ⊢
  have := C_n hk
  omega
theorem hid_top (t : Term) : hid (C k) (k : Nat) t = false := by
  cases h : hid (C k) (k : Nat) t with
  | false => rfl
  | true =>
    unfold hid hid1 at h
    simp only [Bool.and_eq_true, Bool.not_eq_true', decide_eq_true_eq] at h
    obtain ⟨e1, ⟨⟨e2, e3⟩, e4⟩, e5⟩ := h
    rw [C_leq hk, decide_eq_false_iff_not] at e5
    have := C_n hk
    omega
theorem low_low {x y : Int} (h1 : 0 ≤ x) (h2 : x ≤ (k : Nat)) (h3 : 0 ≤ y) (h4 : y ≤ (k : Nat)) (h5 : y ≤ x) (ts : List Term) : low (C k) y (low (C k) x ts) = low (C k) y ts := by
  unfold low
  rw [List.filter_map, List.map_map, List.filter_filter]
  have e1 : (ts.filter fun a => ((fun t => !hid (C k) y t) ∘ Term.see (C k) x) a && !hid (C k) x a) = ts.filter fun t => !hid (C k) y t := by
    apply List.filter_congr
    intro t _
    simp only [Function.comp, see_hid hk h3]
    cases hy : hid (C k) y t with
    | true => rfl
    | false =>
      cases hx : hid (C k) x t with
      | false => rfl
      | true => rw [hid_mono hk h5 h3 h2 t hx] at hy; cases hy
  rw [e1]
  apply List.map_congr_left
  intro t _
  show (t.see (C k) x).see (C k) y = _
  rw [see_see hk h1 h2 h3 h4, show min x y = y by omega]
theorem low_top (ts : List Term) : low (C k) (k : Nat) ts = ts := by
  unfold low
  rw [List.filter_eq_self.2 fun t _ => by rw [hid_top hk]; rfl]
  conv => rhs; rw [← List.map_id ts]
  exact List.map_congr_left fun t _ => see_top hk t
theorem low_mono {x y : Int} (h1 : x ≤ y) (h2 : 0 ≤ x) (h3 : y ≤ (k : Nat)) (ts : List Term) : (low (C k) x ts).length ≤ (low (C k) y ts).length := by
  unfold low
  rw [List.length_map, List.length_map]
  induction ts with
  | nil => exact Nat.le_refl _
  | cons t ts ih =>
    simp only [List.filter_cons]
    cases hx : hid (C k) x t with
    | true =>
      cases hy : hid (C k) y t with
      | true => simpa using ih
      | false => simp; omega
    | false =>
      cases hy : hid (C k) y t with
      | true => rw [hid_mono hk h1 h2 h3 t hy] at hx; cases hx
      | false => simpa using ih
theorem low_append (x : Int) (a b : List Term) : low (C k) x (a ++ b) = low (C k) x a ++ low (C k) x b := by unfold low; rw [List.filter_append, List.map_append]
omit hk in
theorem plain_append (a b : List Term) : plain (a ++ b) = plain a ++ plain b := by unfold plain; rw [List.map_append]
mutual
/-- What has no seals is seen as it is. -/
theorem see_erased {lv : Int} : ∀ t : Term, t.fine lv = true → ∀ x, t.erase.see (C k) x = t.erase
  | .node kd n s ks, h, x => by
    by_cases h4 : kd = 4
    · subst h4
      have h1 := (fine_seal h rfl).1
      have h2 : ks.length = 1 := (isS_iff.1 h1).2
      match ks, h2, h with
      | [y], _, h => rw [erase_s]; exact see_erased y (fine_kid h (by simp [Term.kids])) x
    · have hf : (Term.node kd n s ks).isS = false := by simp [Term.isS, Term.kind, h4]
      rw [erase_node hf]
      show (Term.node kd n s (erases ks)).see (C k) x = Term.node kd n s (erases ks)
      rw [Term.see, if_neg (fun hh => h4 hh.1), sees_erased ks (by rw [Term.fine, Bool.and_eq_true] at h; exact h.2) x]
theorem sees_erased {lv : Int} : ∀ ts : List Term, fines lv ts = true → ∀ x, sees (C k) x (erases ts) = erases ts
  | [], _, _ => rfl
  | t :: ts, h, x => by
    rw [fines, Bool.and_eq_true] at h
    rw [erases, sees, see_erased t h.1 x, sees_erased ts h.2 x]
end
end
theorem fine_plain1 {lv : Int} {t : Term} (h : t.fine lv = true) : ∃ u : Term, u.fine lv = true ∧ plain1 t = u.erase := by
  cases hl : t.lab with
  | false => exact ⟨t, h, plain1_no hl⟩
  | true =>
    have h1 : 1 < t.kids.length := by have := (lab_iff.1 hl).2.2; omega
    exact ⟨t.kids[1], fine_kid h (List.getElem_mem h1), plain1_lab hl h1⟩
end Go.Proofs.Ytljmkgjemmoegaa.AM
