/- The order. -/
import Derived.Test.YthpiggjclhnkcaaV0
namespace Go.Proofs.Ythpiggjclhnkcaa.AM
open Go
set_option linter.unusedVariables false
set_option linter.unusedSimpArgs false
theorem cmpI_neg (a b : Int) : cmpI b a = -cmpI a b := by
  unfold cmpI
  by_cases h1 : a < b
  · rw [if_pos h1, if_neg (by omega), if_pos h1]; rfl
  · by_cases h2 : b < a
    · rw [if_pos h2, if_neg h1, if_pos h2]
    · rw [if_neg h2, if_neg h1, if_neg h1, if_neg h2]; rfl
theorem cmpS_neg (a b : ByteArray) : cmpS b a = -cmpS a b := by
  unfold cmpS
  by_cases h1 : Op.bytesLess a.toList b.toList = true
  · rw [if_pos h1, if_neg (fun h => bytes_asym h1 h), if_pos h1]; rfl
  · by_cases h2 : Op.bytesLess b.toList a.toList = true
    · rw [if_pos h2, if_neg h1, if_pos h2]
    · rw [if_neg h2, if_neg h1, if_neg h1, if_neg h2]; rfl
def or2 (x y : Int) : Int := if x ≠ 0 then x else y
theorem orI_or2 (x : Int) (l : List Int) : orI (x :: l) = or2 x (orI l) := rfl
theorem or2_neg (x y : Int) : or2 (-x) (-y) = -or2 x y := by
  unfold or2
  by_cases h : x = 0
  · rw [if_neg (by omega), if_neg (by omega)]
  · rw [if_pos (by omega), if_pos h]
theorem headC_neg (a b : Term) : headC b a = -headC a b := by
  by_cases h : a.kind = b.kind
  · by_cases h1 : a.kind = 1 ∨ a.kind = 2
    · rw [headC_num h h1, headC_num h.symm (by rw [← h]; exact h1), cmpI_neg]
    · by_cases h2 : a.kind = 3
      · rw [headC_fun h h2, headC_fun h.symm (by omega)]
        simp only [orI_or2, cmpI_neg a.kids.length b.kids.length, cmpS_neg a.name b.name]
        rw [← or2_neg, ← or2_neg]; rfl
      · rw [headC_other (by omega), headC_other (by omega)]
        simp only [orI_or2, cmpI_neg a.kids.length b.kids.length, cmpS_neg a.name b.name, cmpI_neg a.kind b.kind, cmpI_neg a.num b.num]
        rw [← or2_neg, ← or2_neg, ← or2_neg, ← or2_neg]; rfl
  · rw [headC_other (by omega), headC_other (by omega)]
    simp only [orI_or2, cmpI_neg a.kids.length b.kids.length, cmpS_neg a.name b.name, cmpI_neg a.kind b.kind, cmpI_neg a.num b.num]
    rw [← or2_neg, ← or2_neg, ← or2_neg, ← or2_neg]; rfl
theorem headC_kind {a b : Term} (h : headC a b = 0) : a.kind = b.kind := by
  by_cases e : a.kind = b.kind
  · exact e
  · rw [headC_other (by omega), orI_or2] at h
    have : cmpI a.kind b.kind ≠ 0 := fun hh => e (cmpI_zero.1 hh)
    unfold or2 at h; rw [if_pos this] at h; exact absurd h this
mutual
theorem bare_neg : ∀ a b : Term, b.bare a = -a.bare b
  | .node k n s ks, b => by
    rw [bare_eq b, bare_eq (.node k n s ks)]
    rw [headC_neg (.node k n s ks) b]
    by_cases h : headC (.node k n s ks) b = 0
    · have hk := headC_kind h
      have hk : k = b.kind := hk
      by_cases h1 : k = 1 ∨ k = 2
      · rw [if_pos (.inr (by rw [← hk]; exact h1)), if_pos (.inr h1)]
      · rw [if_neg (fun e => e.elim (fun e => e (by omega)) (by rw [← hk]; exact h1)), if_neg (fun e => e.elim (fun e => e h) h1)]
        exact bares_neg ks b.kids
    · rw [if_pos (.inl (by omega)), if_pos (.inl h)]
theorem bares_neg : ∀ l m : List Term, bares m l = -bares l m
  | [], [] => rfl
  | [], _ :: _ => rfl
  | _ :: _, [] => rfl
  | x :: l, y :: m => by
    rw [bares, bares, bare_neg x y, bares_neg l m]
    exact or2_neg _ _
end
theorem bare_refl (a : Term) : a.bare a = 0 := by have := bare_neg a a; omega
theorem bares_refl (l : List Term) : bares l l = 0 := by have := bares_neg l l; omega
/-- Three comparisons that go together. -/
def Tr (x y z : Int) : Prop := x ≤ 0 → y ≤ 0 → z ≤ 0 ∧ (z = 0 → x = 0 ∧ y = 0)
theorem Tr.or {x y z x' y' z' : Int} (h : Tr x y z) (h' : Tr x' y' z') : Tr (or2 x x') (or2 y y') (or2 z z') := by
  intro h1 h2
  unfold or2 at h1 h2 ⊢
  have hx : x ≤ 0 := by split at h1 <;> omega
  have hy : y ≤ 0 := by split at h2 <;> omega
  obtain ⟨e1, e2⟩ := h hx hy
  by_cases hz : z = 0
  · obtain ⟨rfl, rfl⟩ := e2 hz
    subst hz
    simp only [ne_eq, not_true_eq_false, if_false] at h1 h2 ⊢
    exact h' h1 h2
  · rw [if_pos hz]
    exact ⟨e1, fun e => absurd e hz⟩
theorem cmpI_tr (a b c : Int) : Tr (cmpI a b) (cmpI b c) (cmpI a c) := by
  intro h1 h2
  unfold cmpI at *
  split at h1 <;> split at h2 <;> (try split at h1) <;> (try split at h2) <;> (try omega) <;> (constructor <;> (try intro h)) <;> (repeat' split) <;> (try omega) <;> (repeat' split at h) <;> omega
theorem cmpI_self (a : Int) : cmpI a a = 0 := cmpI_zero.2 rfl
theorem cmpS_self (a : ByteArray) : cmpS a a = 0 := by have := cmpS_neg a a; omega
theorem compare_refl (a : Term) : compareT a a = 0 := bare_refl _
theorem compare_neg (a b : Term) : compareT b a = -compareT a b := bare_neg _ _
theorem compare_put (a b : Term) (n : Int) : compareT (putS a n) b = compareT a b ∧ compareT a (putS b n) = compareT a b := by
  unfold compareT; rw [erase_put, erase_put]; exact ⟨rfl, rfl⟩
theorem compare_erase (a b : Term) : compareT a.erase b = compareT a b := by unfold compareT; rw [erase_erase]
theorem compare_pair (s : ByteArray) (a b c d : Term) : compareT (.node 3 0 s [a, c]) (.node 3 0 s [b, d]) = or2 (compareT a b) (compareT c d) := by
  have e : ∀ x y : Term, (Term.node 3 0 s [x, y]).erase = .node 3 0 s [x.erase, y.erase] := fun x y => by simp [Term.erase, erases]
  have h : headC (.node 3 0 s [a.erase, c.erase]) (.node 3 0 s [b.erase, d.erase]) = 0 := by
    rw [headC_fun (by rfl) (by rfl)]
    show orI [cmpI _ _, cmpS s s] = 0
    rw [orI_cons, orI_cons]
    exact ⟨cmpI_zero.2 rfl, cmpS_self s, rfl⟩
  unfold compareT
  rw [e, e, bare_eq (.node 3 0 s [a.erase, c.erase]), if_neg (fun hh => hh.elim (fun hh => hh h) (fun hh => by rcases hh with hh | hh <;> exact absurd hh (by show ¬ (3 : Int) = _; decide)))]
  show bares [a.erase, c.erase] [b.erase, d.erase] = _
  rw [bares, bares]
  unfold or2
  split
  · rfl
  · split
    · rfl
    · rename_i h1; rw [bares]; omega
def adjB : List Term → Bool
  | x :: y :: l => (compareT y x != 0) && adjB (y :: l)
  | _ => true
theorem adj_no : ∀ {l : List Term}, adjB l = true → ∀ (i : Nat) (x y : Term), l[i + 1]? = some x → l[i]? = some y → compareT x y ≠ 0
  | [], _, i, x, y, h, _ => by simp at h
  | [_], _, i, x, y, h, _ => by simp at h
  | a :: b :: l, hb, 0, x, y, h1, h2 => by
    simp at h1 h2
    subst h1; subst h2
    rw [adjB, Bool.and_eq_true, bne_iff_ne] at hb
    exact hb.1
  | a :: b :: l, hb, i + 1, x, y, h1, h2 => by
    rw [adjB, Bool.and_eq_true] at hb
    exact adj_no hb.2 i x y (by simpa using h1) (by simpa using h2)
end Go.Proofs.Ythpiggjclhnkcaa.AM
