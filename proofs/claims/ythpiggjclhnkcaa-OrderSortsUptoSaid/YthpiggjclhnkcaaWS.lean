/- Lists in order: one merged with another one, parts turned about. -/
import Derived.Test.YthpiggjclhnkcaaV3
import Derived.Test.YthpiggjclhnkcaaV1
namespace Go.Proofs.Ythpiggjclhnkcaa.AM
open Go
set_option linter.unusedVariables false
set_option linter.unusedSimpArgs false
theorem cT_neg (a b : Term) : compareT b a = -compareT a b := compare_neg a b
theorem cT_tr (a b c : Term) : Tr (compareT a b) (compareT b c) (compareT a c) := bare_tr _ _ _
theorem cT_le {a b c : Term} (h1 : compareT a b ≤ 0) (h2 : compareT b c ≤ 0) : compareT a c ≤ 0 := (cT_tr a b c h1 h2).1
theorem cT_lt_le {a b c : Term} (h1 : compareT a b < 0) (h2 : compareT b c ≤ 0) : compareT a c < 0 := by
  obtain ⟨h3, h4⟩ := cT_tr a b c (by omega) h2
  by_cases h : compareT a c = 0
  · have := (h4 h).1; omega
  · omega
theorem cT_le_lt {a b c : Term} (h1 : compareT a b ≤ 0) (h2 : compareT b c < 0) : compareT a c < 0 := by
  obtain ⟨h3, h4⟩ := cT_tr a b c h1 (by omega)
  by_cases h : compareT a c = 0
  · have := (h4 h).2; omega
  · omega
def mergeT : List Term → List Term → List Term
  | [], B => B
  | x :: A, [] => x :: A
  | x :: A, y :: B => if compareT y x < 0 then y :: mergeT (x :: A) B else x :: mergeT A (y :: B)
termination_by A B => A.length + B.length
theorem merge_nil (B : List Term) : mergeT [] B = B := by rw [mergeT]
theorem merge_nil' (A : List Term) : mergeT A [] = A := by cases A <;> rw [mergeT]
theorem merge_lt {x y : Term} {A B : List Term} (h : compareT y x < 0) : mergeT (x :: A) (y :: B) = y :: mergeT (x :: A) B := by rw [mergeT, if_pos h]
theorem merge_ge {x y : Term} {A B : List Term} (h : ¬ compareT y x < 0) : mergeT (x :: A) (y :: B) = x :: mergeT A (y :: B) := by rw [mergeT, if_neg h]
theorem merge_parts : ∀ (n : Nat) (A1 A2 B1 B2 : List Term), A1.length + B1.length ≤ n → (∀ x ∈ A1, ∀ y ∈ B2, compareT x y ≤ 0) → (∀ y ∈ B1, ∀ x ∈ A2, compareT y x < 0) → mergeT (A1 ++ A2) (B1 ++ B2) = mergeT A1 B1 ++ mergeT A2 B2
  | n, [], A2, [], B2, _, _, _ => by rw [merge_nil]; rfl
  | 0, x :: A1, _, _, _, h, _, _ => by simp at h
  | 0, [], _, y :: B1, _, h, _, _ => by simp at h
  | n + 1, [], A2, y :: B1, B2, h, h1, h2 => by
    rw [merge_nil]
    have ih := merge_parts n [] A2 B1 B2 (by simp at h ⊢; omega) (fun x hx => by cases hx) (fun z hz x hx => h2 z (by simp [hz]) x hx)
    rw [merge_nil] at ih
    cases A2 with
    | nil => simp only [List.nil_append, merge_nil]
    | cons x A2 =>
      have hlt := h2 y (by simp) x (by simp)
      simp only [List.nil_append, List.cons_append] at ih ⊢
      rw [merge_lt hlt, ih]
  | n + 1, x :: A1, A2, [], B2, h, h1, h2 => by
    rw [merge_nil']
    have ih := merge_parts n A1 A2 [] B2 (by simp at h ⊢; omega) (fun z hz y hy => h1 z (by simp [hz]) y hy) (fun y hy => by cases hy)
    rw [merge_nil'] at ih
    cases B2 with
    | nil => simp only [List.append_nil, merge_nil'] 
    | cons y B2 =>
      have hle := h1 x (by simp) y (by simp)
      have hn := cT_neg x y
      simp only [List.nil_append, List.cons_append] at ih ⊢
      rw [merge_ge (by omega), ih]
  | n + 1, x :: A1, A2, y :: B1, B2, h, h1, h2 => by
    simp only [List.cons_append]
    by_cases hc : compareT y x < 0
    · rw [merge_lt hc, merge_lt hc]
      have ih := merge_parts n (x :: A1) A2 B1 B2 (by simp at h ⊢; omega) h1 (fun z hz w hw => h2 z (by simp [hz]) w hw)
      simp only [List.cons_append] at ih ⊢
      rw [ih]
    · rw [merge_ge hc, merge_ge hc]
      have ih := merge_parts n A1 A2 (y :: B1) B2 (by simp at h ⊢; omega) (fun z hz w hw => h1 z (by simp [hz]) w hw) h2
      simp only [List.cons_append] at ih ⊢
      rw [ih]
theorem merge_len : ∀ (n : Nat) (A B : List Term), A.length + B.length ≤ n → (mergeT A B).length = A.length + B.length
  | n, [], B, _ => by rw [merge_nil]; simp
  | n, x :: A, [], _ => by rw [merge_nil']; simp
  | 0, x :: A, y :: B, h => by simp at h
  | n + 1, x :: A, y :: B, h => by
    by_cases hc : compareT y x < 0
    · rw [merge_lt hc, List.length_cons, merge_len n (x :: A) B (by simp at h ⊢; omega)]; simp; omega
    · rw [merge_ge hc, List.length_cons, merge_len n A (y :: B) (by simp at h ⊢; omega)]; simp; omega
theorem merge_mem : ∀ (n : Nat) (A B : List Term) (z : Term), A.length + B.length ≤ n → (z ∈ mergeT A B ↔ z ∈ A ∨ z ∈ B)
  | n, [], B, z, _ => by rw [merge_nil]; simp
  | n, x :: A, [], z, _ => by rw [merge_nil']; simp
  | 0, x :: A, y :: B, z, h => by simp at h
  | n + 1, x :: A, y :: B, z, h => by
    by_cases hc : compareT y x < 0
    · rw [merge_lt hc, List.mem_cons, merge_mem n (x :: A) B z (by simp at h ⊢; omega)]
      simp only [List.mem_cons]
      constructor
      · rintro (h | (h | h) | h) <;> simp [h]
      · rintro ((h | h) | (h | h)) <;> simp [h]
    · rw [merge_ge hc, List.mem_cons, merge_mem n A (y :: B) z (by simp at h ⊢; omega)]
      simp only [List.mem_cons]
      constructor
      · rintro (h | h | (h | h)) <;> simp [h]
      · rintro ((h | h) | (h | h)) <;> simp [h]
def SoT (l : List Term) : Prop := l.Pairwise fun x y => compareT x y ≤ 0
theorem merge_sorted : ∀ (n : Nat) (A B : List Term), A.length + B.length ≤ n → SoT A → SoT B → SoT (mergeT A B)
  | n, [], B, _, _, hB => by rw [merge_nil]; exact hB
  | n, x :: A, [], _, hA, _ => by rw [merge_nil']; exact hA
  | 0, x :: A, y :: B, h, _, _ => by simp at h
  | n + 1, x :: A, y :: B, h, hA, hB => by
    have hx := List.pairwise_cons.1 hA
    have hy := List.pairwise_cons.1 hB
    by_cases hc : compareT y x < 0
    · rw [merge_lt hc]
      refine List.pairwise_cons.2 ⟨fun z hz => ?_, merge_sorted n (x :: A) B (by simp at h ⊢; omega) hA hy.2⟩
      rcases (merge_mem _ _ _ z (Nat.le_refl _)).1 hz with hz | hz
      · rcases List.mem_cons.1 hz with rfl | hz
        · omega
        · exact cT_le (by omega) (hx.1 z hz)
      · exact hy.1 z hz
    · rw [merge_ge hc]
      have hn := cT_neg x y
      refine List.pairwise_cons.2 ⟨fun z hz => ?_, merge_sorted n A (y :: B) (by simp at h ⊢; omega) hx.2 hB⟩
      rcases (merge_mem _ _ _ z (Nat.le_refl _)).1 hz with hz | hz
      · exact hx.1 z hz
      · rcases List.mem_cons.1 hz with rfl | hz
        · omega
        · exact cT_le (b := y) (by omega) (hy.1 z hz)
theorem merge_one {x : Term} {B1 B2 : List Term} (h1 : ∀ y ∈ B1, compareT y x < 0) (h2 : ∀ y ∈ B2, compareT x y ≤ 0) : mergeT [x] (B1 ++ B2) = B1 ++ x :: B2 := by
  have := merge_parts _ [] [x] B1 B2 (Nat.le_refl _) (fun z hz => by cases hz) (fun y hy z hz => by simp at hz; subst hz; exact h1 y hy)
  rw [List.nil_append, merge_nil] at this
  rw [this]
  congr 1
  cases B2 with
  | nil => rw [merge_nil']
  | cons y B2 =>
    have := h2 y (by simp)
    have hn := cT_neg x y
    rw [merge_ge (by omega), merge_nil]
theorem merge_one' {y : Term} {A1 A2 : List Term} (h1 : ∀ x ∈ A1, compareT x y ≤ 0) (h2 : ∀ x ∈ A2, compareT y x < 0) : mergeT (A1 ++ A2) [y] = A1 ++ y :: A2 := by
  have := merge_parts _ A1 A2 [] [y] (Nat.le_refl _) (fun x hx z hz => by simp at hz; subst hz; exact h1 x hx) (fun z hz => by cases hz)
  rw [List.nil_append, merge_nil'] at this
  rw [this]
  congr 1
  cases A2 with
  | nil => rw [merge_nil]
  | cons x A2 => rw [merge_lt (h2 x (by simp)), merge_nil']

/-! Parts of a list. -/
def seg (l : List Term) (i j : Nat) : List Term := (l.take j).drop i
theorem seg_len {l : List Term} {i j : Nat} (hj : j ≤ l.length) : (seg l i j).length = j - i := by simp [seg]; omega
theorem seg_cat {l : List Term} {i k j : Nat} (h1 : i ≤ k) (h2 : k ≤ j) (hj : j ≤ l.length) : seg l i j = seg l i k ++ seg l k j := by
  apply List.ext_getElem?
  intro n
  unfold seg
  by_cases h : n < k - i
  · rw [List.getElem?_append_left (by simp; omega), List.getElem?_drop, List.getElem?_drop, List.getElem?_take, List.getElem?_take, if_pos (by omega), if_pos (by omega)]
  · rw [List.getElem?_append_right (by simp; omega), List.getElem?_drop, List.getElem?_drop, List.length_drop, List.length_take, List.getElem?_take, List.getElem?_take]
    rw [show k + (n - (min k l.length - i)) = i + n by omega]
theorem seg_mem {l : List Term} {i j : Nat} {x : Term} (h : x ∈ seg l i j) : ∃ k, i ≤ k ∧ k < j ∧ l[k]? = some x := by
  obtain ⟨n, hn⟩ := List.mem_iff_getElem?.1 h
  unfold seg at hn
  rw [List.getElem?_drop, List.getElem?_take] at hn
  split at hn
  · exact ⟨i + n, by omega, by omega, hn⟩
  · cases hn
theorem seg_all {l : List Term} {a b : Nat} (h1 : a ≤ b) (h2 : b ≤ l.length) : l = l.take a ++ seg l a b ++ l.drop b := by
  have e1 : l.take a = seg l 0 a := by simp [seg]
  have e2 : l.drop b = seg l b l.length := by simp [seg]
  rw [e1, e2, ← seg_cat (Nat.zero_le _) h1 h2, ← seg_cat (Nat.zero_le _) h2 (Nat.le_refl _)]
  simp [seg]
/-- The part from a to b, made X. -/
def put2 (l : List Term) (a b : Nat) (X : List Term) : List Term := l.take a ++ X ++ l.drop b
def rotF (l : List Term) (a m b : Nat) : List Term := put2 l a b (seg l m b ++ seg l a m)
def symF (l : List Term) (a m b : Nat) : List Term := put2 l a b (mergeT (seg l a m) (seg l m b))
theorem put2_len {l : List Term} {a b : Nat} {X : List Term} (h1 : a ≤ b) (h2 : b ≤ l.length) (hX : X.length = b - a) : (put2 l a b X).length = l.length := by
  unfold put2; simp [hX]; omega
theorem rotF_len {l : List Term} {a m b : Nat} (h1 : a ≤ m) (h2 : m ≤ b) (h3 : b ≤ l.length) : (rotF l a m b).length = l.length :=
  put2_len (by omega) h3 (by rw [List.length_append, seg_len h3, seg_len (by omega)]; omega)
theorem symF_len {l : List Term} {a m b : Nat} (h1 : a ≤ m) (h2 : m ≤ b) (h3 : b ≤ l.length) : (symF l a m b).length = l.length :=
  put2_len (by omega) h3 (by rw [merge_len _ _ _ (Nat.le_refl _), seg_len h3, seg_len (by omega)]; omega)
theorem put2_mem {l : List Term} {a b : Nat} {X : List Term} {z : Term} (hX : ∀ x ∈ X, x ∈ l) (h : z ∈ put2 l a b X) : z ∈ l := by
  unfold put2 at h
  rcases List.mem_append.1 h with h | h
  · rcases List.mem_append.1 h with h | h
    · exact List.mem_of_mem_take h
    · exact hX z h
  · exact List.mem_of_mem_drop h
theorem seg_sub {l : List Term} {i j : Nat} {z : Term} (h : z ∈ seg l i j) : z ∈ l := List.mem_of_mem_take (List.mem_of_mem_drop h)

/-! What sorting by sinking comes to; merges one behind the other. -/
theorem seg_one {l : List Term} {j : Nat} {x : Term} (h : l[j]? = some x) : seg l j (j + 1) = [x] := by
  have hj := (List.getElem?_eq_some_iff.1 h).1
  have e := (List.getElem?_eq_some_iff.1 h).2
  unfold seg
  rw [List.take_succ_eq_append_getElem hj, List.drop_append_of_le_length (by simp; omega), e]
  simp
theorem seg_snoc {l : List Term} {i j : Nat} {x : Term} (hi : i ≤ j) (h : l[j]? = some x) : seg l i (j + 1) = seg l i j ++ [x] := by
  have hj := (List.getElem?_eq_some_iff.1 h).1
  rw [seg_cat hi (Nat.le_succ j) (by omega), seg_one h]
theorem seg_same (l : List Term) (i : Nat) : seg l i i = [] := by unfold seg; rw [List.drop_eq_nil_iff]; simp; omega
theorem put2_seg {l : List Term} {a b : Nat} (h1 : a ≤ b) (h2 : b ≤ l.length) : put2 l a b (seg l a b) = l := (seg_all h1 h2).symm
theorem drop_cons {l : List Term} {j : Nat} {x : Term} (h : l[j]? = some x) : l.drop j = x :: l.drop (j + 1) := by
  have hj := (List.getElem?_eq_some_iff.1 h).1
  rw [List.drop_eq_getElem_cons hj, (List.getElem?_eq_some_iff.1 h).2]
theorem seg_congr {l l' : List Term} {i j : Nat} (hl : l.length = l'.length) (h : ∀ k, i ≤ k → k < j → l[k]? = l'[k]?) : seg l i j = seg l' i j := by
  apply List.ext_getElem?
  intro n
  unfold seg
  rw [List.getElem?_drop, List.getElem?_drop, List.getElem?_take, List.getElem?_take]
  split
  · exact h _ (by omega) (by omega)
  · rfl
theorem swapT_get {l : List Term} {j : Nat} {x y : Term} (h : j + 1 < l.length) (k : Nat) : (swapT l (j + 1) j x y)[k]? = if k = j then some x else if k = j + 1 then some y else l[k]? := by
  unfold swapT
  rw [List.getElem?_set, List.getElem?_set]
  by_cases h1 : k = j
  · subst h1; rw [if_pos rfl, if_pos rfl, if_pos (by simp; omega)]
  · rw [if_neg (show ¬ j = k from fun e => h1 e.symm), if_neg h1]
    by_cases h2 : k = j + 1
    · subst h2; rw [if_pos rfl, if_pos rfl, if_pos h]
    · rw [if_neg (show ¬ j + 1 = k from fun e => h2 e.symm), if_neg h2]
/-- An element that sinks stands behind all that are not ahead of it. -/
theorem sink_put : ∀ (j : Nat) (l : List Term) (a : Nat) (x : Term), a ≤ j → l[j]? = some x → SoT (seg l a j) → sink compareT a j l = put2 l a (j + 1) (mergeT (seg l a j) [x])
  | 0, l, a, x, ha, hx, _ => by
    have hj := (List.getElem?_eq_some_iff.1 hx).1
    have e : a = 0 := by omega
    subst e
    rw [seg_same, merge_nil, ← seg_one hx, put2_seg (by omega) (by omega)]; rfl
  | j + 1, l, a, x, ha, hx, hs => by
    have hj := (List.getElem?_eq_some_iff.1 hx).1
    by_cases e : a = j + 1
    · subst e
      rw [sink_stop (Nat.le_refl _), seg_same, merge_nil, ← seg_one hx, put2_seg (by omega) (by omega)]
    · obtain ⟨y, hy⟩ : ∃ y, l[j]? = some y := ⟨_, List.getElem?_eq_getElem (by omega)⟩
      have hss : seg l a (j + 1) = seg l a j ++ [y] := seg_snoc (by omega) hy
      rw [hss] at hs ⊢
      have hs1 := (List.pairwise_append.1 hs).1
      have hs2 := (List.pairwise_append.1 hs).2.2
      by_cases hc : compareT x y < 0
      · rw [sink_go hx hy (by omega) hc]
        have hg := swapT_get (x := x) (y := y) hj
        have hseg : seg (swapT l (j + 1) j x y) a j = seg l a j := seg_congr (swapT_len ..) fun k h1 h2 => by rw [hg, if_neg (by omega), if_neg (by omega)]
        have ih := sink_put j (swapT l (j + 1) j x y) a x (by omega) (by rw [hg, if_pos rfl]) (by rw [hseg]; exact hs1)
        rw [ih, hseg]
        have hm : mergeT (seg l a j ++ [y]) [x] = mergeT (seg l a j) [x] ++ [y] := by
          have := merge_parts _ (seg l a j) [y] [x] [] (Nat.le_refl _) (fun z _ w hw => by cases hw) (fun z hz w hw => by simp at hz hw; subst hz; subst hw; exact hc)
          rw [List.append_nil, merge_nil'] at this; exact this
        rw [hm]
        unfold put2
        have ht : (swapT l (j + 1) j x y).take a = l.take a := by
          apply List.ext_getElem?; intro k
          rw [List.getElem?_take, List.getElem?_take]
          split
          · rw [hg, if_neg (by omega), if_neg (by omega)]
          · rfl
        have hd : (swapT l (j + 1) j x y).drop (j + 1) = y :: l.drop (j + 2) := by
          rw [drop_cons (x := y) (by rw [hg, if_neg (by omega), if_pos rfl])]
          congr 1
          apply List.ext_getElem?; intro k
          rw [List.getElem?_drop, List.getElem?_drop, hg, if_neg (by omega), if_neg (by omega)]
        rw [ht, hd]; simp
      · rw [sink_end hx hy hc]
        have hn := cT_neg x y
        have hall : ∀ z ∈ seg l a j ++ [y], compareT z x ≤ 0 := fun z hz => by
          rcases List.mem_append.1 hz with hz | hz
          · exact cT_le (hs2 z hz y (by simp)) (by omega)
          · simp at hz; subst hz; omega
        have hm : mergeT (seg l a j ++ [y]) [x] = seg l a j ++ [y] ++ [x] := by
          have := merge_one' (A1 := seg l a j ++ [y]) (A2 := []) hall (fun z hz => by cases hz)
          rw [List.append_nil] at this; exact this
        rw [hm, ← hss, ← seg_snoc (by omega) hx, put2_seg (by omega) (by omega)]
def insT (S : List Term) (x : Term) : List Term := mergeT S [x]
/-- In order; what is alike stands as it stood. -/
def isrt (l : List Term) : List Term := l.foldl insT []
theorem isrt_snoc (l : List Term) (x : Term) : isrt (l ++ [x]) = mergeT (isrt l) [x] := by unfold isrt; rw [List.foldl_append]; rfl
theorem so_one (x : Term) : SoT [x] := List.pairwise_singleton _ _
theorem isrt_so : ∀ (n : Nat) (l : List Term), l.length = n → SoT (isrt l)
  | 0, l, h => by rw [List.eq_nil_of_length_eq_zero h]; exact List.Pairwise.nil
  | n + 1, l, h => by
    have hne : l ≠ [] := fun e => by subst e; cases h
    rw [← List.dropLast_concat_getLast hne, isrt_snoc]
    exact merge_sorted _ _ _ (Nat.le_refl _) (isrt_so n _ (by simp; omega)) (so_one _)
theorem isrt_sorted (l : List Term) : SoT (isrt l) := isrt_so _ l rfl
theorem isrt_len : ∀ (n : Nat) (l : List Term), l.length = n → (isrt l).length = n
  | 0, l, h => by rw [List.eq_nil_of_length_eq_zero h]; rfl
  | n + 1, l, h => by
    have hne : l ≠ [] := fun e => by subst e; cases h
    rw [← List.dropLast_concat_getLast hne, isrt_snoc, merge_len _ _ _ (Nat.le_refl _), isrt_len n _ (by simp; omega)]; rfl
theorem isrt_mem_go : ∀ (n : Nat) (l : List Term) (z : Term), l.length = n → (z ∈ isrt l ↔ z ∈ l)
  | 0, l, z, h => by rw [List.eq_nil_of_length_eq_zero h]; exact Iff.rfl
  | n + 1, l, z, h => by
    have hne : l ≠ [] := fun e => by subst e; cases h
    have hd := List.dropLast_concat_getLast hne
    have e : isrt l = mergeT (isrt l.dropLast) [l.getLast hne] := by rw [← isrt_snoc, hd]
    rw [e, merge_mem _ _ _ _ (Nat.le_refl _), isrt_mem_go n l.dropLast z (by simp; omega)]
    conv => rhs; rw [← hd]
    rw [List.mem_append]
theorem isrt_mem (l : List Term) (z : Term) : z ∈ isrt l ↔ z ∈ l := isrt_mem_go _ l z rfl
/-- Sorting a part by sinking. -/
theorem isortF_put (l : List Term) (a : Nat) : ∀ n, a + 1 + n ≤ l.length → isortF compareT a n l = put2 l a (a + 1 + n) (isrt (seg l a (a + 1 + n)))
  | 0, h => by
    obtain ⟨x, hx⟩ : ∃ x, l[a]? = some x := ⟨_, List.getElem?_eq_getElem (by omega)⟩
    have e : isrt (seg l a (a + 1 + 0)) = seg l a (a + 1) := by rw [Nat.add_zero, seg_one hx]; show mergeT [] [x] = [x]; exact merge_nil _
    rw [e]
    exact (put2_seg (l := l) (a := a) (b := a + 1) (by omega) (by omega)).symm
  | n + 1, h => by
    rw [isortF_succ, isortF_put l a n (by omega)]
    obtain ⟨x, hx⟩ : ∃ x, l[a + 1 + n]? = some x := ⟨_, List.getElem?_eq_getElem (by omega)⟩
    have hL : (isrt (seg l a (a + 1 + n))).length = a + 1 + n - a := isrt_len _ _ (seg_len (by omega))
    have hlen := put2_len (l := l) (a := a) (b := a + 1 + n) (by omega) (by omega) hL
    have hta : (l.take a).length = a := by simp; omega
    have hg : (put2 l a (a + 1 + n) (isrt (seg l a (a + 1 + n))))[a + 1 + n]? = some x := by
      unfold put2
      rw [List.getElem?_append_right (by simp [hL]; omega), List.getElem?_drop, ← hx]
      congr 1; simp [hL]; omega
    have hseg : seg (put2 l a (a + 1 + n) (isrt (seg l a (a + 1 + n)))) a (a + 1 + n) = isrt (seg l a (a + 1 + n)) := by
      unfold seg put2
      rw [List.take_append_of_le_length (by simp [seg] at hL; simp [hL]; omega)]
      rw [List.take_of_length_le (by simp [seg] at hL; simp [hL]; omega)]
      rw [List.drop_append_of_le_length (by omega), List.drop_of_length_le (by omega)]
      rfl
    rw [sink_put (a + 1 + n) _ a x (by omega) hg (by rw [hseg]; exact isrt_sorted _), hseg, ← isrt_snoc, ← seg_snoc (by omega) hx]
    unfold put2
    rw [show a + 1 + (n + 1) = a + 1 + n + 1 by omega]
    congr 1
    · congr 1
      rw [List.append_assoc, List.take_append_of_le_length (by omega), List.take_of_length_le (by omega)]
    · rw [List.drop_append, List.drop_of_length_le (by simp [hL]; omega), List.nil_append, List.drop_drop]
      congr 1; simp [hL]; omega

/-! Merges one behind the other. -/
theorem so_split {S : List Term} (x : Term) : SoT S → ∃ S1 S2, S = S1 ++ S2 ∧ (∀ z ∈ S1, compareT z x ≤ 0) ∧ (∀ z ∈ S2, compareT x z < 0) := by
  induction S with
  | nil => intro _; exact ⟨[], [], rfl, fun z hz => (by cases hz), fun z hz => (by cases hz)⟩
  | cons s S ih =>
    intro h
    obtain ⟨h1, h2⟩ := List.pairwise_cons.1 h
    by_cases hc : compareT s x ≤ 0
    · obtain ⟨S1, S2, rfl, k1, k2⟩ := ih h2
      refine ⟨s :: S1, S2, rfl, fun z hz => ?_, k2⟩
      rcases List.mem_cons.1 hz with rfl | hz
      · exact hc
      · exact k1 z hz
    · have hn := cT_neg x s
      refine ⟨[], s :: S, rfl, fun z hz => (by cases hz), fun z hz => ?_⟩
      rcases List.mem_cons.1 hz with rfl | hz
      · omega
      · exact cT_lt_le (b := s) (by omega) (h1 z hz)
theorem merge_snoc {S U : List Term} (x : Term) (hS : SoT S) (hU : SoT U) : mergeT S (mergeT U [x]) = mergeT (mergeT S U) [x] := by
  obtain ⟨S1, S2, rfl, s1, s2⟩ := so_split x hS
  obtain ⟨U1, U2, rfl, u1, u2⟩ := so_split x hU
  rw [merge_one' u1 u2]
  have c1 : ∀ p ∈ S1, ∀ q ∈ U2, compareT p q ≤ 0 := fun p hp q hq => by have := cT_le_lt (s1 p hp) (u2 q hq); omega
  have c2 : ∀ q ∈ U1, ∀ p ∈ S2, compareT q p < 0 := fun q hq p hp => cT_le_lt (u1 q hq) (s2 p hp)
  rw [merge_parts _ S1 S2 U1 U2 (Nat.le_refl _) c1 c2]
  have d1 : ∀ p ∈ S1, ∀ q ∈ x :: U2, compareT p q ≤ 0 := fun p hp q hq => by
    rcases List.mem_cons.1 hq with rfl | hq
    · exact s1 p hp
    · exact c1 p hp q hq
  rw [merge_parts _ S1 S2 U1 (x :: U2) (Nat.le_refl _) d1 c2]
  have e := merge_parts _ [] S2 [x] U2 (Nat.le_refl _) (fun p hp => by cases hp) (fun q hq p hp => by simp at hq; subst hq; exact s2 p hp)
  rw [List.nil_append, merge_nil] at e
  rw [show x :: U2 = [x] ++ U2 from rfl, e]
  rw [merge_one' (fun z hz => ?_) (fun z hz => ?_)]
  · rfl
  · rcases (merge_mem _ _ _ _ (Nat.le_refl _)).1 hz with hz | hz
    · exact s1 z hz
    · exact u1 z hz
  · rcases (merge_mem _ _ _ _ (Nat.le_refl _)).1 hz with hz | hz
    · exact s2 z hz
    · exact u2 z hz
theorem isrt_app_go : ∀ (n : Nat) (A B : List Term), B.length = n → mergeT (isrt A) (isrt B) = isrt (A ++ B)
  | 0, A, B, h => by rw [List.eq_nil_of_length_eq_zero h, List.append_nil]; exact merge_nil' _
  | n + 1, A, B, h => by
    have hne : B ≠ [] := fun e => by subst e; cases h
    have hd := List.dropLast_concat_getLast hne
    have e : isrt B = mergeT (isrt B.dropLast) [B.getLast hne] := by rw [← isrt_snoc, hd]
    rw [e, merge_snoc _ (isrt_sorted _) (isrt_sorted _), isrt_app_go n A B.dropLast (by simp; omega), ← isrt_snoc, List.append_assoc, hd]
theorem isrt_app (A B : List Term) : mergeT (isrt A) (isrt B) = isrt (A ++ B) := isrt_app_go _ A B rfl

/-! Ranges swapped, parts turned about. -/
/-- n places from a on, and as many from b on, swapped. -/
def swr (l : List Term) (a b : Nat) : Nat → List Term
  | 0 => l
  | n + 1 => match l[a + n]?, l[b + n]? with
    | some x, some y => ((swr l a b n).set (a + n) y).set (b + n) x
    | _, _ => swr l a b n
theorem swr_len (l : List Term) (a b : Nat) : ∀ n, (swr l a b n).length = l.length
  | 0 => rfl
  | n + 1 => by
    rw [swr]
    split
    · rw [List.length_set, List.length_set, swr_len l a b n]
    · exact swr_len l a b n
theorem swr_get (l : List Term) (a b : Nat) : ∀ n, a + n ≤ b → b + n ≤ l.length → ∀ k, (swr l a b n)[k]? = if a ≤ k ∧ k < a + n then l[k - a + b]? else if b ≤ k ∧ k < b + n then l[k - b + a]? else l[k]?
  | 0, h1, h2, k => by rw [if_neg (by omega), if_neg (by omega)]; rfl
  | n + 1, h1, h2, k => by
    have ih := swr_get l a b n (by omega) (by omega) k
    have hx : l[a + n]? = some l[a + n] := List.getElem?_eq_getElem (by omega)
    have hy : l[b + n]? = some l[b + n] := List.getElem?_eq_getElem (by omega)
    rw [swr, hx, hy]
    show (((swr l a b n).set (a + n) l[b + n]).set (b + n) l[a + n])[k]? = _
    rw [List.getElem?_set, List.getElem?_set, List.length_set, swr_len, ih]
    by_cases e1 : k = b + n
    · subst e1
      rw [if_pos rfl, if_pos (by omega), if_neg (by omega), if_pos (by omega), ← hx]
      congr 1; omega
    · rw [if_neg (show ¬ b + n = k from fun e => e1 e.symm)]
      by_cases e2 : k = a + n
      · subst e2
        rw [if_pos rfl, if_pos (by omega), if_pos (by omega), ← hy]
        congr 1; omega
      · rw [if_neg (show ¬ a + n = k from fun e => e2 e.symm)]
        by_cases c1 : a ≤ k ∧ k < a + n
        · rw [if_pos c1, if_pos (show a ≤ k ∧ k < a + (n + 1) by omega)]
        · rw [if_neg c1, if_neg (show ¬ (a ≤ k ∧ k < a + (n + 1)) by omega)]
          by_cases c2 : b ≤ k ∧ k < b + n
          · rw [if_pos c2, if_pos (show b ≤ k ∧ k < b + (n + 1) by omega)]
          · rw [if_neg c2, if_neg (show ¬ (b ≤ k ∧ k < b + (n + 1)) by omega)]
theorem swr_succ {l : List Term} {a b n : Nat} {x y : Term} (h1 : a + n < b) (h2 : b + n < l.length) (hx : (swr l a b n)[a + n]? = some x) (hy : (swr l a b n)[b + n]? = some y) : swr l a b (n + 1) = ((swr l a b n).set (a + n) y).set (b + n) x := by
  rw [swr_get l a b n (by omega) (by omega), if_neg (by omega), if_neg (by omega)] at hx hy
  rw [swr, hx, hy]
theorem seg_get {l : List Term} {i j k : Nat} (hj : j ≤ l.length) : (seg l i j)[k]? = if i + k < j then l[i + k]? else none := by
  unfold seg; rw [List.getElem?_drop, List.getElem?_take]
theorem rotF_get {l : List Term} {a m b : Nat} (h1 : a ≤ m) (h2 : m ≤ b) (h3 : b ≤ l.length) (k : Nat) : (rotF l a m b)[k]? = if k < a then l[k]? else if k < a + (b - m) then l[k - a + m]? else if k < b then l[k - (b - m)]? else l[k]? := by
  unfold rotF put2
  have e1 := seg_len (l := l) (i := m) (j := b) h3
  have e2 := seg_len (l := l) (i := a) (j := m) (by omega)
  have e3 : (l.take a).length = a := by simp; omega
  have e4 : (l.take a ++ (seg l m b ++ seg l a m)).length = b := by simp [e1, e2]; omega
  by_cases c1 : k < a
  · rw [if_pos c1, List.getElem?_append_left (by omega), List.getElem?_append_left (by omega), List.getElem?_take, if_pos c1]
  · rw [if_neg c1]
    by_cases c2 : k < a + (b - m)
    · rw [if_pos c2, List.getElem?_append_left (by omega), List.getElem?_append_right (by omega), List.getElem?_append_left (by omega), e3, seg_get h3, if_pos (by omega)]
      congr 1; omega
    · rw [if_neg c2]
      by_cases c3 : k < b
      · rw [if_pos c3, List.getElem?_append_left (by omega), List.getElem?_append_right (by omega), List.getElem?_append_right (by omega), e3, e1, seg_get (by omega), if_pos (by omega)]
        congr 1; omega
      · rw [if_neg c3, List.getElem?_append_right (by omega), List.getElem?_drop, e4]
        congr 1; omega
theorem rot_left {l : List Term} {m i j : Nat} (hi : i ≤ m) (hj : m + j ≤ l.length) (hji : j < i) : rotF (swr l (m - i) m j) (m - (i - j)) m (m + j) = rotF l (m - i) m (m + j) := by
  apply List.ext_getElem?
  intro k
  rw [rotF_get (by omega) (by omega) (by rw [swr_len]; omega), rotF_get (by omega) (by omega) hj]
  have hg := swr_get l (m - i) m j (by omega) (by omega)
  simp only [hg]
  repeat' split
  all_goals first | rfl | (exfalso; omega) | (congr 1; omega)
theorem rot_right {l : List Term} {m i j : Nat} (hi : i ≤ m) (hj : m + j ≤ l.length) (hij : i < j) : rotF (swr l (m - i) (m + (j - i)) i) (m - i) m (m + (j - i)) = rotF l (m - i) m (m + j) := by
  apply List.ext_getElem?
  intro k
  rw [rotF_get (by omega) (by omega) (by rw [swr_len]; omega), rotF_get (by omega) (by omega) hj]
  have hg := swr_get l (m - i) (m + (j - i)) i (by omega) (by omega)
  simp only [hg]
  repeat' split
  all_goals first | rfl | (exfalso; omega) | (congr 1; omega)
theorem rot_even {l : List Term} {m i : Nat} (hi : i ≤ m) (hj : m + i ≤ l.length) : swr l (m - i) m i = rotF l (m - i) m (m + i) := by
  apply List.ext_getElem?
  intro k
  have hg := swr_get l (m - i) m i (by omega) (by omega)
  rw [rotF_get (by omega) (by omega) hj]
  simp only [hg]
  repeat' split
  all_goals first | rfl | (exfalso; omega) | (congr 1; omega)
theorem rotF_mem {l : List Term} {a m b : Nat} {z : Term} (h : z ∈ rotF l a m b) : z ∈ l :=
  put2_mem (fun x hx => by rcases List.mem_append.1 hx with hx | hx <;> exact seg_sub hx) h

/-! One step of merging in place. -/
theorem seg_mid {p X q : List Term} {i j : Nat} (h1 : p.length = i) (h2 : i + X.length = j) : seg (p ++ (X ++ q)) i j = X := by
  unfold seg
  subst h1; subst h2
  rw [List.take_append, List.drop_append]
  simp
theorem put2_mid {p X q Y : List Term} {i j : Nat} (h1 : p.length = i) (h2 : i + X.length = j) : put2 (p ++ (X ++ q)) i j Y = p ++ (Y ++ q) := by
  unfold put2
  subst h1; subst h2
  have e1 : (p ++ (X ++ q)).take p.length = p := by simp
  have e2 : (p ++ (X ++ q)).drop (p.length + X.length) = q := by rw [← List.append_assoc, ← List.length_append]; simp
  rw [e1, e2, List.append_assoc]
theorem rotF_id1 {l : List Term} {m e : Nat} (h1 : m ≤ e) (h2 : e ≤ l.length) : rotF l m m e = l := by
  unfold rotF; rw [seg_same, List.append_nil, put2_seg h1 h2]
theorem rotF_id2 {l : List Term} {s m : Nat} (h1 : s ≤ m) (h2 : m ≤ l.length) : rotF l s m m = l := by
  unfold rotF; rw [seg_same, List.nil_append, put2_seg h1 h2]
theorem symF_id1 {l : List Term} {a b : Nat} (h1 : a ≤ b) (h2 : b ≤ l.length) : symF l a a b = l := by
  unfold symF; rw [seg_same, merge_nil, put2_seg h1 h2]
theorem symF_id2 {l : List Term} {a m : Nat} (h1 : a ≤ m) (h2 : m ≤ l.length) : symF l a m m = l := by
  unfold symF; rw [seg_same, merge_nil', put2_seg h1 h2]
theorem seg_five {l : List Term} {a s m e b : Nat} (h1 : a ≤ s) (h2 : s ≤ m) (h3 : m ≤ e) (h4 : e ≤ b) (h5 : b ≤ l.length) :
    l = l.take a ++ (seg l a s ++ (seg l s m ++ (seg l m e ++ (seg l e b ++ l.drop b)))) := by
  conv => lhs; rw [seg_all (l := l) (a := a) (b := b) (by omega) h5, seg_cat (l := l) (i := a) (k := s) (j := b) h1 (by omega) h5, seg_cat (l := l) (i := s) (k := m) (j := b) h2 (by omega) h5, seg_cat (l := l) (i := m) (k := e) (j := b) h3 h4 h5]
  simp only [List.append_assoc]
theorem sym_five {p A1 A2 B1 B2 q : List Term} {a s m e b mid : Nat} (hp : p.length = a) (h1 : a + A1.length = s) (h2 : s + A2.length = m) (h3 : m + B1.length = e) (h4 : e + B2.length = b) (hmid : s + B1.length = mid)
    (c1 : ∀ x ∈ A1, ∀ y ∈ B2, compareT x y ≤ 0) (c2 : ∀ y ∈ B1, ∀ x ∈ A2, compareT y x < 0) :
    rotF (p ++ (A1 ++ (A2 ++ (B1 ++ (B2 ++ q))))) s m e = p ++ (A1 ++ (B1 ++ (A2 ++ (B2 ++ q)))) ∧ symF (p ++ (A1 ++ (B1 ++ (A2 ++ (B2 ++ q))))) a s mid = p ++ (mergeT A1 B1 ++ (A2 ++ (B2 ++ q))) ∧
      symF (p ++ (mergeT A1 B1 ++ (A2 ++ (B2 ++ q)))) mid e b = symF (p ++ (A1 ++ (A2 ++ (B1 ++ (B2 ++ q))))) a m b := by
  have hm := merge_len _ A1 B1 (Nat.le_refl _)
  refine ⟨?_, ?_, ?_⟩
  · unfold rotF
    have e1 : seg (p ++ (A1 ++ (A2 ++ (B1 ++ (B2 ++ q))))) m e = B1 := by
      rw [show p ++ (A1 ++ (A2 ++ (B1 ++ (B2 ++ q)))) = (p ++ A1 ++ A2) ++ (B1 ++ (B2 ++ q)) by simp only [List.append_assoc]]
      exact seg_mid (by simp; omega) h3
    have e2 : seg (p ++ (A1 ++ (A2 ++ (B1 ++ (B2 ++ q))))) s m = A2 := by
      rw [show p ++ (A1 ++ (A2 ++ (B1 ++ (B2 ++ q)))) = (p ++ A1) ++ (A2 ++ (B1 ++ (B2 ++ q))) by simp only [List.append_assoc]]
      exact seg_mid (by simp; omega) h2
    rw [e1, e2, show p ++ (A1 ++ (A2 ++ (B1 ++ (B2 ++ q)))) = (p ++ A1) ++ ((A2 ++ B1) ++ (B2 ++ q)) by simp only [List.append_assoc], put2_mid (by simp; omega) (by simp; omega)]
    simp only [List.append_assoc]
  · unfold symF
    have e1 : seg (p ++ (A1 ++ (B1 ++ (A2 ++ (B2 ++ q))))) a s = A1 := seg_mid hp h1
    have e2 : seg (p ++ (A1 ++ (B1 ++ (A2 ++ (B2 ++ q))))) s mid = B1 := by
      rw [show p ++ (A1 ++ (B1 ++ (A2 ++ (B2 ++ q)))) = (p ++ A1) ++ (B1 ++ (A2 ++ (B2 ++ q))) by simp only [List.append_assoc]]
      exact seg_mid (by simp; omega) hmid
    rw [e1, e2, show p ++ (A1 ++ (B1 ++ (A2 ++ (B2 ++ q)))) = p ++ ((A1 ++ B1) ++ (A2 ++ (B2 ++ q))) by simp only [List.append_assoc], put2_mid hp (by simp; omega)]
  · unfold symF
    have e1 : seg (p ++ (mergeT A1 B1 ++ (A2 ++ (B2 ++ q)))) mid e = A2 := by
      rw [← List.append_assoc]
      exact seg_mid (by simp [hm]; omega) (by omega)
    have e2 : seg (p ++ (mergeT A1 B1 ++ (A2 ++ (B2 ++ q)))) e b = B2 := by
      rw [show p ++ (mergeT A1 B1 ++ (A2 ++ (B2 ++ q))) = (p ++ mergeT A1 B1 ++ A2) ++ (B2 ++ q) by simp only [List.append_assoc]]
      exact seg_mid (by simp [hm]; omega) h4
    have e3 : seg (p ++ (A1 ++ (A2 ++ (B1 ++ (B2 ++ q))))) a m = A1 ++ A2 := by
      rw [show p ++ (A1 ++ (A2 ++ (B1 ++ (B2 ++ q)))) = p ++ ((A1 ++ A2) ++ (B1 ++ (B2 ++ q))) by simp only [List.append_assoc]]
      exact seg_mid hp (by simp; omega)
    have e4 : seg (p ++ (A1 ++ (A2 ++ (B1 ++ (B2 ++ q))))) m b = B1 ++ B2 := by
      rw [show p ++ (A1 ++ (A2 ++ (B1 ++ (B2 ++ q)))) = (p ++ A1 ++ A2) ++ ((B1 ++ B2) ++ q) by simp only [List.append_assoc]]
      exact seg_mid (by simp; omega) (by simp; omega)
    rw [e1, e2, e3, e4, merge_parts _ A1 A2 B1 B2 (Nat.le_refl _) c1 c2]
    rw [show p ++ (mergeT A1 B1 ++ (A2 ++ (B2 ++ q))) = (p ++ mergeT A1 B1) ++ ((A2 ++ B2) ++ q) by simp only [List.append_assoc], put2_mid (by simp [hm]; omega) (by simp; omega)]
    rw [show p ++ (A1 ++ (A2 ++ (B1 ++ (B2 ++ q)))) = p ++ ((A1 ++ (A2 ++ (B1 ++ B2))) ++ q) by simp only [List.append_assoc], put2_mid hp (by simp; omega)]
    simp only [List.append_assoc]
/-- A merge is a turn, and two lesser merges. -/
theorem sym_step {l : List Term} {a s m e b mid : Nat} (h1 : a ≤ s) (h2 : s ≤ m) (h3 : m ≤ e) (h4 : e ≤ b) (h5 : b ≤ l.length) (hmid : s + (e - m) = mid)
    (c1 : ∀ x ∈ seg l a s, ∀ y ∈ seg l e b, compareT x y ≤ 0) (c2 : ∀ y ∈ seg l m e, ∀ x ∈ seg l s m, compareT y x < 0) :
    symF (symF (rotF l s m e) a s mid) mid e b = symF l a m b ∧ seg (rotF l s m e) a s = seg l a s ∧ seg (rotF l s m e) s mid = seg l m e ∧ seg (symF (rotF l s m e) a s mid) mid e = seg l s m ∧ seg (symF (rotF l s m e) a s mid) e b = seg l e b := by
  have e0 := seg_five h1 h2 h3 h4 h5
  have l1 := seg_len (l := l) (i := a) (j := s) (by omega)
  have l2 := seg_len (l := l) (i := s) (j := m) (by omega)
  have l3 := seg_len (l := l) (i := m) (j := e) (by omega)
  have l4 := seg_len (l := l) (i := e) (j := b) (by omega)
  have lp : (l.take a).length = a := by simp; omega
  obtain ⟨r1, r2, r3⟩ := sym_five (p := l.take a) (A1 := seg l a s) (A2 := seg l s m) (B1 := seg l m e) (B2 := seg l e b) (q := l.drop b) (a := a) (s := s) (m := m) (e := e) (b := b) (mid := mid) lp (by omega) (by omega) (by omega) (by omega) (by omega) c1 c2
  have hm := merge_len _ (seg l a s) (seg l m e) (Nat.le_refl _)
  rw [← e0] at r1 r3
  rw [r1, r2, r3]
  refine ⟨rfl, seg_mid lp (by omega), ?_, ?_, ?_⟩
  · rw [← List.append_assoc]; exact seg_mid (by simp [l1]; omega) (by omega)
  · rw [← List.append_assoc]; exact seg_mid (by simp [hm, l1, l3]; omega) (by omega)
  · rw [show l.take a ++ (mergeT (seg l a s) (seg l m e) ++ (seg l s m ++ (seg l e b ++ l.drop b))) = (l.take a ++ mergeT (seg l a s) (seg l m e) ++ seg l s m) ++ (seg l e b ++ l.drop b) by simp only [List.append_assoc]]
    exact seg_mid (by simp [hm, l1, l2, l3]; omega) (by omega)
theorem so_seg {l : List Term} {i j p q : Nat} {x y : Term} (hs : SoT (seg l i j)) (h1 : i ≤ p) (h2 : p ≤ q) (h3 : q < j) (hx : l[p]? = some x) (hy : l[q]? = some y) : compareT x y ≤ 0 := by
  have hjl : q < l.length := (List.getElem?_eq_some_iff.1 hy).1
  have gx : (seg l i j)[p - i]? = some x := by unfold seg; rw [List.getElem?_drop, List.getElem?_take, if_pos (by omega), ← hx]; congr 1; omega
  have gy : (seg l i j)[q - i]? = some y := by unfold seg; rw [List.getElem?_drop, List.getElem?_take, if_pos (by omega), ← hy]; congr 1; omega
  by_cases e : p = q
  · subst e; rw [hx] at hy; cases hy; rw [compare_refl]; exact Int.le_refl 0
  · have b1 := (List.getElem?_eq_some_iff.1 gx).1
    have b2 := (List.getElem?_eq_some_iff.1 gy).1
    have := List.pairwise_iff_getElem.1 hs (p - i) (q - i) b1 b2 (by omega)
    rwa [(List.getElem?_eq_some_iff.1 gx).2, (List.getElem?_eq_some_iff.1 gy).2] at this
theorem so_left {l : List Term} {i k j : Nat} (h1 : i ≤ k) (h2 : k ≤ j) (hj : j ≤ l.length) (hs : SoT (seg l i j)) : SoT (seg l i k) ∧ SoT (seg l k j) := by
  rw [seg_cat h1 h2 hj] at hs
  exact ⟨(List.pairwise_append.1 hs).1, (List.pairwise_append.1 hs).2.1⟩
/-- One element ahead of a part in order: to its place. -/
theorem sym_one1 {l : List Term} {a i b : Nat} {x : Term} (h1 : a + 1 ≤ i) (h2 : i ≤ b) (h3 : b ≤ l.length) (hx : l[a]? = some x) (c1 : ∀ y ∈ seg l (a + 1) i, compareT y x < 0) (c2 : ∀ y ∈ seg l i b, compareT x y ≤ 0) : symF l a (a + 1) b = rotF l a (a + 1) i := by
  have e0 := seg_five (l := l) (a := a) (s := a) (m := a + 1) (e := i) (b := b) (by omega) (by omega) h1 h2 h3
  rw [seg_same, List.nil_append, seg_one hx] at e0
  have lp : (l.take a).length = a := by simp; omega
  have l3 := seg_len (l := l) (i := a + 1) (j := i) (by omega)
  have l4 := seg_len (l := l) (i := i) (j := b) (by omega)
  unfold symF rotF
  rw [seg_one hx, seg_cat h1 h2 h3, merge_one c1 c2]
  have f1 : put2 l a b (seg l (a + 1) i ++ x :: seg l i b) = l.take a ++ ((seg l (a + 1) i ++ x :: seg l i b) ++ l.drop b) := by unfold put2; rw [List.append_assoc]
  have f2 : put2 l a i (seg l (a + 1) i ++ [x]) = l.take a ++ ((seg l (a + 1) i ++ [x]) ++ (seg l i b ++ l.drop b)) := by
    unfold put2
    rw [List.append_assoc]
    congr 2
    rw [show l.drop i = seg l i l.length by simp [seg], seg_cat h2 h3 (Nat.le_refl _)]
    simp [seg]
  rw [f1, f2]; simp only [List.append_assoc, List.cons_append, List.nil_append]
theorem sym_one2 {l : List Term} {a i m : Nat} {y : Term} (h1 : a ≤ i) (h2 : i ≤ m) (hy : l[m]? = some y) (c1 : ∀ x ∈ seg l a i, compareT x y ≤ 0) (c2 : ∀ x ∈ seg l i m, compareT y x < 0) : symF l a m (m + 1) = rotF l i m (m + 1) := by
  have h3 := (List.getElem?_eq_some_iff.1 hy).1
  unfold symF rotF
  rw [seg_one hy, seg_cat h1 h2 (by omega), merge_one' c1 c2]
  have f1 : put2 l a (m + 1) (seg l a i ++ y :: seg l i m) = l.take a ++ (seg l a i ++ (y :: seg l i m ++ l.drop (m + 1))) := by unfold put2; simp only [List.append_assoc]
  have f2 : put2 l i (m + 1) ([y] ++ seg l i m) = l.take i ++ (y :: seg l i m ++ l.drop (m + 1)) := by unfold put2; simp only [List.append_assoc, List.cons_append, List.nil_append]
  have f3 : l.take i = l.take a ++ seg l a i := by
    have := seg_cat (l := l) (i := 0) (k := a) (j := i) (Nat.zero_le _) h1 (by omega)
    simpa [seg] using this
  rw [f1, f2, f3, List.append_assoc]

/-! What a search in two parts in order comes to. -/
theorem rot1_next {l : List Term} {a k : Nat} {x y : Term} (h1 : a ≤ k) (h2 : k + 1 < l.length) (hx : l[a]? = some x) (hy : l[k + 1]? = some y) : rotF l a (a + 1) (k + 1 + 1) = ((rotF l a (a + 1) (k + 1)).set k y).set (k + 1) x := by
  apply List.ext_getElem?
  intro p
  have hl := rotF_len (l := l) (a := a) (m := a + 1) (b := k + 1) (by omega) (by omega) (by omega)
  rw [List.getElem?_set, List.getElem?_set, List.length_set, hl, rotF_get (by omega) (by omega) (by omega), rotF_get (by omega) (by omega) (by omega)]
  repeat' split
  all_goals first | rfl | (exfalso; omega) | (congr 1; omega) | (rw [← hx]; congr 1; omega) | (rw [← hy]; congr 1; omega)
theorem rot1_at {l : List Term} {a k : Nat} {x : Term} (h1 : a ≤ k) (h2 : k + 1 ≤ l.length) (hx : l[a]? = some x) : (rotF l a (a + 1) (k + 1))[k]? = some x := by
  rw [rotF_get (by omega) (by omega) h2, if_neg (by omega), if_neg (by omega), if_pos (by omega), ← hx]; congr 1; omega
theorem rot1_behind {l : List Term} {a k : Nat} {y : Term} (h1 : a ≤ k) (h2 : k + 1 < l.length) (hy : l[k + 1]? = some y) : (rotF l a (a + 1) (k + 1))[k + 1]? = some y := by
  rw [rotF_get (by omega) (by omega) (by omega), if_neg (by omega), if_neg (by omega), if_neg (by omega), hy]
theorem rot2_next {l : List Term} {m k : Nat} {x y : Term} (h1 : k + 1 ≤ m) (h2 : m + 1 ≤ l.length) (hx : l[m]? = some x) (hy : l[k]? = some y) : rotF l k m (m + 1) = ((rotF l (k + 1) m (m + 1)).set (k + 1) y).set k x := by
  apply List.ext_getElem?
  intro p
  have hl := rotF_len (l := l) (a := k + 1) (m := m) (b := m + 1) (by omega) (by omega) h2
  rw [List.getElem?_set, List.getElem?_set, List.length_set, hl, rotF_get (by omega) (by omega) h2, rotF_get (by omega) (by omega) h2]
  repeat' split
  all_goals first | rfl | (exfalso; omega) | (congr 1; omega) | (rw [← hx]; congr 1; omega) | (rw [← hy]; congr 1; omega)
theorem rot2_at {l : List Term} {m k : Nat} {x : Term} (h1 : k ≤ m) (h2 : m + 1 ≤ l.length) (hx : l[m]? = some x) : (rotF l k m (m + 1))[k]? = some x := by
  rw [rotF_get h1 (by omega) h2, if_neg (by omega), if_pos (by omega), ← hx]; congr 1; omega
theorem rot2_ahead {l : List Term} {m k : Nat} {y : Term} (h1 : k + 1 ≤ m) (h2 : m + 1 ≤ l.length) (hy : l[k]? = some y) : (rotF l (k + 1) m (m + 1))[k]? = some y := by
  rw [rotF_get h1 (by omega) h2, if_pos (by omega), hy]
def LeAt (l : List Term) (a s e b : Nat) : Prop := a < s → e < b → ∃ x z, l[s - 1]? = some x ∧ l[e]? = some z ∧ compareT x z ≤ 0
def LtAt (l : List Term) (s m e : Nat) : Prop := s < m → m < e → ∃ x z, l[s]? = some x ∧ l[e - 1]? = some z ∧ compareT z x < 0
/-- What is known at the search's end. -/
theorem search_le {l : List Term} {a s m e b : Nat} (h1 : a ≤ s) (h2 : s ≤ m) (h3 : m ≤ e) (h4 : e ≤ b) (h5 : b ≤ l.length) (hs1 : SoT (seg l a m)) (hs2 : SoT (seg l m b))
    (hL : LeAt l a s e b) : ∀ x ∈ seg l a s, ∀ y ∈ seg l e b, compareT x y ≤ 0 := by
  intro x hx y hy
  obtain ⟨p, p1, p2, p3⟩ := seg_mem hx
  obtain ⟨q, q1, q2, q3⟩ := seg_mem hy
  obtain ⟨u, w, u1, w1, uw⟩ := hL (by omega) (by omega)
  exact cT_le (so_seg hs1 p1 (by omega) (by omega) p3 u1) (cT_le uw (so_seg hs2 h3 q1 q2 w1 q3))
theorem search_lt {l : List Term} {a s m e b : Nat} (h1 : a ≤ s) (h2 : s ≤ m) (h3 : m ≤ e) (h4 : e ≤ b) (h5 : b ≤ l.length) (hs1 : SoT (seg l a m)) (hs2 : SoT (seg l m b))
    (hR : LtAt l s m e) : ∀ y ∈ seg l m e, ∀ x ∈ seg l s m, compareT y x < 0 := by
  intro y hy x hx
  obtain ⟨p, p1, p2, p3⟩ := seg_mem hx
  obtain ⟨q, q1, q2, q3⟩ := seg_mem hy
  obtain ⟨u, w, u1, w1, uw⟩ := hR (by omega) (by omega)
  exact cT_lt_le (cT_le_lt (so_seg hs2 q1 (show q ≤ e - 1 by omega) (by omega) q3 w1) uw) (so_seg hs1 h1 p1 p2 u1 p3)
theorem symF_mem {l : List Term} {a m b : Nat} {z : Term} (h : z ∈ symF l a m b) : z ∈ l :=
  put2_mem (fun x hx => by rcases (merge_mem _ _ _ _ (Nat.le_refl _)).1 hx with hx | hx <;> exact seg_sub hx) h
theorem all_seg {l : List Term} {i j : Nat} {P : Term → Prop} (h : ∀ p z, i ≤ p → p < j → l[p]? = some z → P z) : ∀ z ∈ seg l i j, P z := by
  intro z hz
  obtain ⟨k, k1, k2, k3⟩ := seg_mem hz
  exact h k z k1 k2 k3

/-! Blocks in order, merged. -/
theorem seg_full (l : List Term) : seg l 0 l.length = l := by simp [seg]
theorem put2_full (l X : List Term) : put2 l 0 l.length X = X := by simp [put2]
theorem sort_small {l : List Term} (h : 0 < l.length) : isortF compareT 0 (l.length - (0 + 1)) l = isrt l := by
  rw [isortF_put l 0 _ (by omega), show 0 + 1 + (l.length - (0 + 1)) = l.length by omega, seg_full, put2_full]
theorem blocks {l : List Term} (h : 20 ≤ l.length) : isortF compareT 0 (20 - (0 + 1)) l = isrt (l.take 20) ++ l.drop 20 := by
  rw [isortF_put l 0 _ (by omega), show 0 + 1 + (20 - (0 + 1)) = 20 by omega]
  unfold put2 seg; simp
theorem blocks2 {l : List Term} (h : 20 < l.length) : isortF compareT 20 (l.length - (20 + 1)) (isrt (l.take 20) ++ l.drop 20) = isrt (l.take 20) ++ isrt (l.drop 20) := by
  have e1 : (isrt (l.take 20)).length = 20 := isrt_len _ _ (by simp; omega)
  have e2 : (isrt (l.take 20) ++ l.drop 20).length = l.length := by simp [e1]; omega
  rw [isortF_put _ 20 _ (by omega), show 20 + 1 + (l.length - (20 + 1)) = l.length by omega]
  have e3 : seg (isrt (l.take 20) ++ l.drop 20) 20 l.length = l.drop 20 := by
    have := seg_mid (p := isrt (l.take 20)) (X := l.drop 20) (q := []) (i := 20) (j := l.length) e1 (by simp; omega)
    simpa using this
  rw [e3]
  have := put2_mid (p := isrt (l.take 20)) (X := l.drop 20) (q := []) (Y := isrt (l.drop 20)) (i := 20) (j := l.length) e1 (by simp; omega)
  simpa using this
theorem blocks3 {l : List Term} (h : 20 ≤ l.length) : SoT (seg (isrt (l.take 20) ++ isrt (l.drop 20)) 0 20) ∧ SoT (seg (isrt (l.take 20) ++ isrt (l.drop 20)) 20 l.length) ∧ symF (isrt (l.take 20) ++ isrt (l.drop 20)) 0 20 l.length = isrt l := by
  have e1 : (isrt (l.take 20)).length = 20 := isrt_len _ _ (by simp; omega)
  have e2 : (isrt (l.drop 20)).length = l.length - 20 := isrt_len _ _ (by simp)
  have s1 : seg (isrt (l.take 20) ++ isrt (l.drop 20)) 0 20 = isrt (l.take 20) := by
    have := seg_mid (p := []) (X := isrt (l.take 20)) (q := isrt (l.drop 20)) (i := 0) (j := 20) rfl (by omega)
    simpa using this
  have s2 : seg (isrt (l.take 20) ++ isrt (l.drop 20)) 20 l.length = isrt (l.drop 20) := by
    have := seg_mid (p := isrt (l.take 20)) (X := isrt (l.drop 20)) (q := []) (i := 20) (j := l.length) e1 (by omega)
    simpa using this
  refine ⟨by rw [s1]; exact isrt_sorted _, by rw [s2]; exact isrt_sorted _, ?_⟩
  unfold symF
  rw [s1, s2, isrt_app, List.take_append_drop]
  have hl : (isrt (l.take 20) ++ isrt (l.drop 20)).length = l.length := by simp [e1, e2]; omega
  rw [← hl]; exact put2_full _ _
def blk (l : List Term) (c : Nat) : List Term := if c = 0 then l else isortF compareT 0 (20 - (0 + 1)) l
def mrg (l : List Term) (c d : Nat) : List Term := if d = 0 then isortF compareT (20 * c) (l.length - (20 * c + 1)) (blk l c) else isrt l
theorem blk_len (l : List Term) (c : Nat) : (blk l c).length = l.length := by unfold blk; split <;> simp [isortF_len]
theorem blk_mem {l : List Term} {c : Nat} {z : Term} (h : z ∈ blk l c) : z ∈ l := by
  unfold blk at h; split at h
  · exact h
  · exact isortF_mem _ _ h
theorem mrg_len (l : List Term) (c d : Nat) : (mrg l c d).length = l.length := by
  unfold mrg; split
  · rw [isortF_len, blk_len]
  · exact isrt_len _ _ rfl
theorem mrg_mem {l : List Term} {c d : Nat} {z : Term} (h : z ∈ mrg l c d) : z ∈ l := by
  unfold mrg at h; split at h
  · exact blk_mem (isortF_mem _ _ h)
  · exact (isrt_mem _ _).1 h
theorem mrg_10 {l : List Term} (h : 20 < l.length) : mrg l 1 0 = isrt (l.take 20) ++ isrt (l.drop 20) := by
  show isortF compareT 20 (l.length - (20 + 1)) (isortF compareT 0 (20 - (0 + 1)) l) = _
  rw [blocks (by omega), blocks2 h]
theorem mrg_end {l : List Term} {c d : Nat} (hc : c ≤ 1) (hd : d ≤ 1) (hc1 : c = 1 → 20 ≤ l.length) (h1 : ¬ 20 * c + 20 ≤ l.length) (h2 : ¬ 20 + 20 * d < l.length) : mrg l c d = isrt l := by
  by_cases e : d = 0
  · subst e
    by_cases e2 : c = 0
    · subst e2
      show isortF compareT 0 (l.length - (0 + 1)) l = isrt l
      by_cases e3 : l.length = 0
      · rw [List.eq_nil_of_length_eq_zero e3]; rfl
      · exact sort_small (by omega)
    · have e3 : c = 1 := by omega
      subst e3
      have e4 : l.length = 20 := by have := hc1 rfl; omega
      show isortF compareT 20 (l.length - (20 + 1)) (isortF compareT 0 (20 - (0 + 1)) l) = _
      rw [blocks (by omega), e4]
      show isrt (l.take 20) ++ l.drop 20 = _
      rw [List.drop_of_length_le (by omega), List.take_of_length_le (by omega), List.append_nil]
  · unfold mrg; rw [if_neg e]

/-! Each once: what is alike with what stands ahead of it is dropped. -/
/-- What is alike with p is dropped, and so on. -/
def cmpctF : Term → List Term → List Term
  | _, [] => []
  | p, x :: l => if compareT x p = 0 then cmpctF x l else x :: cmpctF x l
def cmpct : List Term → List Term
  | [] => []
  | x :: l => x :: cmpctF x l
/-- It rises, each ahead of the next one. -/
theorem cmpctF_rise : ∀ (l : List Term) (p : Term), SoT (p :: l) → (p :: cmpctF p l).Pairwise fun x y => compareT x y < 0
  | [], p, _ => List.pairwise_singleton _ _
  | x :: l, p, h => by
    obtain ⟨h1, h2⟩ := List.pairwise_cons.1 h
    have hx := h1 x (by simp)
    have hn := cT_neg p x
    rw [cmpctF]
    have ih := cmpctF_rise l x h2
    obtain ⟨i1, i2⟩ := List.pairwise_cons.1 ih
    split
    · rename_i e
      refine List.pairwise_cons.2 ⟨fun z hz => cT_le_lt hx (i1 z hz), i2⟩
    · rename_i e
      refine List.pairwise_cons.2 ⟨fun z hz => ?_, ih⟩
      rcases List.mem_cons.1 hz with rfl | hz
      · omega
      · exact cT_le_lt hx (i1 z hz)
theorem cmpct_rise {l : List Term} (h : SoT l) : (cmpct l).Pairwise fun x y => compareT x y < 0 := by
  cases l with
  | nil => exact List.Pairwise.nil
  | cons x l => exact cmpctF_rise l x h
/-- Each of those that were there has one alike that stays. -/
theorem cmpctF_alike : ∀ (l : List Term) (p z : Term), SoT (p :: l) → z ∈ p :: l → ∃ y ∈ p :: cmpctF p l, compareT z y = 0
  | [], p, z, _, h => ⟨p, by simp, by simp at h; subst h; exact compare_refl _⟩
  | x :: l, p, z, hs, h => by
    obtain ⟨h1, h2⟩ := List.pairwise_cons.1 hs
    rcases List.mem_cons.1 h with rfl | h
    · exact ⟨z, by simp, compare_refl _⟩
    · obtain ⟨y, hy, e⟩ := cmpctF_alike l x z h2 h
      rw [cmpctF]
      split
      · rename_i ex
        rcases List.mem_cons.1 hy with rfl | hy
        · refine ⟨p, by simp, ?_⟩
          have n1 := cT_neg y p
          have n2 := cT_neg z y
          have n3 := cT_neg z p
          have a1 := cT_le (a := z) (b := y) (c := p) (by omega) (by omega)
          have a2 := cT_le (a := p) (b := y) (c := z) (by omega) (by omega)
          omega
        · exact ⟨y, by simp [hy], e⟩
      · rcases List.mem_cons.1 hy with rfl | hy
        · exact ⟨y, by simp, e⟩
        · exact ⟨y, by simp [hy], e⟩
/-- One more, in its place, if none is alike. -/
def insR : List Term → Term → List Term
  | [], x => [x]
  | y :: l, x => if compareT y x < 0 then y :: insR l x else if compareT y x = 0 then y :: l else x :: y :: l
theorem insR_lt {y x : Term} {l : List Term} (h : compareT y x < 0) : insR (y :: l) x = y :: insR l x := by rw [insR, if_pos h]
theorem insR_eq {y x : Term} {l : List Term} (h : compareT y x = 0) : insR (y :: l) x = y :: l := by rw [insR, if_neg (by omega), if_pos h]
theorem insR_gt {y x : Term} {l : List Term} (h : 0 < compareT y x) : insR (y :: l) x = x :: y :: l := by rw [insR, if_neg (by omega), if_neg (by omega)]
theorem cF_same {p y : Term} {l : List Term} (h : compareT y p = 0) : cmpctF p (y :: l) = cmpctF y l := by rw [cmpctF, if_pos h]
theorem cF_other {p y : Term} {l : List Term} (h : ¬ compareT y p = 0) : cmpctF p (y :: l) = y :: cmpctF y l := by rw [cmpctF, if_neg h]
theorem cmpctF_ins (x : Term) : ∀ (S : List Term) (p : Term), SoT (p :: S) → compareT p x ≤ 0 → p :: cmpctF p (mergeT S [x]) = insR (p :: cmpctF p S) x
  | [], p, _, hp => by
    rw [merge_nil]
    have hn := cT_neg p x
    by_cases h : compareT x p = 0
    · rw [cF_same h, insR_eq (by omega)]; rfl
    · rw [cF_other h, insR_lt (by omega)]; rfl
  | y :: S, p, hs, hp => by
    obtain ⟨h1, h2⟩ := List.pairwise_cons.1 hs
    have hy := h1 y (by simp)
    have n1 := cT_neg p x
    have n2 := cT_neg p y
    have n3 := cT_neg x y
    by_cases hc : compareT x y < 0
    · rw [merge_lt hc, merge_nil']
      have hpy := cT_le_lt hp hc
      rw [cF_other (p := p) (y := y) (by omega)]
      by_cases h : compareT x p = 0
      · rw [cF_same h, cF_other (p := x) (y := y) (by omega), insR_eq (by omega)]
      · rw [cF_other h, cF_other (p := x) (y := y) (by omega), insR_lt (by omega), insR_gt (by omega)]
    · rw [merge_ge hc]
      have ih := cmpctF_ins x S y h2 (by omega)
      by_cases h : compareT y p = 0
      · rw [cF_same h, cF_same h]
        by_cases e : compareT y x = 0
        · have e1 := cT_le (a := x) (b := y) (c := p) (by omega) (by omega)
          rw [insR_eq e] at ih
          rw [insR_eq (by omega), (List.cons.inj ih).2]
        · have e1 := cT_le_lt (a := p) (b := y) (c := x) (by omega) (by omega)
          rw [insR_lt (by omega)] at ih
          rw [insR_lt e1, (List.cons.inj ih).2]
      · have e1 := cT_lt_le (a := p) (b := y) (c := x) (by omega) (by omega)
        rw [cF_other h, cF_other h, insR_lt e1, ih]
theorem cmpct_ins (x : Term) {S : List Term} (hs : SoT S) : cmpct (mergeT S [x]) = insR (cmpct S) x := by
  cases S with
  | nil => rw [merge_nil]; rfl
  | cons y S =>
    have n3 := cT_neg x y
    by_cases hc : compareT x y < 0
    · rw [merge_lt hc, merge_nil', cmpct, cF_other (by omega), cmpct, insR_gt (by omega)]
    · rw [merge_ge hc, cmpct, cmpct]
      exact cmpctF_ins x S y hs (by omega)
/-- As the document has it. -/
theorem cmpct_fold : ∀ (n : Nat) (l : List Term), l.length = n → cmpct (isrt l) = l.foldl insR []
  | 0, l, h => by rw [List.eq_nil_of_length_eq_zero h]; rfl
  | n + 1, l, h => by
    have hne : l ≠ [] := fun e => by subst e; cases h
    rw [← List.dropLast_concat_getLast hne, isrt_snoc, cmpct_ins _ (isrt_sorted _), cmpct_fold n _ (by simp; omega), List.foldl_append]; rfl

/-! Bytes, one by one. -/
/-! A part of an own slice cleared; bytes of a string; what is dropped, one by one. -/
section
variable {P : Program} {ro : Option Nat} {N : Nat} {K : Org} {T : Nat → AV} {O : List AObj} {dst : Option Tmp} {ty : TypeId} {pos : String} {af : Array Edge} {g : Option (Nat × Bool)}
/-- A nil slice goes on as one of the call's own. -/
theorem Runs.adopt2 {c : Code} {Q : Exit → (Nat → AV) → List AObj → Prop} (s e sz : Nat) (hs : T s = .nil0) (h : Runs P ro N K c (upd T s (.own O.length 2)) (O ++ [.buf e sz [] 2]) Q) : Runs P ro N K c T O Q := fun a w hat => by
  obtain ⟨F, γ, I, hT, hsz, hdf, E0⟩ := hat
  have h1 := hT s
  rw [hs] at h1
  obtain ⟨A, hA⟩ := h1
  obtain ⟨I', E⟩ := I.push (w' := w) (.buf e sz [] 2) { blk := none, base := A } rfl rfl rfl (Nat.le_refl _) (fun _ _ => rfl) (fun b h => by cases h) trivial (fun E => .inl ⟨rfl, rfl, rfl, fun h => by cases h⟩)
  refine h a w ⟨F, _, I', fun s' => ?_, hsz, hdf.evo E, E0.trans I.len E⟩
  simp only [upd]
  cases hb : Nat.beq s' s with
  | false => exact AV.V_evo I E I'.len _ _ (hT s')
  | true =>
    have := Nat.eq_of_beq_eq_true hb
    subst this
    refine ⟨by rw [hA]; rfl, { blk := none, base := A }, .buf e sz [] 2, ?_, by simp, Nat.le_refl _, fun _ => by rw [hA]; rfl⟩
    rw [← I.len]; simp
theorem opv_slice_oslt {x lo : Operand} {t e id ver : Nat} {k : IntKind} {i : Nat} {l : List Term} [S : Slc P t e 4] (hx : evT T x = .own id ver) (hO : O[id]? = some (.buf e 4 (encs l) ver)) (hlo : evT T lo = .d (.int k (i : Nat))) (hl : i ≤ l.length) :
    OpV P ro ⟨dst, .slice t x (some lo) none none, ty, pos, af, g⟩ T O (.osl id ver i (l.length - i)) O := by
  have := opv_slice_osl1 (P := P) (ro := ro) (dst := dst) (ty := ty) (pos := pos) (af := af) (g := g) (t := t) hx hO hlo (by rw [encs_len]; exact hl)
  rwa [encs_len] at this
theorem opv_index_oslt {x ix : Operand} {t e id ver off n i : Nat} {k : IntKind} {l : List Term} [S : Slc P t e 4] (hx : evT T x = .osl id ver off n) (hO : O[id]? = some (.buf e 4 (encs l) ver)) (hi : evT T ix = .d (.int k ((i : Nat) : Int))) (hl : i < n) :
    OpV P ro ⟨dst, .indexAddr t x ix, ty, pos, af, g⟩ T O (.oel id ver (off + i) 0) O :=
  opv_index_osl (S := S) hx hO hi (Int.natCast_nonneg _) (by omega)
theorem opv_len_oslt {x : Operand} {t : TypeId} {id ver off n e : Nat} {l : List Term} [S : Slc P t e 4] (hx : evT T x = .osl id ver off n) (hO : O[id]? = some (.buf e 4 (encs l) ver)) :
    OpV P ro ⟨dst, .call { callee := .builtin .len, args := #[x], argTypes := #[t] }, ty, pos, af, g⟩ T O (.d (.int .i64 n)) O :=
  opv_len_osl (du := .bool) (S := S) hx hO
theorem opv_cut_terms {x : Operand} {hi mx : Option Operand} {t e h id ver : Nat} {l : List Term} [S : Slc P t e 4] (hx : evT T x = .own id ver) (hO : O[id]? = some (.buf e 4 (encs l) ver)) (hhi : ∃ y k, hi = some y ∧ evT T y = .d (.int k (h : Nat))) (hmx : mx = none ∨ ∃ y k, mx = some y ∧ evT T y = .d (.int k (h : Nat))) (hh : h ≤ l.length) :
    OpV P ro ⟨dst, .slice t x none hi mx, ty, pos, af, g⟩ T O (.own id (ver + 1)) (O.set id (.buf e 4 (encs (l.take h)) (ver + 1))) := by
  have := opv_cut (P := P) (ro := ro) (dst := dst) (ty := ty) (pos := pos) (af := af) (g := g) (t := t) hx hO hhi hmx (by rw [encs_len]; exact hh)
  simpa only [encs_map, List.map_take] using this
/-- A term of nothing. -/
def zT : Term := .node 0 0 ⟨#[]⟩ []
/-- The last elements of a slice of the call's own, cleared. -/
theorem opv_clear_terms {x : Operand} {t e id ver off n : Nat} {l : List Term} [S : Slc P t e 4] [Z : Ze P e [.d (.int .i64 0), .d (.int .i64 0), .d (.str ⟨#[]⟩), .nil0]] (hx : evT T x = .osl id ver off n) (hO : O[id]? = some (.buf e 4 (encs l) ver)) (h0 : 0 < n) (hn : off + n = l.length) :
    OpV P ro ⟨dst, .call { callee := .builtin .clear, args := #[x], argTypes := #[t] }, ty, pos, af, g⟩ T O .unk (O.set id (.buf e 4 (encs (l.take off ++ List.replicate n zT)) ver)) :=
  OpV.of_run (fun c h => by cases h) fun w F γ a I H => by
    have h1 := H.at (x := x) (by simp [Op.operands, Call.operands]) hx
    obtain ⟨g', hg, _, hpp⟩ := ownAt_val hO h1.2
    obtain ⟨hle, A, c, hp, hnc, hA⟩ := hpp rfl
    obtain ⟨b, hb, rfl⟩ := hA (by omega)
    rcases I.ok id _ g' hO hg with ⟨_, hx0, _⟩ | ⟨b', cs, hb', hrow, hone, hE, hver⟩
    · have := congrArg List.length hx0; rw [encs_len] at this; simp at this; rw [this] at hn; simp at hn; omega
    rw [hb] at hb'; cases hb'
    obtain ⟨r1, r2, r3, cur, r4, r5, r6⟩ := hrow
    rw [encs_len] at r1 r2 r6
    obtain ⟨zv, hzv, hze, hzo⟩ := Z.h
    obtain ⟨i, hi, hzz⟩ := Option.bind_eq_some_iff.1 hzv
    have hzs : zv.cells.size = 4 := by have := congrArg List.length hze; simp at this; omega
    have hVC := zero_VC (w := w) (F := F) (γ := γ) (O := O) zv.cells.toList (by rw [hze]; exact hzo)
    rw [hze] at hVC
    have hzRC : D.RC w F (enc zT).cells zv.cells.toList := by
      obtain ⟨u1, s1, e1, o1, v1, u2, s2, e2, o2, v2, u3, s3, e3, o3, v3, u4, s4, e4, o4, v4, e5⟩ := hVC
      rw [e1, e2, e3, e4, e5]
      exact ⟨u1, _, rfl, rfl, v1, u2, _, rfl, rfl, v2, u3, _, rfl, rfl, v3, u4, _, rfl, rfl, nil0_R v4, rfl⟩
    obtain ⟨v, hv1, hv2⟩ := R_of_RC hzRC
    have hvs : v.cells.size = 4 := by rw [← hzs, ← Array.length_toList, hv2, Array.length_toList]
    obtain ⟨zc, hzc⟩ : ∃ zc, zc = (Builtin.zeroCells zv.cells n).toList := ⟨_, rfl⟩
    have hzl : zc.length = n * 4 := by rw [hzc]; simp [Builtin.zeroCells, hzs]
    have hzg : ∀ k, k < n * 4 → zc[k]? = zv.cells[k % 4]? := fun k hk => by
      have hm : k % 4 < zv.cells.size := by omega
      rw [hzc, Array.getElem?_toList]
      simp only [Builtin.zeroCells, Array.getElem?_map, Array.getElem?_range, hzs, hk, if_true, Option.map_some]
      rw [getElem!_pos zv.cells _ hm, Array.getElem?_eq_getElem hm]
    have hone2 : ∀ u ∈ zc, u.oneCell' = true := fun u hu => by
      obtain ⟨k, hk⟩ := List.mem_iff_getElem?.1 hu
      have hkl : k < n * 4 := by rw [← hzl]; exact (List.getElem?_eq_some_iff.1 hk).1
      rw [hzg k hkl, ← Array.getElem?_toList] at hk
      exact RC_one _ _ hzRC _ (List.mem_of_getElem? hk)
    have hcl : l.length * 4 ≤ cur.size := by have := congrArg List.length r6; rw [List.length_take, r1] at this; simp at this; omega
    have hst := run_storeCells_at P b (off * 4) e zc 0 cur w r4 (by omega) hone2
    obtain ⟨ns, hns⟩ : ∃ ns, ns = cur.toList.take (off * 4) ++ (zc ++ cur.toList.drop (off * 4 + zc.length)) := ⟨_, rfl⟩
    have hst' : (storeCells ⟨b, off * 4, none⟩ zc).run P w = .ok () (w.setRow b ns.toArray) := by
      rw [hns]; rw [hst]; simp [List.append_assoc]
    have hrun : (execOp a.eval ⟨dst, .call { callee := .builtin .clear, args := #[x], argTypes := #[t] }, ty, pos, af, g⟩).run P w = .ok (.value (.tuple #[])) (w.setRow b ns.toArray) := by
      refine run_builtin (s := Builtin.clear_ #[t] ty (#[x].map a.eval)) (fun _ => rfl) ?_
      rw [hzc] at hst'
      obtain ⟨n', rfl⟩ : ∃ n', n = n' + 1 := ⟨n - 1, by omega⟩
      simp [Builtin.clear_, run_underlying S.und, hp, zeroValue, typeInfo, hi, hzz, hst']
    obtain ⟨hlt, hnf⟩ := I.blks id g' b hg hb
    have hget : ∀ k, (ns.take (l.length * 4))[k]? = if off * 4 ≤ k ∧ k < l.length * 4 then zc[k - off * 4]? else cs[k]? := by
      intro k
      have hl1 : (cur.toList.take (off * 4)).length = off * 4 := by rw [List.length_take, Array.length_toList]; omega
      rw [hns, ← r6]
      by_cases k0 : k < l.length * 4
      · rw [List.getElem?_take_of_lt k0, List.getElem?_take_of_lt k0]
        by_cases k1 : k < off * 4
        · rw [if_neg (by omega), List.getElem?_append_left (by rw [hl1]; exact k1), List.getElem?_take_of_lt k1]
        · rw [if_pos ⟨by omega, k0⟩, List.getElem?_append_right (by rw [hl1]; omega), hl1, List.getElem?_append_left (by rw [hzl]; omega)]
      · rw [List.getElem?_eq_none (by rw [List.length_take]; omega), if_neg (by omega), List.getElem?_eq_none (by rw [List.length_take]; omega)]
    have hxl : (encs (l.take off ++ List.replicate n zT)).length = l.length := by rw [encs_len]; simp; omega
    obtain ⟨I', E⟩ := I.upd (w' := w.setRow b ns.toArray) (F' := F) (o' := .buf e 4 (encs (l.take off ++ List.replicate n zT)) ver) (g' := g') hO hg
      rfl rfl rfl (by simp) (fun c hc hne => setRow_other w b c _ (fun e => hne (by rw [e]; exact hb))) (fun c hc => .inl hc) (fun c hc => by rw [hb] at hc; cases hc; exact ⟨by simpa using hlt, hnf⟩)
      (fun _ h => h) (fun _ h => .inl h) ⟨rfl, rfl, .inr ⟨rfl, rfl, by rw [hxl, encs_len]⟩⟩ trivial
      fun E => .inr ⟨b, ns.take (l.length * 4), hb, ⟨by
          rw [hxl, List.length_take, hns]; simp only [List.length_append, List.length_take, List.length_drop, hzl, Array.length_toList]; omega, by rw [hxl]; exact r2, r3, ns.toArray, setRow_heap w b cur _ e (0, 0) r4, by
          rw [hns]; simp only [List.size_toArray, List.length_append, List.length_take, List.length_drop, hzl, Array.length_toList]; omega, by rw [hxl]⟩,
        fun u hu => by
          rw [List.mem_iff_getElem?] at hu
          obtain ⟨k, hk⟩ := hu
          rw [hget k] at hk
          split at hk
          · exact hone2 u (List.mem_of_getElem? hk)
          · exact hone u (List.mem_of_getElem? hk),
        RE_mk _ 0 fun j z hz => by
          rw [encs_get] at hz
          obtain ⟨y, hy, rfl⟩ := Option.map_eq_some_iff.1 hz
          have hlt' : (l.take off).length = off := by rw [List.length_take]; omega
          by_cases hj : j < off
          · rw [List.getElem?_append_left (by omega), List.getElem?_take_of_lt hj] at hy
            obtain ⟨v', k1, k2, k3⟩ := RE_get (encs l) 0 j (enc y) hE (by rw [encs_get, hy]; rfl)
            refine ⟨v', D.R_evo I E k1, k2, fun k u hk => ?_⟩
            have hkl : k < v'.cells.size := (Array.getElem?_eq_some_iff.1 hk).1
            rw [hget, if_neg (by omega)]
            exact k3 k u hk
          · rw [List.getElem?_append_right (by omega), hlt', List.getElem?_replicate] at hy
            split at hy
            · rename_i hjn
              cases hy
              refine ⟨v, D.R_evo I E hv1, hvs, fun k u hk => ?_⟩
              have hkl : k < v.cells.size := (Array.getElem?_eq_some_iff.1 hk).1
              rw [hget, if_pos (by omega), hzg _ (by omega), show ((0 + j) * 4 + k - off * 4) % 4 = k by omega, ← Array.getElem?_toList, ← hv2, Array.getElem?_toList]
              exact hk
            · exact (nomatch hy), hver⟩
    exact ⟨_, _, F, _, .inl hrun, trivial, I', E⟩
end

/-! What CompactFunc does, one by one; where the document puts one more. -/
theorem cF_snoc (x : Term) : ∀ (l : List Term) (p y : Term), (p :: l).getLast? = some y → cmpctF p (l ++ [x]) = cmpctF p l ++ if compareT x y = 0 then [] else [x]
  | [], p, y, h => by
    simp only [List.getLast?_singleton, Option.some.injEq] at h
    subst h
    rw [List.nil_append, cmpctF]
    split
    · rename_i e; simp [cmpctF, e]
    · rename_i e; simp [cmpctF, e]
  | z :: l, p, y, h => by
    rw [List.getLast?_cons_cons] at h
    rw [List.cons_append, cmpctF, cmpctF, cF_snoc x l z y h]
    split
    · rfl
    · rfl
theorem cmpct_snoc {l : List Term} {x y : Term} (h : l.getLast? = some y) : cmpct (l ++ [x]) = cmpct l ++ if compareT x y = 0 then [] else [x] := by
  cases l with
  | nil => cases h
  | cons p l => rw [List.cons_append, cmpct, cmpct, cF_snoc x l p y h]; rfl
/-- The first i + 2 elements. -/
theorem cmpct_next {l : List Term} {i : Nat} {x y : Term} (hx : l[i + 1]? = some x) (hy : l[i]? = some y) : cmpct (l.take (i + 2)) = cmpct (l.take (i + 1)) ++ if compareT x y = 0 then [] else [x] := by
  have h1 := (List.getElem?_eq_some_iff.1 hx).1
  have e : l.take (i + 2) = l.take (i + 1) ++ [x] := by rw [List.take_succ_eq_append_getElem h1, (List.getElem?_eq_some_iff.1 hx).2]
  rw [e, cmpct_snoc (y := y)]
  rw [List.getLast?_eq_getElem?, List.length_take, Nat.min_eq_left (by omega), Nat.add_sub_cancel, List.getElem?_take_of_lt (by omega), hy]
theorem cmpct_yes {l : List Term} {i : Nat} {x y : Term} (hx : l[i + 1]? = some x) (hy : l[i]? = some y) (h : compareT x y = 0) : cmpct (l.take (i + 2)) = cmpct (l.take (i + 1)) := by
  rw [cmpct_next hx hy, if_pos h, List.append_nil]
theorem cmpct_not {l : List Term} {i : Nat} {x y : Term} (hx : l[i + 1]? = some x) (hy : l[i]? = some y) (h : ¬ compareT x y = 0) : cmpct (l.take (i + 2)) = cmpct (l.take (i + 1)) ++ [x] := by
  rw [cmpct_next hx hy, if_neg h]
theorem cmpct_one {l : List Term} (h : 1 ≤ l.length) : cmpct (l.take (0 + 1)) = l.take (0 + 1) := by
  cases l with
  | nil => simp at h
  | cons x l => rfl
theorem cmpct_few {l : List Term} (h : l.length < 2) : cmpct l = l := by
  match l, h with
  | [], _ => rfl
  | [x], _ => rfl
/-- Its version: cut, if anything was dropped. -/
def cver (l : List Term) (v : Nat) : Nat := if (cmpct l).length = l.length then v else v + 1
theorem cver_same {l : List Term} {v : Nat} (h : cmpct l = l) : cver l v = v := by unfold cver; rw [if_pos (by rw [h])]
theorem cver_cut {l : List Term} {v : Nat} (h : (cmpct l).length < l.length) : cver l v = v + 1 := by unfold cver; rw [if_neg (by omega)]
/-- While the rest is moved down: k of them stay, those from j on are as they were. -/
structure Cmp (l : List Term) (k j : Nat) (L : List Term) : Prop where
  len : L.length = l.length
  done : L.take k = cmpct (l.take j)
  rest : ∀ i, j ≤ i + 1 → L[i]? = l[i]?
  lt : k + 1 ≤ j
  le : j ≤ l.length
  mem : ∀ z ∈ L, z ∈ l
theorem Cmp.start {l : List Term} {i : Nat} {x y : Term} (hx : l[i + 1]? = some x) (hy : l[i]? = some y) (h : compareT x y = 0) (hd : cmpct (l.take (i + 1)) = l.take (i + 1)) : Cmp l (i + 1) (i + 2) l :=
  ⟨rfl, by rw [cmpct_yes hx hy h, hd], fun _ _ => rfl, Nat.le_refl _, (List.getElem?_eq_some_iff.1 hx).1, fun _ h => h⟩
theorem Cmp.yes {l L : List Term} {k j : Nat} {x y : Term} (c : Cmp l k (j + 1) L) (hx : L[j + 1]? = some x) (hy : L[j]? = some y) (h : compareT x y = 0) : Cmp l k (j + 2) L := by
  have hx' := hx; have hy' := hy
  rw [c.rest _ (by omega)] at hx hy
  exact ⟨c.len, by rw [c.done, cmpct_yes hx hy h], fun i hi => c.rest i (by omega), by have := c.lt; omega, (List.getElem?_eq_some_iff.1 hx).1, c.mem⟩
theorem Cmp.not {l L : List Term} {k j : Nat} {x y : Term} (c : Cmp l k (j + 1) L) (hx : L[j + 1]? = some x) (hy : L[j]? = some y) (h : ¬ compareT x y = 0) : Cmp l (k + 1) (j + 2) (L.set k x) := by
  have hlt := c.lt
  have hle := c.le
  have hlen := c.len
  have hxm := List.mem_of_getElem? hx
  rw [c.rest _ (by omega)] at hx hy
  have hj := (List.getElem?_eq_some_iff.1 hx).1
  refine ⟨by rw [List.length_set]; exact hlen, ?_, fun i hi => by rw [List.getElem?_set_ne (by omega)]; exact c.rest i (by omega), by omega, hj, fun z hz => ?_⟩
  · rw [cmpct_not hx hy h, ← c.done, List.take_succ_eq_append_getElem (by rw [List.length_set]; omega), List.getElem_set_self, List.take_set_of_le (Nat.le_refl _)]
  · rcases List.mem_or_eq_of_mem_set hz with hz | rfl
    · exact c.mem z hz
    · exact c.mem z hxm
theorem Cmp.lenk {l L : List Term} {k j : Nat} (c : Cmp l k j L) : (cmpct (l.take j)).length = k := by
  have h1 := c.lt; have h2 := c.le; have h3 := c.len
  rw [← c.done, List.length_take]; omega
theorem Cmp.fin {l L : List Term} {k j v : Nat} (c : Cmp l k j L) (h : j = l.length) (r : List Term) : (L.take k ++ r).take k = cmpct l ∧ cver l v = v + 1 := by
  have h1 := c.lt; have h2 := c.lenk; have h3 := c.len; have h4 := c.done
  rw [h, List.take_length] at h2 h4
  refine ⟨?_, cver_cut (by omega)⟩
  rw [← h4, List.take_append_of_le_length (by rw [List.length_take]; omega), List.take_take, Nat.min_self]
/-- Where one more goes. -/
theorem insR_at {x : Term} : ∀ (a : Nat) (R : List Term), a ≤ R.length → (∀ i y, i < a → R[i]? = some y → compareT y x < 0) → insR R x = R.take a ++ insR (R.drop a) x
  | 0, R, _, _ => rfl
  | a + 1, [], h, _ => absurd h (Nat.not_succ_le_zero _)
  | a + 1, y :: R, h, hl => by
    rw [insR_lt (hl 0 y (Nat.succ_pos _) rfl), insR_at a R (by simp at h; omega) (fun i z hi hz => hl (i + 1) z (by omega) (by simpa using hz))]
    rfl
theorem insR_new {x : Term} {a : Nat} {R : List Term} (ha : a ≤ R.length) (hl : ∀ i y, i < a → R[i]? = some y → compareT y x < 0) (h : ∀ y, R[a]? = some y → 0 < compareT y x) : insR R x = R.take a ++ [x] ++ R.drop a := by
  rw [insR_at a R ha hl, List.append_assoc]
  congr 1
  by_cases e : a < R.length
  · obtain ⟨y, hy⟩ : ∃ y, R[a]? = some y := ⟨_, List.getElem?_eq_getElem e⟩
    rw [drop_cons hy, insR_gt (h y hy)]; rfl
  · rw [List.drop_of_length_le (by omega)]; rfl
theorem insR_len (x : Term) : ∀ R : List Term, (insR R x).length ≤ R.length + 1
  | [] => Nat.le_refl _
  | y :: R => by
    rw [insR]
    have := insR_len x R
    split
    · simp only [List.length_cons]; omega
    · split
      · simp only [List.length_cons]; omega
      · simp only [List.length_cons]; omega
theorem insR_mem {x z : Term} : ∀ {R : List Term}, z ∈ insR R x → z = x ∨ z ∈ R
  | [], h => by rw [insR] at h; simp at h; exact .inl h
  | y :: R, h => by
    rw [insR] at h
    split at h
    · rcases List.mem_cons.1 h with rfl | h
      · exact .inr (by simp)
      · exact (insR_mem h).imp id fun h => List.mem_cons_of_mem _ h
    · split at h
      · exact .inr h
      · rcases List.mem_cons.1 h with rfl | h
        · exact .inl rfl
        · exact .inr h
/-- The document's sorting, the first n of them. -/
def sortR (l : List Term) : List Term := l.foldl insR []
theorem sortR_len : ∀ (n : Nat) (l : List Term), l.length = n → (sortR l).length ≤ n
  | 0, l, h => by rw [List.eq_nil_of_length_eq_zero h]; exact Nat.le_refl _
  | n + 1, l, h => by
    have hne : l ≠ [] := fun e => by subst e; cases h
    have hd := List.dropLast_concat_getLast hne
    have e : sortR l = insR (sortR l.dropLast) (l.getLast hne) := by conv => lhs; rw [← hd]
                                                                     unfold sortR; rw [List.foldl_append]; rfl
    rw [e]
    have := insR_len (l.getLast hne) (sortR l.dropLast)
    have := sortR_len n l.dropLast (by simp; omega)
    omega
theorem sortR_mem : ∀ (n : Nat) (l : List Term) (z : Term), l.length = n → z ∈ sortR l → z ∈ l
  | 0, l, z, h, hz => by rw [List.eq_nil_of_length_eq_zero h] at hz; cases hz
  | n + 1, l, z, h, hz => by
    have hne : l ≠ [] := fun e => by subst e; cases h
    have hd := List.dropLast_concat_getLast hne
    have e : sortR l = insR (sortR l.dropLast) (l.getLast hne) := by conv => lhs; rw [← hd]
                                                                     unfold sortR; rw [List.foldl_append]; rfl
    rw [e] at hz
    rcases insR_mem hz with rfl | hz
    · exact List.getLast_mem hne
    · exact List.dropLast_subset l (sortR_mem n _ z (by simp; omega) hz)

/-! The document's order of terms: its steps. -/
/-- Ahead of part i: what is told so far. -/
structure Br (a b : Term) (c : Int) (i : Nat) : Prop where
  le : i ≤ a.kids.length
  on : c = 0 → a.kids.length = b.kids.length ∧ a.bare b = bares (a.kids.drop i) (b.kids.drop i)
  off : c ≠ 0 → a.bare b = c
theorem Br.start {a b : Term} (h1 : ¬ a.kind = 1) (h2 : ¬ a.kind = 2) : Br a b (headC a b) 0 :=
  ⟨Nat.zero_le _, fun h => ⟨head_len h (by omega), by rw [bare_eq, if_neg (by omega)]; rfl⟩, fun h => by rw [bare_eq, if_pos (.inl h)]⟩
theorem Br.next {a b : Term} {i : Nat} (B : Br a b 0 i) (h : i < a.kids.length) (h' : i < b.kids.length) : Br a b (a.kids[i].bare b.kids[i]) (i + 1) := by
  obtain ⟨h1, h2⟩ := B.on rfl
  rw [bares_drop h h'] at h2
  exact ⟨h, fun e => ⟨h1, by rw [h2, if_neg (by omega)]⟩, fun e => by rw [h2, if_pos e]⟩
theorem Br.fin {a b : Term} {c : Int} {i : Nat} (B : Br a b c i) (h : c ≠ 0 ∨ i = a.kids.length) : c = a.bare b := by
  by_cases e : c = 0
  · rcases h with h | h
    · exact absurd e h
    · rw [(B.on e).2, h, List.drop_length, e]; rfl
  · exact (B.off e).symm

/-! What is sorted rises, each once, and is the same in whatever order it came. -/
theorem sortR_eq (l : List Term) : sortR l = cmpct (isrt l) := (cmpct_fold _ l rfl).symm
theorem sortR_rise (l : List Term) : (sortR l).Pairwise fun x y => compareT x y < 0 := by rw [sortR_eq]; exact cmpct_rise (isrt_sorted l)
theorem sortR_sub {l : List Term} {z : Term} (h : z ∈ sortR l) : z ∈ l := sortR_mem _ l z rfl h
theorem sortR_le (l : List Term) : (sortR l).length ≤ l.length := sortR_len _ l rfl
theorem sortR_alike {l : List Term} {z : Term} (h : z ∈ l) : ∃ y ∈ sortR l, compareT z y = 0 := by
  have hz := (isrt_mem l z).2 h
  have hs := isrt_sorted l
  rw [sortR_eq]
  cases e : isrt l with
  | nil => rw [e] at hz; cases hz
  | cons p S => rw [e] at hz hs; exact cmpctF_alike S p z hs hz
theorem bulks_ins (x : Term) : ∀ R : List Term, bulks (insR R x) ≤ bulks R + x.bulk + 1
  | [] => by simp only [insR, bulks]; omega
  | y :: R => by
    have := bulks_ins x R
    rw [insR]
    split
    · simp only [bulks] at this ⊢; omega
    · split
      · simp only [bulks]; omega
      · simp only [bulks]; omega
theorem bulks_fold : ∀ (l R : List Term), bulks (l.foldl insR R) ≤ bulks R + bulks l + l.length
  | [], R => by simp [bulks]
  | x :: l, R => by
    have h1 := bulks_fold l (insR R x)
    have h2 := bulks_ins x R
    simp only [List.foldl_cons, List.length_cons, bulks] at h1 h2 ⊢; omega
theorem sortR_bulk (l : List Term) : bulks (sortR l) ≤ bulks l + l.length := by
  have := bulks_fold l []
  simp only [bulks] at this
  unfold sortR; omega
/-- Two that rise, each of the one alike with one of the other: they are alike, one by one. -/
theorem rise_alike : ∀ (A B : List Term), A.Pairwise (fun x y => compareT x y < 0) → B.Pairwise (fun x y => compareT x y < 0) → (∀ x ∈ A, ∃ y ∈ B, compareT x y = 0) → (∀ y ∈ B, ∃ x ∈ A, compareT y x = 0) → A.length = B.length ∧ ∀ (i : Nat) (x y : Term), A[i]? = some x → B[i]? = some y → compareT x y = 0
  | [], [], _, _, _, _ => ⟨rfl, fun i x y h => by cases h⟩
  | [], b :: B, _, _, _, h => by obtain ⟨x, hx, _⟩ := h b (by simp); cases hx
  | a :: A, [], _, _, h, _ => by obtain ⟨x, hx, _⟩ := h a (by simp); cases hx
  | a :: A, b :: B, hA, hB, h1, h2 => by
    obtain ⟨a1, a2⟩ := List.pairwise_cons.1 hA
    obtain ⟨b1, b2⟩ := List.pairwise_cons.1 hB
    have hab : compareT a b = 0 := by
      obtain ⟨y, hy, ey⟩ := h1 a (by simp)
      obtain ⟨x, hx, ex⟩ := h2 b (by simp)
      rcases List.mem_cons.1 hy with rfl | hy
      · exact ey
      · have n1 := cT_neg a y
        have l1 := cT_lt_le (b1 y hy) (show compareT y a ≤ 0 by omega)
        rcases List.mem_cons.1 hx with rfl | hx
        · omega
        · have n2 := cT_neg b x
          have l2 := cT_lt_le (a1 x hx) (show compareT x b ≤ 0 by omega)
          have n3 := cT_neg a b
          omega
    have n3 := cT_neg a b
    have t1 : ∀ x ∈ A, ∃ y ∈ B, compareT x y = 0 := fun x hx => by
      obtain ⟨y, hy, e⟩ := h1 x (by simp [hx])
      rcases List.mem_cons.1 hy with rfl | hy
      · have := cT_lt_le (a1 x hx) (show compareT x y ≤ 0 by omega)
        omega
      · exact ⟨y, hy, e⟩
    have t2 : ∀ y ∈ B, ∃ x ∈ A, compareT y x = 0 := fun y hy => by
      obtain ⟨x, hx, e⟩ := h2 y (by simp [hy])
      rcases List.mem_cons.1 hx with rfl | hx
      · have := cT_lt_le (b1 y hy) (show compareT y x ≤ 0 by omega)
        omega
      · exact ⟨x, hx, e⟩
    obtain ⟨ih1, ih2⟩ := rise_alike A B a2 b2 t1 t2
    refine ⟨by simp [ih1], fun i x y hx hy => ?_⟩
    cases i with
    | zero => simp only [List.getElem?_cons_zero, Option.some.injEq] at hx hy; subst hx; subst hy; exact hab
    | succ i => exact ih2 i x y (by simpa using hx) (by simpa using hy)
/-- In whatever order it came. -/
theorem sortR_turn {l m : List Term} (h : ∀ z, z ∈ l ↔ z ∈ m) : (sortR l).length = (sortR m).length ∧ ∀ (i : Nat) (x y : Term), (sortR l)[i]? = some x → (sortR m)[i]? = some y → compareT x y = 0 :=
  rise_alike _ _ (sortR_rise l) (sortR_rise m) (fun x hx => sortR_alike ((h x).1 (sortR_sub hx))) fun y hy => sortR_alike ((h y).2 (sortR_sub hy))
theorem fold_rise : ∀ (l R : List Term), (R ++ l).Pairwise (fun x y => compareT x y < 0) → l.foldl insR R = R ++ l
  | [], R, _ => (List.append_nil R).symm
  | x :: l, R, h => by
    have hx := (List.pairwise_append.1 h).2.2
    rw [List.foldl_cons, insR_new (a := R.length) (Nat.le_refl _) (fun i y _ hy => hx y (List.mem_of_getElem? hy) x (by simp)) (fun y hy => absurd (List.getElem?_eq_some_iff.1 hy).1 (Nat.lt_irrefl _)), List.take_length, List.drop_length, List.append_nil, fold_rise l (R ++ [x]) (by rw [List.append_assoc]; exact h), List.append_assoc]
    rfl
/-- Sorted again. -/
theorem sortR_again (l : List Term) : sortR (sortR l) = sortR l := by
  have := fold_rise (sortR l) [] (sortR_rise l)
  exact this
theorem or2_rng {x y : Int} (h : -1 ≤ x ∧ x ≤ 1) (h' : -1 ≤ y ∧ y ≤ 1) : -1 ≤ or2 x y ∧ or2 x y ≤ 1 := by unfold or2; split <;> assumption
theorem cmpI_rng (a b : Int) : -1 ≤ cmpI a b ∧ cmpI a b ≤ 1 := by unfold cmpI; split <;> (try split) <;> omega
theorem cmpS_rng (a b : ByteArray) : -1 ≤ cmpS a b ∧ cmpS a b ≤ 1 := by unfold cmpS; split <;> (try split) <;> omega
theorem orI_rng : ∀ {l : List Int}, (∀ x ∈ l, -1 ≤ x ∧ x ≤ 1) → -1 ≤ orI l ∧ orI l ≤ 1
  | [], _ => by unfold orI; omega
  | x :: l, h => by rw [orI_or2]; exact or2_rng (h x (List.mem_cons_self ..)) (orI_rng fun y hy => h y (List.mem_cons_of_mem _ hy))
theorem headC_rng (a b : Term) : -1 ≤ headC a b ∧ headC a b ≤ 1 := by
  unfold headC
  split
  · exact cmpI_rng _ _
  · split <;> refine orI_rng fun x hx => ?_ <;> simp only [List.mem_cons, List.not_mem_nil, or_false] at hx
    · rcases hx with rfl | rfl
      · exact cmpI_rng _ _
      · exact cmpS_rng _ _
    · rcases hx with rfl | rfl | rfl | rfl
      · exact cmpI_rng _ _
      · exact cmpI_rng _ _
      · exact cmpI_rng _ _
      · exact cmpS_rng _ _
mutual
theorem bare_rng : ∀ a b : Term, -1 ≤ a.bare b ∧ a.bare b ≤ 1
  | .node k n s ks, b => by
    rw [bare_or]
    refine or2_rng (headC_rng _ _) ?_
    split
    · omega
    · exact bares_rng ks b.kids
theorem bares_rng : ∀ l m : List Term, -1 ≤ bares l m ∧ bares l m ≤ 1
  | [], _ => by rw [bares]; omega
  | _ :: _, [] => by rw [bares]; omega
  | x :: l, y :: m => by rw [bares_cons]; exact or2_rng (bare_rng x y) (bares_rng l m)
end
/-- Each just ahead of the next one. -/
theorem sortR_step {l : List Term} {i : Nat} {x y : Term} (hx : (sortR l)[i]? = some x) (hy : (sortR l)[i + 1]? = some y) : compareT x y = -1 := by
  have h1 := (List.getElem?_eq_some_iff.1 hx).1
  have h2 := (List.getElem?_eq_some_iff.1 hy).1
  have h := List.pairwise_iff_getElem.1 (sortR_rise l) i (i + 1) h1 h2 (Nat.lt_succ_self _)
  rw [(List.getElem?_eq_some_iff.1 hx).2, (List.getElem?_eq_some_iff.1 hy).2] at h
  have : -1 ≤ compareT x y := (bare_rng _ _).1
  omega
end Go.Proofs.Ythpiggjclhnkcaa.AM
