/- The order. -/
import Derived.Test.YthpiggjclhnkcaaV0
namespace Go.Proofs.Ythpiggjclhnkcaa.AM
open Go
set_option linter.unusedVariables false
set_option linter.unusedSimpArgs false
theorem cmpI_neg (a b : Int) : cmpI b a = -cmpI a b := by
  unfold cmpI
  by_cases h1 : a < b
  · rw [if_pos h1, if_neg (by omega), if_pos h1]; rfl
  · by_cases h2 : b < a
    · rw [if_pos h2, if_neg h1, if_pos h2]
    · rw [if_neg h2, if_neg h1, if_neg h1, if_neg h2]; rfl
theorem cmpS_neg (a b : ByteArray) : cmpS b a = -cmpS a b := by
  unfold cmpS
  by_cases h1 : Op.bytesLess a.toList b.toList = true
  · rw [if_pos h1, if_neg (fun h => bytes_asym h1 h), if_pos h1]; rfl
  · by_cases h2 : Op.bytesLess b.toList a.toList = true
    · rw [if_pos h2, if_neg h1, if_pos h2]
    · rw [if_neg h2, if_neg h1, if_neg h1, if_neg h2]; rfl
def or2 (x y : Int) : Int := if x ≠ 0 then x else y
theorem orI_or2 (x : Int) (l : List Int) : orI (x :: l) = or2 x (orI l) := rfl
theorem or2_neg (x y : Int) : or2 (-x) (-y) = -or2 x y := by
  unfold or2
  by_cases h : x = 0
  · rw [if_neg (by omega), if_neg (by omega)]
  · rw [if_pos (by omega), if_pos h]
theorem headC_neg (a b : Term) : headC b a = -headC a b := by
  by_cases h : a.kind = b.kind
  · by_cases h1 : a.kind = 1 ∨ a.kind = 2
    · rw [headC_num h h1, headC_num h.symm (by rw [← h]; exact h1), cmpI_neg]
    · by_cases h2 : a.kind = 3
      · rw [headC_fun h h2, headC_fun h.symm (by omega)]
        simp only [orI_or2, cmpI_neg a.kids.length b.kids.length, cmpS_neg a.name b.name]
        rw [← or2_neg, ← or2_neg]; rfl
      · rw [headC_other (by omega), headC_other (by omega)]
        simp only [orI_or2, cmpI_neg a.kids.length b.kids.length, cmpS_neg a.name b.name, cmpI_neg a.kind b.kind, cmpI_neg a.num b.num]
        rw [← or2_neg, ← or2_neg, ← or2_neg, ← or2_neg]; rfl
  · rw [headC_other (by omega), headC_other (by omega)]
    simp only [orI_or2, cmpI_neg a.kids.length b.kids.length, cmpS_neg a.name b.name, cmpI_neg a.kind b.kind, cmpI_neg a.num b.num]
    rw [← or2_neg, ← or2_neg, ← or2_neg, ← or2_neg]; rfl
theorem headC_kind {a b : Term} (h : headC a b = 0) : a.kind = b.kind := by
  by_cases e : a.kind = b.kind
  · exact e
  · rw [headC_other (by omega), orI_or2] at h
    have : cmpI a.kind b.kind ≠ 0 := fun hh => e (cmpI_zero.1 hh)
    unfold or2 at h; rw [if_pos this] at h; exact absurd h this
mutual
theorem bare_neg : ∀ a b : Term, b.bare a = -a.bare b
  | .node k n s ks, b => by
    rw [bare_eq b, bare_eq (.node k n s ks)]
    rw [headC_neg (.node k n s ks) b]
    by_cases h : headC (.node k n s ks) b = 0
    · have hk := headC_kind h
      have hk : k = b.kind := hk
      by_cases h1 : k = 1 ∨ k = 2
      · rw [if_pos (.inr (by rw [← hk]; exact h1)), if_pos (.inr h1)]
      · rw [if_neg (fun e => e.elim (fun e => e (by omega)) (by rw [← hk]; exact h1)), if_neg (fun e => e.elim (fun e => e h) h1)]
        exact bares_neg ks b.kids
    · rw [if_pos (.inl (by omega)), if_pos (.inl h)]
theorem bares_neg : ∀ l m : List Term, bares m l = -bares l m
  | [], [] => rfl
  | [], _ :: _ => rfl
  | _ :: _, [] => rfl
  | x :: l, y :: m => by
    rw [bares, bares, bare_neg x y, bares_neg l m]
    exact or2_neg _ _
end
theorem bare_refl (a : Term) : a.bare a = 0 := by have := bare_neg a a; omega
/-- Three comparisons that go together. -/
def Tr (x y z : Int) : Prop := x ≤ 0 → y ≤ 0 → z ≤ 0 ∧ (z = 0 → x = 0 ∧ y = 0)
theorem Tr.or {x y z x' y' z' : Int} (h : Tr x y z) (h' : Tr x' y' z') : Tr (or2 x x') (or2 y y') (or2 z z') := by
  intro h1 h2
  unfold or2 at h1 h2 ⊢
  have hx : x ≤ 0 := by split at h1 <;> omega
  have hy : y ≤ 0 := by split at h2 <;> omega
  obtain ⟨e1, e2⟩ := h hx hy
  by_cases hz : z = 0
  · obtain ⟨rfl, rfl⟩ := e2 hz
    subst hz
    simp only [ne_eq, not_true_eq_false, if_false] at h1 h2 ⊢
    exact h' h1 h2
  · rw [if_pos hz]
    exact ⟨e1, fun e => absurd e hz⟩
theorem cmpI_tr (a b c : Int) : Tr (cmpI a b) (cmpI b c) (cmpI a c) := by
  intro h1 h2
  unfold cmpI at *
  split at h1 <;> split at h2 <;> (try split at h1) <;> (try split at h2) <;> (try omega) <;> (constructor <;> (try intro h)) <;> (repeat' split) <;> (try omega) <;> (repeat' split at h) <;> omega
theorem cmpS_self (a : ByteArray) : cmpS a a = 0 := by have := cmpS_neg a a; omega
theorem compare_refl (a : Term) : compareT a a = 0 := bare_refl _
theorem compare_neg (a b : Term) : compareT b a = -compareT a b := bare_neg _ _
def adjB : List Term → Bool
  | x :: y :: l => (compareT y x != 0) && adjB (y :: l)
  | _ => true
theorem adj_no : ∀ {l : List Term}, adjB l = true → ∀ (i : Nat) (x y : Term), l[i + 1]? = some x → l[i]? = some y → compareT x y ≠ 0
  | [], _, i, x, y, h, _ => by simp at h
  | [_], _, i, x, y, h, _ => by simp at h
  | a :: b :: l, hb, 0, x, y, h1, h2 => by
    simp at h1 h2
    subst h1; subst h2
    rw [adjB, Bool.and_eq_true, bne_iff_ne] at hb
    exact hb.1
  | a :: b :: l, hb, i + 1, x, y, h1, h2 => by
    rw [adjB, Bool.and_eq_true] at hb
    exact adj_no hb.2 i x y (by simpa using h1) (by simpa using h2)
theorem Tr.or' {x y z x' y' z' : Int} (h : Tr x y z) (h' : x = 0 → y = 0 → z = 0 → Tr x' y' z') : Tr (or2 x x') (or2 y y') (or2 z z') := by
  intro h1 h2
  unfold or2 at h1 h2 ⊢
  have hx : x ≤ 0 := by split at h1 <;> omega
  have hy : y ≤ 0 := by split at h2 <;> omega
  obtain ⟨e1, e2⟩ := h hx hy
  by_cases hz : z = 0
  · obtain ⟨rfl, rfl⟩ := e2 hz
    subst hz
    simp only [ne_eq, not_true_eq_false, if_false] at h1 h2 ⊢
    exact h' rfl rfl rfl h1 h2
  · rw [if_pos hz]
    exact ⟨e1, fun e => absurd e hz⟩
theorem tr_zero : Tr 0 0 0 := fun _ _ => ⟨Int.le_refl _, fun _ => ⟨rfl, rfl⟩⟩
theorem cmpS_zero {a b : ByteArray} : cmpS a b = 0 ↔ a = b := by
  constructor
  · intro h
    unfold cmpS at h
    split at h
    · cases h
    · rename_i h1
      split at h
      · cases h
      · rename_i h2
        by_cases e : a.toList = b.toList
        · exact ByteArray.ext_list e
        · exact absurd (bytes_total (by simpa using h1) e) h2
  · rintro rfl; exact cmpS_self a
theorem cmpS_le {a b : ByteArray} : cmpS a b ≤ 0 ↔ Op.bytesLess a.toList b.toList = true ∨ a = b := by
  constructor
  · intro h
    by_cases h1 : Op.bytesLess a.toList b.toList = true
    · exact .inl h1
    · unfold cmpS at h
      rw [if_neg h1] at h
      split at h
      · exact absurd h (by decide)
      · rename_i h2
        right
        by_cases e : a.toList = b.toList
        · exact ByteArray.ext_list e
        · exact absurd (bytes_total (by simpa using h1) e) h2
  · rintro (h | rfl)
    · unfold cmpS; rw [if_pos h]; decide
    · rw [cmpS_self]; exact Int.le_refl _
theorem cmpS_tr (a b c : ByteArray) : Tr (cmpS a b) (cmpS b c) (cmpS a c) := by
  intro h1 h2
  rw [cmpS_le] at h1 h2
  rcases h1 with h1 | rfl
  · rcases h2 with h2 | rfl
    · have h3 := bytes_trans _ _ _ h1 h2
      refine ⟨cmpS_le.2 (.inl h3), fun e => ?_⟩
      unfold cmpS at e; rw [if_pos h3] at e; cases e
    · refine ⟨cmpS_le.2 (.inl h1), fun e => ?_⟩
      unfold cmpS at e; rw [if_pos h1] at e; cases e
  · refine ⟨cmpS_le.2 h2, fun e => ⟨cmpS_self a, e⟩⟩
def inner (a b : Term) : Int :=
  if a.kind = 1 ∨ a.kind = 2 then cmpI a.num b.num
  else if a.kind = 3 then or2 (cmpI a.kids.length b.kids.length) (or2 (cmpS a.name b.name) 0)
  else or2 (cmpI a.kids.length b.kids.length) (or2 (cmpI a.num b.num) (or2 (cmpS a.name b.name) 0))
theorem or2_nz {x y : Int} (h : x ≠ 0) : or2 x y = x := if_pos h
theorem or2_z {y : Int} : or2 0 y = y := if_neg (fun h => h rfl)
theorem headC_or (a b : Term) : headC a b = or2 (cmpI a.kind b.kind) (inner a b) := by
  by_cases h : a.kind = b.kind
  · rw [cmpI_zero.2 h, or2_z]
    unfold inner
    by_cases h1 : a.kind = 1 ∨ a.kind = 2
    · rw [if_pos h1, headC_num h h1]
    · rw [if_neg h1]
      by_cases h2 : a.kind = 3
      · rw [if_pos h2, headC_fun h h2]; rfl
      · rw [if_neg h2, headC_other (by omega)]
        show or2 (cmpI a.kind b.kind) _ = _
        rw [cmpI_zero.2 h, or2_z]; rfl
  · have hz : cmpI a.kind b.kind ≠ 0 := fun e => h (cmpI_zero.1 e)
    rw [or2_nz hz, headC_other (by omega)]
    exact or2_nz hz
theorem headC_tr (a b c : Term) : Tr (headC a b) (headC b c) (headC a c) := by
  rw [headC_or, headC_or, headC_or]
  refine (cmpI_tr _ _ _).or' fun h1 h2 h3 => ?_
  have e1 := cmpI_zero.1 h1
  unfold inner
  rw [← e1]
  split
  · exact cmpI_tr _ _ _
  · split
    · exact (cmpI_tr _ _ _).or ((cmpS_tr _ _ _).or tr_zero)
    · exact (cmpI_tr _ _ _).or ((cmpI_tr _ _ _).or ((cmpS_tr _ _ _).or tr_zero))
theorem bare_or (a b : Term) : a.bare b = or2 (headC a b) (if a.kind = 1 ∨ a.kind = 2 then 0 else bares a.kids b.kids) := by
  rw [bare_eq]
  by_cases h : headC a b = 0
  · rw [h, or2_z]
    by_cases h1 : a.kind = 1 ∨ a.kind = 2
    · rw [if_pos (.inr h1), if_pos h1]
    · rw [if_neg (fun e => e.elim (fun e => e rfl) h1), if_neg h1]
  · rw [or2_nz h, if_pos (.inl h)]
theorem bares_cons (x y : Term) (l m : List Term) : bares (x :: l) (y :: m) = or2 (x.bare y) (bares l m) := by rw [bares]; rfl
mutual
theorem bare_tr : ∀ a b c : Term, Tr (a.bare b) (b.bare c) (a.bare c)
  | .node k n s ks, b, c => by
    rw [bare_or, bare_or b, bare_or (.node k n s ks) c]
    refine (headC_tr _ _ _).or' fun h1 h2 h3 => ?_
    have e1 : k = b.kind := headC_kind h1
    rw [← e1]
    show Tr (if k = 1 ∨ k = 2 then 0 else bares ks b.kids) _ (if k = 1 ∨ k = 2 then 0 else bares ks c.kids)
    by_cases hq : k = 1 ∨ k = 2
    · rw [if_pos hq, if_pos hq, if_pos hq]; exact tr_zero
    · rw [if_neg hq, if_neg hq, if_neg hq]
      have l1 : ks.length = b.kids.length := head_len h1 hq
      have l2 := head_len h2 (by rw [← e1]; exact hq)
      exact bares_tr ks b.kids c.kids l1 l2
theorem bares_tr : ∀ l m o : List Term, l.length = m.length → m.length = o.length → Tr (bares l m) (bares m o) (bares l o)
  | [], [], [], _, _ => tr_zero
  | x :: l, y :: m, z :: o, h1, h2 => by
    rw [bares_cons, bares_cons, bares_cons]
    exact (bare_tr x y z).or (bares_tr l m o (by simpa using h1) (by simpa using h2))
  | [], _ :: _, _, h, _ => by simp at h
  | _ :: _, [], _, h, _ => by simp at h
  | [], [], _ :: _, _, h => by simp at h
  | _ :: _, _ :: _, [], _, h => by simp at h
end
/-! Two that are alike, and may be. -/
def Cl (lv : Int) (t : Term) : Prop := ∀ p ∈ t.parts, alone lv p = true ∧ p.kind ≠ 4
theorem Cl.kid {lv : Int} {t x : Term} (h : Cl lv t) (hx : x ∈ t.kids) : Cl lv x := fun p hp => h p (by rw [t.parts_kids]; exact List.mem_cons_of_mem _ (partss_mem hx hp))
theorem Cl.self {lv : Int} {t : Term} (h : Cl lv t) : alone lv t = true ∧ t.kind ≠ 4 := h t (by rw [t.parts_kids]; simp)
mutual
theorem bare_same {lv : Int} : ∀ a b : Term, Cl lv a → Cl lv b → a.bare b = 0 → a = b
  | .node k n s ks, b, ha, hb, h => by
    rw [bare_or] at h
    have hz : headC (.node k n s ks) b = 0 := by
      by_cases e : headC (.node k n s ks) b = 0
      · exact e
      · rw [or2_nz e] at h; exact h
    rw [hz, or2_z] at h
    have ek : k = b.kind := headC_kind hz
    have hz' := hz
    rw [headC_or] at hz'
    have : cmpI (Term.node k n s ks).kind b.kind = 0 := cmpI_zero.2 ek
    rw [this, or2_z] at hz'
    cases b with
    | node k' n' s' ks' =>
      have ek : k = k' := ek
      subst ek
      have h : (if k = 1 ∨ k = 2 then 0 else bares ks ks') = 0 := h
      rcases alone_cases ha.self.1 with ⟨c1, c2, c3⟩ | ⟨c1, c2, c3⟩ | ⟨c1, c2, _⟩ | ⟨c1, _⟩
      · rcases alone_cases hb.self.1 with ⟨d1, d2, d3⟩ | ⟨d1, _⟩ | ⟨d1, _⟩ | ⟨d1, _⟩
        · have c1 : k = 1 := c1
          obtain rfl : s = ⟨#[]⟩ := c2
          obtain rfl : ks = [] := c3
          obtain rfl : s' = ⟨#[]⟩ := d2
          obtain rfl : ks' = [] := d3
          unfold inner at hz'
          rw [if_pos (.inl c1)] at hz'
          obtain rfl : n = n' := cmpI_zero.1 hz'
          rfl
        all_goals (have c1 : k = 1 := c1; have d1 : k = _ := d1; omega)
      · rcases alone_cases hb.self.1 with ⟨d1, _⟩ | ⟨d1, d2, d3⟩ | ⟨d1, _⟩ | ⟨d1, _⟩
        · have c1 : k = 2 := c1; have d1 : k = 1 := d1; omega
        · have c1 : k = 2 := c1
          obtain rfl : s = ⟨#[]⟩ := c2
          obtain rfl : ks = [] := c3
          obtain rfl : s' = ⟨#[]⟩ := d2
          obtain rfl : ks' = [] := d3
          unfold inner at hz'
          rw [if_pos (.inr c1)] at hz'
          obtain rfl : n = n' := cmpI_zero.1 hz'
          rfl
        all_goals (have c1 : k = 2 := c1; have d1 : k = _ := d1; omega)
      · have c1 : k = 3 := c1
        rcases alone_cases hb.self.1 with ⟨d1, _⟩ | ⟨d1, _⟩ | ⟨d1, d2, _⟩ | ⟨d1, _⟩
        · have d1 : k = 1 := d1; omega
        · have d1 : k = 2 := d1; omega
        · obtain rfl : n = 0 := c2
          obtain rfl : n' = 0 := d2
          have hl : ks.length = ks'.length := head_len hz (by show ¬ (k = 1 ∨ k = 2); omega)
          unfold inner at hz'
          rw [if_neg (by show ¬ (k = 1 ∨ k = 2); omega), if_pos (show (Term.node k 0 s ks).kind = 3 from c1)] at hz'
          have e0 : cmpI (Term.node k 0 s ks).kids.length (Term.node k 0 s' ks').kids.length = 0 := cmpI_zero.2 (by show ((ks.length : Nat) : Int) = ((ks'.length : Nat) : Int); rw [hl])
          rw [e0, or2_z] at hz'
          have es : cmpS s s' = 0 := by
            by_cases e : cmpS s s' = 0
            · exact e
            · have hz' : or2 (cmpS s s') 0 = 0 := hz'
              rw [or2_nz e] at hz'; exact hz'
          obtain rfl := cmpS_zero.1 es
          rw [if_neg (by omega)] at h
          rw [bares_same ks ks' (fun x hx => ha.kid hx) (fun x hx => hb.kid hx) hl h]
        · have d1 : k = 4 := d1; omega
      · exact absurd c1 ha.self.2
theorem bares_same {lv : Int} : ∀ l m : List Term, (∀ x ∈ l, Cl lv x) → (∀ x ∈ m, Cl lv x) → l.length = m.length → bares l m = 0 → l = m
  | [], [], _, _, _, _ => rfl
  | x :: l, y :: m, h1, h2, hl, h => by
    rw [bares_cons] at h
    have hx : x.bare y = 0 := by
      by_cases e : x.bare y = 0
      · exact e
      · rw [or2_nz e] at h; exact h
    rw [hx, or2_z] at h
    rw [bare_same x y (h1 x (by simp)) (h2 y (by simp)) hx, bares_same l m (fun z hz => h1 z (by simp [hz])) (fun z hz => h2 z (by simp [hz])) (by simpa using hl) h]
  | [], _ :: _, _, _, h, _ => by simp at h
  | _ :: _, [], _, _, h, _ => by simp at h
end
theorem alone_like' {lv : Int} {t u : Term} (h1 : t.kind = u.kind) (h2 : t.num = u.num) (h3 : t.name = u.name) (h4 : t.kids.length = u.kids.length) (hk : t.kind ≠ 4) : alone lv t = alone lv u := by
  have b4 : (u.kind == 4) = false := by rw [beq_eq_false_iff_ne, ← h1]; exact hk
  simp only [alone, h1, h2, h3, h4, b4, cond_false]
theorem cl_erase {lv : Int} (t : Term) : t.parts.all (alone lv) = true → Cl lv t.erase := by
  induction t using term_ind with
  | hs n s x ih =>
    intro h
    rw [erase_s]
    refine ih ?_
    rw [Term.parts, List.all_cons, Bool.and_eq_true, partss, partss, List.append_nil] at h
    exact h.2
  | hn t hf ih =>
    intro h
    have hself : alone lv t = true := by rw [t.parts_kids, List.all_cons, Bool.and_eq_true] at h; exact h.1
    have hkids : ∀ x ∈ t.kids, x.parts.all (alone lv) = true := fun x hx => by
      rw [List.all_eq_true] at h ⊢
      exact fun p hp => h p (by rw [t.parts_kids]; exact List.mem_cons_of_mem _ (partss_mem hx hp))
    have h4 : t.kind ≠ 4 := fun h4 => by
      have := (fine_seal (fine_of lv t h) h4).1
      rw [hf] at this; cases this
    rw [erase_node hf]
    intro p hp
    rw [Term.parts] at hp
    rcases List.mem_cons.1 hp with rfl | hp
    · refine ⟨?_, h4⟩
      rw [alone_like' (t := .node t.kind t.num t.name (erases t.kids)) (u := t) rfl rfl rfl (by exact erases_len _) (by exact h4)]; exact hself
    · have key : ∀ l : List Term, (∀ x ∈ l, x ∈ t.kids) → ∀ p ∈ partss (erases l), alone lv p = true ∧ p.kind ≠ 4 := by
        intro l
        induction l with
        | nil => intro _ p hp; cases hp
        | cons y l ih2 =>
          intro hy p hp
          rw [erases, partss, List.mem_append] at hp
          rcases hp with hp | hp
          · exact ih y (hy y (by simp)) (hkids y (hy y (by simp))) p hp
          · exact ih2 (fun x hx => hy x (by simp [hx])) p hp
      exact key t.kids (fun x hx => hx) p hp
theorem compare_zero {a b : Term} {lv : Int} (ha : a.check lv = 0) (hb : b.check lv = 0) : (compareT a b = 0) ↔ a.erase = b.erase := by
  constructor
  · exact bare_same _ _ (cl_erase a (check_zero.1 ha).2.2) (cl_erase b (check_zero.1 hb).2.2)
  · intro h; unfold compareT; rw [h]; exact bare_refl _
end Go.Proofs.Ythpiggjclhnkcaa.AM
