/- Plain laws of stores: what is undone is as it was. -/
import Derived.Test.YthpiggjclhnkcaaS4
namespace Go.Proofs.Ythpiggjclhnkcaa.AM
open Go
set_option linter.unusedVariables false
set_option linter.unusedSimpArgs false
theorem look_cs {s s' : St} (h : s.cs = s'.cs) (t : Term) : s.look t = s'.look t := by unfold St.look; rw [h]
theorem walk_cs {s s' : St} (h : s.cs = s'.cs) : ∀ (n : Nat) (t : Term), s.walk n t = s'.walk n t
  | 0, t => rfl
  | n + 1, t => by
    simp only [St.walk, look_cs h t]
    cases s'.look t with
    | none => rfl
    | some u => exact walk_cs h n u
theorem wk_cs {s s' : St} (h : s.cs = s'.cs) : s.wk = s'.wk := by
  funext t; unfold St.wk; rw [h]; exact walk_cs h _ t
theorem full_cs {s s' : St} (h : s.cs = s'.cs) (t : Term) : s.full t = s'.full t := by unfold St.full; rw [wk_cs h]
theorem at_cs {s s' : St} (h : s.cs = s'.cs) (n : Int) : s.at n = s'.at n := by unfold St.at; rw [h]
theorem St.Ok.congr {s s' : St} {B : Nat} (h : s.Ok B) (hc : s.cs = s'.cs) (ht : s.tr = s'.tr) : s'.Ok B := by
  refine ⟨by rw [← hc]; exact h.len, by rw [← ht]; exact h.nodup, by rw [← ht]; intro v hv; rw [← at_cs hc]; exact h.inr v hv, fun i u hu => h.small i u (by rw [hc]; exact hu), ?_⟩
  obtain ⟨r, hr⟩ := h.ranked
  exact ⟨r, fun n t hn => hr n t (by rw [at_cs hc]; exact hn)⟩
/-- More was bound, one behind the other. -/
def Later (s s' : St) : Prop := ∃ l, s'.tr = s.tr ++ l ∧ clears l s'.cs = s.cs
theorem Later.refl (s : St) : Later s s := ⟨[], by simp, rfl⟩
theorem clears_set : ∀ (l : List Int) (cs : List (Option Term)) (i : Nat) (c : Option Term), (∀ v ∈ l, v.toNat ≠ i) → clears l (cs.set i c) = (clears l cs).set i c
  | [], cs, i, c, _ => rfl
  | v :: l, cs, i, c, h => by
    rw [clears, clears, List.set_comm _ _ (fun e => h v (by simp) e.symm), clears_set l _ i c (fun u hu => h u (by simp [hu]))]
theorem clears_get : ∀ (l : List Int) (cs : List (Option Term)) (i : Nat), (∀ v ∈ l, v.toNat ≠ i) → (clears l cs)[i]? = cs[i]?
  | [], cs, i, _ => rfl
  | v :: l, cs, i, h => by rw [clears, clears_get l _ i (fun u hu => h u (by simp [hu])), List.getElem?_set_ne (h v (by simp))]
theorem set_same {α : Type} {l : List α} {i : Nat} {x : α} (h : l[i]? = some x) : l.set i x = l := by
  apply List.ext_getElem?
  intro j
  by_cases hj : i = j
  · subst hj; rw [List.getElem?_set_self (List.getElem?_eq_some_iff.1 h).1, h]
  · rw [List.getElem?_set_ne hj]
theorem Later.bind {s s' : St} {B : Nat} (hs : s'.Ok B) (h : Later s s') (v : Int) (t : Term) : Later s (s'.bind v t).1 := by
  rcases bind_cases s' v t with ⟨e, _⟩ | ⟨h0, h1, hv, _, _, e⟩
  · rw [e]; exact h
  · obtain ⟨l, hl1, hl2⟩ := h
    rw [e]
    have hne : ∀ u ∈ l, u.toNat ≠ v.toNat := fun u hu hh => by
      have hb := hs.inr u (by rw [hl1]; exact List.mem_append_right _ hu)
      obtain ⟨w, hw⟩ := Option.isSome_iff_exists.1 hb
      have := (at_some hw).1
      have : u = v := by omega
      subst this
      rw [hv] at hw; cases hw
    refine ⟨l ++ [v], by simp [hl1, List.append_assoc], ?_⟩
    show clears (l ++ [v]) (s'.cs.set v.toNat (some t)) = s.cs
    rw [clears_snoc, clears_set l _ _ _ hne, List.set_set, hl2]
    refine set_same ?_
    rw [← hl2, clears_get l _ _ hne]
    unfold St.at at hv
    rw [if_pos h0] at hv
    have hlt : v.toNat < s'.cs.length := by omega
    rw [List.getElem?_eq_getElem hlt] at hv ⊢
    simp only [Option.join_some] at hv
    rw [hv]
theorem Later.undo {s s' : St} (h : Later s s') : (s'.undo (s.tr.length : Int)).cs = s.cs ∧ (s'.undo (s.tr.length : Int)).tr = s.tr := by
  obtain ⟨l, hl1, hl2⟩ := h
  have hc : s'.cutAt (s.tr.length : Int) = s.tr.length := by unfold St.cutAt; rw [hl1]; simp; omega
  unfold St.undo
  rw [hc]
  simp only
  rw [hl1, List.drop_left, List.take_left]
  exact ⟨hl2, rfl⟩

/-! What a term is full. -/
mutual
inductive Fil (s : St) : Term → Term → Prop
  | mk {t : Term} {xs : List Term} (h : Fils s (s.wk t).kids xs) : Fil s t (.node (s.wk t).kind (s.wk t).num (s.wk t).name xs)
inductive Fils (s : St) : List Term → List Term → Prop
  | nil : Fils s [] []
  | cons {t x : Term} {ts xs : List Term} (h : Fil s t x) (hs : Fils s ts xs) : Fils s (t :: ts) (x :: xs)
end
theorem Fils.snoc {s : St} : ∀ {ts xs : List Term} {t x : Term}, Fils s ts xs → Fil s t x → Fils s (ts ++ [t]) (xs ++ [x])
  | _, _, t, x, .nil, h => .cons h .nil
  | _, _, t, x, .cons h0 hs, h => .cons h0 (hs.snoc h)
mutual
theorem fil_det {s : St} : ∀ (x : Term) {t y : Term}, Fil s t x → Fil s t y → x = y
  | .node k n nm xs, t, y, h, h' => by
    cases h with
    | mk h => cases h' with
      | mk h' => rw [fils_det xs h h']
theorem fils_det {s : St} : ∀ (xs : List Term) {ts ys : List Term}, Fils s ts xs → Fils s ts ys → xs = ys
  | [], ts, ys, h, h' => by cases h; cases h'; rfl
  | x :: xs, ts, ys, h, h' => by
    cases h with
    | cons h hs => cases h' with
      | cons h' hs' => rw [fil_det x h h', fils_det xs hs hs']
end
theorem sizes_app : ∀ (l m : List Term), sizes (l ++ m) = sizes l + sizes m
  | [], m => by simp [sizes]
  | t :: l, m => by simp only [List.cons_append, sizes, sizes_app l m]; omega
theorem deeps_app : ∀ (l m : List Term), deeps (l ++ m) = max (deeps l) (deeps m)
  | [], m => by simp [deeps]
  | t :: l, m => by simp only [List.cons_append, deeps, deeps_app l m]; omega
theorem fill_err {W : Term → Term} {m : Nat} : ∀ (t : Term) (l e : Int), e ≠ 0 → (fillT W m t l e).2.2 = e := fun t l e h => by rw [fillT_old h]
theorem fillK_err {W : Term → Term} {m : Nat} {e : Int} (he : e ≠ 0) (ks : List Term) (l : Int) : (fillK W m ks l e).2.2 = e := by
  rw [← List.reverse_reverse ks]
  induction ks.reverse with
  | nil => rfl
  | cons k ks ih => rw [List.reverse_cons, fillK_snoc]; show (fillT _ _ _ _ _).2.2 = e; rw [ih]; exact fill_err _ _ _ he

/-- What is filled without an error. -/
theorem fill_spec {s : St} {C : Nat} (hs : s.small C) : ∀ (m : Nat) (t : Term) (l : Int), t.bulk ≤ C → 0 ≤ l → l ≤ 1000 → (fillT s.wk m t l 0).2.2 = 0 →
    Fil s t (fillT s.wk m t l 0).1 ∧ (fillT s.wk m t l 0).1.deep ≤ m ∧ ((fillT s.wk m t l 0).1.size : Int) = l - (fillT s.wk m t l 0).2.1 ∧ 0 ≤ (fillT s.wk m t l 0).2.1 ∧ (fillT s.wk m t l 0).1.bulk ≤ (fillT s.wk m t l 0).1.size * C := by
  intro m
  induction m with
  | zero => intro t l _ _ _ h; rw [fillT_seven rfl rfl] at h; exact absurd h (by simp)
  | succ m ih =>
    intro t l hb h0 h1 h
    have hw1 : IntKind.i64.wrap (l - 1) = l - 1 := wrap64 (by omega) (by omega)
    by_cases hl : IntKind.i64.wrap (l - 1) < 0
    · rw [fillT_three rfl (by omega) hl] at h; exact absurd h (by simp)
    · rw [fillT_ok hl] at h ⊢
      rw [hw1] at hl h ⊢
      have hb2 := wk_bulk hs t hb
      have hU := (s.wk t).bulk_kids
      have key : ∀ (n : Nat) (ks : List Term), ks.length = n → (∀ k ∈ ks, k.bulk ≤ C) → (fillK s.wk m ks (l - 1) 0).2.2 = 0 →
          Fils s ks (fillK s.wk m ks (l - 1) 0).1 ∧ deeps (fillK s.wk m ks (l - 1) 0).1 ≤ m ∧ (sizes (fillK s.wk m ks (l - 1) 0).1 : Int) = l - 1 - (fillK s.wk m ks (l - 1) 0).2.1 ∧ 0 ≤ (fillK s.wk m ks (l - 1) 0).2.1 ∧ bulks (fillK s.wk m ks (l - 1) 0).1 ≤ sizes (fillK s.wk m ks (l - 1) 0).1 * C := by
        intro n
        induction n with
        | zero =>
          intro ks hk _ _
          have : ks = [] := List.eq_nil_of_length_eq_zero hk
          subst this
          exact ⟨.nil, Nat.zero_le _, by simp [fillK, sizes], by show 0 ≤ l - 1; omega, by simp [fillK, bulks]⟩
        | succ n ihn =>
          intro ks hk hbk he
          obtain ⟨ks', k, rfl⟩ : ∃ ks' k, ks = ks' ++ [k] := ⟨ks.dropLast, ks.getLast (by intro e; subst e; simp at hk), (List.dropLast_concat_getLast _).symm⟩
          rw [fillK_snoc] at he ⊢
          simp only at he ⊢
          have he1 : (fillK s.wk m ks' (l - 1) 0).2.2 = 0 := by
            by_cases hz : (fillK s.wk m ks' (l - 1) 0).2.2 = 0
            · exact hz
            · rw [fill_err _ _ _ hz] at he; exact absurd he hz
          obtain ⟨p1, p2, p3, p4, p5⟩ := ihn ks' (by simpa using hk) (fun k hk => hbk k (by simp [hk])) he1
          rw [he1] at he ⊢
          obtain ⟨q1, q2, q3, q4, q5⟩ := ih k (fillK s.wk m ks' (l - 1) 0).2.1 (hbk k (by simp)) p4 (by omega) he
          refine ⟨p1.snoc q1, ?_, ?_, q4, ?_⟩
          · rw [deeps_app]; simp only [deeps]; omega
          · rw [sizes_app]; simp only [sizes]; omega
          · rw [bulks_app, sizes_app]; simp only [bulks, sizes, Nat.add_zero, Nat.add_mul]; omega
      obtain ⟨p1, p2, p3, p4, p5⟩ := key _ (s.wk t).kids rfl (fun k hk => by have := bulks_mem hk; omega) h
      refine ⟨.mk p1, by simp only [Term.deep]; omega, by simp only [Term.size]; omega, p4, ?_⟩
      simp only [Term.bulk, Term.size, Nat.add_mul]
      omega
/-- What has so many parts, and is so deep, is filled. -/
theorem fill_of {s : St} : ∀ (m : Nat) (x t : Term) (l : Int), Fil s t x → x.deep ≤ m → (x.size : Int) ≤ l → l ≤ 1000 → fillT s.wk m t l 0 = (x, l - x.size, 0) := by
  intro m
  induction m with
  | zero => intro x t l _ h; have := x.deep_kids; omega
  | succ m ih =>
    intro x t l hf hd hs hl
    cases hf with
    | @mk _ xs hf =>
      simp only [Term.deep, Term.size] at hd hs
      have hw1 : IntKind.i64.wrap (l - 1) = l - 1 := wrap64 (by omega) (by omega)
      rw [fillT_ok (by rw [hw1]; omega), hw1]
      have key : ∀ (n : Nat) (ks xs : List Term), ks.length = n → Fils s ks xs → deeps xs ≤ m → (sizes xs : Int) ≤ l - 1 → fillK s.wk m ks (l - 1) 0 = (xs, l - 1 - sizes xs, 0) := by
        intro n
        induction n with
        | zero =>
          intro ks xs hk hf _ _
          have : ks = [] := List.eq_nil_of_length_eq_zero hk
          subst this
          cases hf
          simp [fillK, sizes]
        | succ n ihn =>
          intro ks xs hk hf hd hs
          obtain ⟨ks', k, rfl⟩ : ∃ ks' k, ks = ks' ++ [k] := ⟨ks.dropLast, ks.getLast (by intro e; subst e; simp at hk), (List.dropLast_concat_getLast _).symm⟩
          obtain ⟨xs', x, rfl, h1, h2⟩ : ∃ xs' x, xs = xs' ++ [x] ∧ Fils s ks' xs' ∧ Fil s k x := by
            clear ihn hk hd hs
            induction ks' generalizing xs with
            | nil => cases hf with | cons h hs => cases hs; exact ⟨[], _, rfl, .nil, h⟩
            | cons a ks' ihh =>
              cases hf with
              | cons h hs =>
                obtain ⟨xs', x, rfl, h1, h2⟩ := ihh _ hs
                exact ⟨_ :: xs', x, rfl, .cons h h1, h2⟩
          rw [deeps_app] at hd
          rw [sizes_app] at hs
          simp only [deeps, sizes] at hd hs
          rw [fillK_snoc, ihn ks' xs' (by simpa using hk) h1 (by omega) (by omega)]
          simp only
          rw [ih x k (l - 1 - sizes xs') h2 (by omega) (by omega) (by omega)]
          simp only [sizes_app, sizes, Prod.mk.injEq, and_true, true_and]
          omega
      rw [key _ (s.wk t).kids xs rfl hf (by omega) (by omega)]
      simp only [Term.size, Prod.mk.injEq, and_true, true_and]
      omega
theorem full_spec {s : St} {C : Nat} (hs : s.small C) {t : Term} (hb : t.bulk ≤ C) (h : (s.full t).2 = 0) : Fil s t (s.full t).1 ∧ (s.full t).1.deep ≤ 60 ∧ (s.full t).1.size ≤ 1000 ∧ (s.full t).1.bulk ≤ (s.full t).1.size * C := by
  unfold St.full at h ⊢
  simp only at h ⊢
  split at h
  · rename_i he
    rw [if_pos he]
    obtain ⟨h1, h2, h3, h4, h5⟩ := fill_spec hs 60 t 1000 hb (by omega) (by omega) he
    exact ⟨h1, h2, by show (fillT s.wk 60 t 1000 0).1.size ≤ 1000; omega, h5⟩
  · rename_i he; exact absurd h he
theorem full_of {s : St} {t x : Term} (h : Fil s t x) (hd : x.deep ≤ 60) (hs : x.size ≤ 1000) : s.full t = (x, 0) := by
  unfold St.full
  rw [fill_of 60 x t 1000 h hd (by omega) (by omega)]; rfl
theorem full_bulk {s : St} (hs : s.small (2 ^ 20)) {t : Term} (hb : t.bulk ≤ 2 ^ 20) : (s.full t).1.bulk ≤ 2 ^ 30 := by
  by_cases h : (s.full t).2 = 0
  · obtain ⟨_, _, h3, h4⟩ := full_spec hs hb h
    have : (s.full t).1.size * 2 ^ 20 ≤ 1000 * 2 ^ 20 := Nat.mul_le_mul_right _ h3
    omega
  · unfold St.full at h ⊢
    simp only at h ⊢
    split at h
    · exact absurd rfl h
    · rename_i he; rw [if_neg he]; exact Nat.le_of_ble_eq_true rfl
theorem full_zero {s : St} {t : Term} (h : (s.full t).2 ≠ 0) : (s.full t).1 = zeroT := by
  unfold St.full at h ⊢
  simp only at h ⊢
  split at h
  · exact absurd rfl h
  · rename_i he; rw [if_neg he]
end Go.Proofs.Ythpiggjclhnkcaa.AM
