/- Plain laws of stores: what is undone is as it was. -/
import Derived.Test.YthpiggjclhnkcaaS4
namespace Go.Proofs.Ythpiggjclhnkcaa.AM
open Go
set_option linter.unusedVariables false
set_option linter.unusedSimpArgs false
theorem at_cs {s s' : St} (h : s.cs = s'.cs) (n : Int) : s.at n = s'.at n := by unfold St.at; rw [h]
theorem St.Ok.congr {s s' : St} {B : Nat} (h : s.Ok B) (hc : s.cs = s'.cs) (ht : s.tr = s'.tr) : s'.Ok B := by
  refine ⟨by rw [← hc]; exact h.len, by rw [← ht]; exact h.nodup, by rw [← ht]; intro v hv; rw [← at_cs hc]; exact h.inr v hv, fun i u hu => h.small i u (by rw [hc]; exact hu), ?_⟩
  obtain ⟨r, hr⟩ := h.ranked
  exact ⟨r, fun n t hn => hr n t (by rw [at_cs hc]; exact hn)⟩
/-- More was bound, one behind the other. -/
def Later (s s' : St) : Prop := ∃ l, s'.tr = s.tr ++ l ∧ clears l s'.cs = s.cs
theorem Later.refl (s : St) : Later s s := ⟨[], by simp, rfl⟩
theorem clears_set : ∀ (l : List Int) (cs : List (Option Term)) (i : Nat) (c : Option Term), (∀ v ∈ l, v.toNat ≠ i) → clears l (cs.set i c) = (clears l cs).set i c
  | [], cs, i, c, _ => rfl
  | v :: l, cs, i, c, h => by
    rw [clears, clears, List.set_comm _ _ (fun e => h v (by simp) e.symm), clears_set l _ i c (fun u hu => h u (by simp [hu]))]
theorem clears_get : ∀ (l : List Int) (cs : List (Option Term)) (i : Nat), (∀ v ∈ l, v.toNat ≠ i) → (clears l cs)[i]? = cs[i]?
  | [], cs, i, _ => rfl
  | v :: l, cs, i, h => by rw [clears, clears_get l _ i (fun u hu => h u (by simp [hu])), List.getElem?_set_ne (h v (by simp))]
theorem set_same {α : Type} {l : List α} {i : Nat} {x : α} (h : l[i]? = some x) : l.set i x = l := by
  apply List.ext_getElem?
  intro j
  by_cases hj : i = j
  · subst hj; rw [List.getElem?_set_self (List.getElem?_eq_some_iff.1 h).1, h]
  · rw [List.getElem?_set_ne hj]
theorem Later.bind {s s' : St} {B : Nat} (hs : s'.Ok B) (h : Later s s') (v : Int) (t : Term) : Later s (s'.bind v t).1 := by
  rcases bind_cases s' v t with ⟨e, _⟩ | ⟨h0, h1, hv, _, _, e⟩
  · rw [e]; exact h
  · obtain ⟨l, hl1, hl2⟩ := h
    rw [e]
    have hne : ∀ u ∈ l, u.toNat ≠ v.toNat := fun u hu hh => by
      have hb := hs.inr u (by rw [hl1]; exact List.mem_append_right _ hu)
      obtain ⟨w, hw⟩ := Option.isSome_iff_exists.1 hb
      have := (at_some hw).1
      have : u = v := by omega
      subst this
      rw [hv] at hw; cases hw
    refine ⟨l ++ [v], by simp [hl1, List.append_assoc], ?_⟩
    show clears (l ++ [v]) (s'.cs.set v.toNat (some t)) = s.cs
    rw [clears_snoc, clears_set l _ _ _ hne, List.set_set, hl2]
    refine set_same ?_
    rw [← hl2, clears_get l _ _ hne]
    unfold St.at at hv
    rw [if_pos h0] at hv
    have hlt : v.toNat < s'.cs.length := by omega
    rw [List.getElem?_eq_getElem hlt] at hv ⊢
    simp only [Option.join_some] at hv
    rw [hv]
theorem Later.undo {s s' : St} (h : Later s s') : (s'.undo (s.tr.length : Int)).cs = s.cs ∧ (s'.undo (s.tr.length : Int)).tr = s.tr := by
  obtain ⟨l, hl1, hl2⟩ := h
  have hc : s'.cutAt (s.tr.length : Int) = s.tr.length := by unfold St.cutAt; rw [hl1]; simp; omega
  unfold St.undo
  rw [hc]
  simp only
  rw [hl1, List.drop_left, List.take_left]
  exact ⟨hl2, rfl⟩

/-! What a term is full. -/
mutual
inductive Fil (s : St) : Term → Term → Prop
  | mk {t : Term} {xs : List Term} (h : Fils s (s.wk t).kids xs) : Fil s t (.node (s.wk t).kind (s.wk t).num (s.wk t).name xs)
inductive Fils (s : St) : List Term → List Term → Prop
  | nil : Fils s [] []
  | cons {t x : Term} {ts xs : List Term} (h : Fil s t x) (hs : Fils s ts xs) : Fils s (t :: ts) (x :: xs)
end
end Go.Proofs.Ythpiggjclhnkcaa.AM
