/- A slice of the call's own that stands in a struct becomes data. -/
import Derived.Test.YthpiggjclhnkcaaBA
namespace Go.Proofs.Ythpiggjclhnkcaa.AM
open Go
set_option linter.unusedVariables false
set_option linter.unusedSimpArgs false
theorem VC_at {w : World} {F : Nat → Prop} {γ : List GO} {O : List AObj} : ∀ (cs : List AV) (us : List Value) (j : Nat) (x : AV), AV.VC w F γ O cs us → cs[j]? = some x → ∃ u, us[j]? = some u ∧ x.V w F γ O u
  | [], us, j, x, h, hj => by simp at hj
  | c :: cs, us, 0, x, ⟨u, us', e, _, h1, _⟩, hj => by subst e; simp at hj; subst hj; exact ⟨u, rfl, h1⟩
  | c :: cs, us, j + 1, x, ⟨u, us', e, _, _, h2⟩, hj => by subst e; exact VC_at cs us' j x h2 (by simpa using hj)
theorem VC_set {w : World} {F : Nat → Prop} {γ : List GO} {O : List AObj} : ∀ (cs : List AV) (us : List Value) (j : Nat) (x : AV) (u : Value), AV.VC w F γ O cs us → us[j]? = some u → x.V w F γ O u → x.one = true → AV.VC w F γ O (cs.set j x) us
  | [], us, j, x, u, h, hu, _, _ => by rw [show us = [] from h] at hu; simp at hu
  | c :: cs, us, 0, x, u, ⟨v, us', e, _, h1, h2⟩, hu, hx, ho => by subst e; simp at hu; subst hu; exact ⟨_, us', rfl, ho, hx, h2⟩
  | c :: cs, us, j + 1, x, u, ⟨v, us', e, h0, h1, h2⟩, hu, hx, ho => by subst e; exact ⟨v, us', rfl, h0, h1, VC_set cs us' j x u h2 (by simpa using hu) hx ho⟩
section
variable {P : Program} {ro : Option Nat} {N : Nat} {K : Org} {T : Nat → AV} {O : List AObj}
theorem Runs.shutC {c : Code} {Q : Exit → (Nat → AV) → List AObj → Prop} (id j : Nat) {k ver e sz : Nat} {xs : List D} {cs : List AV} (hO : O[id]? = some (.cells cs)) (hj : cs[j]? = some (.own k ver)) (hk : O[k]? = some (.buf e sz xs ver))
    (h : Runs P ro N K c T ((O.set k .dead).set id (.cells (cs.set j (.d (.list xs))))) Q) : Runs P ro N K c T O Q := fun a w hat => by
  obtain ⟨F, γ, I, hT, hsz, hdf, E0⟩ := hat
  have hne : k ≠ id := fun e => by subst e; rw [hO] at hk; cases hk
  have hidγ : id < γ.length := by rw [I.len]; exact (List.getElem?_eq_some_iff.1 hO).1
  have hkγ : k < γ.length := by rw [I.len]; exact (List.getElem?_eq_some_iff.1 hk).1
  have hg : γ[id]? = some γ[id] := List.getElem?_eq_getElem hidγ
  have hgk : γ[k]? = some γ[k] := List.getElem?_eq_getElem hkγ
  obtain ⟨b, us, t, k1, k2, k3⟩ := I.ok id _ _ hO hg
  obtain ⟨u, hu, hV⟩ := VC_at cs us j _ k3 hj
  obtain ⟨I1, E1⟩ := I.upd (w' := w) (F' := fun b => F b ∨ γ[k].blk = some b) (o' := .dead) (g' := { blk := none }) hk hgk rfl rfl rfl (Nat.le_refl _) (fun _ _ _ => rfl) (fun b h => by cases h) (fun b h => by cases h)
    (fun b h => .inl h) (fun b h => h.imp (fun h => h) (fun h => .inl ⟨h, (I.blks k _ b hgk h).1⟩)) trivial trivial (fun E => rfl)
  have hD : D.R w (fun b => F b ∨ γ[k].blk = some b) (.list xs) u := own_data I hk hV _ (fun b h => .inl h) fun g b hg' hb => by rw [hgk] at hg'; cases hg'; exact .inr hb
  have hO1 : (O.set k .dead)[id]? = some (.cells cs) := by rw [List.getElem?_set_ne hne]; exact hO
  have hg1 : (γ.set k { blk := none })[id]? = some γ[id] := by rw [List.getElem?_set_ne hne]; exact hg
  obtain ⟨I2, E2⟩ := I1.upd (w' := w) (F' := fun b => F b ∨ γ[k].blk = some b) (o' := .cells (cs.set j (.d (.list xs)))) (g' := γ[id]) hO1 hg1 rfl rfl rfl (Nat.le_refl _) (fun _ _ _ => rfl) (fun b h => .inl h) (fun b h => I1.blks id _ b hg1 h)
    (fun b h => h) (fun b h => .inl h) rfl (by
      have := I.bd id _ hO
      have key : ∀ (cs : List AV) (j : Nat), AV.bds (id + 1) cs → AV.bds (id + 1) (cs.set j (.d (.list xs))) := by
        intro cs
        induction cs with
        | nil => intro j h; exact h
        | cons c cs ih => intro j h; cases j with
          | zero => exact ⟨trivial, h.2⟩
          | succ j => exact ⟨h.1, ih j h.2⟩
      exact key cs j this)
    (fun E => ⟨b, us, t, k1, k2, VC_set cs us j _ u (AV.VC_evo I (E1.trans I1.len E) (by simp [I.len]) _ _ k3) hu hD rfl⟩)
  exact h a w ⟨_, _, I2, fun s => AV.V_evo I (E1.trans I1.len E2) I2.len _ _ (hT s), hsz, (hdf.evo E1).evo E2, (E0.trans I.len E1).trans I1.len E2⟩
end
end Go.Proofs.Ythpiggjclhnkcaa.AM
