/- Slices of slices. -/
import Derived.Test.YthpiggjclhnkcaaB8
namespace Go.Proofs.Ythpiggjclhnkcaa.AM
open Go
set_option linter.unusedVariables false
set_option linter.unusedSimpArgs false

section
variable {P : Program} {ro : Option Nat} {N : Nat} {K : Org} {T : Nat → AV} {O : List AObj} {dst : Option Tmp} {ty : TypeId} {pos : String} {af : Array Edge} {g : Option (Nat × Bool)}

/-- Where a bound is, if there is one. -/
def bndOk (T : Nat → AV) (x : Option Operand) (d : Nat) (n : Nat) : Prop := match x with
  | none => n = d
  | some x => ∃ k, evT T x = .d (.int k (n : Nat))
theorem sliceBound_run {w : World} {k : IntKind} {n y : Nat} {c : BoundsCode} (h : n ≤ y) : (Instr.sliceBound (.int k (n : Nat)) y c).run P w = .ok n w := by
  simp [Instr.sliceBound, asIntOf, h]

/-- An own slice that an operation yields is data at once. -/
theorem OpV.shut {o : Oper} {id ver e sz : Nat} {xs : List D} {O1 : List AObj} (h : OpV P ro o T O (.own id ver) O1) (hO : O1[id]? = some (.buf e sz xs ver)) : OpV P ro o T O (.d (.list xs)) (O1.set id .dead) := by
  intro w F γ a I H
  refine Oper.wpIn_mono (fun a' w' ⟨u, F', γ', k1, k2, k3, k4⟩ => ?_) (h w F γ a I H)
  obtain ⟨g', hg, _, hp⟩ := ownAt_val hO k2.2
  obtain ⟨I', E⟩ := k3.upd (w' := w') (F' := fun b => F' b ∨ g'.blk = some b) (o' := .dead) (g' := { blk := none }) hO hg rfl rfl rfl (Nat.le_refl _) (fun _ _ _ => rfl) (fun b h => by cases h) (fun b h => by cases h)
    (fun b h => .inl h) (fun b h => h.imp (fun h => h) (fun h => .inl ⟨h, (k3.blks id g' b hg h).1⟩)) trivial trivial (fun E => rfl)
  exact ⟨u, _, _, k1, own_data k3 hO k2 _ (fun b h => .inl h) (fun g b hg' hb => by rw [hg] at hg'; cases hg'; exact .inr hb), I', k4.trans k3.len E⟩
end
end Go.Proofs.Ythpiggjclhnkcaa.AM

/- A struct whose zero slice is one of the call's own. -/
namespace Go.Proofs.Ythpiggjclhnkcaa.AM
open Go
set_option linter.unusedVariables false
set_option linter.unusedSimpArgs false
section
variable {P : Program} {ro : Option Nat} {N : Nat} {K : Org} {T : Nat → AV} {O : List AObj} {dst : Option Tmp} {ty : TypeId} {pos : String} {af : Array Edge} {g : Option (Nat × Bool)}
end
end Go.Proofs.Ythpiggjclhnkcaa.AM

/- A slice of the call's own that stands in a struct becomes data. -/
namespace Go.Proofs.Ythpiggjclhnkcaa.AM
open Go
set_option linter.unusedVariables false
set_option linter.unusedSimpArgs false
section
variable {P : Program} {ro : Option Nat} {N : Nat} {K : Org} {T : Nat → AV} {O : List AObj}
end
end Go.Proofs.Ythpiggjclhnkcaa.AM
