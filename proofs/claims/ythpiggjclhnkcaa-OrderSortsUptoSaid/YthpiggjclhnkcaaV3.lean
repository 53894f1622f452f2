/- A region that draws its order and makes a place meanwhile. -/
import Derived.Test.YthpiggjclhnkcaaV2
namespace Go.Proofs.Ythpiggjclhnkcaa.AM
open Go
set_option linter.unusedVariables false
set_option linter.unusedSimpArgs false
section
variable {P : Program} {ro : Option Nat} {N : Nat} {K : Org} {T : Nat → AV} {O : List AObj}
/-- The operations ahead of the place that is made: what turns an object does so beside it, too; what turns none yields the same whatever else is there. -/
def RX (P : Program) (ro : Option Nat) (N : Nat) (ids : List Nat) (imp : List Bool) (z : AObj) (rest : List Oper) (T : Nat → AV) (O : List AObj) (Q : (Nat → AV) → List AObj → Prop) : Prop :=
  ∃ (Tq : Nat → Nat → AV) (Ob : Nat → List AObj) (val : Nat → AV), Tq 0 = T ∧ Ob 0 = O ∧ Q (Tq rest.length) (Ob rest.length) ∧ ∀ i o, rest[i]? = some o →
    dstB N o.dst = true ∧ Tq (i + 1) = updo (Tq i) o.dst (val i) ∧ (Ob (i + 1)).length = (Ob i).length ∧ KeepI ids (Ob i) (Ob (i + 1)) ∧ (imp.getD i false = false → Ob (i + 1) = Ob i ∧ ∀ O', KeepI ids (Ob i) O' → OpV P ro o (Tq i) O' (val i) O') ∧
    (imp.getD i false = true → ∀ X, X = [] ∨ X = [z] → OpV P ro o (Tq i) (Ob i ++ X) (val i) (Ob (i + 1) ++ X))
theorem RX.nil {ids : List Nat} {imp : List Bool} {z : AObj} {Q : (Nat → AV) → List AObj → Prop} (h : Q T O) : RX P ro N ids imp z [] T O Q :=
  ⟨fun _ => T, fun _ => O, fun _ => .unk, rfl, rfl, h, fun i o h => by simp at h⟩
theorem RX.cons {ids : List Nat} {b : Bool} {imp : List Bool} {z : AObj} {o : Oper} {rest : List Oper} {Q : (Nat → AV) → List AObj → Prop} {v : AV} {O1 : List AObj} (hd : dstB N o.dst = true) (hl : O1.length = O.length) (hk : KeepI ids O O1)
    (hp : b = false → O1 = O ∧ ∀ O', KeepI ids O O' → OpV P ro o T O' v O') (hi : b = true → ∀ X, X = [] ∨ X = [z] → OpV P ro o T (O ++ X) v (O1 ++ X)) (hr : RX P ro N ids imp z rest (updo T o.dst v) O1 Q) : RX P ro N ids (b :: imp) z (o :: rest) T O Q := by
  obtain ⟨Tq, Ob, val, h1, h2, h3, h4⟩ := hr
  refine ⟨fun | 0 => T | i + 1 => Tq i, fun | 0 => O | i + 1 => Ob i, fun | 0 => v | i + 1 => val i, rfl, rfl, h3, ?_⟩
  intro i o' ho
  cases i with
  | zero =>
    simp only [List.getElem?_cons_zero, Option.some.injEq] at ho
    subst ho
    simp only [List.getD_cons_zero, h2]
    exact ⟨hd, h1, hl, hk, hp, hi⟩
  | succ i =>
    simp only [List.getElem?_cons_succ] at ho
    have := h4 i o' ho
    simpa only [List.getD_cons_succ] using this
theorem RX.pure {ids : List Nat} {imp : List Bool} {z : AObj} {op : Op} {dst : Tmp} {ty : TypeId} {pos : String} {af : Array Edge} {rest : List Oper} {Q : (Nat → AV) → List AObj → Prop} {v v' : AV}
    (h : ∀ O', KeepI ids O O' → OpV P ro ⟨some dst, op, ty, pos, af, none⟩ T O' v O') (hv : v = v') (hr : RX P ro N ids imp z rest (upd T dst v') O Q) (hd : Nat.blt dst N = true := by rfl) : RX P ro N ids (false :: imp) z (⟨some dst, op, ty, pos, af, none⟩ :: rest) T O Q :=
  RX.cons hd rfl (KeepI.refl _ _) (fun _ => ⟨rfl, h⟩) (fun h => by cases h) (hv ▸ hr)
theorem RX.turn {ids : List Nat} {imp : List Bool} {z : AObj} {op : Op} {dst : Tmp} {ty : TypeId} {pos : String} {af : Array Edge} {rest : List Oper} {Q : (Nat → AV) → List AObj → Prop} {v : AV} (O1 : List AObj) (hl : O1.length = O.length) (hk : KeepI ids O O1)
    (h : ∀ X, X = [] ∨ X = [z] → OpV P ro ⟨some dst, op, ty, pos, af, none⟩ T (O ++ X) v (O1 ++ X)) (hr : RX P ro N ids imp z rest (upd T dst v) O1 Q) (hd : Nat.blt dst N = true := by rfl) : RX P ro N ids (true :: imp) z (⟨some dst, op, ty, pos, af, none⟩ :: rest) T O Q :=
  RX.cons hd hl hk (fun h => by cases h) (fun _ => h) hr
end

/-! Kinds of terms, and names. -/
end Go.Proofs.Ythpiggjclhnkcaa.AM
