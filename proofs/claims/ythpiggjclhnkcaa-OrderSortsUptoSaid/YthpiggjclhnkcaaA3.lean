/- Operations that read and reckon. -/
import Derived.Test.YthpiggjclhnkcaaA2
import Derived.Laws.Wrap64
import Derived.WalkKit
namespace Go.Proofs.Ythpiggjclhnkcaa.AM
open Go
set_option linter.unusedVariables false
set_option linter.unusedSimpArgs false

/-- The fence that lets everything in; ro: whether the frame is a round of a range over a function. -/
def WF (ro : Option Nat) : Fence := { fn := fun _ => True, depth := none, alive := false, round := ro }

def upd (T : Nat → AV) (i : Nat) (x : AV) : Nat → AV := fun j => bif Nat.beq j i then x else T j
def updo (T : Nat → AV) : Option Nat → AV → Nat → AV
  | none, _ => T
  | some i, x => upd T i x

def constAV : Value → AV
  | .int k n => .d (.int k n)
  | .bool b => .d (.bool b)
  | .string s => .d (.str s)
  | .slice none 0 0 => .nil0
  | .pointer none => .d .nilp
  | .nilFunc => .nilf
  | _ => .unk
def evT (T : Nat → AV) : Operand → AV
  | .tmp s => T s
  | .const v => constAV v
  | .func f => .fn f []
  | .global _ => .unk

section
variable {P : Program} {w w' : World} {F F' : Nat → Prop} {γ γ' : List GO} {O O' : List AObj}

theorem constAV_V (v : Value) : (constAV v).V w F γ O v := by
  unfold constAV
  split <;> first | exact rfl | exact ⟨none, rfl⟩ | exact trivial

def OpndOk (w : World) (F : Nat → Prop) (γ : List GO) (O : List AObj) (T : Nat → AV) (a : Act) (o : Oper) : Prop := ∀ s, Operand.tmp s ∈ o.op.operands → (T s).V w F γ O (a.tmps.getD s undef)

theorem evT_V {T : Nat → AV} {a : Act} {x : Operand} (h : ∀ s, x = .tmp s → (T s).V w F γ O (a.tmps.getD s undef)) : (evT T x).V w F γ O (a.eval x) := by
  cases x with
  | tmp s => exact h s rfl
  | const v => exact constAV_V v
  | func f => exact ⟨[], rfl, rfl⟩
  | global g => exact trivial

/-- WHAT AN OPERATION YIELDS: over what its operands hold, in whatever world. -/
def OpV (P : Program) (ro : Option Nat) (o : Oper) (T : Nat → AV) (O : List AObj) (x : AV) (O' : List AObj) : Prop :=
  ∀ (w : World) (F : Nat → Prop) (γ : List GO) (a : Act), Inv w F γ O → OpndOk w F γ O T a o →
    o.wpIn (WF ro) 0 P a w (fun a' w' => ∃ u F' γ', a' = a.put o.dst u ∧ x.V w' F' γ' O' u ∧ Inv w' F' γ' O' ∧ Evo w F γ O w' F' γ' O') (fun _ _ _ => False)

theorem OpV.of_run {ro : Option Nat} {o : Oper} {T : Nat → AV} {x : AV} (hnd : ∀ c, o.op ≠ .defer c)
    (h : ∀ (w : World) (F : Nat → Prop) (γ : List GO) (a : Act), Inv w F γ O → OpndOk w F γ O T a o →
      ∃ u w' F' γ', ((execOp a.eval o).run P w = .ok (.value u) w' ∨ ((execOp a.eval o).run P w = .ok .skip w' ∧ u = undef)) ∧ x.V w' F' γ' O' u ∧ Inv w' F' γ' O' ∧ Evo w F γ O w' F' γ' O') :
    OpV P ro o T O x O' := by
  intro w F γ a I H
  obtain ⟨u, w', F', γ', hr, h1, h2, h3⟩ := h w F γ a I H
  refine ⟨fun _ _ => trivial, ?_⟩
  rw [Oper.semAt_eq _ _ _ hnd]
  rcases hr with hr | ⟨hr, rfl⟩
  · rw [hr]; exact ⟨u, F', γ', rfl, h1, h2, h3⟩
  · rw [hr]; exact ⟨undef, F', γ', rfl, h1, h2, h3⟩

/-- An operation that turns nothing. -/
theorem OpV.of_same {ro : Option Nat} {o : Oper} {T : Nat → AV} {x : AV} (hnd : ∀ c, o.op ≠ .defer c)
    (h : ∀ (w : World) (F : Nat → Prop) (γ : List GO) (a : Act), Inv w F γ O → OpndOk w F γ O T a o → ∃ u, (execOp a.eval o).run P w = .ok (.value u) w ∧ x.V w F γ O u) : OpV P ro o T O x O :=
  OpV.of_run hnd fun w F γ a I H => let ⟨u, h1, h2⟩ := h w F γ a I H; ⟨u, w, F, γ, .inl h1, h2, I, Evo.refl _ _ _ _⟩
end

/-! Types, as the machine's tables have them. -/
def isAggD : TypeDesc → Bool
  | .struct _ | .array _ _ => true
  | _ => false
class Sz (P : Program) (t : TypeId) (n : outParam Nat) (ag : outParam Bool) : Prop where
  info : (P.info? t).map (·.size) = some n
  und : (P.underlying t).map isAggD = some ag
class Fld (P : Program) (t : TypeId) (j : Nat) (off : outParam Nat) (ft : outParam TypeId) : Prop where
  h : ∃ fs f, P.underlying t = some (.struct fs) ∧ fs[j]? = some f ∧ f.offset = off ∧ f.type = ft ∧ (((P.info? f.type).map (·.size)).any (0 < ·)) = true
class Slc (P : Program) (t : TypeId) (e : outParam TypeId) (sz : outParam Nat) : Prop where
  und : P.underlying t = some (.slice e)
  info : (P.info? e).map (·.size) = some sz
class Arr (P : Program) (t : TypeId) (n : outParam Nat) (e : outParam TypeId) (sz : outParam Nat) : Prop where
  und : P.underlying t = some (.array n e)
  info : (P.info? e).map (·.size) = some sz
class Und (P : Program) (t : TypeId) (d : outParam TypeDesc) : Prop where
  h : P.underlying t = some d

section
variable {P : Program} {w : World}
theorem Sz.run_size {t n ag} (h : Sz P t n ag) : (sizeOf t).run P w = .ok n w := by
  obtain ⟨i, hi, hn⟩ := Option.map_eq_some_iff.1 h.info
  simp [sizeOf, typeInfo, hi, hn]
theorem Sz.run_agg {t n ag} (h : Sz P t n ag) : (isAgg t).run P w = .ok ag w := by
  obtain ⟨d, hd, hn⟩ := Option.map_eq_some_iff.1 h.und
  unfold isAgg
  simp only [Sem.run_bind, run_underlying hd, Result.andThen_ok]
  cases d <;> simp [isAggD] at hn <;> subst hn <;> rfl
theorem run_size_of {t n} (h : (P.info? t).map (·.size) = some n) : (sizeOf t).run P w = .ok n w := by
  obtain ⟨i, hi, hn⟩ := Option.map_eq_some_iff.1 h
  simp [sizeOf, typeInfo, hi, hn]

/-- Cells that lie in a row read as they are. -/
theorem run_loadVar {t n ag} (h : Sz P t n ag) (ad : Addr) (us : List Value) (hn : us.length = n) (h1 : ag = false → n = 1) (hc : ∀ (j : Nat) (u : Value), us[j]? = some u → w.cell? (ad.add j) = some u) :
    (loadVar t ad).run P w = .ok (if ag then .agg us.toArray else us.headD undef) w := by
  subst hn
  unfold loadVar
  simp only [Sem.run_bind, h.run_agg, Result.andThen_ok]
  cases ag with
  | true =>
    simp only [if_true, Sem.run_bind, h.run_size, Result.andThen_ok]
    have := run_loadCells_list (P := P) w ad us hc
    simp [this]
  | false =>
    match us, h1 rfl with
    | [u], _ =>
      have := hc 0 u rfl
      have he : ad.add 0 = ad := by simp [Addr.add]
      rw [he] at this
      simp [this]
end
end Go.Proofs.Ythpiggjclhnkcaa.AM
