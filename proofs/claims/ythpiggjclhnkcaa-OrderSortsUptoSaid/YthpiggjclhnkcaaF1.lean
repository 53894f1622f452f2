/- A rule for each operation on a lattice. -/
import Derived.Test.YthpiggjclhnkcaaF0
import Derived.ScopeJumps
import Derived.LoopIn
namespace Go.Proofs.Ythpiggjclhnkcaa.AM
open Go
set_option linter.unusedVariables false
set_option linter.unusedSimpArgs false
theorem binD_shr {u b : Nat} {k : IntKind} (hb : b < 64) : binD .shr (.int .u64 ((u : Nat) : Int)) (.int k ((b : Nat) : Int)) = some (.int .u64 ((u >>> b : Nat) : Int)) := by
  have h0 : ¬ ((b : Nat) : Int) < 0 := by omega
  have e : IntKind.u64.bits = 64 := rfl
  simp only [binD, h0, if_false, Int.toNat_natCast, e, Nat.min_eq_left (Nat.le_of_lt hb), Option.some.injEq, D.int.injEq, true_and]
  rw [Nat.shiftRight_eq_div_pow]
  have : ((2 : Int) ^ b) = ((2 ^ b : Nat) : Int) := by simp
  rw [this, Int.fdiv_eq_ediv_of_nonneg _ (Int.natCast_nonneg _), Int.natCast_ediv]
theorem wrapu {x : Int} (h1 : 0 ≤ x) (h2 : x < 2 ^ 64) : IntKind.u64.wrap x = x := by
  have := h1
  simp only [IntKind.wrap, IntKind.bits, IntKind.signed]
  simp
  omega
section
variable {P : Program} {ro : Option Nat} {N : Nat} {K : Org} {T : Nat → AV} {O : List AObj} {dst : Option Tmp} {ty : TypeId} {pos : String} {af : Array Edge} {g : Option (Nat × Bool)}

/-! The lattice while it is made: an object. -/
theorem opv_shr {t yt : TypeId} {x y : Operand} {u b : Nat} {k : IntKind} (hx : evT T x = .d (.int .u64 ((u : Nat) : Int))) (hy : evT T y = .d (.int k ((b : Nat) : Int))) (hb : b < 64) :
    OpV P ro ⟨dst, .binOp .shr t x y yt, ty, pos, af, g⟩ T O (.d (.int .u64 ((u >>> b : Nat) : Int))) O := opv_bin hx hy (binD_shr hb)
end

/-! Scopes in which the run jumps back to one label. -/
section
variable {F : Fence} {n : Nat} {P : Program} {Q : Exit → Act → World → Prop} {a : Act} {w : World} {b : Frame} {k : List Item} {cs : List Frame}
theorem stepR_scope {c : Code} : step P (lone (b.atR a (.code (.scope c) :: k)) cs w) = .next (lone (b.atR a (.code c :: .inScope c :: k)) cs w) :=
  step_lone_go (by simp [stepG, stepG.exec, Frame.atR])
theorem stepR_inScope {c : Code} : step P (lone (b.atR a (.inScope c :: k)) cs w) = .next (lone (b.atR a k) cs w) :=
  step_lone_go (by simp [stepG, stepG.exec, Frame.atR])
end
section
variable {P : Program} {ro : Option Nat} {N : Nat} {K : Org} {T : Nat → AV} {O : List AObj}
theorem Runs.goto {l : Nat} {Q : Exit → (Nat → AV) → List AObj → Prop} (h : Q (.goto l) T O) : Runs P ro N K (.goto l) T O Q := fun a w hat => wpIn_goto ⟨T, O, hat, h⟩
theorem Runs.label {l : Nat} {Q : Exit → (Nat → AV) → List AObj → Prop} (h : Q .normal T O) : Runs P ro N K (.label l) T O Q := fun a w hat => wpIn_label ⟨T, O, hat, h⟩
def scopeQ (l : Nat) (J : (Nat → AV) → List AObj → Prop) (Q : Exit → (Nat → AV) → List AObj → Prop) : Exit → (Nat → AV) → List AObj → Prop
  | .goto l', T, O => l' = l ∧ J T O
  | e, T, O => Q e T O
end
end Go.Proofs.Ythpiggjclhnkcaa.AM
