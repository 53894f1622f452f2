/- A rule for each operation on pairs of terms. -/
import Derived.Test.YthpiggjclhnkcaaU0
import Derived.Test.YthpiggjclhnkcaaF1
import Derived.Test.YthpiggjclhnkcaaS5
namespace Go.Proofs.Ythpiggjclhnkcaa.AM
open Go
set_option linter.unusedVariables false
set_option linter.unusedSimpArgs false
def cellsTT (p : Term × Term) : List AV := cellsT p.1 ++ cellsT p.2
def encTT (p : Term × Term) : D := .agg (dcells p.1 ++ dcells p.2)
def encTTs (l : List (Term × Term)) : List D := l.map encTT
section
variable {P : Program} {ro : Option Nat} {N : Nat} {K : Org} {T : Nat → AV} {O : List AObj} {dst : Option Tmp} {ty : TypeId} {pos : String} {af : Array Edge} {g : Option (Nat × Bool)}
/-- A scope in which nothing jumps. -/
def scope0Q (Q : Exit → (Nat → AV) → List AObj → Prop) : Exit → (Nat → AV) → List AObj → Prop
  | .goto _, _, _ => False
  | e, T, O => Q e T O
theorem wpIn_scope0 {F : Fence} {n : Nat} {Q : Exit → Act → World → Prop} {a : Act} {w : World} {c : Code} (h : c.wpIn F n P (Exit.noGoto Q) a w) : (Code.scope c).wpIn F n P Q a w := by
  intro b k cs hro hb hr
  have h0 : (lone (b.atR a (.code (.scope c) :: k)) cs w).fenced P F := fenced_calm hb hr rfl
  obtain ⟨e, a₁, w₁, hq, harr⟩ := h b (.inScope c :: k) cs hro hb hr
  cases e with
  | normal => exact ⟨.normal, a₁, w₁, hq, .head h0 stepR_scope (StepsIn.trans harr (.one (fenced_calm hb hr rfl) stepR_inScope))⟩
  | exit id =>
    have hx : exitTo id (.inScope c :: k) = exitTo id k := by simp [exitTo]
    exact ⟨.exit id, a₁, w₁, hq, fun k' hk => .head h0 stepR_scope (harr.1 k' (by rw [hx]; exact hk)), fun hr' hk => let ⟨k₁, h1, h2⟩ := harr.2 hr' (by rw [hx]; exact hk); ⟨k₁, h1, .head h0 stepR_scope h2⟩⟩
  | goto l' => exact hq.elim
  | ret => exact ⟨_, a₁, w₁, hq, .of_steps (.one h0 stepR_scope) harr⟩
  | panic ch => exact ⟨_, a₁, w₁, hq, .of_steps (.one h0 stepR_scope) harr⟩
  | outgrown => exact ⟨_, a₁, w₁, hq, .of_steps (.one h0 stepR_scope) harr⟩
theorem Runs.scope0 {c : Code} {Q : Exit → (Nat → AV) → List AObj → Prop} (h : Runs P ro N K c T O (scope0Q Q)) : Runs P ro N K (.scope c) T O Q := fun a w hat => by
  refine wpIn_scope0 (wpIn_mono (h a w hat) fun e a' w' ⟨T', O', h1, h2⟩ => ?_)
  cases e with
  | goto l => exact h2.elim
  | _ => exact ⟨T', O', h1, h2⟩
theorem scope0Q_ret {Q : Exit → (Nat → AV) → List AObj → Prop} (h : Q .ret T O) : scope0Q Q .ret T O := h
end
/-- A pair of which one is a variable. -/
def mbind (s : St) (a b : Term) : St × Bool × Bool :=
  if a.kind = 1 ∧ b.kind = 1 ∧ a.num = b.num then (s, true, true)
  else if a.kind = 1 then ((s.bind a.num b).1, true, (s.bind a.num b).2 == 0)
  else if b.kind = 1 then ((s.bind b.num a).1, true, (s.bind b.num a).2 == 0)
  else (s, false, false)
/-- Where a run stands. -/
structure MX where
  s : St
  lv : Int
  m : Nat
  ps : List (Term × Term)
  ver : Nat
end Go.Proofs.Ythpiggjclhnkcaa.AM
