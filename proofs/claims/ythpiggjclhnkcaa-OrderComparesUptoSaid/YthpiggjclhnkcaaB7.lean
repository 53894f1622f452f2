/- Going through the parts of a term. -/
import Derived.Test.YthpiggjclhnkcaaB6
namespace Go.Proofs.Ythpiggjclhnkcaa.AM
open Go
set_option linter.unusedVariables false
set_option linter.unusedSimpArgs false

section
variable {S : Type}
mutual
def walkF (f : S → Term → S × Bool) : Term → S → S × Bool
  | .node k n s ks, σ => match f σ (.node k n s ks) with
    | (σ', true) => walksF f ks σ'
    | (σ', false) => (σ', false)
def walksF (f : S → Term → S × Bool) : List Term → S → S × Bool
  | [], σ => (σ, true)
  | t :: ts, σ => match walkF f t σ with
    | (σ', true) => walksF f ts σ'
    | (σ', false) => (σ', false)
end
end

theorem thenQ_ret {A : (Nat → AV) → List AObj → Prop} {Q : Exit → (Nat → AV) → List AObj → Prop} {T : Nat → AV} {O : List AObj} (h : Q .ret T O) : thenQ A Q .ret T O := h
theorem blockQ_ret {id : Nat} {Q : Exit → (Nat → AV) → List AObj → Prop} {T : Nat → AV} {O : List AObj} (h : Q .ret T O) : blockQ id Q .ret T O := h
theorem thenQ_normal {A : (Nat → AV) → List AObj → Prop} {Q : Exit → (Nat → AV) → List AObj → Prop} {T : Nat → AV} {O : List AObj} (h : A T O) : thenQ A Q .normal T O := h
theorem blockQ_normal {id : Nat} {Q : Exit → (Nat → AV) → List AObj → Prop} {T : Nat → AV} {O : List AObj} (h : Q .normal T O) : blockQ id Q .normal T O := h
theorem thenQ_exit {A : (Nat → AV) → List AObj → Prop} {Q : Exit → (Nat → AV) → List AObj → Prop} {T : Nat → AV} {O : List AObj} {j : Nat} (h : Q (.exit j) T O) : thenQ A Q (.exit j) T O := h
theorem blockQ_here {id : Nat} {Q : Exit → (Nat → AV) → List AObj → Prop} {T : Nat → AV} {O : List AObj} (h : Q .normal T O) : blockQ id Q (.exit id) T O := by simp only [blockQ, Nat.beq_refl, if_true]; exact h
theorem blockQ_on {id j : Nat} {Q : Exit → (Nat → AV) → List AObj → Prop} {T : Nat → AV} {O : List AObj} (h : Q (.exit j) T O) (hne : Nat.beq j id = false := by rfl) : blockQ id Q (.exit j) T O := by simp only [blockQ, hne, Bool.false_eq_true, if_false]; exact h
abbrev jOf (b : Bool) (jmp : Code) : Option Code := bif b then none else some jmp
theorem Term.size_kids (t : Term) : t.size = sizes t.kids + 1 := by cases t; rfl
theorem Term.bulk_kids (t : Term) : t.bulk = t.name.size + bulks t.kids + 1 := by cases t; rfl
theorem drop_get {l : List Term} {i : Nat} (h : i < l.length) : l.drop i = l[i] :: l.drop (i + 1) := by rw [List.drop_eq_getElem_cons h]
theorem EndQ.cell_term {P : Program} {fn : Func} {O : List AObj} {T : Nat → AV} {Q : AV → List AObj → Prop} {O' : List AObj} {e : Exit} {a : Tmp} {t : TypeId} {id off : Nat} {cs : List AV} {u : Term} [S : Sz P t 4 true] (he : e = .normal ∨ e = .ret) (hr : fn.results.toList = [.cell a t]) (ha : T a = .ref id off) (hO : O'[id]? = some (.cells cs)) (hv : (cs.drop off).take 4 = cellsT u) (n : Nat) (h1 : O.length ≤ n) (h2 : n ≤ O'.length) (hq : Q (.d (enc u)) (O'.take n)) : EndQ P fn O Q e T O' := by
  refine EndQ.cell (v := .d (enc u)) he hr ha hO ?_ n h1 h2 trivial hq
  have hl : 4 ≤ (cs.drop off).length := by have := congrArg List.length hv; rw [List.length_take] at this; simp at this; simp; omega
  simp only [takeAV, if_pos hl, hv, enc_d]
  rfl
section
variable {P : Program} {ro : Option Nat} {N : Nat} {K : Org} {T : Nat → AV} {O : List AObj} {dst : Option Tmp} {ty : TypeId} {pos : String} {af : Array Edge} {g : Option (Nat × Bool)}
end

mutual
/-- The parts, each ahead of those within it. -/
def Term.parts : Term → List Term
  | .node k n s ks => .node k n s ks :: partss ks
def partss : List Term → List Term
  | [] => []
  | t :: ts => t.parts ++ partss ts
end
theorem Term.parts_kids (t : Term) : t.parts = t :: partss t.kids := by cases t; rfl
section
variable {S : Type}
end
/-- The variables in the order in which they come up first. -/
def addVar (l : List Int) (p : Term) : List Int := if p.kind = 1 ∧ p.num ∉ l then l ++ [p.num] else l
def Term.vars (t : Term) : List Int := t.parts.foldl addVar []
/-- May a part be, but for its kids? -/
def alone (levels : Int) (t : Term) : Bool :=
  bif t.kind == 1 then decide (t.num ≥ 0) && decide (t.num < 4096) && (t.name.toList == (⟨#[]⟩ : ByteArray).toList) && ((t.kids.length : Int) == 0)
  else bif t.kind == 2 then (t.name.toList == (⟨#[]⟩ : ByteArray).toList) && ((t.kids.length : Int) == 0)
  else bif t.kind == 3 then (t.num == 0) && decide ((t.name.size : Int) ≤ 64) && decide ((t.kids.length : Int) ≤ 8)
  else bif t.kind == 4 then (t.name.toList == (⟨#[]⟩ : ByteArray).toList) && decide (t.num ≥ 0) && decide (t.num < levels) && ((t.kids.length : Int) == 1) && ((t.kids[0]?).map fun x => ((x.vars.length : Int) == 0)).getD true
  else false
def Term.check (t : Term) (levels : Int) : Int :=
  if 1000 < t.size then 3 else if 60 < t.deep then 7 else if t.parts.all (alone levels) then 0 else 4
end Go.Proofs.Ythpiggjclhnkcaa.AM
