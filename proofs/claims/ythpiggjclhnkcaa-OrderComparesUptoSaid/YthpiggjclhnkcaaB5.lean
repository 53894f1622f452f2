/- Calls that are handed some of the objects, or a slice that is still the caller's; pointers that are data from here on; closures; ranges over functions. -/
import Derived.Test.YthpiggjclhnkcaaB4
import Derived.RangeFuncIn
namespace Go.Proofs.Ythpiggjclhnkcaa.AM
open Go
set_option linter.unusedVariables false
set_option linter.unusedSimpArgs false
section
variable {P : Program} {ro : Option Nat} {N : Nat} {K : Org} {T : Nat → AV} {O : List AObj} {dst : Option Tmp} {ty : TypeId} {pos : String} {af : Array Edge} {g : Option (Nat × Bool)}

/-- The call as it is entered. -/
theorem call_entered {c : Operand} {xs : Array Operand} {ts : Array TypeId} {f : FuncId} {caps ys : List AV} [S : Fnc P f] (hc : evT T c = .fn f caps) (hx : xs.toList.map (evT T) = ys) {w : World} {F : Nat → Prop} {γ : List GO} {a : Act}
    (H : OpndOk w F γ O T a ⟨dst, .call { callee := .value c, args := xs, argTypes := ts }, ty, pos, af, g⟩) :
    ∃ vs : List Value, (execOp a.eval ⟨dst, .call { callee := .value c, args := xs, argTypes := ts }, ty, pos, af, g⟩).run P w = .ok (.enter f vs.toArray) w ∧ AV.Vs w F γ O (ys ++ caps) vs := by
  obtain ⟨us, hcv, hcaps⟩ : AV.V w F γ O (.fn f caps) (a.eval c) := H.at (x := c) (by simp [Op.operands, Call.operands]) hc
  have hvs : ∀ l : List Operand, (∀ x ∈ l, x ∈ xs) → AV.Vs w F γ O (l.map (evT T)) (l.map a.eval) := by
    intro l hl
    induction l with
    | nil => rfl
    | cons x l ih => exact ⟨_, _, rfl, H.at (x := x) (by simp [Op.operands, Call.operands, hl x]) rfl, ih fun y hy => hl y (List.mem_cons_of_mem _ hy)⟩
  have happ : ∀ (p : List AV) (q : List AV) (us vs : List Value), AV.Vs w F γ O p us → AV.Vs w F γ O q vs → AV.Vs w F γ O (p ++ q) (us ++ vs) := by
    intro p q us vs hp hq
    induction p generalizing us with
    | nil => rw [show us = [] from hp]; exact hq
    | cons x p ih => obtain ⟨u, us', rfl, h1, h2⟩ := hp; exact ⟨u, us' ++ vs, rfl, h1, ih us' h2⟩
  have hall := happ _ _ _ _ (hvs xs.toList (fun x hx => by simpa using hx)) hcaps
  rw [hx] at hall
  obtain ⟨fn, hfn, hname, hbody⟩ := S.h
  refine ⟨_, ?_, hall⟩
  simp only [execOp, resolve, hcv, Deferred.ofValue, Sem.run_bind, Sem.run_pure, Result.andThen_ok, invoke, callFunc, run_program, hfn, hname, hbody, Bool.false_eq_true, if_false]
  congr 2
  simp

/-- The call that is handed the first m objects. -/
theorem opv_callP (m : Nat) {c : Operand} {xs : Array Operand} {ts : Array TypeId} {f : FuncId} {caps ys : List AV} {v : AV} {O1 : List AObj} [S : Fnc P f]
    (h : Fn P f (ys ++ caps) (O.take m) v O1) (hc : evT T c = .fn f caps) (hx : xs.toList.map (evT T) = ys) (hm : m ≤ O.length) (hl : O1.length = m) (hb : AV.bds m (ys ++ caps)) :
    OpV P ro ⟨dst, .call { callee := .value c, args := xs, argTypes := ts }, ty, pos, af, g⟩ T O v (O1 ++ O.drop m) := by
  intro w F γ a I H
  refine ⟨fun _ _ => trivial, ?_⟩
  rw [Oper.semAt_eq _ _ _ (fun c h => by cases h)]
  obtain ⟨vs, hrun, hall⟩ := call_entered (P := P) hc hx H
  rw [hrun]
  refine ⟨(fun h => by cases h), ?_⟩
  refine CallsIn.mono (callsIn_wide.2 (h w F (γ.take m) vs (I.take m) (AV.Vs_take _ _ hb hall)) : CallsIn Fence.wide 0 P f _ w _) fun e w' ⟨u, x, F', γ', O', he, hV, I', E, hxv, hO1⟩ => ?_
  subst he; subst hxv; subst hO1
  obtain ⟨I2, E2⟩ := I.rejoin hm I' hl E
  exact ⟨u, F', _, rfl, AV.V_mono (fun _ h => h) (fun _ _ => rfl) (Emb.app _ _) _ _ hV, I2, E2⟩

/-- A slice that is still the caller's, as the callee sees it: data. -/
def BorOk (O : List AObj) (x y : AV) : Prop := x = y ∨ (x = .nil0 ∧ y = .d (.list [])) ∨ ∃ id ver e sz xs, x = .own id ver ∧ O[id]? = some (.buf e sz xs ver) ∧ y = .d (.list xs)
def BorsOk (O : List AObj) : List AV → List AV → Prop
  | [], [] => True
  | x :: xs, y :: ys => BorOk O x y ∧ BorsOk O xs ys
  | _, _ => False
def flatD : D → Bool
  | .int _ _ | .bool _ | .str _ | .nilp => true
  | _ => false
def flatAV : AV → Bool
  | .d x => flatD x
  | .tup [] => true
  | .tup [.d x, .d y] => flatD x && flatD y
  | .nilf => true
  | _ => false
theorem own_data {w : World} {F : Nat → Prop} {γ : List GO} (I : Inv w F γ O) {id ver e sz : Nat} {xs : List D} {v : Value} (hO : O[id]? = some (.buf e sz xs ver)) (h : AV.V w F γ O (.own id ver) v) (F' : Nat → Prop) (hF : ∀ b, F b → F' b) (hb : ∀ (g : GO) (b : Nat), γ[id]? = some g → g.blk = some b → F' b) :
    D.R w F' (.list xs) v := by
  obtain ⟨g', hg, _, hp⟩ := ownAt_val hO h.2
  have hp := hp rfl
  rw [hp]
  rcases I.ok id _ g' hO hg with ⟨hb0, hx0, hc0⟩ | ⟨b, cs, hb', hrow, hc1, hcE, _⟩
  · subst hx0
    exact ⟨_, _, 0, rfl, by simp, (fun h => absurd rfl h), trivial⟩
  · have hFb := hb g' b hg hb'
    simp only [GO.slice, hb']
    refine ⟨_, _, sz, rfl, hrow.2.1, fun _ => ⟨_, rfl, rfl, hFb⟩, ?_⟩
    exact D.RE_mono hF (fun _ _ => rfl) _ (fun k => (some (⟨b, 0, none⟩ : Addr)).bind fun ad => w.cell? (ad.add k)) (fun k u hk => by
      simp only [Option.bind_some, add_lit, Nat.zero_add]
      exact hrow.cell k u hk) sz 0 xs hcE

end
end Go.Proofs.Ythpiggjclhnkcaa.AM
