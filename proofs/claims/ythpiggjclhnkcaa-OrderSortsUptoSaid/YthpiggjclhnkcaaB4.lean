/- Regions that draw their order. -/
import Derived.Test.YthpiggjclhnkcaaB3
import Derived.OrdersIn
namespace Go.Proofs.Ythpiggjclhnkcaa.AM
open Go
set_option linter.unusedVariables false
set_option linter.unusedSimpArgs false

def masks : List Oper → List Nat → List Nat
  | [], acc => acc
  | o :: r, acc => masks r (acc ++ [o.after.toList.foldl (fun m e => bif Region.binds .any e then m ||| ((1 <<< e.on) ||| acc.getD e.on 0) else m) 0])
def slotsOf (ops : Array Oper) (o : Oper) : List Nat :=
  (o.op.operands.toList.filterMap fun x => match x with | .tmp s => some s | _ => none) ++ (match o.guard with | none => [] | some (j, _) => match (ops[j]?).bind (·.dst) with | some d => [d] | none => [])
def dstIn (l : List Nat) : Option Tmp → Bool
  | none => false
  | some d => l.any (Nat.beq d)
def dstEq : Option Tmp → Option Tmp → Bool
  | some a, some b => Nat.beq a b
  | _, _ => false
def pairOk (ops : Array Oper) (imp any : List Bool) (m : Nat) (oi : Oper) (i : Nat) (oj : Oper) (j : Nat) : Bool :=
  !(dstEq oi.dst oj.dst) && (m.testBit j || (!(dstIn (slotsOf ops oi) oj.dst) && !(dstIn (slotsOf ops oj) oi.dst) && ((!(imp.getD i false) || (any.getD j false && !(imp.getD j false))) && (!(imp.getD j false) || (any.getD i false && !(imp.getD i false))))))
def drawOk (ops : List Oper) (imp any : List Bool) : Bool :=
  (List.range ops.length).all fun i => match ops[i]? with
    | none => true
    | some oi => (oi.after.toList.all fun e => !(Region.binds .any e) || Nat.blt e.on i) &&
      (List.range i).all fun j => match ops[j]? with
        | none => true
        | some oj => pairOk ops.toArray imp any ((masks ops []).getD i 0) oi i oj j

def Closed (ops : List Oper) (L : Nat → Prop) : Prop := ∀ i o, ops[i]? = some o → L i → ∀ e ∈ o.after, Region.binds .any e = true → L e.on
def MaskOk (acc : List Nat) (L : Nat → Prop) (k : Nat) : Prop := ∀ i, i < k → L i → ∀ j, (acc.getD i 0).testBit j = true → L j

theorem fold_mask (acc : List Nat) (L : Nat → Prop) (hacc : MaskOk acc L acc.length) : ∀ (es : List Edge) (m : Nat), (∀ e ∈ es, Region.binds .any e = true → L e.on) → (∀ j, m.testBit j = true → L j) →
    ∀ j, (es.foldl (fun m e => bif Region.binds .any e then m ||| ((1 <<< e.on) ||| acc.getD e.on 0) else m) m).testBit j = true → L j
  | [], m, _, hm, j, h => hm j h
  | e :: es, m, he, hm, j, h => by
    simp only [List.foldl_cons] at h
    refine fold_mask acc L hacc es _ (fun e' he' => he e' (List.mem_cons_of_mem _ he')) ?_ j h
    intro j' hj
    cases hb : Region.binds .any e with
    | false => rw [hb] at hj; exact hm j' hj
    | true =>
      rw [hb, cond_true, Nat.testBit_or, Nat.testBit_or] at hj
      have hL := he e (List.mem_cons_self ..) hb
      simp only [Bool.or_eq_true] at hj
      rcases hj with hj | hj | hj
      · exact hm j' hj
      · have : j' = e.on := by
          rw [Nat.one_shiftLeft] at hj
          rw [Nat.testBit_two_pow] at hj
          exact (of_decide_eq_true hj).symm
        rw [this]; exact hL
      · by_cases hlt : e.on < acc.length
        · exact hacc e.on hlt hL j' hj
        · rw [List.getD_eq_getElem?_getD, List.getElem?_eq_none (by omega)] at hj; simp at hj
theorem masks_ok {ops : List Oper} {L : Nat → Prop} (hL : Closed ops L) : ∀ (rest : List Oper) (acc : List Nat), (∀ j, rest[j]? = ops[acc.length + j]?) → MaskOk acc L acc.length → MaskOk (masks rest acc) L (acc.length + rest.length)
  | [], acc, _, h => h
  | o :: rest, acc, hr, h => by
    have := masks_ok hL rest (acc ++ [o.after.toList.foldl (fun m e => bif Region.binds .any e then m ||| ((1 <<< e.on) ||| acc.getD e.on 0) else m) 0]) (fun j => by
      have := hr (j + 1); simp only [List.getElem?_cons_succ] at this; rw [this]; congr 1; simp; omega) ?_
    · simp only [masks]
      simpa [Nat.add_assoc, Nat.add_comm 1] using this
    · intro i hi hLi j hj
      simp only [List.length_append, List.length_cons, List.length_nil] at hi
      by_cases hlt : i < acc.length
      · rw [List.getD_eq_getElem?_getD, List.getElem?_append_left hlt, ← List.getD_eq_getElem?_getD] at hj
        exact h i hlt hLi j hj
      · have hi' : i = acc.length := by omega
        subst hi'
        simp only [List.getD_eq_getElem?_getD, List.getElem?_concat_length, Option.getD_some] at hj
        have h0 := hr 0
        simp only [List.getElem?_cons_zero, Nat.add_zero] at h0
        refine fold_mask acc L h o.after.toList 0 (fun e he hb => hL acc.length o h0.symm hLi e (by simpa using he) hb) (fun j hj => by simp at hj) j ?_
        simpa [List.getD_eq_getElem?_getD] using hj

section
variable {P : Program} {ro : Option Nat} {N : Nat} {K : Org} {T : Nat → AV} {O : List AObj}

/-- These objects stand as they stood. -/
def KeepI : List Nat → List AObj → List AObj → Prop
  | [], _, _ => True
  | i :: r, O, O' => O'[i]? = O[i]? ∧ KeepI r O O'
theorem KeepI.refl : ∀ (ids : List Nat) (O : List AObj), KeepI ids O O
  | [], _ => trivial
  | i :: r, O => ⟨rfl, KeepI.refl r O⟩
theorem KeepI.trans : ∀ {ids : List Nat} {O O' O2 : List AObj}, KeepI ids O O' → KeepI ids O' O2 → KeepI ids O O2
  | [], _, _, _, _, _ => trivial
  | i :: r, _, _, _, h, k => ⟨k.1.trans h.1, KeepI.trans h.2 k.2⟩
theorem KeepI.symm : ∀ {ids : List Nat} {O O' : List AObj}, KeepI ids O O' → KeepI ids O' O
  | [], _, _, _ => trivial
  | i :: r, _, _, h => ⟨h.1.symm, KeepI.symm h.2⟩
/-- The operations one behind the other, with what each yields told. 'any': an operation that yields the same over whatever objects, if those of 'ids' stand as they stand. -/
def RD (P : Program) (ro : Option Nat) (N : Nat) (ops : Array Oper) (ids : List Nat) (any imp : List Bool) (rest : List Oper) (T : Nat → AV) (O : List AObj) (Q : (Nat → AV) → List AObj → Prop) : Prop :=
  ∃ (Tq : Nat → Nat → AV) (Ob : Nat → List AObj) (val : Nat → AV), Tq 0 = T ∧ Ob 0 = O ∧ Q (Tq rest.length) (Ob rest.length) ∧ ∀ i o, rest[i]? = some o →
    dstB N o.dst = true ∧ Tq (i + 1) = updo (Tq i) o.dst (val i) ∧ (imp.getD i false = false → Ob (i + 1) = Ob i) ∧
    ((guardB ops (Tq i) o.guard = some true ∧ OpV P ro o (Tq i) (Ob i) (val i) (Ob (i + 1))) ∨ (guardB ops (Tq i) o.guard = some false ∧ val i = .tup [] ∧ Ob (i + 1) = Ob i)) ∧
    KeepI ids (Ob i) (Ob (i + 1)) ∧ (any.getD i false = true → guardB ops (Tq i) o.guard = some true → ∀ O', KeepI ids (Ob i) O' → OpV P ro o (Tq i) O' (val i) O')

theorem RD.nil {ops : Array Oper} {ids : List Nat} {any imp : List Bool} {Q : (Nat → AV) → List AObj → Prop} (h : Q T O) : RD P ro N ops ids any imp [] T O Q :=
  ⟨fun _ => T, fun _ => O, fun _ => .unk, rfl, rfl, h, fun i o h => by simp at h⟩
theorem RD.cons {ops : Array Oper} {ids : List Nat} {c b : Bool} {any imp : List Bool} {o : Oper} {rest : List Oper} {Q : (Nat → AV) → List AObj → Prop} {v : AV} {O1 : List AObj} (hd : dstB N o.dst = true) (hb : b = false → O1 = O)
    (hs : (guardB ops T o.guard = some true ∧ OpV P ro o T O v O1) ∨ (guardB ops T o.guard = some false ∧ v = .tup [] ∧ O1 = O)) (hk : KeepI ids O O1) (ha : c = true → guardB ops T o.guard = some true → ∀ O', KeepI ids O O' → OpV P ro o T O' v O')
    (hr : RD P ro N ops ids any imp rest (updo T o.dst v) O1 Q) : RD P ro N ops ids (c :: any) (b :: imp) (o :: rest) T O Q := by
  obtain ⟨Tq, Ob, val, h1, h2, h3, h4⟩ := hr
  refine ⟨fun | 0 => T | i + 1 => Tq i, fun | 0 => O | i + 1 => Ob i, fun | 0 => v | i + 1 => val i, rfl, rfl, h3, ?_⟩
  intro i o' ho
  cases i with
  | zero =>
    simp only [List.getElem?_cons_zero, Option.some.injEq] at ho
    subst ho
    refine ⟨hd, h1, fun hb' => by simp only [List.getD_cons_zero] at hb'; exact h2.trans (hb hb'), ?_, ?_, ?_⟩
    · simp only [h2]; exact hs
    · simp only [h2]; exact hk
    · simp only [List.getD_cons_zero]; exact ha
  | succ i =>
    simp only [List.getElem?_cons_succ] at ho
    have := h4 i o' ho
    simpa only [List.getD_cons_succ] using this
theorem RD.op {ops : Array Oper} {ids : List Nat} {any imp : List Bool} {Q : (Nat → AV) → List AObj → Prop} {op : Op} {dst : Tmp} {ty : TypeId} {pos : String} {af : Array Edge} {rest : List Oper} {v : AV}
    (h : OpV P ro ⟨some dst, op, ty, pos, af, none⟩ T O v O) (hr : RD P ro N ops ids any imp rest (upd T dst v) O Q) (hd : Nat.blt dst N = true := by rfl) : RD P ro N ops ids (false :: any) (false :: imp) (⟨some dst, op, ty, pos, af, none⟩ :: rest) T O Q :=
  RD.cons hd (fun _ => rfl) (.inl ⟨rfl, h⟩) (KeepI.refl _ _) (fun h => by cases h) hr
theorem RD.opi {ops : Array Oper} {ids : List Nat} {any imp : List Bool} {Q : (Nat → AV) → List AObj → Prop} {op : Op} {dst : Tmp} {ty : TypeId} {pos : String} {af : Array Edge} {rest : List Oper} {v : AV} {O1 : List AObj}
    (h : OpV P ro ⟨some dst, op, ty, pos, af, none⟩ T O v O1) (hk : KeepI ids O O1) (hr : RD P ro N ops ids any imp rest (upd T dst v) O1 Q) (hd : Nat.blt dst N = true := by rfl) : RD P ro N ops ids (false :: any) (true :: imp) (⟨some dst, op, ty, pos, af, none⟩ :: rest) T O Q :=
  RD.cons hd (fun h => by cases h) (.inl ⟨rfl, h⟩) hk (fun h => by cases h) hr
theorem RD.op0 {ops : Array Oper} {ids : List Nat} {any imp : List Bool} {Q : (Nat → AV) → List AObj → Prop} {op : Op} {ty : TypeId} {pos : String} {af : Array Edge} {rest : List Oper} {v : AV} {O1 : List AObj}
    (h : OpV P ro ⟨none, op, ty, pos, af, none⟩ T O v O1) (hk : KeepI ids O O1) (hr : RD P ro N ops ids any imp rest T O1 Q) : RD P ro N ops ids (false :: any) (true :: imp) (⟨none, op, ty, pos, af, none⟩ :: rest) T O Q :=
  RD.cons rfl (fun h => by cases h) (.inl ⟨rfl, h⟩) hk (fun h => by cases h) hr
theorem RD.opg {ops : Array Oper} {ids : List Nat} {any imp : List Bool} {Q : (Nat → AV) → List AObj → Prop} {op : Op} {dst : Tmp} {ty : TypeId} {pos : String} {af : Array Edge} {g : Nat × Bool} {rest : List Oper} {v : AV}
    (hg : guardB ops T (some g) = some true) (h : OpV P ro ⟨some dst, op, ty, pos, af, some g⟩ T O v O) (hr : RD P ro N ops ids any imp rest (upd T dst v) O Q) (hd : Nat.blt dst N = true := by rfl) : RD P ro N ops ids (false :: any) (false :: imp) (⟨some dst, op, ty, pos, af, some g⟩ :: rest) T O Q :=
  RD.cons hd (fun _ => rfl) (.inl ⟨hg, h⟩) (KeepI.refl _ _) (fun h => by cases h) hr
theorem RD.off {ops : Array Oper} {c b : Bool} {ids : List Nat} {any imp : List Bool} {Q : (Nat → AV) → List AObj → Prop} {op : Op} {dst : Tmp} {ty : TypeId} {pos : String} {af : Array Edge} {g : Nat × Bool} {rest : List Oper}
    (hg : guardB ops T (some g) = some false) (hr : RD P ro N ops ids any imp rest (upd T dst (.tup [])) O Q) (hd : Nat.blt dst N = true := by rfl) : RD P ro N ops ids (c :: any) (b :: imp) (⟨some dst, op, ty, pos, af, some g⟩ :: rest) T O Q :=
  RD.cons hd (fun _ => rfl) (.inr ⟨hg, rfl, rfl⟩) (KeepI.refl _ _) (fun _ h => by rw [show guardB ops T (some g) = some false from hg] at h; cases h) hr
theorem RD.opc {ops : Array Oper} {ids : List Nat} {any imp : List Bool} {Q : (Nat → AV) → List AObj → Prop} {op : Op} {dst : Tmp} {ty : TypeId} {pos : String} {af : Array Edge} {rest : List Oper} {b : Bool}
    (h : OpV P ro ⟨some dst, op, ty, pos, af, none⟩ T O (.d (.bool b)) O) (ht : b = true → RD P ro N ops ids any imp rest (upd T dst (.d (.bool true))) O Q) (hf : b = false → RD P ro N ops ids any imp rest (upd T dst (.d (.bool false))) O Q) (hd : Nat.blt dst N = true := by rfl) :
    RD P ro N ops ids (false :: any) (false :: imp) (⟨some dst, op, ty, pos, af, none⟩ :: rest) T O Q := by
  cases b with
  | true => exact RD.op h (ht rfl) hd
  | false => exact RD.op h (hf rfl) hd
theorem RD.opgc {ops : Array Oper} {ids : List Nat} {any imp : List Bool} {Q : (Nat → AV) → List AObj → Prop} {op : Op} {dst : Tmp} {ty : TypeId} {pos : String} {af : Array Edge} {g : Nat × Bool} {rest : List Oper} {b : Bool}
    (hg : guardB ops T (some g) = some true) (h : OpV P ro ⟨some dst, op, ty, pos, af, some g⟩ T O (.d (.bool b)) O) (ht : b = true → RD P ro N ops ids any imp rest (upd T dst (.d (.bool true))) O Q) (hf : b = false → RD P ro N ops ids any imp rest (upd T dst (.d (.bool false))) O Q) (hd : Nat.blt dst N = true := by rfl) :
    RD P ro N ops ids (false :: any) (false :: imp) (⟨some dst, op, ty, pos, af, some g⟩ :: rest) T O Q := by
  cases b with
  | true => exact RD.opg hg h (ht rfl) hd
  | false => exact RD.opg hg h (hf rfl) hd


/-! The same, with what is yielded, and the objects, written anew. -/
theorem RO.opv {ops : Array Oper} {Q : (Nat → AV) → List AObj → Prop} {op : Op} {dst : Tmp} {ty : TypeId} {pos : String} {af : Array Edge} {rest : List Oper} {v v' : AV} {O1 : List AObj}
    (h : OpV P ro ⟨some dst, op, ty, pos, af, none⟩ T O v O1) (hv : v = v') (hr : RO P ro N ops rest (upd T dst v') O1 Q) (hd : Nat.blt dst N = true := by rfl) : RO P ro N ops (⟨some dst, op, ty, pos, af, none⟩ :: rest) T O Q :=
  RO.op h (hv ▸ hr) hd
theorem RO.opn {ops : Array Oper} {Q : (Nat → AV) → List AObj → Prop} {op : Op} {dst : Tmp} {ty : TypeId} {pos : String} {af : Array Edge} {rest : List Oper} {v v' : AV} {O1 O' : List AObj}
    (h : OpV P ro ⟨some dst, op, ty, pos, af, none⟩ T O v O1) (hv : v = v') (hO : O1 = O') (hr : RO P ro N ops rest (upd T dst v') O' Q) (hd : Nat.blt dst N = true := by rfl) : RO P ro N ops (⟨some dst, op, ty, pos, af, none⟩ :: rest) T O Q :=
  RO.op h (hv ▸ hO ▸ hr) hd
theorem RO.op0n {ops : Array Oper} {Q : (Nat → AV) → List AObj → Prop} {op : Op} {ty : TypeId} {pos : String} {af : Array Edge} {rest : List Oper} {v : AV} {O1 O' : List AObj}
    (h : OpV P ro ⟨none, op, ty, pos, af, none⟩ T O v O1) (hO : O1 = O') (hr : RO P ro N ops rest T O' Q) : RO P ro N ops (⟨none, op, ty, pos, af, none⟩ :: rest) T O Q :=
  RO.op0 h (hO ▸ hr)
theorem RO.opgv {ops : Array Oper} {Q : (Nat → AV) → List AObj → Prop} {op : Op} {dst : Tmp} {ty : TypeId} {pos : String} {af : Array Edge} {g : Nat × Bool} {rest : List Oper} {v v' : AV} {O1 : List AObj}
    (hg : guardB ops T (some g) = some true) (h : OpV P ro ⟨some dst, op, ty, pos, af, some g⟩ T O v O1) (hv : v = v') (hr : RO P ro N ops rest (upd T dst v') O1 Q) (hd : Nat.blt dst N = true := by rfl) : RO P ro N ops (⟨some dst, op, ty, pos, af, some g⟩ :: rest) T O Q :=
  RO.opg hg h (hv ▸ hr) hd
theorem RD.opv {ops : Array Oper} {ids : List Nat} {any imp : List Bool} {Q : (Nat → AV) → List AObj → Prop} {op : Op} {dst : Tmp} {ty : TypeId} {pos : String} {af : Array Edge} {rest : List Oper} {v v' : AV}
    (h : OpV P ro ⟨some dst, op, ty, pos, af, none⟩ T O v O) (hv : v = v') (hr : RD P ro N ops ids any imp rest (upd T dst v') O Q) (hd : Nat.blt dst N = true := by rfl) : RD P ro N ops ids (false :: any) (false :: imp) (⟨some dst, op, ty, pos, af, none⟩ :: rest) T O Q :=
  RD.op h (hv ▸ hr) hd
theorem RD.opn {ops : Array Oper} {ids : List Nat} {any imp : List Bool} {Q : (Nat → AV) → List AObj → Prop} {op : Op} {dst : Tmp} {ty : TypeId} {pos : String} {af : Array Edge} {rest : List Oper} {v v' : AV} {O1 O' : List AObj}
    (h : OpV P ro ⟨some dst, op, ty, pos, af, none⟩ T O v O1) (hv : v = v') (hO : O1 = O') (hk : KeepI ids O O') (hr : RD P ro N ops ids any imp rest (upd T dst v') O' Q) (hd : Nat.blt dst N = true := by rfl) : RD P ro N ops ids (false :: any) (true :: imp) (⟨some dst, op, ty, pos, af, none⟩ :: rest) T O Q :=
  RD.opi h (hO ▸ hk) (hv ▸ hO ▸ hr) hd
theorem RD.op0n {ops : Array Oper} {ids : List Nat} {any imp : List Bool} {Q : (Nat → AV) → List AObj → Prop} {op : Op} {ty : TypeId} {pos : String} {af : Array Edge} {rest : List Oper} {v : AV} {O1 O' : List AObj}
    (h : OpV P ro ⟨none, op, ty, pos, af, none⟩ T O v O1) (hO : O1 = O') (hk : KeepI ids O O') (hr : RD P ro N ops ids any imp rest T O' Q) : RD P ro N ops ids (false :: any) (true :: imp) (⟨none, op, ty, pos, af, none⟩ :: rest) T O Q :=
  RD.op0 h (hO ▸ hk) (hO ▸ hr)
theorem RD.opgv {ops : Array Oper} {ids : List Nat} {any imp : List Bool} {Q : (Nat → AV) → List AObj → Prop} {op : Op} {dst : Tmp} {ty : TypeId} {pos : String} {af : Array Edge} {g : Nat × Bool} {rest : List Oper} {v v' : AV}
    (hg : guardB ops T (some g) = some true) (h : OpV P ro ⟨some dst, op, ty, pos, af, some g⟩ T O v O) (hv : v = v') (hr : RD P ro N ops ids any imp rest (upd T dst v') O Q) (hd : Nat.blt dst N = true := by rfl) : RD P ro N ops ids (false :: any) (false :: imp) (⟨some dst, op, ty, pos, af, some g⟩ :: rest) T O Q :=
  RD.opg hg h (hv ▸ hr) hd
theorem RD.opa {ops : Array Oper} {ids : List Nat} {any imp : List Bool} {Q : (Nat → AV) → List AObj → Prop} {op : Op} {dst : Tmp} {ty : TypeId} {pos : String} {af : Array Edge} {rest : List Oper} {v v' : AV}
    (h : ∀ O', KeepI ids O O' → OpV P ro ⟨some dst, op, ty, pos, af, none⟩ T O' v O') (hv : v = v') (hr : RD P ro N ops ids any imp rest (upd T dst v') O Q) (hd : Nat.blt dst N = true := by rfl) : RD P ro N ops ids (true :: any) (false :: imp) (⟨some dst, op, ty, pos, af, none⟩ :: rest) T O Q :=
  RD.cons hd (fun _ => rfl) (.inl ⟨rfl, h O (KeepI.refl _ _)⟩) (KeepI.refl _ _) (fun _ _ => h) (hv ▸ hr)

theorem guard_wanted {ops : Array Oper} {o : Oper} {a : Act} {w : World} (h : At N K T O a w) {b : Bool} (hg : guardB ops T o.guard = some b) : Region.wanted o (yielded ops a.tmps) = b := guard_true h hg

theorem opv_slots {o : Oper} {T T' : Nat → AV} {v : AV} {O O1 : List AObj} (h : OpV P ro o T O v O1) (ht : ∀ s, Operand.tmp s ∈ o.op.operands → T' s = T s) : OpV P ro o T' O v O1 :=
  fun w F γ a I H => h w F γ a I fun s hs => by rw [← ht s hs]; exact H s hs

theorem At.drew {a : Act} {w : World} (h : At N K T O a w) : At N K T O a { w with drawn := w.drawn + 1 } := by
  obtain ⟨F, γ, I, hT, hs, hdf, E⟩ := h
  obtain ⟨I', E'⟩ := I.grow (w' := { w with drawn := w.drawn + 1 }) (F' := F) rfl rfl rfl (Nat.le_refl _) (fun b hb => rfl) (fun b hb => hb) (fun b hb hf => hf) (fun b hb => I.fr b hb)
  exact ⟨F, γ, I', fun s => AV.V_evo I E' I'.len _ _ (hT s), hs, hdf.evo E', E.trans I.len E'⟩

theorem pair_of {ops : List Oper} {imp any : List Bool} (h : drawOk ops imp any = true) {i j : Nat} {oi oj : Oper} (hi : ops[i]? = some oi) (hj : ops[j]? = some oj) (hlt : j < i) : pairOk ops.toArray imp any ((masks ops []).getD i 0) oi i oj j = true := by
  have hil : i < ops.length := (List.getElem?_eq_some_iff.1 hi).1
  simp only [drawOk, List.all_eq_true, List.mem_range] at h
  have := h i hil
  simp only [hi, Bool.and_eq_true, List.all_eq_true, List.mem_range] at this
  have := this.2 j hlt
  simpa only [hj] using this
theorem edge_lt {ops : List Oper} {imp any : List Bool} (h : drawOk ops imp any = true) {i : Nat} {oi : Oper} (hi : ops[i]? = some oi) {e : Edge} (he : e ∈ oi.after) (hb : Region.binds .any e = true) : e.on < i := by
  have hil : i < ops.length := (List.getElem?_eq_some_iff.1 hi).1
  simp only [drawOk, List.all_eq_true, List.mem_range] at h
  have := h i hil
  simp only [hi, Bool.and_eq_true, List.all_eq_true] at this
  have := this.1 e (by simpa using he)
  simp only [hb, Bool.not_true, Bool.false_or, Nat.blt_eq] at this
  exact this
theorem dstIn_mem {l : List Nat} {d : Nat} (h : d ∈ l) : dstIn l (some d) = true := by
  simp only [dstIn, List.any_eq_true]
  exact ⟨d, h, Nat.beq_refl d⟩
theorem slots_op {ops : Array Oper} {o : Oper} {s : Nat} (h : Operand.tmp s ∈ o.op.operands) : s ∈ slotsOf ops o :=
  List.mem_append_left _ (List.mem_filterMap.2 ⟨.tmp s, by simpa using h, rfl⟩)

/-- A REGION THAT DRAWS ITS ORDER, where whatever looks at what another one yields is bound to stand behind it or ahead of it, and so is whatever turns an object and all others. -/
theorem Runs.drawn {id : Nat} {ops : List Oper} {Q : Exit → (Nat → AV) → List AObj → Prop} (hm : P.follows .mixedOrders = true) (ids : List Nat) (any imp : List Bool) (hc : drawOk ops imp any = true) (h : RD P ro N ops.toArray ids any imp ops T O (Q .normal)) : Runs P ro N K (.region id ops.toArray true) T O Q := by
  obtain ⟨Tq, Ob, val, hT0, hO0, hq, hst⟩ := h
  intro a w hat
  refine wpIn_region_any hm ?_
  -- what the sequential run holds
  have seqT : ∀ k, k ≤ ops.length → ∀ s, (∀ j o, j < k → ops[j]? = some o → o.dst = some s → Tq k s = val j) ∧ ((∀ j o, j < k → ops[j]? = some o → o.dst ≠ some s) → Tq k s = T s) := by
    intro k
    induction k with
    | zero => intro _ s; exact ⟨fun j o h => absurd h (Nat.not_lt_zero _), fun _ => by rw [hT0]⟩
    | succ k ih =>
      intro hk s
      obtain ⟨i1, i2⟩ := ih (by omega) s
      have hok : ops[k]? = some ops[k] := List.getElem?_eq_getElem (by omega)
      obtain ⟨_, hT1, _, _, _⟩ := hst k _ hok
      refine ⟨fun j o hj ho hd => ?_, fun hno => ?_⟩
      · rw [hT1]
        by_cases hjk : j = k
        · subst hjk
          rw [hok] at ho; cases ho
          rw [hd]; simp only [updo, upd, Nat.beq_refl, cond_true]
        · have hne : (ops[k]).dst ≠ some s := by
            intro hd'
            have := pair_of hc hok ho (by omega)
            simp only [pairOk, hd, hd', dstEq, Nat.beq_refl, Bool.not_true, Bool.false_and] at this
            cases this
          have : updo (Tq k) (ops[k]).dst (val k) s = Tq k s := by
            cases hdk : (ops[k]).dst with
            | none => rfl
            | some d =>
              simp only [updo, upd]
              cases hb : Nat.beq s d with
              | false => rfl
              | true => exact absurd (by rw [hdk, Nat.eq_of_beq_eq_true hb]) hne
          rw [this]
          exact i1 j o (by omega) ho hd
      · rw [hT1]
        have hne := hno k _ (Nat.lt_succ_self k) hok
        have : updo (Tq k) (ops[k]).dst (val k) s = Tq k s := by
          cases hdk : (ops[k]).dst with
          | none => rfl
          | some d =>
            simp only [updo, upd]
            cases hb : Nat.beq s d with
            | false => rfl
            | true => exact absurd (by rw [hdk, Nat.eq_of_beq_eq_true hb]) hne
        rw [this]
        exact i2 fun j o hj => hno j o (by omega)
  have seqO : ∀ m k, m ≤ k → k ≤ ops.length → (∀ j, m ≤ j → j < k → imp.getD j false = false) → Ob k = Ob m := by
    intro m k
    induction k with
    | zero => intro h _ _; rw [show m = 0 by omega]
    | succ k ih =>
      intro h hk hi
      by_cases hmk : m = k + 1
      · rw [hmk]
      · obtain ⟨_, _, h3, _, _⟩ := hst k _ (List.getElem?_eq_getElem (by omega))
        rw [h3 (hi k (by omega) (by omega)), ih (by omega) (by omega) fun j h1 h2 => hi j h1 (by omega)]
  let L : Array Bool → Nat → Prop := fun listed i => listed.getD i false = true
  have main : ∀ (fuel : Nat) (listed : Array Bool) (T1 : Nat → AV) (O1 : List AObj) (m : Nat) (a : Act) (w : World), listed.size = ops.length → Closed ops (L listed) → (List.range ops.length).countP (fun i => !(listed.getD i false)) ≤ fuel →
      (∀ s, (∀ (j : Nat) (o : Oper), L listed j → ops[j]? = some o → o.dst = some s → T1 s = val j) ∧ ((∀ (j : Nat) (o : Oper), L listed j → ops[j]? = some o → o.dst ≠ some s) → T1 s = T s)) → m ≤ ops.length → O1 = Ob m → (∀ j, imp.getD j false = true → j < ops.length → (L listed j ↔ j < m)) → At N K T1 O1 a w →
      wpAnyIn (WF ro) 0 P .any ops.toArray (fun e a' w' => ∃ T' O', At N K T' O' a' w' ∧ Q e T' O') fuel listed a w := by
    intro fuel
    -- all listed: what follows
    have fin : ∀ (listed : Array Bool) (T1 : Nat → AV) (O1 : List AObj) (m : Nat) (a : Act) (w : World), (∀ i, i < ops.length → L listed i) →
      (∀ s, (∀ (j : Nat) (o : Oper), L listed j → ops[j]? = some o → o.dst = some s → T1 s = val j) ∧ ((∀ (j : Nat) (o : Oper), L listed j → ops[j]? = some o → o.dst ≠ some s) → T1 s = T s)) → m ≤ ops.length → O1 = Ob m → (∀ j, imp.getD j false = true → j < ops.length → (L listed j ↔ j < m)) → At N K T1 O1 a w →
      ∃ T' O', At N K T' O' a w ∧ Q .normal T' O' := by
      intro listed T1 O1 m a w hall hT hm hO hI hat
      have hTT : ∀ s, Tq ops.length s = T1 s := by
        intro s
        obtain ⟨s1, s2⟩ := seqT ops.length (Nat.le_refl _) s
        by_cases hex : ∃ (j : Nat) (o : Oper), ops[j]? = some o ∧ o.dst = some s
        · obtain ⟨j, o, ho, hd⟩ := hex
          have hj : j < ops.length := (List.getElem?_eq_some_iff.1 ho).1
          rw [s1 j o hj ho hd, (hT s).1 j o (hall j hj) ho hd]
        · rw [s2 (fun j o _ ho hd => hex ⟨j, o, ho, hd⟩), (hT s).2 (fun j o _ ho hd => hex ⟨j, o, ho, hd⟩)]
      have hOO : Ob ops.length = O1 := by
        rw [hO]
        exact seqO m _ hm (Nat.le_refl _) fun j h1 h2 => by
          cases hb : imp.getD j false with
          | false => rfl
          | true => have := (hI j hb h2).1 (hall j h2); omega
      refine ⟨Tq ops.length, Ob ops.length, ?_, hq⟩
      rw [hOO, show Tq ops.length = T1 from funext hTT]
      exact hat
    have none_ready : ∀ (listed : Array Bool), listed.size = ops.length → Region.ready .any ops.toArray listed = [] → ∀ i, i < ops.length → L listed i := by
      intro listed hsz hr i
      induction i using Nat.strongRecOn with
      | _ i ih =>
        intro hi
        cases hb : listed.getD i false with
        | true => exact hb
        | false =>
          have : i ∈ Region.ready .any ops.toArray listed := by
            rw [mem_ready]
            refine ⟨?_, ops[i], by simp [hi], fun e he hbd => ?_⟩
            · rw [Array.getD_eq_getD_getElem?] at hb ⊢
              rw [show listed[i]? = some listed[i] from Array.getElem?_eq_getElem (by omega)] at hb ⊢
              exact hb
            · have hlt := edge_lt hc (List.getElem?_eq_getElem hi) he hbd
              exact ih e.on hlt (by omega)
          rw [hr] at this; cases this
    induction fuel with
    | zero =>
      intro listed T1 O1 m a w hsz hcl hcnt hT hmn hO hI hat
      have hall : ∀ i, i < ops.length → L listed i := by
        intro i hi
        have h0 : (List.range ops.length).countP (fun i => !(listed.getD i false)) = 0 := by omega
        rw [List.countP_eq_zero] at h0
        have := h0 i (List.mem_range.2 hi)
        show listed.getD i false = true
        cases hb : listed.getD i false with
        | true => rfl
        | false => rw [hb] at this; exact absurd rfl this
      refine ⟨?_, fin listed T1 O1 m a w hall hT hmn hO hI hat⟩
      refine List.eq_nil_iff_forall_not_mem.2 fun i hi => ?_
      obtain ⟨h1, o, ho, _⟩ := mem_ready.1 hi
      have hil : i < ops.length := by
        have := (Array.getElem?_eq_some_iff.1 ho).1; simpa using this
      have := hall i hil
      simp only [L] at this
      rw [Array.getD_eq_getD_getElem?] at h1 this
      rw [show listed[i]? = some listed[i] from Array.getElem?_eq_getElem (by omega)] at h1 this
      simp only [Option.getD_some] at h1 this
      rw [h1] at this; cases this
    | succ fuel ih =>
      intro listed T1 O1 m a w hsz hcl hcnt hT hmn hO hI hat
      refine ⟨fun hr => fin listed T1 O1 m a w (none_ready listed hsz hr) hT hmn hO hI hat, fun i hi => ?_⟩
      obtain ⟨hun, o, ho, hed⟩ := mem_ready.1 hi
      have ho' : ops[i]? = some o := by simpa using ho
      have hil : i < ops.length := (List.getElem?_eq_some_iff.1 ho').1
      have hnl : ¬ L listed i := by
        intro hl
        simp only [L] at hl
        rw [Array.getD_eq_getD_getElem?] at hun hl
        rw [show listed[i]? = some listed[i] from Array.getElem?_eq_getElem (by omega)] at hun hl
        simp only [Option.getD_some] at hun hl
        rw [hun] at hl; cases hl
      have hmk := masks_ok hcl ops [] (by simp) (fun i h => absurd h (Nat.not_lt_zero _))
      simp only [List.length_nil, Nat.zero_add] at hmk
      -- who stands ahead of i is listed
      have ahead : ∀ j, ((masks ops []).getD i 0).testBit j = true → L listed j := by
        -- the listed ones and i are closed
        have hcl' : Closed ops (fun j => L listed j ∨ j = i) := by
          intro j oj hoj hj e he hb
          rcases hj with hj | rfl
          · exact .inl (hcl j oj hoj hj e he hb)
          · rw [ho'] at hoj; cases hoj
            exact .inl (hed e he hb)
        have hmk' := masks_ok hcl' ops [] (by simp) (fun i h => absurd h (Nat.not_lt_zero _))
        simp only [List.length_nil, Nat.zero_add] at hmk'
        -- but i is not ahead of itself: by the edges
        intro j hj
        have hlt : ∀ (L0 : Nat → Prop), Closed ops L0 → L0 i → L0 j := fun L0 h0 h1 => by
          have := masks_ok h0 ops [] (by simp) (fun i h => absurd h (Nat.not_lt_zero _))
          simp only [List.length_nil, Nat.zero_add] at this
          exact this i hil h1 j hj
        -- those that i's edges need, closed: listed
        rcases hmk' i hil (.inr rfl) j hj with h | h
        · exact h
        · subst h
          -- j = i: the set of those below i and i... i's mask has i: impossible, since masks look back
          exfalso
          have hback : ∀ (rest : List Oper) (acc : List Nat), (∀ q, rest[q]? = ops[acc.length + q]?) → (∀ q, q < acc.length → ∀ b, (acc.getD q 0).testBit b = true → b < q) → ∀ q, q < acc.length + rest.length → ∀ b, ((masks rest acc).getD q 0).testBit b = true → b < q := by
            intro rest
            induction rest with
            | nil => intro acc _ h q hq; exact h q (by simpa using hq)
            | cons o' rest ihr =>
              intro acc hr hacc q hq
              simp only [masks]
              refine ihr _ (fun q => by have := hr (q + 1); simp only [List.getElem?_cons_succ] at this; rw [this]; congr 1; simp; omega) ?_ q (by simp at hq ⊢; omega)
              intro q hq b hb
              simp only [List.length_append, List.length_cons, List.length_nil] at hq
              by_cases hlt : q < acc.length
              · rw [List.getD_eq_getElem?_getD, List.getElem?_append_left hlt, ← List.getD_eq_getElem?_getD] at hb
                exact hacc q hlt b hb
              · have hq' : q = acc.length := by omega
                subst hq'
                simp only [List.getD_eq_getElem?_getD, List.getElem?_concat_length, Option.getD_some] at hb
                have h0 := hr 0
                simp only [List.getElem?_cons_zero, Nat.add_zero] at h0
                have hfold : ∀ (es : List Edge) (m : Nat), (∀ e ∈ es, Region.binds .any e = true → e.on < acc.length) → (∀ b, m.testBit b = true → b < acc.length) → ∀ b, (es.foldl (fun m e => bif Region.binds .any e then m ||| ((1 <<< e.on) ||| acc.getD e.on 0) else m) m).testBit b = true → b < acc.length := by
                  intro es
                  induction es with
                  | nil => intro m _ h; exact h
                  | cons e es ihe =>
                    intro m he hm b hb
                    simp only [List.foldl_cons] at hb
                    refine ihe _ (fun e' he' => he e' (List.mem_cons_of_mem _ he')) ?_ b hb
                    intro b' hb'
                    cases hbd : Region.binds .any e with
                    | false => rw [hbd] at hb'; exact hm b' hb'
                    | true =>
                      rw [hbd, cond_true, Nat.testBit_or, Nat.testBit_or] at hb'
                      have hlt := he e (List.mem_cons_self ..) hbd
                      simp only [Bool.or_eq_true] at hb'
                      rcases hb' with hb' | hb' | hb'
                      · exact hm b' hb'
                      · rw [Nat.one_shiftLeft, Nat.testBit_two_pow] at hb'
                        have := of_decide_eq_true hb'; omega
                      · have := hacc e.on hlt b' hb'; omega
                refine hfold o'.after.toList 0 (fun e he hbd => edge_lt hc h0.symm (by simpa using he) hbd) (fun b hb => by simp at hb) b ?_
                simpa [List.getD_eq_getElem?_getD] using hb
          have := hback ops [] (by simp) (fun q h => absurd h (Nat.not_lt_zero _)) j (by simpa using hil) j hj
          omega
      have behind : ∀ j oj, ops[j]? = some oj → i < j → ((masks ops []).getD j 0).testBit i = true → ¬ L listed j := by
        intro j oj hoj hlt hb hl
        exact hnl (hmk j (List.getElem?_eq_some_iff.1 hoj).1 hl i hb)
      obtain ⟨hdst, hT1, hO1, hstep, hkp, hany⟩ := hst i o ho'
      -- what the operation looks at is what it is in the sequential run
      have look : ∀ s, s ∈ slotsOf ops.toArray o → T1 s = Tq i s := by
        intro s hs
        obtain ⟨s1, s2⟩ := seqT i (by omega) s
        by_cases hex : ∃ (j : Nat) (oj : Oper), ops[j]? = some oj ∧ oj.dst = some s ∧ j ≠ i
        · obtain ⟨j, oj, hoj, hd, hne⟩ := hex
          by_cases hlt : j < i
          · have hp := pair_of hc ho' hoj hlt
            simp only [pairOk, Bool.and_eq_true, Bool.or_eq_true] at hp
            rcases hp.2 with hp | hp
            · rw [s1 j oj hlt hoj hd, (hT s).1 j oj (ahead j hp) hoj hd]
            · rw [hd, dstIn_mem hs] at hp; simp at hp
          · have hp := pair_of hc hoj ho' (by omega)
            simp only [pairOk, Bool.and_eq_true, Bool.or_eq_true] at hp
            rcases hp.2 with hp | hp
            · have hnj := behind j oj hoj (by omega) hp
              have uniq : ∀ k ok, ops[k]? = some ok → ok.dst = some s → k = j := by
                intro k ok hok hdk
                rcases Nat.lt_trichotomy k j with h | h | h
                · have := pair_of hc hoj hok h; simp only [pairOk, hd, hdk, dstEq, Nat.beq_refl, Bool.not_true, Bool.false_and] at this; cases this
                · exact h
                · have := pair_of hc hok hoj h; simp only [pairOk, hd, hdk, dstEq, Nat.beq_refl, Bool.not_true, Bool.false_and] at this; cases this
              rw [s2 (fun k ok hk hok hdk => by have := uniq k ok hok hdk; omega), (hT s).2 (fun k ok hk hok hdk => by have := uniq k ok hok hdk; subst this; exact hnj hk)]
            · rw [hd, dstIn_mem hs] at hp; simp at hp
        · have hno : ∀ (j : Nat) (oj : Oper), j ≠ i → ops[j]? = some oj → oj.dst ≠ some s := fun j oj hne hoj hd => hex ⟨j, oj, hoj, hd, hne⟩
          rw [s2 (fun j oj hj hoj => hno j oj (by omega) hoj), (hT s).2 (fun j oj hj hoj => hno j oj (fun e => hnl (e ▸ hj)) hoj)]
      -- the objects are those of the sequential run
      have hOi : (any.getD i false && !(imp.getD i false)) = false → O1 = Ob i := by
        intro hna
        rw [hO]
        rcases Nat.le_total m i with hmi | hmi
        · refine (seqO m i hmi (by omega) fun j h1 h2 => ?_).symm
          cases hb : imp.getD j false with
          | false => rfl
          | true =>
            exfalso
            have hjl : j < ops.length := by omega
            have hp := pair_of hc ho' (List.getElem?_eq_getElem hjl) h2
            simp only [pairOk, hb, hna, Bool.not_true, Bool.false_or, Bool.and_false, Bool.false_and, Bool.or_false, Bool.and_eq_true] at hp
            have := (hI j hb hjl).1 (ahead j hp.2); omega
        · refine seqO i m hmi hmn fun j h1 h2 => ?_
          cases hb : imp.getD j false with
          | false => rfl
          | true =>
            exfalso
            have hjl : j < ops.length := by omega
            have hlj := (hI j hb hjl).2 h2
            by_cases hji : j = i
            · subst hji; exact hnl hlj
            · have hp := pair_of hc (List.getElem?_eq_getElem hjl) ho' (by omega)
              simp only [pairOk, hb, hna, Bool.not_true, Bool.false_or, Bool.and_false, Bool.false_and, Bool.or_false, Bool.and_eq_true] at hp
              exact behind j _ (List.getElem?_eq_getElem hjl) (by omega) hp.2 hlj
      -- after it
      have hL' : ∀ j, L (listed.setIfInBounds i true) j ↔ (L listed j ∨ j = i) := by
        intro j
        simp only [L]
        by_cases hji : j = i
        · subst hji
          simp [Array.getElem?_setIfInBounds, hsz, hil]
        · rw [getD_set_ne false (Ne.symm hji)]; simp [hji]
      have next : ∀ (O2 : List AObj) (m2 : Nat), m2 ≤ ops.length → O2 = Ob m2 → (imp.getD i false = true → m2 = i + 1) → (imp.getD i false = false → m2 = m) → ∀ (a' : Act) (w' : World), At N K (updo T1 o.dst (val i)) O2 a' w' → wpAnyIn (WF ro) 0 P .any ops.toArray (fun e a' w' => ∃ T' O', At N K T' O' a' w' ∧ Q e T' O') fuel (listed.setIfInBounds i true) a' w' := by
        intro O2 m2 hm2 hO2 hi1 hi2 a' w' hat'
        refine ih _ (updo T1 o.dst (val i)) O2 m2 a' w' (by simpa using hsz) ?_ ?_ ?_ hm2 hO2 ?_ hat'
        · intro j oj hoj hj e he hb
          rw [hL'] at hj ⊢
          rcases hj with hj | rfl
          · exact .inl (hcl j oj hoj hj e he hb)
          · rw [ho'] at hoj; cases hoj
            exact .inl (hed e he hb)
        · have key : (List.range ops.length).countP (fun j => !((listed.setIfInBounds i true).getD j false)) < (List.range ops.length).countP (fun j => !(listed.getD j false)) := by
            have hgen : ∀ (l : List Nat), i ∈ l → l.countP (fun j => !((listed.setIfInBounds i true).getD j false)) < l.countP (fun j => !(listed.getD j false)) := by
              have hle : ∀ (l : List Nat), l.countP (fun j => !((listed.setIfInBounds i true).getD j false)) ≤ l.countP (fun j => !(listed.getD j false)) := by
                intro l
                refine List.countP_mono_left fun j _ hj => ?_
                cases hb : listed.getD j false with
                | false => rfl
                | true => have := (hL' j).2 (.inl hb); simp only [L] at this; rw [this] at hj; exact hj
              intro l hl
              induction l with
              | nil => cases hl
              | cons x l ihl =>
                by_cases hx : x = i
                · subst hx
                  have h1 : (listed.setIfInBounds x true).getD x false = true := (hL' x).2 (.inr rfl)
                  have h2 : listed.getD x false = false := by cases hb : listed.getD x false with | false => rfl | true => exact absurd hb hnl
                  have := hle l
                  rw [List.countP_cons, List.countP_cons, h1, h2]
                  simp only [Bool.not_true, Bool.not_false, Bool.false_eq_true, if_false, if_true]
                  omega
                · have := ihl ((List.mem_cons.1 hl).resolve_left (Ne.symm hx))
                  simp only [List.countP_cons]
                  rw [getD_set_ne false (Ne.symm hx)]
                  omega
            exact hgen _ (List.mem_range.2 hil)
          omega
        · intro s
          refine ⟨fun j oj hj hoj hd => ?_, fun hno => ?_⟩
          · by_cases hji : j = i
            · subst hji
              rw [ho'] at hoj; cases hoj
              rw [hd]; simp only [updo, upd, Nat.beq_refl, cond_true]
            · have hne : o.dst ≠ some s := by
                intro hd'
                rcases Nat.lt_or_gt_of_ne hji with h | h
                · have := pair_of hc ho' hoj h; simp only [pairOk, hd, hd', dstEq, Nat.beq_refl, Bool.not_true, Bool.false_and] at this; cases this
                · have := pair_of hc hoj ho' h; simp only [pairOk, hd, hd', dstEq, Nat.beq_refl, Bool.not_true, Bool.false_and] at this; cases this
              have : updo T1 o.dst (val i) s = T1 s := by
                cases hdk : o.dst with
                | none => rfl
                | some d =>
                  simp only [updo, upd]
                  cases hb : Nat.beq s d with
                  | false => rfl
                  | true => exact absurd (by rw [hdk, Nat.eq_of_beq_eq_true hb]) hne
              rw [this]
              exact (hT s).1 j oj (((hL' j).1 hj).resolve_right hji) hoj hd
          · have hne := hno i o ((hL' i).2 (.inr rfl)) ho'
            have : updo T1 o.dst (val i) s = T1 s := by
              cases hdk : o.dst with
              | none => rfl
              | some d =>
                simp only [updo, upd]
                cases hb : Nat.beq s d with
                | false => rfl
                | true => exact absurd (by rw [hdk, Nat.eq_of_beq_eq_true hb]) hne
            rw [this]
            exact (hT s).2 fun j oj hj => hno j oj ((hL' j).2 (.inl hj))
        · intro j hj hjl
          rw [hL']
          cases hb : imp.getD i false with
          | true =>
            rw [hi1 hb]
            by_cases hji : j = i
            · subst hji; simp
            · rcases Nat.lt_or_gt_of_ne hji with h | h
              · have hp := pair_of hc ho' (List.getElem?_eq_getElem hjl) h
                simp only [pairOk, Bool.and_eq_true, Bool.or_eq_true, hj, hb] at hp
                rcases hp.2 with hp | hp
                · exact ⟨fun _ => by omega, fun _ => .inl (ahead j hp)⟩
                · simp at hp
              · have hp := pair_of hc (List.getElem?_eq_getElem hjl) ho' h
                simp only [pairOk, Bool.and_eq_true, Bool.or_eq_true, hj, hb] at hp
                rcases hp.2 with hp | hp
                · exact ⟨fun hh => (hh.resolve_right hji |> behind j _ (List.getElem?_eq_getElem hjl) h hp).elim, fun hh => by omega⟩
                · simp at hp
          | false =>
            rw [hi2 hb]
            have hji : j ≠ i := fun e => by subst e; rw [hj] at hb; cases hb
            rw [← hI j hj hjl]
            simp [hji]
      unfold Go.wpOpIn
      simp only [ho]
      have hgq : ∀ b, guardB ops.toArray (Tq i) o.guard = some b → guardB ops.toArray T1 o.guard = some b := by
        intro b hg
        cases hgd : o.guard with
        | none => rw [hgd] at hg; exact hg
        | some p =>
          obtain ⟨j, want⟩ := p
          rw [hgd] at hg
          simp only [guardB] at hg ⊢
          cases hd : (ops.toArray[j]?).bind (·.dst) with
          | none => rw [hd] at hg; cases hg
          | some d =>
            rw [hd] at hg
            have : T1 d = Tq i d := look d (by
              unfold slotsOf
              rw [hgd]
              simp only [hd]
              exact List.mem_append_right _ (List.mem_singleton.2 rfl))
            simp only [this]; exact hg
      have keep : ∀ a b, a ≤ b → b ≤ ops.length → KeepI ids (Ob a) (Ob b) := by
        intro a b
        induction b with
        | zero => intro h _; rw [show a = 0 by omega]; exact KeepI.refl _ _
        | succ b ihb =>
          intro h hb
          by_cases he : a = b + 1
          · rw [he]; exact KeepI.refl _ _
          · exact (ihb (by omega) (by omega)).trans (hst b _ (List.getElem?_eq_getElem (by omega))).2.2.2.2.1
      have keepO : KeepI ids (Ob i) O1 := by
        rw [hO]
        rcases Nat.le_total i m with h | h
        · exact keep i m h hmn
        · exact (keep m i h (by omega)).symm
      -- what comes of the objects
      have hOn : ∃ (O2 : List AObj) (m2 : Nat), m2 ≤ ops.length ∧ O2 = Ob m2 ∧ (imp.getD i false = true → m2 = i + 1) ∧ (imp.getD i false = false → m2 = m) ∧
          ((guardB ops.toArray (Tq i) o.guard = some true ∧ OpV P ro o (Tq i) O1 (val i) O2) ∨ (guardB ops.toArray (Tq i) o.guard = some false ∧ val i = .tup [] ∧ O2 = O1)) := by
        cases hb : imp.getD i false with
        | true =>
          refine ⟨Ob (i + 1), i + 1, by omega, rfl, fun _ => rfl, (fun h => by cases h), ?_⟩
          rw [hOi (by rw [hb, Bool.not_true, Bool.and_false])]; exact hstep
        | false =>
          cases hna : any.getD i false with
          | false =>
            refine ⟨O1, m, hmn, hO, (fun h => by cases h), fun _ => rfl, ?_⟩
            have e := hO1 hb
            rw [hOi (by rw [hna, Bool.false_and])]
            rw [e] at hstep
            exact hstep
          | true =>
            refine ⟨O1, m, hmn, hO, (fun h => by cases h), fun _ => rfl, ?_⟩
            rcases hstep with ⟨hg, _⟩ | ⟨hg, hv, _⟩
            · exact .inl ⟨hg, hany hna hg O1 keepO⟩
            · exact .inr ⟨hg, hv, rfl⟩
      obtain ⟨O2, m2, hm2, hO2, hi1, hi2, hstep2⟩ := hOn
      rcases hstep2 with ⟨hg, hop⟩ | ⟨hg, hv, hoe⟩
      · rw [if_pos (guard_wanted hat (hgq true hg))]
        have hat0 := hat
        obtain ⟨F, γ, I, hTT, hs, hdf, E0⟩ := hat0
        have hop' := opv_slots (T' := T1) hop fun s hs => look s (slots_op hs)
        refine Oper.wpIn_mono (K := fun a' w' => ∃ u F' γ', a' = a.put o.dst u ∧ (val i).V w' F' γ' O2 u ∧ Inv w' F' γ' O2 ∧ Evo w F γ O1 w' F' γ' O2) ?_ ?_
        · rintro a' w' ⟨u, F', γ', rfl, h1, h2, h3⟩
          exact next O2 m2 hm2 hO2 hi1 hi2 _ _ (hat.put I hTT hdf E0 hdst h1 h2 h3)
        · have := hop' w F γ a I (fun s _ => hTT s)
          refine ⟨this.1, ?_⟩
          have h2 := this.2
          generalize ((o.semAt (WF ro).round a.eval).run P w) = r at h2
          cases r with
          | ok x w' => cases x <;> first | exact h2 | (exact ⟨h2.1, CallsIn.mono h2.2 fun e w'' he => by cases e <;> first | exact he | exact he.elim | (obtain ⟨_, _, q⟩ := he; exact q.elim)⟩) | (exact ⟨h2.1, RoundIn.mono h2.2 fun e w'' he => by cases e <;> first | exact he | exact he.elim | (obtain ⟨_, _, q⟩ := he; exact q.elim)⟩) | exact h2.elim
          | halt x w' => cases x <;> exact h2.elim
      · rw [if_neg (by rw [guard_wanted hat (hgq false hg)]; simp)]
        have hat0 := hat
        obtain ⟨F, γ, I, hTT, hs, hdf, E0⟩ := hat0
        refine ⟨fun _ _ => trivial, next O2 m2 hm2 hO2 hi1 hi2 _ _ ?_⟩
        rw [hoe, hv]
        exact hat.put I hTT hdf E0 hdst (x := .tup []) ⟨[], rfl, rfl⟩ I (Evo.refl _ _ _ _)
  refine main _ _ T O 0 a _ (by simp) ?_ ?_ ?_ (Nat.zero_le _) hO0.symm ?_ hat.drew
  · intro i o ho hi
    simp only [L, List.size_toArray] at hi
    simp [Array.getElem?_replicate] at hi
    split at hi <;> simp at hi
  · simp only [List.size_toArray]; exact Nat.le_trans (List.countP_le_length ..) (by simp)
  · intro s
    refine ⟨fun j o hj => ?_, fun _ => rfl⟩
    simp only [L, List.size_toArray] at hj
    simp [Array.getElem?_replicate] at hj
    split at hj <;> simp at hj
  · intro j hj hjl
    simp only [L, List.size_toArray]
    simp [Array.getElem?_replicate, hjl]
end
end Go.Proofs.Ythpiggjclhnkcaa.AM
