/- Regions, code, calls. -/
import Derived.Test.YthpiggjclhnkcaaA8
namespace Go.Proofs.Ythpiggjclhnkcaa.AM
open Go
set_option linter.unusedVariables false
set_option linter.unusedSimpArgs false

/-- Where an activation began. -/
structure Org where
  w : World
  F : Nat → Prop
  γ : List GO
  O : List AObj

def mark (b : Nat) : Deferred := { target := .collected b, args := #[] }
/-- The marks that ranges over functions have left: blocks that nobody else has, each without a deferred call. -/
def Df (K : Org) (w : World) (F : Nat → Prop) (γ : List GO) (ds : List Deferred) : Prop :=
  ∃ bs : List Nat, bs.Nodup ∧ ds = bs.map mark ∧ ∀ b ∈ bs, K.w.heap.size ≤ b ∧ b < w.heap.size ∧ w.heap[b]? = some (.deferred (some [])) ∧ (∀ (i : Nat) (g : GO), γ[i]? = some g → g.blk ≠ some b) ∧ ¬ F b
theorem Df.nil {K : Org} {w : World} {F : Nat → Prop} {γ : List GO} : Df K w F γ [] := ⟨[], List.nodup_nil, rfl, fun b h => by cases h⟩
theorem Df.evo {K : Org} {w w' : World} {F F' : Nat → Prop} {γ γ' : List GO} {O O' : List AObj} {ds : List Deferred} (h : Df K w F γ ds) (E : Evo w F γ O w' F' γ' O') : Df K w' F' γ' ds := by
  obtain ⟨bs, h1, h2, h3⟩ := h
  refine ⟨bs, h1, h2, fun b hb => ?_⟩
  obtain ⟨k1, k2, k3, k4, k5⟩ := h3 b hb
  refine ⟨k1, Nat.lt_of_lt_of_le k2 E.size, (E.old b k2 k4).trans k3, fun i g hg he => ?_, fun hF => ?_⟩
  · rcases E.mine i g b hg he with ⟨j, g', e1, e2⟩ | h
    · exact k4 j g' e1 e2
    · omega
  · rcases E.frn b k2 hF with h | ⟨j, g', e1, e2⟩
    · exact k5 h
    · exact k4 j g' e1 e2
theorem Df.take {K : Org} {w : World} {F : Nat → Prop} {γ : List GO} {ds : List Deferred} (h : Df K w F γ ds) (n : Nat) : Df K w F (γ.take n) ds := by
  obtain ⟨bs, h1, h2, h3⟩ := h
  refine ⟨bs, h1, h2, fun b hb => ?_⟩
  obtain ⟨k1, k2, k3, k4, k5⟩ := h3 b hb
  refine ⟨k1, k2, k3, fun i g hg => k4 i g ?_, k5⟩
  rw [List.getElem?_take] at hg
  split at hg
  · exact hg
  · cases hg

def At (N : Nat) (K : Org) (T : Nat → AV) (O : List AObj) (a : Act) (w : World) : Prop :=
  ∃ F γ, Inv w F γ O ∧ (∀ s, (T s).V w F γ O (a.tmps.getD s undef)) ∧ a.tmps.size = N ∧ Df K w F γ a.defers ∧ Evo K.w K.F K.γ K.O w F γ O

def guardB (ops : Array Oper) (T : Nat → AV) : Option (Nat × Bool) → Option Bool
  | none => some true
  | some (j, want) => match (ops[j]?).bind (·.dst) with
    | some d => match T d with
      | .d (.bool b) => some (b == want)
      | .tup [] => some false
      | _ => none
    | none => none
def dstB (N : Nat) : Option Tmp → Bool
  | none => true
  | some d => Nat.blt d N

inductive Chain (P : Program) (ro : Option Nat) (N : Nat) (ops : Array Oper) : List Oper → (Nat → AV) → List AObj → (Nat → AV) → List AObj → Prop
  | nil {T O} : Chain P ro N ops [] T O T O
  | exec {o rest T O v O1 T' O'} (hg : guardB ops T o.guard = some true) (hd : dstB N o.dst = true) (h : OpV P ro o T O v O1) (hr : Chain P ro N ops rest (updo T o.dst v) O1 T' O') : Chain P ro N ops (o :: rest) T O T' O'
  | skip {o rest T O T' O'} (hg : guardB ops T o.guard = some false) (hd : dstB N o.dst = true) (hr : Chain P ro N ops rest (updo T o.dst (.tup [])) O T' O') : Chain P ro N ops (o :: rest) T O T' O'

def RO (P : Program) (ro : Option Nat) (N : Nat) (ops : Array Oper) (rest : List Oper) (T : Nat → AV) (O : List AObj) (Q : (Nat → AV) → List AObj → Prop) : Prop :=
  ∃ T' O', Chain P ro N ops rest T O T' O' ∧ Q T' O'

def Runs (P : Program) (ro : Option Nat) (N : Nat) (K : Org) (c : Code) (T : Nat → AV) (O : List AObj) (Q : Exit → (Nat → AV) → List AObj → Prop) : Prop :=
  ∀ a w, At N K T O a w → c.wpIn (WF ro) 0 P (fun e a' w' => ∃ T' O', At N K T' O' a' w' ∧ Q e T' O') a w

/-- A CALL, over its arguments and the objects that it may touch: what it hands back, and what became of the objects. -/
def Does (P : Program) (f : FuncId) (args : List AV) (O : List AObj) (Q : AV → List AObj → Prop) : Prop :=
  ∀ (w : World) (F : Nat → Prop) (γ : List GO) (vs : List Value), Inv w F γ O → AV.Vs w F γ O args vs →
    Calls P f vs.toArray w fun e w' => ∃ u x F' γ' O', e = .returned u ∧ x.V w' F' γ' O' u ∧ Inv w' F' γ' O' ∧ Evo w F γ O w' F' γ' O' ∧ Q x O'

section
variable {P : Program} {ro : Option Nat} {N : Nat} {K : Org} {T : Nat → AV} {O : List AObj}

theorem upd_V {w : World} {F : Nat → Prop} {γ : List GO} {a : Act} {dst : Option Tmp} {x : AV} {u : Value} (hs : a.tmps.size = N) (hd : dstB N dst = true) (h : ∀ s, (T s).V w F γ O (a.tmps.getD s undef)) (hx : x.V w F γ O u) :
    ∀ s, (updo T dst x s).V w F γ O ((a.put dst u).tmps.getD s undef) := by
  intro s
  cases dst with
  | none => exact h s
  | some d =>
    have hd' : d < a.tmps.size := by rw [hs]; simpa [dstB, Nat.blt_eq] using hd
    simp only [updo, upd, Act.put]
    cases hb : Nat.beq s d with
    | true =>
      have : s = d := Nat.eq_of_beq_eq_true hb
      subst this
      simpa [Array.getElem?_setIfInBounds, hd'] using hx
    | false =>
      have : d ≠ s := fun e => by subst e; simp at hb
      simpa [Array.getElem?_setIfInBounds, this] using h s
theorem put_size (a : Act) (dst : Option Tmp) (u : Value) : (a.put dst u).tmps.size = a.tmps.size := by cases dst <;> simp [Act.put]
theorem put_defers (a : Act) (dst : Option Tmp) (u : Value) : (a.put dst u).defers = a.defers := by cases dst <;> rfl

theorem At.put {a : Act} {w : World} (h : At N K T O a w) {dst : Option Tmp} {x : AV} {u : Value} {w' : World} {F F' : Nat → Prop} {γ γ' : List GO} {O' : List AObj} (I : Inv w F γ O) (hT : ∀ s, (T s).V w F γ O (a.tmps.getD s undef)) (hdf : Df K w F γ a.defers) (hE0 : Evo K.w K.F K.γ K.O w F γ O)
    (hd : dstB N dst = true) (hx : x.V w' F' γ' O' u) (I' : Inv w' F' γ' O') (E : Evo w F γ O w' F' γ' O') : At N K (updo T dst x) O' (a.put dst u) w' := by
  obtain ⟨_, _, _, _, hs, _, _⟩ := h
  exact ⟨F', γ', I', upd_V hs hd (fun s => AV.V_evo I E I'.len _ _ (hT s)) hx, (put_size a dst u).trans hs, by rw [put_defers]; exact hdf.evo E, hE0.trans I.len E⟩

theorem guard_true {ops : Array Oper} {o : Oper} {a : Act} {w : World} (h : At N K T O a w) {b : Bool} (hg : guardB ops T o.guard = some b) : Region.wanted o (yielded ops a.tmps) = b := by
  unfold Region.wanted
  cases hq : o.guard with
  | none => rw [hq] at hg; cases hg; rfl
  | some p =>
    obtain ⟨j, want⟩ := p
    rw [hq] at hg
    simp only [guardB] at hg
    unfold yielded
    cases hj : (ops[j]?).bind (·.dst) with
    | none => rw [hj] at hg; cases hg
    | some d =>
      rw [hj] at hg
      simp only at hg
      obtain ⟨F, γ, I, hT, _⟩ := h
      have hd := hT d
      split at hg
      · rename_i c hc
        cases hg
        rw [hc] at hd
        have hd' : a.tmps.getD d undef = .bool c := hd
        have : a.tmps[d]? = some (.bool c) := by
          cases hx : a.tmps[d]? with
          | none => rw [Array.getD_eq_getD_getElem?, hx] at hd'; cases hd'
          | some v => rw [Array.getD_eq_getD_getElem?, hx] at hd'; rw [show v = Value.bool c from hd']
        simp only [hj, Option.bind_some, this]
        cases c <;> cases want <;> rfl
      · rename_i hc
        cases hg
        rw [hc] at hd
        obtain ⟨us, h1, h2⟩ := hd
        rw [show us = [] from h2] at h1
        have h1 : a.tmps.getD d undef = .tuple #[] := h1
        cases hx : a.tmps[d]? with
        | none => simp only [hj, Option.bind_some, hx]; cases want <;> rfl
        | some v =>
          rw [Array.getD_eq_getD_getElem?, hx] at h1
          simp only [hj, Option.bind_some, hx]
          rw [show v = .tuple #[] from h1]
          cases want <;> rfl
      · cases hg

/-- The operations of a region, one behind the other. -/
theorem chain_wp {ops : Array Oper} {Q : Exit → Act → World → Prop} {l : List Oper} {T' : Nat → AV} {O' : List AObj} (h : Chain P ro N ops l T O T' O') : ∀ (k : Nat), (∀ j, l[j]? = ops[k + j]?) → k + l.length = ops.size → ∀ a w, At N K T O a w →
    (∀ a' w', At N K T' O' a' w' → Q .normal a' w') → wpOpsIn (WF ro) 0 P ops Q (List.range' k l.length) a w := by
  induction h with
  | nil => intro k _ _ a w hat hQ; exact hQ a w hat
  | @exec o rest T O v O1 T' O' hg hd h hr ih =>
    intro k hl hn a w hat hQ
    have h0 : ops[k]? = some o := by simpa using (hl 0).symm
    simp only [List.length_cons, List.range'_succ, wpOpsIn, h0]
    rw [if_pos (guard_true hat hg)]
    obtain ⟨F, γ, I, hT, hs, hdf, E0⟩ := id hat
    refine Oper.wpIn_mono (K := fun a' w' => ∃ u F' γ', a' = a.put o.dst u ∧ v.V w' F' γ' O1 u ∧ Inv w' F' γ' O1 ∧ Evo w F γ O w' F' γ' O1) ?_ ?_
    · rintro a' w' ⟨u, F', γ', rfl, h1, h2, h3⟩
      exact ih (k + 1) (fun j => by have := hl (j + 1); simpa [Nat.add_assoc, Nat.add_comm 1 j] using this) (by simp at hn; omega) _ _ (hat.put I hT hdf E0 hd h1 h2 h3) hQ
    · have := h w F γ a I (fun s _ => hT s)
      refine ⟨this.1, ?_⟩
      have h2 := this.2
      generalize ((o.semAt (WF ro).round a.eval).run P w) = r at h2
      cases r with
      | ok x w' => cases x <;> first | exact h2 | (exact ⟨h2.1, CallsIn.mono h2.2 fun e w'' he => by cases e <;> first | exact he | exact he.elim | (obtain ⟨_, _, q⟩ := he; exact q.elim)⟩) | (exact ⟨h2.1, RoundIn.mono h2.2 fun e w'' he => by cases e <;> first | exact he | exact he.elim | (obtain ⟨_, _, q⟩ := he; exact q.elim)⟩) | exact h2.elim
      | halt x w' => cases x <;> exact h2.elim
  | @skip o rest T O T' O' hg hd hr ih =>
    intro k hl hn a w hat hQ
    have h0 : ops[k]? = some o := by simpa using (hl 0).symm
    simp only [List.length_cons, List.range'_succ, wpOpsIn, h0]
    rw [if_neg (by rw [guard_true hat hg]; simp)]
    obtain ⟨F, γ, I, hT, hs, hdf, E0⟩ := id hat
    refine ⟨fun _ _ => trivial, ?_⟩
    exact ih (k + 1) (fun j => by have := hl (j + 1); simpa [Nat.add_assoc, Nat.add_comm 1 j] using this) (by simp at hn; omega) _ _ (hat.put I hT hdf E0 hd (x := .tup []) ⟨[], rfl, rfl⟩ I (Evo.refl _ _ _ _)) hQ

theorem Runs.region {id : Nat} {ops : List Oper} {Q : Exit → (Nat → AV) → List AObj → Prop} (h : RO P ro N ops.toArray ops T O (Q .normal)) : Runs P ro N K (.region id ops.toArray false) T O Q := by
  obtain ⟨T', O', hc, hq⟩ := h
  intro a w hat
  refine wpIn_region ?_
  have := chain_wp (K := K) (Q := fun e a' w' => ∃ T' O', At N K T' O' a' w' ∧ Q e T' O') hc 0 (by simp) (by simp) a w hat (fun a' w' h => ⟨T', O', h, hq⟩)
  simpa [List.range_eq_range'] using this

/-! Operations one by one. -/
theorem RO.nil {ops : Array Oper} {Q : (Nat → AV) → List AObj → Prop} (h : Q T O) : RO P ro N ops [] T O Q := ⟨T, O, .nil, h⟩
theorem RO.op {ops : Array Oper} {Q : (Nat → AV) → List AObj → Prop} {op : Op} {dst : Tmp} {ty : TypeId} {pos : String} {af : Array Edge} {rest : List Oper} {v : AV} {O1 : List AObj}
    (h : OpV P ro ⟨some dst, op, ty, pos, af, none⟩ T O v O1) (hr : RO P ro N ops rest (upd T dst v) O1 Q) (hd : Nat.blt dst N = true := by rfl) : RO P ro N ops (⟨some dst, op, ty, pos, af, none⟩ :: rest) T O Q :=
  let ⟨T', O', hc, hq⟩ := hr; ⟨T', O', .exec rfl hd h hc, hq⟩
theorem RO.op0 {ops : Array Oper} {Q : (Nat → AV) → List AObj → Prop} {op : Op} {ty : TypeId} {pos : String} {af : Array Edge} {rest : List Oper} {v : AV} {O1 : List AObj}
    (h : OpV P ro ⟨none, op, ty, pos, af, none⟩ T O v O1) (hr : RO P ro N ops rest T O1 Q) : RO P ro N ops (⟨none, op, ty, pos, af, none⟩ :: rest) T O Q :=
  let ⟨T', O', hc, hq⟩ := hr; ⟨T', O', .exec rfl rfl h hc, hq⟩
/-- A guarded operation that is carried out. -/
theorem RO.opg {ops : Array Oper} {Q : (Nat → AV) → List AObj → Prop} {op : Op} {dst : Tmp} {ty : TypeId} {pos : String} {af : Array Edge} {g : Nat × Bool} {rest : List Oper} {v : AV} {O1 : List AObj}
    (hg : guardB ops T (some g) = some true) (h : OpV P ro ⟨some dst, op, ty, pos, af, some g⟩ T O v O1) (hr : RO P ro N ops rest (upd T dst v) O1 Q) (hd : Nat.blt dst N = true := by rfl) : RO P ro N ops (⟨some dst, op, ty, pos, af, some g⟩ :: rest) T O Q :=
  let ⟨T', O', hc, hq⟩ := hr; ⟨T', O', .exec hg hd h hc, hq⟩
/-- One that is not. -/
theorem RO.off {ops : Array Oper} {Q : (Nat → AV) → List AObj → Prop} {op : Op} {dst : Tmp} {ty : TypeId} {pos : String} {af : Array Edge} {g : Nat × Bool} {rest : List Oper}
    (hg : guardB ops T (some g) = some false) (hr : RO P ro N ops rest (upd T dst (.tup [])) O Q) (hd : Nat.blt dst N = true := by rfl) : RO P ro N ops (⟨some dst, op, ty, pos, af, some g⟩ :: rest) T O Q :=
  let ⟨T', O', hc, hq⟩ := hr; ⟨T', O', .skip hg hd hc, hq⟩

/-! Code. -/
def thenQ (A : (Nat → AV) → List AObj → Prop) (Q : Exit → (Nat → AV) → List AObj → Prop) : Exit → (Nat → AV) → List AObj → Prop
  | .normal, T, O => A T O
  | e, T, O => Q e T O
def blockQ (id : Nat) (Q : Exit → (Nat → AV) → List AObj → Prop) : Exit → (Nat → AV) → List AObj → Prop
  | .exit j, T, O => if Nat.beq j id = true then Q .normal T O else Q (.exit j) T O
  | e, T, O => Q e T O

theorem Runs.mono {c : Code} {Q Q' : Exit → (Nat → AV) → List AObj → Prop} (h : Runs P ro N K c T O Q) (hq : ∀ e T O, Q e T O → Q' e T O) : Runs P ro N K c T O Q' :=
  fun a w hat => wpIn_mono (h a w hat) fun e a' w' ⟨T', O', h1, h2⟩ => ⟨T', O', h1, hq _ _ _ h2⟩
theorem Runs.seq {x y : Code} {Q : Exit → (Nat → AV) → List AObj → Prop} (h : Runs P ro N K x T O (thenQ (fun T O => Runs P ro N K y T O Q) Q)) : Runs P ro N K (.seq x y) T O Q := fun a w hat => by
  refine wpIn_seq (wpIn_mono (h a w hat) fun e a' w' ⟨T', O', h1, h2⟩ => ?_)
  cases e with
  | normal => exact h2 a' w' h1
  | _ => exact ⟨T', O', h1, h2⟩
theorem Runs.skip {Q : Exit → (Nat → AV) → List AObj → Prop} (h : Q .normal T O) : Runs P ro N K .skip T O Q := fun a w hat => wpIn_skip ⟨T, O, hat, h⟩
theorem Runs.ret {Q : Exit → (Nat → AV) → List AObj → Prop} (h : Q .ret T O) : Runs P ro N K .ret T O Q := fun a w hat => wpIn_ret ⟨T, O, hat, h⟩
theorem Runs.exit {id : Nat} {Q : Exit → (Nat → AV) → List AObj → Prop} (h : Q (.exit id) T O) : Runs P ro N K (.exit id) T O Q := fun a w hat => wpIn_exit ⟨T, O, hat, h⟩
theorem Runs.cond {c : Operand} {x y : Code} {b : Bool} {Q : Exit → (Nat → AV) → List AObj → Prop} (hc : evT T c = .d (.bool b)) (h : Runs P ro N K (bif b then x else y) T O Q) : Runs P ro N K (.cond c x y) T O Q := fun a w hat => by
  obtain ⟨F, γ, I, hT, _⟩ := id hat
  have hv : a.eval c = .bool b := by
    have := evT_V (T := T) (w := w) (F := F) (γ := γ) (O := O) (a := a) (x := c) (fun s hs => by subst hs; exact hT s)
    rw [hc] at this; exact this
  refine wpIn_cond hv ?_
  have := h a w hat
  cases b <;> exact this
theorem Runs.block {id : Nat} {c : Code} {Q : Exit → (Nat → AV) → List AObj → Prop} (h : Runs P ro N K c T O (blockQ id Q)) : Runs P ro N K (.block id c) T O Q := fun a w hat => by
  refine wpIn_block (wpIn_mono (h a w hat) fun e a' w' ⟨T', O', h1, h2⟩ => ?_)
  cases e with
  | exit j =>
    simp only [blockQ, Exit.inBlock] at h2 ⊢
    by_cases hj : j = id
    · rw [if_pos (by rw [hj]; exact Nat.beq_refl id)] at h2; rw [if_pos hj]; exact ⟨T', O', h1, h2⟩
    · rw [if_neg (by intro hb; exact hj (Nat.eq_of_beq_eq_true hb))] at h2; rw [if_neg hj]; exact ⟨T', O', h1, h2⟩
  | _ => exact ⟨T', O', h1, h2⟩
/-- A loop: I n: at a round's head, with n to come at most. -/
theorem Runs.loop {c : Code} {Q : Exit → (Nat → AV) → List AObj → Prop} (I : Nat → (Nat → AV) → List AObj → Prop) (n : Nat) (h0 : I n T O)
    (round : ∀ m T O, I m T O → Runs P ro N K c T O (thenQ (fun T O => ∃ k, k < m ∧ I k T O) Q)) : Runs P ro N K (.loop c) T O Q := fun a w hat => by
  have key : ∀ (m : Nat) a w, (∃ T O, At N K T O a w ∧ I m T O) → (Code.loop c).wpIn (WF ro) 0 P (fun e a' w' => ∃ T' O', At N K T' O' a' w' ∧ Q e T' O') a w := by
    intro m a w hI
    refine wpIn_loop (fun a w => ∃ m T O, At N K T O a w ∧ I m T O) (fun a w => Classical.epsilon fun m => (∃ T O, At N K T O a w ∧ I m T O) ∧ ∀ m', (∃ T O, At N K T O a w ∧ I m' T O) → m ≤ m') ⟨m, hI⟩ ?_
    rintro a w ⟨m1, hm1⟩
    have hex : ∃ m, (∃ T O, At N K T O a w ∧ I m T O) ∧ ∀ m', (∃ T O, At N K T O a w ∧ I m' T O) → m ≤ m' := by
      clear hI
      induction m1 using Nat.strongRecOn with
      | _ m1 ih =>
        by_cases hlt : ∃ m', m' < m1 ∧ ∃ T O, At N K T O a w ∧ I m' T O
        · obtain ⟨m', h1, h2⟩ := hlt; exact ih m' h1 h2
        · exact ⟨m1, hm1, fun m' h2 => Nat.le_of_not_lt fun h1 => hlt ⟨m', h1, h2⟩⟩
    have hsp := Classical.epsilon_spec hex
    obtain ⟨⟨T1, O1, hat1, hi1⟩, hmin⟩ := hsp
    refine wpIn_mono (round _ T1 O1 hi1 a w hat1) fun e a' w' ⟨T', O', h1, h2⟩ => ?_
    cases e with
    | normal =>
      obtain ⟨k, hk, hi⟩ := h2
      have hex' : ∃ m, (∃ T O, At N K T O a' w' ∧ I m T O) ∧ ∀ m', (∃ T O, At N K T O a' w' ∧ I m' T O) → m ≤ m' := by
        have hk0 : ∃ T O, At N K T O a' w' ∧ I k T O := ⟨T', O', h1, hi⟩
        clear hk hi
        induction k using Nat.strongRecOn with
        | _ k ih =>
          by_cases hlt : ∃ m', m' < k ∧ ∃ T O, At N K T O a' w' ∧ I m' T O
          · obtain ⟨m', h1, h2⟩ := hlt; exact ih m' h1 h2
          · exact ⟨k, hk0, fun m' h2 => Nat.le_of_not_lt fun h1 => hlt ⟨m', h1, h2⟩⟩
      exact ⟨⟨k, T', O', h1, hi⟩, Nat.lt_of_le_of_lt ((Classical.epsilon_spec hex').2 k ⟨T', O', h1, hi⟩) hk⟩
    | _ => exact ⟨T', O', h1, h2⟩
  exact key n a w ⟨T, O, hat, h0⟩

/-! Steps that the machine does not make. -/
/-- The last objects are dropped. -/
theorem Runs.drop {c : Code} {Q : Exit → (Nat → AV) → List AObj → Prop} (n : Nat) (hn : K.O.length ≤ n) (h : Runs P ro N K c (fun s => (T s).kill n) (O.take n) Q) : Runs P ro N K c T O Q := fun a w hat => by
  obtain ⟨F, γ, I, hT, hs, hdf, E⟩ := hat
  exact h a w ⟨F, γ.take n, I.take n, fun s => AV.V_kill (hT s), hs, hdf.take n, E.take n hn I.len⟩
theorem At.drop {a : Act} {w : World} (n : Nat) (hn : K.O.length ≤ n) (hat : At N K T O a w) : At N K (fun s => (T s).kill n) (O.take n) a w := by
  obtain ⟨F, γ, I, hT, hs, hdf, E⟩ := hat
  exact ⟨F, γ.take n, I.take n, fun s => AV.V_kill (hT s), hs, hdf.take n, E.take n hn I.len⟩
end
end Go.Proofs.Ythpiggjclhnkcaa.AM
