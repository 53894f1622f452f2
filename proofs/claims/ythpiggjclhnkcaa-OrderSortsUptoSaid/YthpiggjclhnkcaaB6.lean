/- Ranges over functions. -/
import Derived.Test.YthpiggjclhnkcaaB5
namespace Go.Proofs.Ythpiggjclhnkcaa.AM
open Go
set_option linter.unusedVariables false
set_option linter.unusedSimpArgs false

/-- The temporaries of a round: the loop's parameters are set. -/
def setPs (T : Nat → AV) : List Tmp → List AV → Nat → AV
  | p :: ps, x :: xs => setPs (upd T p x) ps xs
  | _, _ => T

/-- A CALL OF YIELD, over the objects up to the loop's record. -/
def Yl (P : Program) (id : Nat) (xs : List AV) (O : List AObj) (b : Bool) (O' : List AObj) : Prop :=
  ∀ (w : World) (F : Nat → Prop) (γ : List GO) (vs : List Value) (l : Nat), Inv w F γ O → AV.Vs w F γ O xs vs → (γ[id]?).bind (·.blk) = some l →
    ∃ r : Loop, w.heap[l]? = some (.loop r) ∧ vs.length = r.params.size ∧
      RoundIn Fence.wide 0 P l r.fn ((r.params.zip vs.toArray).foldl (fun tmps (t, a) => tmps.setIfInBounds t a) r.tmps) r.assign r.body w fun e w' => ∃ F' γ', e = .returned (.bool b) ∧ Inv w' F' γ' O' ∧ Evo w F γ O w' F' γ' O'

section
variable {P : Program} {ro : Option Nat} {N : Nat} {K : Org} {T : Nat → AV} {O : List AObj} {dst : Option Tmp} {ty : TypeId} {pos : String} {af : Array Edge} {g : Option (Nat × Bool)}

theorem opv_yield {c : Operand} {xs : Array Operand} {ts : Array TypeId} {id : Nat} {ys : List AV} {b : Bool} {O1 : List AObj}
    (h : Yl P id ys (O.take (id + 1)) b O1) (hc : evT T c = .yld id) (hx : xs.toList.map (evT T) = ys) (hm : id < O.length) (hlo : ∃ T0 N0 ps ag bo st pe, O[id]? = some (.loopo T0 N0 ps ag bo st pe)) (hl : O1.length = id + 1) (hb : AV.bds (id + 1) ys) :
    OpV P ro ⟨dst, .call { callee := .value c, args := xs, argTypes := ts }, ty, pos, af, g⟩ T O (.d (.bool b)) (O1 ++ O.drop (id + 1)) := by
  intro w F γ a I H
  refine ⟨fun _ _ => trivial, ?_⟩
  rw [Oper.semAt_eq _ _ _ (fun c h => by cases h)]
  have h1 := H.at (x := c) (by simp [Op.operands, Call.operands]) hc
  obtain ⟨_, gg, o, hg, ho, hm'⟩ := h1
  obtain ⟨T0, N0, ps, ag, bo, st, pe, hlo⟩ := hlo
  rw [hlo] at ho
  cases ho
  obtain ⟨l, hl1, hl2⟩ := hm'
  have hvs : ∀ l : List Operand, (∀ x ∈ l, x ∈ xs) → AV.Vs w F γ O (l.map (evT T)) (l.map a.eval) := by
    intro l hl
    induction l with
    | nil => rfl
    | cons x l ih => exact ⟨_, _, rfl, H.at (x := x) (by simp [Op.operands, Call.operands, hl x]) rfl, ih fun y hy => hl y (List.mem_cons_of_mem _ hy)⟩
  have hall := hvs xs.toList (fun x hx => by simpa using hx)
  rw [hx] at hall
  obtain ⟨r, hr1, hr2, hr3⟩ := h w F (γ.take (id + 1)) (xs.toList.map a.eval) l (I.take _) (AV.Vs_take _ _ hb hall) (by rw [List.getElem?_take, if_pos (Nat.lt_succ_self id), hg]; exact hl1)
  have hrun : (execOp a.eval ⟨dst, .call { callee := .value c, args := xs, argTypes := ts }, ty, pos, af, g⟩).run P w = .ok (.round l r.fn ((r.params.zip (xs.toList.map a.eval).toArray).foldl (fun tmps (t, a) => tmps.setIfInBounds t a) r.tmps) r.assign r.body) w := by
    simp only [execOp, resolve, hl2, Deferred.ofValue, Sem.run_bind, Sem.run_pure, Result.andThen_ok, invoke]
    have e1 : (List.map a.eval xs.toList).toArray = Array.map a.eval xs := by rw [← Array.toList_map]
    rw [show (#[] ++ Array.map a.eval xs) = (List.map a.eval xs.toList).toArray by rw [e1]; simp]
    exact run_yield hr1 (by simpa using hr2)
  rw [hrun]
  refine ⟨(fun h => by cases h), ?_⟩
  refine RoundIn.mono (hr3 : RoundIn (WF ro) 0 P l r.fn _ r.assign r.body w _) fun e w' ⟨F', γ', he, I', E⟩ => ?_
  subst he
  obtain ⟨I2, E2⟩ := I.rejoin (by omega) I' hl E
  exact ⟨.bool b, F', _, rfl, rfl, I2, E2⟩

theorem setPs_V {w : World} {F : Nat → Prop} {γ : List GO} : ∀ (ps : List Tmp) (xs : List AV) (us : List Value) (T : Nat → AV) (tmps : Array Value), (∀ p ∈ ps, p < tmps.size) → AV.Vs w F γ O xs us → us.length = ps.length → (∀ s, s < tmps.size → (T s).V w F γ O (tmps.getD s undef)) →
    let t' := (ps.zip us).foldl (fun (tmps : Array Value) (x : Tmp × Value) => tmps.setIfInBounds x.1 x.2) tmps
    t'.size = tmps.size ∧ ∀ s, s < tmps.size → (setPs T ps xs s).V w F γ O (t'.getD s undef)
  | [], xs, us, T, tmps, _, hx, _, hT => by
    refine ⟨rfl, ?_⟩
    cases xs <;> exact hT
  | p :: ps, [], us, T, tmps, _, hx, hl, hT => by rw [show us = [] from hx] at hl; cases hl
  | p :: ps, x :: xs, us, T, tmps, hp, hx, hl, hT => by
    obtain ⟨u, us', rfl, h1, h2⟩ := hx
    have := setPs_V ps xs us' (upd T p x) (tmps.setIfInBounds p u) (fun q hq => by simpa using hp q (List.mem_cons_of_mem _ hq)) h2 (by simpa using hl) (fun s hs => by
      simp only [Array.size_setIfInBounds] at hs
      simp only [upd]
      cases hb : Nat.beq s p with
      | true =>
        have := Nat.eq_of_beq_eq_true hb
        subst this
        simpa [Array.getElem?_setIfInBounds, hs] using h1
      | false =>
        have : p ≠ s := fun e => by subst e; simp at hb
        simpa [Array.getElem?_setIfInBounds, this] using hT s hs)
    simp only [Array.size_setIfInBounds] at this
    exact this

/-- How a round may end. -/
def jumpOf : Exit → Option (Option Code)
  | .normal => some none
  | .ret => some (some .ret)
  | .exit i => some (some (.exit i))
  | _ => none
def stOf (j : Option Code) : LoopState := match j with | none => .ready | some _ => .done

/-- A ROUND, OUT OF ITS BODY's RUN. -/
theorem Yl.intro {Op O1' : List AObj} {TL : Nat → AV} {NL : Nat} {ps : Array Tmp} {ag bo : Code} {xs : List AV} {j : Option Code} (hps : ∀ p ∈ ps, p < NL) (hxl : xs.length = ps.size)
    (h : ∀ (ro : Option Nat) (K : Org), K.O.length = Op.length + 1 → Runs P ro NL K ag (setPs TL ps.toList xs) (Op ++ [.loopo TL NL ps ag bo .ready none]) fun e T1 O1 => e = .normal ∧ O1[Op.length]? = some (.loopo TL NL ps ag bo .ready none) ∧
      Runs P ro NL K bo T1 (O1.set Op.length (.loopo TL NL ps ag bo .busy none)) fun e T2 O2 => jumpOf e = some j ∧ O2[Op.length]? = some (.loopo TL NL ps ag bo .busy none) ∧ O2.take Op.length = O1' ∧ O1'.length = Op.length)
    (hT : ∀ s, NL ≤ s → TL s = .unk) :
    Yl P Op.length xs (Op ++ [.loopo TL NL ps ag bo .ready none]) j.isNone (O1' ++ [.loopo TL NL ps ag bo (stOf j) j]) := by
  intro w F γ vs l I hV hl
  have ho : (Op ++ [AObj.loopo TL NL ps ag bo .ready none])[Op.length]? = some (.loopo TL NL ps ag bo .ready none) := by simp
  cases hg : γ[Op.length]? with
  | none => rw [hg] at hl; cases hl
  | some gg =>
  rw [hg] at hl
  simp only [Option.bind_some] at hl
  obtain ⟨l', fn, tmps, df, k1, k2, k3, k4⟩ := I.ok _ _ gg ho hg
  rw [hl] at k1; cases k1
  have hvl : vs.length = xs.length := by
    have : ∀ (xs : List AV) (vs : List Value), AV.Vs w F γ (Op ++ [AObj.loopo TL NL ps ag bo .ready none]) xs vs → vs.length = xs.length := by
      intro xs
      induction xs with
      | nil => intro vs h; rw [show vs = [] from h]; rfl
      | cons x xs ih => rintro vs ⟨u, us, rfl, _, h2⟩; simp [ih us h2]
    exact this xs vs hV
  refine ⟨_, k2, by rw [hvl, hxl], ?_⟩
  simp only
  refine (roundIn_of_wpIn (F := Fence.wide) (n := 0) trivial ?_ : _)
  -- where the round begins
  let K0 : Org := ⟨w, F, γ, Op ++ [AObj.loopo TL NL ps ag bo .ready none]⟩
  have hset := setPs_V (w := w) (F := F) (γ := γ) (O := Op ++ [AObj.loopo TL NL ps ag bo .ready none]) ps.toList xs vs TL tmps (fun p hp => by rw [k3]; exact hps p (by simpa using hp)) hV (by rw [hvl, hxl]; simp) (fun s hs => k4 s (by omega))
  have hfold : (ps.zip vs.toArray).foldl (fun (tmps : Array Value) (x : Tmp × Value) => tmps.setIfInBounds x.1 x.2) tmps = (ps.toList.zip vs).foldl (fun (tmps : Array Value) (x : Tmp × Value) => tmps.setIfInBounds x.1 x.2) tmps := by
    rw [← Array.foldl_toList]; simp
  have hAt : At NL K0 (setPs TL ps.toList xs) (Op ++ [AObj.loopo TL NL ps ag bo .ready none]) { tmps := (ps.zip vs.toArray).foldl (fun (tmps : Array Value) (x : Tmp × Value) => tmps.setIfInBounds x.1 x.2) tmps, defers := [] } w := by
    refine ⟨F, γ, I, fun s => ?_, by rw [hfold]; exact hset.1.trans k3, Df.nil, Evo.refl _ _ _ _⟩
    by_cases hs : s < tmps.size
    · simp only [hfold]; exact hset.2 s hs
    · have : ∀ (ps : List Tmp) (xs : List AV) (T : Nat → AV), (∀ p ∈ ps, p < NL) → T s = .unk → setPs T ps xs s = .unk := by
        intro ps
        induction ps with
        | nil => intro xs T _ h; cases xs <;> exact h
        | cons p ps ih =>
          intro xs T hp h
          cases xs with
          | nil => exact h
          | cons x xs =>
            refine ih xs _ (fun q hq => hp q (List.mem_cons_of_mem _ hq)) ?_
            simp only [upd]
            cases hb : Nat.beq s p with
            | false => exact h
            | true => have h6 := Nat.eq_of_beq_eq_true hb; have h7 : (p : Nat) < NL := hp p (List.mem_cons_self ..); exact absurd (h6 ▸ (k3 ▸ h7 : (p : Nat) < tmps.size)) hs
      rw [this ps.toList xs TL (fun p hp => hps p (by simpa using hp)) (hT s (by omega))]
      trivial
  have hrun := h (some l) K0 (by simp [K0]) _ w hAt
  refine wpIn_mono (F := WF (some l)) hrun fun e a1 w1 ⟨T1, O1, hat1, he, ho1, hbody⟩ => ?_
  subst he
  -- the record is busy
  obtain ⟨F1, γ1, I1, hT1, hs1, hdf1, E1⟩ := hat1
  have hlen1 : Op.length < γ1.length := by rw [I1.len]; exact (List.getElem?_eq_some_iff.1 ho1).1
  have hg1 : γ1[Op.length]? = some γ1[Op.length] := List.getElem?_eq_getElem hlen1
  have hst1 := E1.stab _ _ _ _ _ ho hg ho1 hg1
  have hblk1 : γ1[Op.length].blk = some l := by simp only [Stab] at hst1; rw [← hst1]; exact hl
  obtain ⟨l1, fn1, tmps1, df1, q1, q2, q3, q4⟩ := I1.ok _ _ _ ho1 hg1
  rw [hblk1] at q1; cases q1
  have hlsz1 : l < w1.heap.size := (I1.blks _ _ l hg1 hblk1).1
  refine ⟨_, run_beginRound q2 rfl, ?_⟩
  obtain ⟨I1', E1'⟩ := I1.upd (w' := w1.putObj l (.loop { state := .busy, pending := none, fn := fn1, tmps := tmps1, params := ps, assign := ag, body := bo, defers := df1 })) (F' := F1) (o' := .loopo TL NL ps ag bo .busy none) (g' := γ1[Op.length]) ho1 hg1 rfl rfl rfl (by simp)
    (fun b hb hne => World.putObj_heap_other fun (e : b = l) => hne (by rw [hblk1, e])) (fun b hb => .inl hb) (fun b hb => ⟨by rw [World.putObj_size]; exact (I1.blks _ _ b hg1 hb).1, (I1.blks _ _ b hg1 hb).2⟩) (fun b h => h) (fun b h => .inl h) rfl (by have := I1.bd _ _ ho1; exact this)
    (fun E => ⟨l, fn1, tmps1, df1, hblk1, World.putObj_heap_same hlsz1, q3, fun s hs => AV.V_evo I1 E (by simp [I1.len]) _ _ (q4 s hs)⟩)
  have hγset : γ1.set Op.length γ1[Op.length] = γ1 := by simp
  rw [hγset] at I1' E1'
  have hat1' : At NL K0 T1 (O1.set Op.length (.loopo TL NL ps ag bo .busy none)) a1 (w1.putObj l (.loop { state := .busy, pending := none, fn := fn1, tmps := tmps1, params := ps, assign := ag, body := bo, defers := df1 })) :=
    ⟨F1, γ1, I1', fun s => AV.V_evo I1 E1' I1'.len _ _ (hT1 s), hs1, hdf1.evo E1', E1.trans I1.len E1'⟩
  refine wpIn_mono (F := WF (some l)) (hbody a1 _ hat1') fun e a2 w2 ⟨T2, O2, hat2, hj, ho2, htk, hlen⟩ => ?_
  obtain ⟨F2, γ2, I2, hT2, hs2, hdf2, E2⟩ := hat2
  have hl2 : Op.length < γ2.length := by rw [I2.len]; exact (List.getElem?_eq_some_iff.1 ho2).1
  have hg2 : γ2[Op.length]? = some γ2[Op.length] := List.getElem?_eq_getElem hl2
  have hst2 := E2.stab _ _ _ _ _ ho hg ho2 hg2
  have hblk2 : γ2[Op.length].blk = some l := by simp only [Stab] at hst2; rw [← hst2]; exact hl
  obtain ⟨l2, fn2, tmps2, df2, r1, r2, r3, r4⟩ := I2.ok _ _ _ ho2 hg2
  rw [hblk2] at r1; cases r1
  have hlsz2 : l < w2.heap.size := (I2.blks _ _ l hg2 hblk2).1
  have fin : ∃ v w3, (Instr.endRound l j).run P w2 = .ok v w3 ∧ ∃ F' γ', Ending.returned v = .returned (.bool j.isNone) ∧ Inv w3 F' γ' (O1' ++ [.loopo TL NL ps ag bo (stOf j) j]) ∧ Evo w F γ (Op ++ [.loopo TL NL ps ag bo .ready none]) w3 F' γ' (O1' ++ [.loopo TL NL ps ag bo (stOf j) j]) := by
    refine ⟨_, _, run_endRound j r2, ?_⟩
    obtain ⟨I3, E3⟩ := I2.upd (w' := w2.putObj l (.loop { state := if j.isNone then .ready else .done, pending := j, fn := fn2, tmps := tmps2, params := ps, assign := ag, body := bo, defers := df2 })) (F' := F2) (o' := .loopo TL NL ps ag bo (stOf j) j) (g' := γ2[Op.length]) ho2 hg2 rfl rfl rfl (by simp)
      (fun b hb hne => World.putObj_heap_other fun (e : b = l) => hne (by rw [hblk2, e])) (fun b hb => .inl hb) (fun b hb => ⟨by rw [World.putObj_size]; exact (I2.blks _ _ b hg2 hb).1, (I2.blks _ _ b hg2 hb).2⟩) (fun b h => h) (fun b h => .inl h) rfl (by have := I2.bd _ _ ho2; exact this)
      (fun E => ⟨l, fn2, tmps2, df2, hblk2, (World.putObj_heap_same hlsz2).trans (by cases j <;> rfl), r3, fun s hs => AV.V_evo I2 E (by simp [I2.len]) _ _ (r4 s hs)⟩)
    have hγset2 : γ2.set Op.length γ2[Op.length] = γ2 := by simp
    rw [hγset2] at I3 E3
    have htake : (O2.set Op.length (.loopo TL NL ps ag bo (stOf j) j)).take (Op.length + 1) = O1' ++ [.loopo TL NL ps ag bo (stOf j) j] := by
      have hlo2 : Op.length < O2.length := (List.getElem?_eq_some_iff.1 ho2).1
      rw [List.take_add_one, List.take_set]
      rw [List.set_eq_of_length_le (by simp; omega), htk]
      simp [hlo2]
    have I4 := I3.take (Op.length + 1)
    have E4 := (E2.trans I2.len E3).take (Op.length + 1) (by simp [K0]) I3.len
    rw [htake] at I4 E4
    exact ⟨F2, _, rfl, I4, E4⟩
  cases e with
  | normal => cases hj; exact fin
  | ret => cases hj; exact fin
  | exit i => cases hj; exact fin
  | _ => cases hj

/-- THE STATEMENT. -/
theorem Runs.rangeFunc {c : Operand} {ps : Array Tmp} {ag bo : Code} {f : FuncId} {caps : List AV} {v : AV} {O' : List AObj} {st : LoopState} {j : Option Code} {Q : Exit → (Nat → AV) → List AObj → Prop} [S : Fnc P f]
    (hc : evT T c = .fn f caps) (hT : ∀ s, N ≤ s → T s = .unk)
    (h : Fn P f (.yld O.length :: caps) (O ++ [.loopo T N ps ag bo .ready none]) v (O' ++ [.loopo T N ps ag bo st j])) (hl : O'.length = O.length) (hst : st ≠ .busy)
    (hq : match j with | none => Q .normal T O' | some c => Runs P none N K c T O' Q) : Runs P none N K (.rangeFunc c ps ag bo) T O Q := by
  intro a w hat
  refine wpIn_rangeFunc (F := WF none) (n := 0) fun fn _ => ?_
  have hat0 := hat
  obtain ⟨F, γ, I, hTT, hs, hdf, E0⟩ := hat0
  have hcv : AV.V w F γ O (.fn f caps) (a.eval c) := by
    have := evT_V (T := T) (w := w) (F := F) (γ := γ) (O := O) (a := a) (x := c) (fun s hs => by subst hs; exact hTT s)
    rw [hc] at this; exact this
  obtain ⟨us, hcv, hcaps⟩ := hcv
  obtain ⟨fnr, hfn, hname, hbody⟩ := S.h
  let w1 : World := (w.alloc (.deferred (some []))).alloc (.loop { state := .ready, pending := none, fn, tmps := a.tmps, params := ps, assign := ag, body := bo, defers := w.heap.size })
  have hsz1 : w1.heap.size = w.heap.size + 2 := by simp [w1, World.size_alloc]
  have hD : w1.heap[w.heap.size]? = some (.deferred (some [])) := by
    show ((w.heap.push _).push _)[w.heap.size]? = _
    simp [Array.getElem?_push]
  have hLp : w1.heap[w.heap.size + 1]? = some (.loop { state := .ready, pending := none, fn, tmps := a.tmps, params := ps, assign := ag, body := bo, defers := w.heap.size }) := by
    show ((w.heap.push _).push _)[w.heap.size + 1]? = _
    rw [Array.getElem?_push, if_pos (by simp)]
  have hold : ∀ b, b < w.heap.size → w1.heap[b]? = w.heap[b]? := fun b hb => by
    show ((w.heap.push _).push _)[b]? = _
    simp only [Array.getElem?_push, Array.size_push]
    rw [if_neg (by omega), if_neg (by omega)]
  obtain ⟨I1, E1⟩ := I.push (w' := w1) (.loopo T N ps ag bo .ready none) { blk := some (w.heap.size + 1) } rfl rfl rfl (by omega) hold (fun b hb => by cases hb; exact ⟨by omega, by omega⟩)
    (fun s hs => AV.bd_mono (Nat.le_succ _) _ (AV.V_bd I _ _ (hTT s)))
    (fun E => ⟨w.heap.size + 1, fn, a.tmps, w.heap.size, rfl, hLp, hs, fun s _ => AV.V_evo I E (by simp [I.len]) _ _ (hTT s)⟩)
  have hyl : AV.V w1 F (γ ++ [{ blk := some (w.heap.size + 1) }]) (O ++ [.loopo T N ps ag bo .ready none]) (.yld O.length) (.func (.yield (w.heap.size + 1)) #[] #[]) :=
    ⟨rfl, { blk := some (w.heap.size + 1) }, .loopo T N ps ag bo .ready none, by rw [← I.len]; simp, by simp, ⟨w.heap.size + 1, rfl, rfl⟩⟩
  refine ⟨w.heap.size + 1, [mark w.heap.size], w1, { target := .fn (.func f) us.toArray, args := #[.func (.yield (w.heap.size + 1)) #[] #[]] }, w1, f, #[.func (.yield (w.heap.size + 1)) #[] #[]] ++ us.toArray, w1, ?_, ?_, fun _ _ => trivial, ?_, (fun h => by cases h), ?_⟩
  · exact run_enterLoop_outer fn a.tmps ps ag bo
  · simp only [resolve, rangeCall, hcv, Deferred.ofValue, Sem.run_pure]
    congr 2
    simp [Act.eval]
  · simp only [invoke, callFunc, Sem.run_bind, run_program, Result.andThen_ok, hfn, hname, hbody, Bool.false_eq_true, if_false, Sem.run_pure]
  · have hargs : AV.Vs w1 F (γ ++ [{ blk := some (w.heap.size + 1) }]) (O ++ [.loopo T N ps ag bo .ready none]) (.yld O.length :: caps) (.func (.yield (w.heap.size + 1)) #[] #[] :: us) :=
      ⟨_, _, rfl, hyl, AV.Vs_evo I E1 (by simp [I.len]) _ _ hcaps⟩
    have hcall := h w1 F _ _ I1 hargs
    have e0 : (#[.func (.yield (w.heap.size + 1)) #[] #[]] ++ us.toArray : Array Value) = (Value.func (.yield (w.heap.size + 1)) #[] #[] :: us).toArray := by simp
    rw [e0]
    refine CallsIn.mono (callsIn_wide.2 hcall : CallsIn Fence.wide 0 P f _ w1 _) fun e w2 ⟨u, x, F', γ', O2, he, hV, I2, E2, hxv, hO2⟩ => ?_
    subst he; subst hO2
    have hol : (O ++ [AObj.loopo T N ps ag bo .ready none])[O.length]? = some (.loopo T N ps ag bo .ready none) := by simp
    have hol2 : (O' ++ [AObj.loopo T N ps ag bo st j])[O.length]? = some (.loopo T N ps ag bo st j) := by rw [← hl]; simp
    have hgl : (γ ++ [({ blk := some (w.heap.size + 1) } : GO)])[O.length]? = some { blk := some (w.heap.size + 1) } := by rw [← I.len]; simp
    have hlt2 : O.length < γ'.length := by rw [I2.len]; simp [hl]
    have hg2 : γ'[O.length]? = some γ'[O.length] := List.getElem?_eq_getElem hlt2
    have hst2 := E2.stab _ _ _ _ _ hol hgl hol2 hg2
    have hblk2 : γ'[O.length].blk = some (w.heap.size + 1) := by simp only [Stab] at hst2; rw [← hst2]
    obtain ⟨l2, fn2, tmps2, df2, r1, r2, r3, r4⟩ := I2.ok _ _ _ hol2 hg2
    rw [hblk2] at r1; cases r1
    have hlsz2 : w.heap.size + 1 < w2.heap.size := (I2.blks _ _ _ hg2 hblk2).1
    refine ⟨j, _, run_endLoop r2 hst, ?_⟩
    obtain ⟨I3, E3⟩ := I2.upd (w' := w2.putObj (w.heap.size + 1) (.loop { state := .exhausted, pending := j, fn := fn2, tmps := tmps2, params := ps, assign := ag, body := bo, defers := df2 })) (F' := F') (o' := .loopo T N ps ag bo .exhausted j) (g' := γ'[O.length]) hol2 hg2 rfl rfl rfl (by simp)
      (fun b hb hne => World.putObj_heap_other fun (e : b = w.heap.size + 1) => hne (by rw [hblk2, e])) (fun b hb => .inl hb) (fun b hb => ⟨by rw [World.putObj_size]; exact (I2.blks _ _ b hg2 hb).1, (I2.blks _ _ b hg2 hb).2⟩) (fun b h => h) (fun b h => .inl h) rfl (by have := I2.bd _ _ hol2; exact this)
      (fun E => ⟨_, fn2, tmps2, df2, hblk2, World.putObj_heap_same hlsz2, r3, fun s hs => AV.V_evo I2 E (by simp [I2.len]) _ _ (r4 s hs)⟩)
    have EE := (E1.trans I1.len E2).trans I2.len E3
    have I4 := I3.take O.length
    have E4 := EE.take O.length (Nat.le_refl _) I3.len
    have htk : ((O' ++ [AObj.loopo T N ps ag bo st j]).set O.length (.loopo T N ps ag bo .exhausted j)).take O.length = O' := by
      rw [List.take_set, List.set_eq_of_length_le (by rw [List.length_take]; exact Nat.min_le_left ..), ← hl]
      exact List.take_left' rfl
    rw [htk] at I4 E4
    -- the deferred calls' block
    have hDf : Df K (w2.putObj (w.heap.size + 1) (.loop { state := .exhausted, pending := j, fn := fn2, tmps := tmps2, params := ps, assign := ag, body := bo, defers := df2 })) F' ((γ'.set O.length γ'[O.length]).take O.length) ([mark w.heap.size] ++ a.defers) := by
      have hev := hdf.evo E4
      obtain ⟨bs, p1, p2, p3⟩ := hdf
      obtain ⟨bs', p1', p2', p3'⟩ := hev
      have hbs : ∀ b ∈ bs', b < w.heap.size := by
        intro b hb
        have : mark b ∈ bs.map mark := by rw [← p2, p2']; exact List.mem_map_of_mem hb
        obtain ⟨b', hb', e⟩ := List.mem_map.1 this
        simp only [mark, Deferred.mk.injEq, Target.collected.injEq, and_true] at e
        rw [← e]; exact (p3 b' hb').2.1
      have notin : ∀ (i : Nat) (g : GO), (γ ++ [({ blk := some (w.heap.size + 1) } : GO)])[i]? = some g → g.blk ≠ some w.heap.size := by
        intro i g hg he
        rcases getElem?_snoc _ _ _ hg with ⟨h1, _⟩ | ⟨_, h1⟩
        · have := (I.blks i g _ h1 he).1; omega
        · rw [h1] at he; simp at he
      have notF : ¬ F w.heap.size := fun hF => by have := I.fr _ hF; omega
      have hD2 : w2.heap[w.heap.size]? = some (.deferred (some [])) := (E2.old _ (by omega) notin).trans hD
      have notin2 : ∀ (i : Nat) (g : GO), γ'[i]? = some g → g.blk ≠ some w.heap.size := by
        intro i g hg he
        rcases E2.mine i g _ hg he with ⟨k, g', e1, e2⟩ | h
        · exact notin k g' e1 e2
        · omega
      refine ⟨w.heap.size :: bs', List.nodup_cons.2 ⟨fun hm => by have := hbs _ hm; omega, p1'⟩, by rw [p2']; rfl, fun b hb => ?_⟩
      rcases List.mem_cons.1 hb with rfl | hb
      · refine ⟨E0.size, by rw [World.putObj_size]; omega, (World.putObj_heap_other (by omega)).trans hD2, fun i g hg he => ?_, fun hF => ?_⟩
        · rw [List.getElem?_take] at hg
          split at hg
          · rcases getElem?_set' _ _ _ _ hg with ⟨_, e⟩ | ⟨_, e, _⟩
            · exact notin2 i g e he
            · rw [e, hblk2] at he; simp at he
          · cases hg
        · rcases E2.frn _ (by omega) hF with h | ⟨k, g', e1, e2⟩
          · exact notF h
          · exact notin k g' e1 e2
      · exact p3' b hb
    have hat4 : At N K T O' { a with defers := [mark w.heap.size] ++ a.defers } (w2.putObj (w.heap.size + 1) (.loop { state := .exhausted, pending := j, fn := fn2, tmps := tmps2, params := ps, assign := ag, body := bo, defers := df2 })) :=
      ⟨F', _, I4, fun s => AV.V_evo I E4 I4.len _ _ (hTT s), hs, hDf, E0.trans I.len E4⟩
    cases j with
    | none => exact ⟨T, O', hat4, hq⟩
    | some c => exact hq _ _ hat4
end
end Go.Proofs.Ythpiggjclhnkcaa.AM
