/- Calls: out of a body's run; as an operation. -/
import Derived.Test.YthpiggjclhnkcaaAA
namespace Go.Proofs.Ythpiggjclhnkcaa.AM
open Go
set_option linter.unusedVariables false
set_option linter.unusedSimpArgs false

/-- A call that hands back v and leaves the objects as O1. -/
def Fn (P : Program) (f : FuncId) (args : List AV) (O : List AObj) (v : AV) (O1 : List AObj) : Prop := Does P f args O fun x O' => x = v ∧ O' = O1
/-- A function that has a body. -/
class Fnc (P : Program) (f : FuncId) : Prop where
  h : ∃ fn, P.funcs[f]? = some fn ∧ (fn.name == "runtime.NumGoroutine") = false ∧ fn.body.isNone = false

/-- The results, one by one. -/
def ResOk (P : Program) (T : Nat → AV) (O : List AObj) : ResultVar → AV → Prop
  | .tmp t, x => T t = x
  | .cell a t, x => ∃ id off cs n ag, T a = .ref id off ∧ O[id]? = some (.cells cs) ∧ Sz P t n ag ∧ takeAV ag n (cs.drop off) = some x
inductive RessOk (P : Program) (T : Nat → AV) (O : List AObj) : List ResultVar → List AV → Prop
  | nil : RessOk P T O [] []
  | cons {r rs x xs} (h : ResOk P T O r x) (hs : RessOk P T O rs xs) : RessOk P T O (r :: rs) (x :: xs)
def tupAV : List AV → AV
  | [x] => x
  | xs => .tup xs

def argsT (args : List AV) : Nat → AV := fun i => args.getD i .unk

def resSem (tmps : Array Value) : ResultVar → Sem Value
  | .tmp t => pure (tmps.getD t undef)
  | .cell a t => do loadVar t (← asAddr (tmps.getD a undef))

section
variable {P : Program} {ro : Option Nat} {N : Nat} {K : Org} {T : Nat → AV} {O : List AObj}

theorem ress_run {w : World} {F : Nat → Prop} {γ : List GO} {a : Act} (I : Inv w F γ O) (hT : ∀ s, (T s).V w F γ O (a.tmps.getD s undef)) {rs : List ResultVar} {xs : List AV} (h : RessOk P T O rs xs) :
    ∃ us : List Value, (rs.mapM (resSem a.tmps)).run P w = .ok us w ∧ AV.Vs w F γ O xs us := by
  induction h with
  | nil => exact ⟨[], by simp, rfl⟩
  | @cons r rs x xs h hs ih =>
    obtain ⟨us, h1, h2⟩ := ih
    have hone : ∃ u, (resSem a.tmps r).run P w = .ok u w ∧ x.V w F γ O u := by
      cases r with
      | tmp t => exact ⟨a.tmps.getD t undef, rfl, by have := hT t; rw [show T t = x from h] at this; exact this⟩
      | cell a' t =>
        obtain ⟨id, off, cs, n, ag, e1, e2, S, e4⟩ := h
        have hp := hT a'
        rw [e1] at hp
        obtain ⟨g', b, hg, hb, hpp⟩ := refAt_val e2 hp.2
        obtain ⟨b', us', t', k1, k2, k3⟩ := I.ok id _ g' e2 hg
        rw [hb] at k1; cases k1
        obtain ⟨u, hr, hV⟩ := load_cells (P := P) S (ad := ⟨b, off, none⟩) (VC_drop off cs us' k3) (fun j u hj => cell_row k2 j u hj) e4
        refine ⟨u, ?_, hV⟩
        simp only [resSem, hpp, asAddr, Sem.run_bind, Sem.run_pure, Result.andThen_ok, hr]
    obtain ⟨u, h3, h4⟩ := hone
    refine ⟨u :: us, ?_, u, us, rfl, h4, h2⟩
    rw [List.mapM_cons]
    simp only [Sem.run_bind, h3, h1, Result.andThen_ok, Sem.run_pure]

/-- A CALL OUT OF ITS BODY's RUN. -/
theorem Does.intro {f : FuncId} {fn : Func} {c : Code} {args : List AV} {Q : AV → List AObj → Prop} (hf : P.funcs[f]? = some fn) (hb : fn.body = some c) (hN : fn.ntmps = N) (ha : Nat.ble args.length N = true)
    (h : ∀ K : Org, K.O = O → Runs P none N K c (argsT args) O fun e T' O' => (e = .normal ∨ e = .ret) ∧ ∃ xs n, RessOk P T' O' fn.results.toList xs ∧ O.length ≤ n ∧ n ≤ O'.length ∧ (tupAV xs).bd n ∧ Q (tupAV xs) (O'.take n)) :
    Does P f args O Q := by
  intro w F γ vs I hV
  refine callsIn_wide.1 (callsIn_of_wp_marks (F := Fence.wide) (n := 0) hf hb trivial ?_ rfl)
  have hlen : ∀ (args : List AV) (vs : List Value), AV.Vs w F γ O args vs → vs.length = args.length ∧ ∀ i, (args.getD i .unk).V w F γ O (vs.getD i undef) := by
    intro args
    induction args with
    | nil => intro vs h; rw [show vs = [] from h]; exact ⟨rfl, fun i => by simp [AV.V]⟩
    | cons x xs ih =>
      rintro vs ⟨u, us, rfl, h1, h2⟩
      obtain ⟨k1, k2⟩ := ih us h2
      exact ⟨by simp [k1], fun i => by cases i with | zero => exact h1 | succ i => simpa using k2 i⟩
  obtain ⟨hl, hat⟩ := hlen args vs hV
  have hle : args.length ≤ N := Nat.le_of_ble_eq_true ha
  have hAt : At N ⟨w, F, γ, O⟩ (argsT args) O { tmps := vs.toArray ++ Array.replicate (fn.ntmps - vs.toArray.size) undef, defers := [] } w := by
    refine ⟨F, γ, I, fun s => ?_, by simp [hN]; omega, Df.nil, Evo.refl _ _ _ _⟩
    have := hat s
    by_cases hs : s < vs.length
    · rw [show (vs.toArray ++ Array.replicate (fn.ntmps - vs.toArray.size) undef).getD s undef = vs.getD s undef by
        simp [Array.getD_eq_getD_getElem?, Array.getElem?_append, hs, List.getD_eq_getElem?_getD]]
      exact this
    · have : argsT args s = .unk := by simp [argsT, List.getElem?_eq_none (show args.length ≤ s by omega)]
      rw [this]; exact trivial
  refine wpIn_mono (h ⟨w, F, γ, O⟩ rfl _ _ hAt) fun e a' w' ⟨T', O', hat', hq⟩ => ?_
  obtain ⟨he, xs, n, hres, hn1, hn2, hbd, hQ⟩ := hq
  obtain ⟨F', γ', I', hT', hs', hdf', E'⟩ := hat'
  have fin : ∀ (ds : List Deferred) (w' : World), Inv w' F' γ' O' → (∀ s, (T' s).V w' F' γ' O' (a'.tmps.getD s undef)) → Df ⟨w, F, γ, O⟩ w' F' γ' ds → Evo w F γ O w' F' γ' O' →
      LeavesInM Fence.wide 0 P fn a'.tmps (fun e w' => ∃ u x F'' γ'' O'', e = .returned u ∧ x.V w' F'' γ'' O'' u ∧ Inv w' F'' γ'' O'' ∧ Evo w F γ O w' F'' γ'' O'' ∧ Q x O'') ds .returning w' := by
    intro ds
    induction ds with
    | nil =>
      intro w' I' hT' _ E'
      obtain ⟨us, hr, hVs⟩ := ress_run (a := a') I' hT' hres
      have hresults : ∃ u, (results fn a'.tmps).run P w' = .ok u w' ∧ (tupAV xs).V w' F' γ' O' u := by
        have hres0 : results fn a'.tmps = (do
            let vs ← fn.results.mapM (resSem a'.tmps)
            pure (if h : vs.size = 1 then vs[0] else .tuple vs)) := by
          unfold results
          congr 1
        rw [hres0, Array.mapM_eq_mapM_toList]
        simp only [Sem.run_bind, Sem.run_map, hr]
        simp only [Result.andThen_ok, Sem.run_pure]
        match xs, us, hVs with
        | [], us, h => cases h; exact ⟨_, rfl, [], rfl, rfl⟩
        | [x], us, ⟨u, us', e, h1, h2⟩ => cases h2; cases e; exact ⟨u, rfl, h1⟩
        | x :: y :: l, us, ⟨u, us', e, h1, v, vs', e', h2, h3⟩ => subst e'; subst e; refine ⟨_, rfl, u :: v :: vs', ?_, u, _, rfl, h1, v, vs', rfl, h2, h3⟩; simp
      obtain ⟨u, hru, hVu⟩ := hresults
      exact ⟨u, hru, u, tupAV xs, F', γ'.take n, O'.take n, rfl, AV.V_take _ _ hbd hVu, I'.take n, E'.take n hn1 I'.len, hQ⟩
    | cons d ds ih =>
      intro w' I' hT' hdf E'
      obtain ⟨bs, k1, k2, k3⟩ := hdf
      cases bs with
      | nil => cases k2
      | cons b bs =>
        rw [List.map_cons, List.cons.injEq] at k2
        obtain ⟨h1, h2, h3, h4, h5⟩ := k3 b (List.mem_cons_self ..)
        refine ⟨by simp, .inl ⟨b, _, by rw [k2.1]; rfl, run_takeDeferred h3, ih _ (I'.poke _ h4 h5) (fun s => AV.V_poke _ h5 (hT' s)) ⟨bs, (List.nodup_cons.1 k1).2, k2.2, fun b' hb' => ?_⟩ (E'.poke _ h1)⟩⟩
        obtain ⟨q1, q2, q3, q4, q5⟩ := k3 b' (List.mem_cons_of_mem _ hb')
        exact ⟨q1, by rw [World.putObj_size]; exact q2, (World.putObj_heap_other fun (e : b' = b) => (List.nodup_cons.1 k1).1 (e ▸ hb')).trans q3, q4, q5⟩
  have key := fin a'.defers w' I' hT' hdf' E'
  rcases he with rfl | rfl <;> exact key

/-- THE CALL AS AN OPERATION: all objects are handed over. -/
theorem opv_call {c : Operand} {xs : Array Operand} {ts : Array TypeId} {f : FuncId} {caps ys : List AV} {v : AV} {O1 : List AObj} {dst : Option Tmp} {ty : TypeId} {pos : String} {af : Array Edge} {g : Option (Nat × Bool)} [S : Fnc P f]
    (hc : evT T c = .fn f caps) (hx : xs.toList.map (evT T) = ys) (h : Fn P f (ys ++ caps) O v O1) :
    OpV P ro ⟨dst, .call { callee := .value c, args := xs, argTypes := ts }, ty, pos, af, g⟩ T O v O1 := by
  intro w F γ a I H
  refine ⟨fun _ _ => trivial, ?_⟩
  rw [Oper.semAt_eq _ _ _ (fun c h => by cases h)]
  obtain ⟨us, hcv, hcaps⟩ : AV.V w F γ O (.fn f caps) (a.eval c) := H.at (x := c) (by simp [Op.operands, Call.operands]) hc
  have hvs : ∀ l : List Operand, (∀ x ∈ l, x ∈ xs) → AV.Vs w F γ O (l.map (evT T)) (l.map a.eval) := by
    intro l hl
    induction l with
    | nil => rfl
    | cons x l ih => exact ⟨_, _, rfl, H.at (x := x) (by simp [Op.operands, Call.operands, hl x]) rfl, ih fun y hy => hl y (List.mem_cons_of_mem _ hy)⟩
  have happ : ∀ (p : List AV) (q : List AV) (us vs : List Value), AV.Vs w F γ O p us → AV.Vs w F γ O q vs → AV.Vs w F γ O (p ++ q) (us ++ vs) := by
    intro p q us vs hp hq
    induction p generalizing us with
    | nil => rw [show us = [] from hp]; exact hq
    | cons x p ih => obtain ⟨u, us', rfl, h1, h2⟩ := hp; exact ⟨u, us' ++ vs, rfl, h1, ih us' h2⟩
  have hall := happ _ _ _ _ (hvs xs.toList (fun x hx => by simpa using hx)) hcaps
  rw [hx] at hall
  obtain ⟨fn, hfn, hname, hbody⟩ := S.h
  have hrun : (execOp a.eval ⟨dst, .call { callee := .value c, args := xs, argTypes := ts }, ty, pos, af, g⟩).run P w = .ok (.enter f ((xs.toList.map a.eval) ++ us).toArray) w := by
    simp only [execOp, resolve, hcv, Deferred.ofValue, Sem.run_bind, Sem.run_pure, Result.andThen_ok, invoke, callFunc, run_program, hfn, hname, hbody, Bool.false_eq_true, if_false]
    congr 2
    simp
  rw [hrun]
  refine ⟨(fun h => by cases h), ?_⟩
  refine CallsIn.mono (callsIn_wide.2 (h w F γ _ I hall) : CallsIn Fence.wide 0 P f _ w _) fun e w' ⟨u, x, F', γ', O', he, hV, I', E, hxv, hO1⟩ => ?_
  subst he; subst hxv; subst hO1
  exact ⟨u, F', γ', rfl, hV, I', E⟩
theorem Inv.none {w : World} {F : Nat → Prop} {γ : List GO} (I : Inv w F γ O) : Inv w F [] [] := by have := I.take 0; simpa using this
mutual
theorem AV.V_any {w : World} {F : Nat → Prop} {γ γ' : List GO} {O O' : List AObj} : ∀ (x : AV) (v : Value), x.bd 0 → x.V w F γ O v → x.V w F γ' O' v
  | .d x, v, _, h => h
  | .nil0, v, _, h => h
  | .nilf, v, _, h => h
  | .own id ver, v, b, h => absurd b (Nat.not_lt_zero _)
  | .ref id off, v, b, h => absurd b (Nat.not_lt_zero _)
  | .oel id ver i off, v, b, h => absurd b (Nat.not_lt_zero _)
  | .osl id ver off n, v, b, h => absurd b (Nat.not_lt_zero _)
  | .mp id, v, b, h => absurd b (Nat.not_lt_zero _)
  | .yld id, v, b, h => absurd b (Nat.not_lt_zero _)
  | .fn f caps, v, b, h => by simp only [AV.V] at h ⊢; obtain ⟨us, rfl, hs⟩ := h; exact ⟨us, rfl, AV.Vs_any caps us b hs⟩
  | .tup xs, v, b, h => by simp only [AV.V] at h ⊢; obtain ⟨us, rfl, hs⟩ := h; exact ⟨us, rfl, AV.Vs_any xs us b hs⟩
  | .agg cs, v, b, h => by simp only [AV.V] at h ⊢; obtain ⟨us, rfl, hs⟩ := h; exact ⟨us, rfl, AV.VC_any cs us b hs⟩
  | .unk, v, _, h => trivial
theorem AV.Vs_any {w : World} {F : Nat → Prop} {γ γ' : List GO} {O O' : List AObj} : ∀ (xs : List AV) (us : List Value), AV.bds 0 xs → AV.Vs w F γ O xs us → AV.Vs w F γ' O' xs us
  | [], us, _, h => h
  | c :: cs, us, b, h => by simp only [AV.Vs] at h ⊢; obtain ⟨u, us', rfl, h1, h2⟩ := h; exact ⟨u, us', rfl, AV.V_any c u b.1 h1, AV.Vs_any cs us' b.2 h2⟩
theorem AV.VC_any {w : World} {F : Nat → Prop} {γ γ' : List GO} {O O' : List AObj} : ∀ (xs : List AV) (us : List Value), AV.bds 0 xs → AV.VC w F γ O xs us → AV.VC w F γ' O' xs us
  | [], us, _, h => h
  | c :: cs, us, b, h => by simp only [AV.VC] at h ⊢; obtain ⟨u, us', rfl, h0, h1, h2⟩ := h; exact ⟨u, us', rfl, h0, AV.V_any c u b.1 h1, AV.VC_any cs us' b.2 h2⟩
end
/-- A call that is handed data alone touches none of the objects. -/
theorem Fn.frame {f : FuncId} {ys : List AV} {v : AV} (hb : AV.bds 0 ys) (hv : v.bd 0) (h : Fn P f ys [] v []) (O : List AObj) : Fn P f ys O v O := by
  intro w F γ vs I hV
  refine (h w F [] vs I.none (AV.Vs_any ys vs hb hV)).mono fun e w' ⟨u, x, F', γ', O', he, hx, I', E, hxv, hO⟩ => ?_
  subst hxv; subst hO
  have hγ : γ' = [] := List.eq_nil_of_length_eq_zero (by rw [I'.len]; rfl)
  subst hγ
  obtain ⟨I2, E2⟩ := I.grow (w' := w') (F' := F') E.os E.tape E.output E.size (fun b hb => E.old b hb (fun i g h => by cases h)) E.frm (fun b hb hf => (E.frn b hb hf).elim (fun h => h) (fun ⟨j, g, h, _⟩ => by cases h)) I'.fr
  exact ⟨u, x, F', γ, O, he, AV.V_any _ _ hv hx, I2, E2, rfl, rfl⟩

/-- A slice of the call's own that is handed out is data from there on. -/
theorem Runs.shut {c : Code} {Q : Exit → (Nat → AV) → List AObj → Prop} (s : Nat) {id ver e sz : Nat} {xs : List D} (hs : T s = .own id ver) (hO : O[id]? = some (.buf e sz xs ver))
    (h : Runs P ro N K c (upd T s (.d (.list xs))) (O.set id .dead) Q) : Runs P ro N K c T O Q := fun a w hat => by
  obtain ⟨F, γ, I, hT, hsz, hdf, E0⟩ := hat
  have h1 := hT s
  rw [hs] at h1
  obtain ⟨g', hg, _, hp⟩ := ownAt_val hO h1.2
  have hp := hp rfl
  obtain ⟨I', E⟩ := I.upd (w' := w) (F' := fun b => F b ∨ g'.blk = some b) (o' := .dead) (g' := { blk := none }) hO hg rfl rfl rfl (Nat.le_refl _) (fun _ _ _ => rfl) (fun b h => by cases h) (fun b h => by cases h)
    (fun b h => .inl h) (fun b h => h.imp (fun h => h) (fun h => .inl ⟨h, (I.blks id g' b hg h).1⟩)) trivial trivial (fun E => rfl)
  refine h a w ⟨_, _, I', fun s' => ?_, hsz, hdf.evo E, E0.trans I.len E⟩
  simp only [upd]
  cases hb : Nat.beq s' s with
  | false => exact AV.V_evo I E I'.len _ _ (hT s')
  | true =>
    have := Nat.eq_of_beq_eq_true hb
    subst this
    simp only [cond_true, AV.V]
    rw [hp]
    rcases I.ok id _ g' hO hg with ⟨hb0, hx0, hc0⟩ | ⟨b, cs, hb', hrow, hc1, hcE, _⟩
    · subst hx0
      exact ⟨_, _, 0, rfl, by simp, (fun h => absurd rfl h), trivial⟩
    · simp only [GO.slice, hb']
      refine ⟨_, _, sz, rfl, hrow.2.1, fun _ => ⟨_, rfl, rfl, .inr rfl⟩, ?_⟩
      have := D.RE_mono E.frm (E.keep I) _ (fun k => (some (⟨b, 0, none⟩ : Addr)).bind fun ad => w.cell? (ad.add k)) (fun k u hk => ?_) sz 0 xs hcE
      · rw [hb'] at this; exact this
      · simp only [Option.bind_some, add_lit, Nat.zero_add]
        exact hrow.cell k u hk
/-- An empty slice without room is one of the call's own, if one likes. -/
theorem Runs.adopt {c : Code} {Q : Exit → (Nat → AV) → List AObj → Prop} (s e sz : Nat) (hs : T s = .nil0) (h : Runs P ro N K c (upd T s (.own O.length 1)) (O ++ [.buf e sz [] 1]) Q) : Runs P ro N K c T O Q := fun a w hat => by
  obtain ⟨F, γ, I, hT, hsz, hdf, E0⟩ := hat
  have h1 := hT s
  rw [hs] at h1
  obtain ⟨A, hA⟩ := h1
  obtain ⟨I', E⟩ := I.push (w' := w) (.buf e sz [] 1) { blk := none, base := A } rfl rfl rfl (Nat.le_refl _) (fun _ _ => rfl) (fun b h => by cases h) trivial (fun E => .inl ⟨rfl, rfl, rfl, fun h => by cases h⟩)
  refine h a w ⟨F, _, I', fun s' => ?_, hsz, hdf.evo E, E0.trans I.len E⟩
  simp only [upd]
  cases hb : Nat.beq s' s with
  | false => exact AV.V_evo I E I'.len _ _ (hT s')
  | true =>
    have := Nat.eq_of_beq_eq_true hb
    subst this
    refine ⟨by rw [hA]; rfl, { blk := none, base := A }, .buf e sz [] 1, ?_, by simp, Nat.le_refl _, fun _ => by rw [hA]; rfl⟩
    rw [← I.len]; simp
theorem OpV.adopt {o : Oper} {s : Nat} {x : AV} {O' : List AObj} (e sz : Nat) (hs : T s = .nil0) (h : OpV P ro o (upd T s (.own O.length 1)) (O ++ [.buf e sz [] 1]) x O') (hin : Operand.tmp s ∈ o.op.operands) : OpV P ro o T O x O' := by
  intro w F γ a I H
  have h1 := H s hin
  rw [hs] at h1
  obtain ⟨A, hA⟩ := h1
  obtain ⟨I', E⟩ := I.push (w' := w) (.buf e sz [] 1) { blk := none, base := A } rfl rfl rfl (Nat.le_refl _) (fun _ _ => rfl) (fun b h => by cases h) trivial (fun E => .inl ⟨rfl, rfl, rfl, fun h => by cases h⟩)
  refine Oper.wpIn_mono (fun a' w' ⟨u, F', γ', k1, k2, k3, k4⟩ => ⟨u, F', γ', k1, k2, k3, E.trans I'.len k4⟩) (h w F _ a I' fun s' hs' => ?_)
  simp only [upd]
  cases hb : Nat.beq s' s with
  | false => exact AV.V_evo I E I'.len _ _ (H s' hs')
  | true =>
    have := Nat.eq_of_beq_eq_true hb
    subst this
    refine ⟨by rw [hA]; rfl, { blk := none, base := A }, .buf e sz [] 1, ?_, by simp, Nat.le_refl _, fun _ => by rw [hA]; rfl⟩
    rw [← I.len]; simp
end
end Go.Proofs.Ythpiggjclhnkcaa.AM
