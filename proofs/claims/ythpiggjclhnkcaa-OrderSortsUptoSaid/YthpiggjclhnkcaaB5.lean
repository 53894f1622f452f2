/- Calls that are handed some of the objects, or a slice that is still the caller's; pointers that are data from here on; closures; ranges over functions. -/
import Derived.Test.YthpiggjclhnkcaaB4
import Derived.RangeFuncIn
namespace Go.Proofs.Ythpiggjclhnkcaa.AM
open Go
set_option linter.unusedVariables false
set_option linter.unusedSimpArgs false
section
variable {P : Program} {ro : Option Nat} {N : Nat} {K : Org} {T : Nat → AV} {O : List AObj} {dst : Option Tmp} {ty : TypeId} {pos : String} {af : Array Edge} {g : Option (Nat × Bool)}

/-- The call as it is entered. -/
theorem call_entered {c : Operand} {xs : Array Operand} {ts : Array TypeId} {f : FuncId} {caps ys : List AV} [S : Fnc P f] (hc : evT T c = .fn f caps) (hx : xs.toList.map (evT T) = ys) {w : World} {F : Nat → Prop} {γ : List GO} {a : Act}
    (H : OpndOk w F γ O T a ⟨dst, .call { callee := .value c, args := xs, argTypes := ts }, ty, pos, af, g⟩) :
    ∃ vs : List Value, (execOp a.eval ⟨dst, .call { callee := .value c, args := xs, argTypes := ts }, ty, pos, af, g⟩).run P w = .ok (.enter f vs.toArray) w ∧ AV.Vs w F γ O (ys ++ caps) vs := by
  obtain ⟨us, hcv, hcaps⟩ : AV.V w F γ O (.fn f caps) (a.eval c) := H.at (x := c) (by simp [Op.operands, Call.operands]) hc
  have hvs : ∀ l : List Operand, (∀ x ∈ l, x ∈ xs) → AV.Vs w F γ O (l.map (evT T)) (l.map a.eval) := by
    intro l hl
    induction l with
    | nil => rfl
    | cons x l ih => exact ⟨_, _, rfl, H.at (x := x) (by simp [Op.operands, Call.operands, hl x]) rfl, ih fun y hy => hl y (List.mem_cons_of_mem _ hy)⟩
  have happ : ∀ (p : List AV) (q : List AV) (us vs : List Value), AV.Vs w F γ O p us → AV.Vs w F γ O q vs → AV.Vs w F γ O (p ++ q) (us ++ vs) := by
    intro p q us vs hp hq
    induction p generalizing us with
    | nil => rw [show us = [] from hp]; exact hq
    | cons x p ih => obtain ⟨u, us', rfl, h1, h2⟩ := hp; exact ⟨u, us' ++ vs, rfl, h1, ih us' h2⟩
  have hall := happ _ _ _ _ (hvs xs.toList (fun x hx => by simpa using hx)) hcaps
  rw [hx] at hall
  obtain ⟨fn, hfn, hname, hbody⟩ := S.h
  refine ⟨_, ?_, hall⟩
  simp only [execOp, resolve, hcv, Deferred.ofValue, Sem.run_bind, Sem.run_pure, Result.andThen_ok, invoke, callFunc, run_program, hfn, hname, hbody, Bool.false_eq_true, if_false]
  congr 2
  simp

/-- The call that is handed the first m objects. -/
theorem opv_callP (m : Nat) {c : Operand} {xs : Array Operand} {ts : Array TypeId} {f : FuncId} {caps ys : List AV} {v : AV} {O1 : List AObj} [S : Fnc P f]
    (h : Fn P f (ys ++ caps) (O.take m) v O1) (hc : evT T c = .fn f caps) (hx : xs.toList.map (evT T) = ys) (hm : m ≤ O.length) (hl : O1.length = m) (hb : AV.bds m (ys ++ caps)) :
    OpV P ro ⟨dst, .call { callee := .value c, args := xs, argTypes := ts }, ty, pos, af, g⟩ T O v (O1 ++ O.drop m) := by
  intro w F γ a I H
  refine ⟨fun _ _ => trivial, ?_⟩
  rw [Oper.semAt_eq _ _ _ (fun c h => by cases h)]
  obtain ⟨vs, hrun, hall⟩ := call_entered (P := P) hc hx H
  rw [hrun]
  refine ⟨(fun h => by cases h), ?_⟩
  refine CallsIn.mono (callsIn_wide.2 (h w F (γ.take m) vs (I.take m) (AV.Vs_take _ _ hb hall)) : CallsIn Fence.wide 0 P f _ w _) fun e w' ⟨u, x, F', γ', O', he, hV, I', E, hxv, hO1⟩ => ?_
  subst he; subst hxv; subst hO1
  obtain ⟨I2, E2⟩ := I.rejoin hm I' hl E
  exact ⟨u, F', _, rfl, AV.V_mono (fun _ h => h) (fun _ _ => rfl) (Emb.app _ _) _ _ hV, I2, E2⟩

/-- A slice that is still the caller's, as the callee sees it: data. -/
def BorOk (O : List AObj) (x y : AV) : Prop := x = y ∨ (x = .nil0 ∧ y = .d (.list [])) ∨ ∃ id ver e sz xs, x = .own id ver ∧ O[id]? = some (.buf e sz xs ver) ∧ y = .d (.list xs)
def BorsOk (O : List AObj) : List AV → List AV → Prop
  | [], [] => True
  | x :: xs, y :: ys => BorOk O x y ∧ BorsOk O xs ys
  | _, _ => False
def flatD : D → Bool
  | .int _ _ | .bool _ | .str _ | .nilp => true
  | _ => false
def flatAV : AV → Bool
  | .d x => flatD x
  | .tup [] => true
  | .tup [.d x, .d y] => flatD x && flatD y
  | .nilf => true
  | _ => false
theorem flatD_R {w w' : World} {F F' : Nat → Prop} {x : D} {v : Value} (h : flatD x = true) (hv : x.R w F v) : x.R w' F' v := by cases x <;> first | exact hv | cases h
theorem flat_V {w w' : World} {F F' : Nat → Prop} {γ γ' : List GO} {O O' : List AObj} {x : AV} {v : Value} (h : flatAV x = true) (hv : x.V w F γ O v) : x.V w' F' γ' O' v := by
  unfold flatAV at h
  split at h
  · exact flatD_R h hv
  · exact hv
  · simp only [Bool.and_eq_true] at h
    simp only [AV.V, AV.Vs] at hv ⊢
    obtain ⟨us, e, u, us', e1, h1, u2, us2, e2, h2, h3⟩ := hv
    exact ⟨us, e, u, us', e1, flatD_R h.1 h1, u2, us2, e2, flatD_R h.2 h2, h3⟩
  · exact hv
  · cases h

theorem own_data {w : World} {F : Nat → Prop} {γ : List GO} (I : Inv w F γ O) {id ver e sz : Nat} {xs : List D} {v : Value} (hO : O[id]? = some (.buf e sz xs ver)) (h : AV.V w F γ O (.own id ver) v) (F' : Nat → Prop) (hF : ∀ b, F b → F' b) (hb : ∀ (g : GO) (b : Nat), γ[id]? = some g → g.blk = some b → F' b) :
    D.R w F' (.list xs) v := by
  obtain ⟨g', hg, _, hp⟩ := ownAt_val hO h.2
  have hp := hp rfl
  rw [hp]
  rcases I.ok id _ g' hO hg with ⟨hb0, hx0, hc0⟩ | ⟨b, cs, hb', hrow, hc1, hcE, _⟩
  · subst hx0
    exact ⟨_, _, 0, rfl, by simp, (fun h => absurd rfl h), trivial⟩
  · have hFb := hb g' b hg hb'
    simp only [GO.slice, hb']
    refine ⟨_, _, sz, rfl, hrow.2.1, fun _ => ⟨_, rfl, rfl, hFb⟩, ?_⟩
    exact D.RE_mono hF (fun _ _ => rfl) _ (fun k => (some (⟨b, 0, none⟩ : Addr)).bind fun ad => w.cell? (ad.add k)) (fun k u hk => by
      simp only [Option.bind_some, add_lit, Nat.zero_add]
      exact hrow.cell k u hk) sz 0 xs hcE

/-- A call that is handed data, and slices that are still the caller's, and hands back what is no pointer. -/
theorem opv_callB {c : Operand} {xs : Array Operand} {ts : Array TypeId} {f : FuncId} {ys : List AV} {v : AV} [S : Fnc P f]
    (h : Fn P f ys [] v []) (hc : evT T c = .fn f []) (hx : BorsOk O (xs.toList.map (evT T)) ys) (hb : AV.bdB.AV.bdsB 0 ys = true) (hv : flatAV v = true) :
    OpV P ro ⟨dst, .call { callee := .value c, args := xs, argTypes := ts }, ty, pos, af, g⟩ T O v O := by
  intro w F γ a I H
  refine ⟨fun _ _ => trivial, ?_⟩
  rw [Oper.semAt_eq _ _ _ (fun c h => by cases h)]
  obtain ⟨vs, hrun, hall⟩ := call_entered (P := P) hc rfl H
  rw [hrun]
  refine ⟨(fun h => by cases h), ?_⟩
  let F1 : Nat → Prop := fun b => F b ∨ ∃ (i : Nat) (g : GO), γ[i]? = some g ∧ g.blk = some b
  have I0 : Inv w F [] [] := I.none
  have I1 : Inv w F1 [] [] := ⟨rfl, fun i o g h => by simp at h, fun i o h => by simp at h, fun i g b h => by simp at h, fun i j g g' b h => by simp at h, fun b hb => hb.elim (I.fr b) fun ⟨i, g, h1, h2⟩ => (I.blks i g b h1 h2).1⟩
  have conv : ∀ (l m : List AV) (us : List Value), BorsOk O l m → AV.Vs w F γ O l us → AV.bds 0 m → AV.Vs w F1 [] [] m us := by
    intro l
    induction l with
    | nil =>
      intro m us hm h _
      cases m with
      | nil => exact h
      | cons y m => exact hm.elim
    | cons x l ih =>
      intro m us hm h hbd
      cases m with
      | nil => exact hm.elim
      | cons y m =>
        obtain ⟨u, us', rfl, h1, h2⟩ := h
        refine ⟨u, us', rfl, ?_, ih m us' hm.2 h2 hbd.2⟩
        rcases hm.1 with e | ⟨e1, e2⟩ | ⟨id, ver, e, sz, xs, e1, e2, e3⟩
        · subst e
          exact AV.V_any x u hbd.1 (AV.V_mono (F' := F1) (w' := w) (fun b h => .inl h) (fun _ _ => rfl) Emb.refl x u h1)
        · subst e1; subst e2; exact nil0_R h1
        · subst e1; subst e3
          exact own_data I e2 h1 F1 (fun b h => .inl h) fun g b hg hb => .inr ⟨id, g, hg, hb⟩
  rw [List.append_nil] at hall
  have hbds := AV.bds_of0 hb
  have hcall := h w F1 [] vs I1 (conv _ _ _ hx hall hbds)
  refine CallsIn.mono (callsIn_wide.2 hcall : CallsIn Fence.wide 0 P f _ w _) fun e w' ⟨u, x, F', γ', O', he, hV, I', E, hxv, hO⟩ => ?_
  subst he; subst hxv
  obtain ⟨I2, E2⟩ := I.grow (w' := w') (F' := F) E.os E.tape E.output E.size (fun b hb => E.old b hb (fun i g h => by simp at h)) (fun b h => h) (fun b _ h => h) (fun b hb => Nat.lt_of_lt_of_le (I.fr b hb) E.size)
  exact ⟨u, F, γ, rfl, flat_V hv hV, I2, E2⟩

/-- A variable of the call's own that is never written again is data. -/
theorem Runs.freeze {c : Code} {Q : Exit → (Nat → AV) → List AObj → Prop} (s : Nat) {id : Nat} {cs : List AV} {ds : List D} (hs : T s = .ref id 0) (hO : O[id]? = some (.cells cs)) (hd : allD cs = some ds)
    (h : Runs P ro N K c (upd T s (.d (.ptr ds))) (O.set id .dead) Q) : Runs P ro N K c T O Q := fun a w hat => by
  obtain ⟨F, γ, I, hT, hsz, hdf, E0⟩ := hat
  have h1 := hT s
  rw [hs] at h1
  obtain ⟨g', b, hg, hb, hp⟩ := refAt_val hO h1.2
  obtain ⟨b', us, t, k1, k2, k3⟩ := I.ok id _ g' hO hg
  rw [hb] at k1; cases k1
  obtain ⟨I', E⟩ := I.upd (w' := w) (F' := fun b => F b ∨ g'.blk = some b) (o' := .dead) (g' := { blk := none }) hO hg rfl rfl rfl (Nat.le_refl _) (fun _ _ _ => rfl) (fun b h => by cases h) (fun b h => by cases h)
    (fun b h => .inl h) (fun b h => h.imp (fun h => h) (fun h => .inl ⟨h, (I.blks id g' b hg h).1⟩)) trivial trivial (fun E => rfl)
  refine h a w ⟨_, _, I', fun s' => ?_, hsz, hdf.evo E, E0.trans I.len E⟩
  simp only [upd]
  cases hbq : Nat.beq s' s with
  | false => exact AV.V_evo I E I'.len _ _ (hT s')
  | true =>
    have := Nat.eq_of_beq_eq_true hbq
    subst this
    simp only [cond_true, AV.V, D.R]
    refine ⟨⟨b, 0, none⟩, us, hp, rfl, .inr hb, ?_, fun j u hj => cell_row k2 j u hj⟩
    · exact allD_RC cs us ds hd (AV.VC_mono (w' := w) (F' := fun b => F b ∨ g'.blk = some b) (fun b h => .inl h) (fun _ _ => rfl) Emb.refl _ _ k3)

theorem opv_makeFunc {f : FuncId} {caps : Array Operand} {ys : List AV} (hx : caps.toList.map (evT T) = ys) : OpV P ro ⟨dst, .makeFunc (.func f) #[] caps, ty, pos, af, g⟩ T O (.fn f ys) O :=
  OpV.of_same (fun c h => by cases h) fun w F γ a I H => by
    have hvs : ∀ l : List Operand, (∀ x ∈ l, x ∈ caps) → AV.Vs w F γ O (l.map (evT T)) (l.map a.eval) := by
      intro l hl
      induction l with
      | nil => rfl
      | cons x l ih => exact ⟨_, _, rfl, H.at (x := x) (by simp [Op.operands, hl x]) rfl, ih fun y hy => hl y (List.mem_cons_of_mem _ hy)⟩
    refine ⟨.func (.func f) #[] (caps.map a.eval), ?_, ?_⟩
    · simp [execOp, Instr.makeFunc, Sem.run_bind]
    · rw [← hx]
      exact ⟨caps.toList.map a.eval, by rw [← Array.toList_map], hvs _ (fun x h => by simpa using h)⟩
end
end Go.Proofs.Ythpiggjclhnkcaa.AM
