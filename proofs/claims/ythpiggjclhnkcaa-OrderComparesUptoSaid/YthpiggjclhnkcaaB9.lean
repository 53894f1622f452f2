/- Slices of slices. -/
import Derived.Test.YthpiggjclhnkcaaB8
namespace Go.Proofs.Ythpiggjclhnkcaa.AM
open Go
set_option linter.unusedVariables false
set_option linter.unusedSimpArgs false

theorem RE_of {w : World} {F : Nat → Prop} {get : Nat → Option Value} {sz : Nat} : ∀ (xs : List D) (i : Nat), (∀ (k : Nat) (y : D), xs[k]? = some y → ∃ v, y.R w F v ∧ v.cells.size = sz ∧ ∀ (j : Nat) (u : Value), v.cells[j]? = some u → get ((i + k) * sz + j) = some u) → D.RE w F get sz i xs
  | [], i, h => trivial
  | x :: xs, i, h => ⟨h 0 x rfl, RE_of xs (i + 1) fun k y hk => by
      obtain ⟨v, h1, h2, h3⟩ := h (k + 1) y (by simpa using hk)
      exact ⟨v, h1, h2, fun j u hj => by rw [show i + 1 + k = i + (k + 1) by omega]; exact h3 j u hj⟩⟩

section
variable {P : Program} {ro : Option Nat} {N : Nat} {K : Org} {T : Nat → AV} {O : List AObj} {dst : Option Tmp} {ty : TypeId} {pos : String} {af : Array Edge} {g : Option (Nat × Bool)}

/-- Where a bound is, if there is one. -/
def bndOk (T : Nat → AV) (x : Option Operand) (d : Nat) (n : Nat) : Prop := match x with
  | none => n = d
  | some x => ∃ k, evT T x = .d (.int k (n : Nat))
theorem sliceBound_run {w : World} {k : IntKind} {n y : Nat} {c : BoundsCode} (h : n ≤ y) : (Instr.sliceBound (.int k (n : Nat)) y c).run P w = .ok n w := by
  simp [Instr.sliceBound, asIntOf, h]

theorem opv_slice {x : Operand} {lo hi : Option Operand} {t e sz l h : Nat} {xs : List D} [S : Slc P t e sz] (hx : evT T x = .d (.list xs)) (hlo : bndOk T lo 0 l) (hhi : bndOk T hi xs.length h) (hlh : l ≤ h) (hh : h ≤ xs.length) (hsz : ∀ y ∈ xs, y.cells.length = sz) :
    OpV P ro ⟨dst, .slice t x lo hi none, ty, pos, af, g⟩ T O (.d (.list ((xs.take h).drop l))) O :=
  OpV.of_same (fun c h => by cases h) fun w F γ a I H => by
    obtain ⟨A, c, s, hp, hc, hA, hE⟩ := H.at (x := x) (by simp [Op.operands]) hx
    have hlv : (match lo.map a.eval with | some v => Instr.sliceBound v h .sliceB | none => (pure 0 : Sem Nat)).run P w = .ok l w := by
      cases lo with
      | none => rw [show l = 0 from hlo]; rfl
      | some y =>
        obtain ⟨k, hk⟩ := hlo
        have : a.eval y = .int k (l : Nat) := H.at (x := y) (by simp [Op.operands]) hk
        simp only [Option.map_some, this]
        exact sliceBound_run hlh
    have hhv : (match hi.map a.eval with | some v => Instr.sliceBound v c .sliceAcap | none => (pure xs.length : Sem Nat)).run P w = .ok h w := by
      cases hi with
      | none => rw [show h = xs.length from hhi]; rfl
      | some y =>
        obtain ⟨k, hk⟩ := hhi
        have : a.eval y = .int k (h : Nat) := H.at (x := y) (by simp [Op.operands]) hk
        simp only [Option.map_some, this]
        exact sliceBound_run (by omega)
    have hlen : ((xs.take h).drop l).length = h - l := by simp; omega
    refine ⟨.slice (if c = l then A else A.map (·.add (l * sz))) (h - l) (c - l), ?_, ?_⟩
    · simp only [execOp, hp]
      have hb : (Instr.sliceBounds true xs.length c (lo.map a.eval) (hi.map a.eval) none).run P w = .ok (l, h, c) w := by
        unfold Instr.sliceBounds
        cases hi with
        | none =>
          have e : h = xs.length := hhi
          subst e
          cases lo with
          | none =>
            have e : l = 0 := hlo
            subst e
            rfl
          | some y =>
            simp only [Option.map_some] at hlv
            simp only [Option.map_none, Option.map_some, Sem.run_bind, Sem.run_pure, Result.andThen_ok, Option.isSome_none, Bool.false_eq_true, if_false, hlv]
        | some z =>
          simp only [Option.map_some] at hhv
          cases lo with
          | none =>
            have e : l = 0 := hlo
            subst e
            simp only [Option.map_none, Option.map_some, Sem.run_bind, Sem.run_pure, Result.andThen_ok, if_true, hhv]
          | some y =>
            simp only [Option.map_some] at hlv
            simp only [Option.map_none, Option.map_some, Sem.run_bind, Sem.run_pure, Result.andThen_ok, Option.isSome_none, Bool.false_eq_true, if_false, if_true, hhv, hlv]
      simp only [Instr.sliceAt, Sem.run_bind, run_underlying S.und, Result.andThen_ok, Instr.slice, Option.map_none, hb, run_size_of S.info, Sem.run_pure]
    · refine ⟨_, _, sz, by rw [hlen], by rw [hlen]; omega, fun hne => ?_, ?_⟩
      · have hpos : 0 < h - l := by rw [← hlen]; exact List.length_pos_iff.2 hne
        obtain ⟨ad, rfl, hsp, hF⟩ := hA (fun e => by rw [e] at hh; simp at hh; omega)
        rw [if_neg (by omega)]
        refine ⟨ad.add (l * sz), rfl, ?_, ?_⟩
        · unfold Addr.add; split <;> simp [hsp]
        · unfold Addr.add; split <;> exact hF
      · refine RE_of _ 0 fun k y hk => ?_
        have hkl : k < h - l := by rw [← hlen]; exact (List.getElem?_eq_some_iff.1 hk).1
        have hk' : xs[l + k]? = some y := by
          rw [List.getElem?_drop, List.getElem?_take] at hk
          split at hk
          · exact hk
          · cases hk
        obtain ⟨v, h1, h2, h3⟩ := RE_get xs 0 (l + k) y hE hk'
        have hrc := RC_cells' h1
        have hss : s = sz := by rw [← h2, ← hsz y (List.mem_of_getElem? hk'), ← RC_length _ _ hrc]; simp
        subst hss
        obtain ⟨ad, rfl, hsp, hF⟩ := hA (fun e => by rw [e] at hh; simp at hh; omega)
        rw [if_neg (by omega)]
        refine ⟨v, h1, h2, fun j u hj => ?_⟩
        have := h3 j u hj
        simp only [Option.bind_some, Option.map_some] at this ⊢
        rw [add_add' ad hsp]
        rw [← this]
        congr 2
        simp only [Nat.zero_add, Nat.add_mul]
        omega
theorem opv_slice_terms {x : Operand} {lo hi : Option Operand} {t e l h : Nat} {xs : List Term} [S : Slc P t e 4] (hx : evT T x = .d (.list (encs xs))) (hlo : bndOk T lo 0 l) (hhi : bndOk T hi xs.length h) (hlh : l ≤ h) (hh : h ≤ xs.length) :
    OpV P ro ⟨dst, .slice t x lo hi none, ty, pos, af, g⟩ T O (.d (.list (encs ((xs.take h).drop l)))) O := by
  have := opv_slice (P := P) (ro := ro) (dst := dst) (ty := ty) (pos := pos) (af := af) (g := g) (O := O) (t := t) hx hlo (by rw [encs_len]; exact hhi) hlh (by rw [encs_len]; exact hh) (fun y hy => by rw [encs_map] at hy; obtain ⟨u, _, rfl⟩ := List.mem_map.1 hy; exact enc_cells u)
  simpa only [encs_map, List.map_take, List.map_drop] using this

/-- An own slice that an operation yields is data at once. -/
theorem OpV.shut {o : Oper} {id ver e sz : Nat} {xs : List D} {O1 : List AObj} (h : OpV P ro o T O (.own id ver) O1) (hO : O1[id]? = some (.buf e sz xs ver)) : OpV P ro o T O (.d (.list xs)) (O1.set id .dead) := by
  intro w F γ a I H
  refine Oper.wpIn_mono (fun a' w' ⟨u, F', γ', k1, k2, k3, k4⟩ => ?_) (h w F γ a I H)
  obtain ⟨g', hg, _, hp⟩ := ownAt_val hO k2.2
  obtain ⟨I', E⟩ := k3.upd (w' := w') (F' := fun b => F' b ∨ g'.blk = some b) (o' := .dead) (g' := { blk := none }) hO hg rfl rfl rfl (Nat.le_refl _) (fun _ _ _ => rfl) (fun b h => by cases h) (fun b h => by cases h)
    (fun b h => .inl h) (fun b h => h.imp (fun h => h) (fun h => .inl ⟨h, (k3.blks id g' b hg h).1⟩)) trivial trivial (fun E => rfl)
  exact ⟨u, _, _, k1, own_data k3 hO k2 _ (fun b h => .inl h) (fun g b hg' hb => by rw [hg] at hg'; cases hg'; exact .inr hb), I', k4.trans k3.len E⟩
end
end Go.Proofs.Ythpiggjclhnkcaa.AM

/- A struct whose zero slice is one of the call's own. -/
namespace Go.Proofs.Ythpiggjclhnkcaa.AM
open Go
set_option linter.unusedVariables false
set_option linter.unusedSimpArgs false
section
variable {P : Program} {ro : Option Nat} {N : Nat} {K : Org} {T : Nat → AV} {O : List AObj} {dst : Option Tmp} {ty : TypeId} {pos : String} {af : Array Edge} {g : Option (Nat × Bool)}
/-- An empty buffer, for a slice that is nil. -/
theorem Runs.newbuf {c : Code} {Q : Exit → (Nat → AV) → List AObj → Prop} (e sz : Nat) (h : Runs P ro N K c T (O ++ [.buf e sz [] 0]) Q) : Runs P ro N K c T O Q := fun a w hat => by
  obtain ⟨F, γ, I, hT, hsz, hdf, E0⟩ := hat
  obtain ⟨I', E⟩ := I.push (w' := w) (.buf e sz [] 0) { blk := none } rfl rfl rfl (Nat.le_refl _) (fun _ _ => rfl) (fun b h => by cases h) trivial (fun E => .inl ⟨rfl, rfl, rfl, fun _ => rfl⟩)
  exact h a w ⟨F, _, I', fun s => AV.V_evo I E I'.len _ _ (hT s), hsz, hdf.evo E, E0.trans I.len E⟩
theorem own_nil {w : World} {F : Nat → Prop} {γ : List GO} (I : Inv w F γ O) {k e sz : Nat} (hO : O[k]? = some (.buf e sz [] 0)) : AV.V w F γ O (.own k 0) (.slice none 0 0) := by
  have hk : k < γ.length := by rw [I.len]; exact (List.getElem?_eq_some_iff.1 hO).1
  have hg : γ[k]? = some γ[k] := List.getElem?_eq_getElem hk
  refine ⟨rfl, γ[k], _, hg, hO, Nat.le_refl _, fun _ => ?_⟩
  rcases I.ok k _ _ hO hg with ⟨h1, _, h3, h4⟩ | ⟨b, cs, _, _, _, _, h⟩
  · simp [GO.slice, h1, h3, h4 rfl]
  · exact absurd h (Nat.lt_irrefl 0)
theorem const_nil {v : Value} (h : constAV v = .nil0) : v = .slice none 0 0 := by
  unfold constAV at h
  split at h <;> first | rfl | cases h
theorem VC_own {w : World} {F : Nat → Prop} {γ : List GO} {x : AV} (hx : AV.V w F γ O x (.slice none 0 0)) (hx1 : x.one = true) : ∀ (l : List Value) (j : Nat), (l.map constAV).all AV.one = true → (l.map constAV)[j]? = some .nil0 → AV.VC w F γ O ((l.map constAV).set j x) l
  | [], j, _, h => by simp at h
  | v :: l, 0, ho, h => by
    simp only [List.map_cons, List.getElem?_cons_zero, Option.some.injEq] at h
    have := const_nil h
    subst this
    simp only [List.map_cons, List.all_cons, Bool.and_eq_true] at ho
    exact ⟨_, l, rfl, hx1, hx, zero_VC l ho.2⟩
  | v :: l, j + 1, ho, h => by
    simp only [List.map_cons, List.all_cons, Bool.and_eq_true] at ho
    exact ⟨v, l, rfl, ho.1, constAV_V v, VC_own hx hx1 l j ho.2 (by simpa using h)⟩
/-- A struct built, its zero slice at j one of the call's own. -/
theorem opv_build_own (k j : Nat) {t : TypeId} {parts : Array (Nat × Operand)} {places : List (Nat × Nat)} {z cs : List AV} {e sz : Nat} [S : Strc P t places] [Z : Ze P t z] (hO : O[k]? = some (.buf e sz [] 0)) (hz0 : z[j]? = some .nil0) (h : fillAV places (z.set j (.own k 0)) (parts.toList.map fun p => (p.1, evT T p.2)) = some cs) :
    OpV P ro ⟨dst, .build t parts, ty, pos, af, g⟩ T O (.agg cs) O :=
  OpV.of_same (fun c h => by cases h) fun w F γ a I H => by
    obtain ⟨zv, hz, he, ho⟩ := Z.h
    obtain ⟨i, hi, hz⟩ := Option.bind_eq_some_iff.1 hz
    have hc : AV.VC w F γ O (z.set j (.own k 0)) zv.cells.toList := by rw [← he] at ho hz0 ⊢; exact VC_own (own_nil I hO) rfl _ j ho hz0
    obtain ⟨rs, e1, e2⟩ := fillAV_ok (parts.toList.map fun p => (p.1, evT T p.2)) (parts.toList.map fun p => (p.1, a.eval p.2)) _ zv.cells.toList cs hc (by simp) (fun j p q h1 h2 => by
      rw [List.getElem?_map] at h1 h2
      cases hj : parts.toList[j]? with
      | none => simp [hj] at h1
      | some y =>
        simp only [hj, Option.map_some, Option.some.injEq] at h1 h2
        subst h1; subst h2
        have hmem : y ∈ parts.toList := List.mem_of_getElem? hj
        exact H.at (x := y.2) (by simp only [Op.operands]; simp only [List.mem_toArray, List.mem_map]; exact ⟨y, hmem, rfl⟩) rfl) h
    refine ⟨.agg rs.toArray, ?_, ⟨rs, rfl, e2⟩⟩
    have hpl := S.h
    unfold Program.placesOf at hpl
    have hb : P.built t ((parts.map fun x => (x.1, a.eval x.2)).toList) = some rs.toArray := by
      unfold Program.built
      rw [hi]
      cases hu : P.underlying t with
      | none => rw [hu] at hpl; cases hpl
      | some d =>
        rw [hu] at hpl
        cases d <;> first | cases hpl | (simp only [hz, hpl]; simpa using e1)
    have := run_build (P := P) w t (parts.map fun x => (x.1, a.eval x.2)) rs.toArray hb
    simp only [execOp, Sem.run_bind, this, Result.andThen_ok]
    rfl
end
end Go.Proofs.Ythpiggjclhnkcaa.AM

/- A slice of the call's own that stands in a struct becomes data. -/
namespace Go.Proofs.Ythpiggjclhnkcaa.AM
open Go
set_option linter.unusedVariables false
set_option linter.unusedSimpArgs false
theorem VC_at {w : World} {F : Nat → Prop} {γ : List GO} {O : List AObj} : ∀ (cs : List AV) (us : List Value) (j : Nat) (x : AV), AV.VC w F γ O cs us → cs[j]? = some x → ∃ u, us[j]? = some u ∧ x.V w F γ O u
  | [], us, j, x, h, hj => by simp at hj
  | c :: cs, us, 0, x, ⟨u, us', e, _, h1, _⟩, hj => by subst e; simp at hj; subst hj; exact ⟨u, rfl, h1⟩
  | c :: cs, us, j + 1, x, ⟨u, us', e, _, _, h2⟩, hj => by subst e; exact VC_at cs us' j x h2 (by simpa using hj)
theorem VC_set {w : World} {F : Nat → Prop} {γ : List GO} {O : List AObj} : ∀ (cs : List AV) (us : List Value) (j : Nat) (x : AV) (u : Value), AV.VC w F γ O cs us → us[j]? = some u → x.V w F γ O u → x.one = true → AV.VC w F γ O (cs.set j x) us
  | [], us, j, x, u, h, hu, _, _ => by rw [show us = [] from h] at hu; simp at hu
  | c :: cs, us, 0, x, u, ⟨v, us', e, _, h1, h2⟩, hu, hx, ho => by subst e; simp at hu; subst hu; exact ⟨_, us', rfl, ho, hx, h2⟩
  | c :: cs, us, j + 1, x, u, ⟨v, us', e, h0, h1, h2⟩, hu, hx, ho => by subst e; exact ⟨v, us', rfl, h0, h1, VC_set cs us' j x u h2 (by simpa using hu) hx ho⟩
section
variable {P : Program} {ro : Option Nat} {N : Nat} {K : Org} {T : Nat → AV} {O : List AObj}
theorem Runs.shutC {c : Code} {Q : Exit → (Nat → AV) → List AObj → Prop} (id j : Nat) {k ver e sz : Nat} {xs : List D} {cs : List AV} (hO : O[id]? = some (.cells cs)) (hj : cs[j]? = some (.own k ver)) (hk : O[k]? = some (.buf e sz xs ver))
    (h : Runs P ro N K c T ((O.set k .dead).set id (.cells (cs.set j (.d (.list xs))))) Q) : Runs P ro N K c T O Q := fun a w hat => by
  obtain ⟨F, γ, I, hT, hsz, hdf, E0⟩ := hat
  have hne : k ≠ id := fun e => by subst e; rw [hO] at hk; cases hk
  have hidγ : id < γ.length := by rw [I.len]; exact (List.getElem?_eq_some_iff.1 hO).1
  have hkγ : k < γ.length := by rw [I.len]; exact (List.getElem?_eq_some_iff.1 hk).1
  have hg : γ[id]? = some γ[id] := List.getElem?_eq_getElem hidγ
  have hgk : γ[k]? = some γ[k] := List.getElem?_eq_getElem hkγ
  obtain ⟨b, us, t, k1, k2, k3⟩ := I.ok id _ _ hO hg
  obtain ⟨u, hu, hV⟩ := VC_at cs us j _ k3 hj
  obtain ⟨I1, E1⟩ := I.upd (w' := w) (F' := fun b => F b ∨ γ[k].blk = some b) (o' := .dead) (g' := { blk := none }) hk hgk rfl rfl rfl (Nat.le_refl _) (fun _ _ _ => rfl) (fun b h => by cases h) (fun b h => by cases h)
    (fun b h => .inl h) (fun b h => h.imp (fun h => h) (fun h => .inl ⟨h, (I.blks k _ b hgk h).1⟩)) trivial trivial (fun E => rfl)
  have hD : D.R w (fun b => F b ∨ γ[k].blk = some b) (.list xs) u := own_data I hk hV _ (fun b h => .inl h) fun g b hg' hb => by rw [hgk] at hg'; cases hg'; exact .inr hb
  have hO1 : (O.set k .dead)[id]? = some (.cells cs) := by rw [List.getElem?_set_ne hne]; exact hO
  have hg1 : (γ.set k { blk := none })[id]? = some γ[id] := by rw [List.getElem?_set_ne hne]; exact hg
  obtain ⟨I2, E2⟩ := I1.upd (w' := w) (F' := fun b => F b ∨ γ[k].blk = some b) (o' := .cells (cs.set j (.d (.list xs)))) (g' := γ[id]) hO1 hg1 rfl rfl rfl (Nat.le_refl _) (fun _ _ _ => rfl) (fun b h => .inl h) (fun b h => I1.blks id _ b hg1 h)
    (fun b h => h) (fun b h => .inl h) rfl (by
      have := I.bd id _ hO
      have key : ∀ (cs : List AV) (j : Nat), AV.bds (id + 1) cs → AV.bds (id + 1) (cs.set j (.d (.list xs))) := by
        intro cs
        induction cs with
        | nil => intro j h; exact h
        | cons c cs ih => intro j h; cases j with
          | zero => exact ⟨trivial, h.2⟩
          | succ j => exact ⟨h.1, ih j h.2⟩
      exact key cs j this)
    (fun E => ⟨b, us, t, k1, k2, VC_set cs us j _ u (AV.VC_evo I (E1.trans I1.len E) (by simp [I.len]) _ _ k3) hu hD rfl⟩)
  exact h a w ⟨_, _, I2, fun s => AV.V_evo I (E1.trans I1.len E2) I2.len _ _ (hT s), hsz, (hdf.evo E1).evo E2, (E0.trans I.len E1).trans I1.len E2⟩
end
end Go.Proofs.Ythpiggjclhnkcaa.AM
