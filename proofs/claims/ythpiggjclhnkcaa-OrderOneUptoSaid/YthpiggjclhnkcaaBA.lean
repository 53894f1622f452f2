/- A struct whose zero slice is one of the call's own. -/
import Derived.Test.YthpiggjclhnkcaaB9
namespace Go.Proofs.Ythpiggjclhnkcaa.AM
open Go
set_option linter.unusedVariables false
set_option linter.unusedSimpArgs false
section
variable {P : Program} {ro : Option Nat} {N : Nat} {K : Org} {T : Nat → AV} {O : List AObj} {dst : Option Tmp} {ty : TypeId} {pos : String} {af : Array Edge} {g : Option (Nat × Bool)}
/-- An empty buffer, for a slice that is nil. -/
theorem Runs.newbuf {c : Code} {Q : Exit → (Nat → AV) → List AObj → Prop} (e sz : Nat) (h : Runs P ro N K c T (O ++ [.buf e sz [] 0]) Q) : Runs P ro N K c T O Q := fun a w hat => by
  obtain ⟨F, γ, I, hT, hsz, hdf, E0⟩ := hat
  obtain ⟨I', E⟩ := I.push (w' := w) (.buf e sz [] 0) { blk := none } rfl rfl rfl (Nat.le_refl _) (fun _ _ => rfl) (fun b h => by cases h) trivial (fun E => .inl ⟨rfl, rfl, rfl, fun _ => rfl⟩)
  exact h a w ⟨F, _, I', fun s => AV.V_evo I E I'.len _ _ (hT s), hsz, hdf.evo E, E0.trans I.len E⟩
theorem own_nil {w : World} {F : Nat → Prop} {γ : List GO} (I : Inv w F γ O) {k e sz : Nat} (hO : O[k]? = some (.buf e sz [] 0)) : AV.V w F γ O (.own k 0) (.slice none 0 0) := by
  have hk : k < γ.length := by rw [I.len]; exact (List.getElem?_eq_some_iff.1 hO).1
  have hg : γ[k]? = some γ[k] := List.getElem?_eq_getElem hk
  refine ⟨rfl, γ[k], _, hg, hO, Nat.le_refl _, fun _ => ?_⟩
  rcases I.ok k _ _ hO hg with ⟨h1, _, h3, h4⟩ | ⟨b, cs, _, _, _, _, h⟩
  · simp [GO.slice, h1, h3, h4 rfl]
  · exact absurd h (Nat.lt_irrefl 0)
theorem const_nil {v : Value} (h : constAV v = .nil0) : v = .slice none 0 0 := by
  unfold constAV at h
  split at h <;> first | rfl | cases h
theorem VC_own {w : World} {F : Nat → Prop} {γ : List GO} {x : AV} (hx : AV.V w F γ O x (.slice none 0 0)) (hx1 : x.one = true) : ∀ (l : List Value) (j : Nat), (l.map constAV).all AV.one = true → (l.map constAV)[j]? = some .nil0 → AV.VC w F γ O ((l.map constAV).set j x) l
  | [], j, _, h => by simp at h
  | v :: l, 0, ho, h => by
    simp only [List.map_cons, List.getElem?_cons_zero, Option.some.injEq] at h
    have := const_nil h
    subst this
    simp only [List.map_cons, List.all_cons, Bool.and_eq_true] at ho
    exact ⟨_, l, rfl, hx1, hx, zero_VC l ho.2⟩
  | v :: l, j + 1, ho, h => by
    simp only [List.map_cons, List.all_cons, Bool.and_eq_true] at ho
    exact ⟨v, l, rfl, ho.1, constAV_V v, VC_own hx hx1 l j ho.2 (by simpa using h)⟩
/-- A struct built, its zero slice at j one of the call's own. -/
theorem opv_build_own (k j : Nat) {t : TypeId} {parts : Array (Nat × Operand)} {places : List (Nat × Nat)} {z cs : List AV} {e sz : Nat} [S : Strc P t places] [Z : Ze P t z] (hO : O[k]? = some (.buf e sz [] 0)) (hz0 : z[j]? = some .nil0) (h : fillAV places (z.set j (.own k 0)) (parts.toList.map fun p => (p.1, evT T p.2)) = some cs) :
    OpV P ro ⟨dst, .build t parts, ty, pos, af, g⟩ T O (.agg cs) O :=
  OpV.of_same (fun c h => by cases h) fun w F γ a I H => by
    obtain ⟨zv, hz, he, ho⟩ := Z.h
    obtain ⟨i, hi, hz⟩ := Option.bind_eq_some_iff.1 hz
    have hc : AV.VC w F γ O (z.set j (.own k 0)) zv.cells.toList := by rw [← he] at ho hz0 ⊢; exact VC_own (own_nil I hO) rfl _ j ho hz0
    obtain ⟨rs, e1, e2⟩ := fillAV_ok (parts.toList.map fun p => (p.1, evT T p.2)) (parts.toList.map fun p => (p.1, a.eval p.2)) _ zv.cells.toList cs hc (by simp) (fun j p q h1 h2 => by
      rw [List.getElem?_map] at h1 h2
      cases hj : parts.toList[j]? with
      | none => simp [hj] at h1
      | some y =>
        simp only [hj, Option.map_some, Option.some.injEq] at h1 h2
        subst h1; subst h2
        have hmem : y ∈ parts.toList := List.mem_of_getElem? hj
        exact H.at (x := y.2) (by simp only [Op.operands]; simp only [List.mem_toArray, List.mem_map]; exact ⟨y, hmem, rfl⟩) rfl) h
    refine ⟨.agg rs.toArray, ?_, ⟨rs, rfl, e2⟩⟩
    have hpl := S.h
    unfold Program.placesOf at hpl
    have hb : P.built t ((parts.map fun x => (x.1, a.eval x.2)).toList) = some rs.toArray := by
      unfold Program.built
      rw [hi]
      cases hu : P.underlying t with
      | none => rw [hu] at hpl; cases hpl
      | some d =>
        rw [hu] at hpl
        cases d <;> first | cases hpl | (simp only [hz, hpl]; simpa using e1)
    have := run_build (P := P) w t (parts.map fun x => (x.1, a.eval x.2)) rs.toArray hb
    simp only [execOp, Sem.run_bind, this, Result.andThen_ok]
    rfl
end
end Go.Proofs.Ythpiggjclhnkcaa.AM
