/- Slices of slices. -/
import Derived.Test.YthpiggjclhnkcaaB8
namespace Go.Proofs.Ythpiggjclhnkcaa.AM
open Go
set_option linter.unusedVariables false
set_option linter.unusedSimpArgs false

theorem RE_of {w : World} {F : Nat → Prop} {get : Nat → Option Value} {sz : Nat} : ∀ (xs : List D) (i : Nat), (∀ (k : Nat) (y : D), xs[k]? = some y → ∃ v, y.R w F v ∧ v.cells.size = sz ∧ ∀ (j : Nat) (u : Value), v.cells[j]? = some u → get ((i + k) * sz + j) = some u) → D.RE w F get sz i xs
  | [], i, h => trivial
  | x :: xs, i, h => ⟨h 0 x rfl, RE_of xs (i + 1) fun k y hk => by
      obtain ⟨v, h1, h2, h3⟩ := h (k + 1) y (by simpa using hk)
      exact ⟨v, h1, h2, fun j u hj => by rw [show i + 1 + k = i + (k + 1) by omega]; exact h3 j u hj⟩⟩

section
variable {P : Program} {ro : Option Nat} {N : Nat} {K : Org} {T : Nat → AV} {O : List AObj} {dst : Option Tmp} {ty : TypeId} {pos : String} {af : Array Edge} {g : Option (Nat × Bool)}

/-- Where a bound is, if there is one. -/
def bndOk (T : Nat → AV) (x : Option Operand) (d : Nat) (n : Nat) : Prop := match x with
  | none => n = d
  | some x => ∃ k, evT T x = .d (.int k (n : Nat))
theorem sliceBound_run {w : World} {k : IntKind} {n y : Nat} {c : BoundsCode} (h : n ≤ y) : (Instr.sliceBound (.int k (n : Nat)) y c).run P w = .ok n w := by
  simp [Instr.sliceBound, asIntOf, h]

theorem opv_slice {x : Operand} {lo hi : Option Operand} {t e sz l h : Nat} {xs : List D} [S : Slc P t e sz] (hx : evT T x = .d (.list xs)) (hlo : bndOk T lo 0 l) (hhi : bndOk T hi xs.length h) (hlh : l ≤ h) (hh : h ≤ xs.length) (hsz : ∀ y ∈ xs, y.cells.length = sz) :
    OpV P ro ⟨dst, .slice t x lo hi none, ty, pos, af, g⟩ T O (.d (.list ((xs.take h).drop l))) O :=
  OpV.of_same (fun c h => by cases h) fun w F γ a I H => by
    obtain ⟨A, c, s, hp, hc, hA, hE⟩ := H.at (x := x) (by simp [Op.operands]) hx
    have hlv : (match lo.map a.eval with | some v => Instr.sliceBound v h .sliceB | none => (pure 0 : Sem Nat)).run P w = .ok l w := by
      cases lo with
      | none => rw [show l = 0 from hlo]; rfl
      | some y =>
        obtain ⟨k, hk⟩ := hlo
        have : a.eval y = .int k (l : Nat) := H.at (x := y) (by simp [Op.operands]) hk
        simp only [Option.map_some, this]
        exact sliceBound_run hlh
    have hhv : (match hi.map a.eval with | some v => Instr.sliceBound v c .sliceAcap | none => (pure xs.length : Sem Nat)).run P w = .ok h w := by
      cases hi with
      | none => rw [show h = xs.length from hhi]; rfl
      | some y =>
        obtain ⟨k, hk⟩ := hhi
        have : a.eval y = .int k (h : Nat) := H.at (x := y) (by simp [Op.operands]) hk
        simp only [Option.map_some, this]
        exact sliceBound_run (by omega)
    have hlen : ((xs.take h).drop l).length = h - l := by simp; omega
    refine ⟨.slice (if c = l then A else A.map (·.add (l * sz))) (h - l) (c - l), ?_, ?_⟩
    · simp only [execOp, hp]
      have hb : (Instr.sliceBounds true xs.length c (lo.map a.eval) (hi.map a.eval) none).run P w = .ok (l, h, c) w := by
        unfold Instr.sliceBounds
        cases hi with
        | none =>
          have e : h = xs.length := hhi
          subst e
          cases lo with
          | none =>
            have e : l = 0 := hlo
            subst e
            rfl
          | some y =>
            simp only [Option.map_some] at hlv
            simp only [Option.map_none, Option.map_some, Sem.run_bind, Sem.run_pure, Result.andThen_ok, Option.isSome_none, Bool.false_eq_true, if_false, hlv]
        | some z =>
          simp only [Option.map_some] at hhv
          cases lo with
          | none =>
            have e : l = 0 := hlo
            subst e
            simp only [Option.map_none, Option.map_some, Sem.run_bind, Sem.run_pure, Result.andThen_ok, if_true, hhv]
          | some y =>
            simp only [Option.map_some] at hlv
            simp only [Option.map_none, Option.map_some, Sem.run_bind, Sem.run_pure, Result.andThen_ok, Option.isSome_none, Bool.false_eq_true, if_false, if_true, hhv, hlv]
      simp only [Instr.sliceAt, Sem.run_bind, run_underlying S.und, Result.andThen_ok, Instr.slice, Option.map_none, hb, run_size_of S.info, Sem.run_pure]
    · refine ⟨_, _, sz, by rw [hlen], by rw [hlen]; omega, fun hne => ?_, ?_⟩
      · have hpos : 0 < h - l := by rw [← hlen]; exact List.length_pos_iff.2 hne
        obtain ⟨ad, rfl, hsp, hF⟩ := hA (fun e => by rw [e] at hh; simp at hh; omega)
        rw [if_neg (by omega)]
        refine ⟨ad.add (l * sz), rfl, ?_, ?_⟩
        · unfold Addr.add; split <;> simp [hsp]
        · unfold Addr.add; split <;> exact hF
      · refine RE_of _ 0 fun k y hk => ?_
        have hkl : k < h - l := by rw [← hlen]; exact (List.getElem?_eq_some_iff.1 hk).1
        have hk' : xs[l + k]? = some y := by
          rw [List.getElem?_drop, List.getElem?_take] at hk
          split at hk
          · exact hk
          · cases hk
        obtain ⟨v, h1, h2, h3⟩ := RE_get xs 0 (l + k) y hE hk'
        have hrc := RC_cells' h1
        have hss : s = sz := by rw [← h2, ← hsz y (List.mem_of_getElem? hk'), ← RC_length _ _ hrc]; simp
        subst hss
        obtain ⟨ad, rfl, hsp, hF⟩ := hA (fun e => by rw [e] at hh; simp at hh; omega)
        rw [if_neg (by omega)]
        refine ⟨v, h1, h2, fun j u hj => ?_⟩
        have := h3 j u hj
        simp only [Option.bind_some, Option.map_some] at this ⊢
        rw [add_add' ad hsp]
        rw [← this]
        congr 2
        simp only [Nat.zero_add, Nat.add_mul]
        omega
theorem opv_slice_ints {x : Operand} {lo hi : Option Operand} {t e l h : Nat} {xs : List Int} [S : Slc P t e 1] (hx : evT T x = .d (.list (ints xs))) (hlo : bndOk T lo 0 l) (hhi : bndOk T hi xs.length h) (hlh : l ≤ h) (hh : h ≤ xs.length) :
    OpV P ro ⟨dst, .slice t x lo hi none, ty, pos, af, g⟩ T O (.d (.list (ints ((xs.take h).drop l)))) O := by
  have := opv_slice (P := P) (ro := ro) (dst := dst) (ty := ty) (pos := pos) (af := af) (g := g) (O := O) (t := t) hx hlo (by rw [ints_len]; exact hhi) hlh (by rw [ints_len]; exact hh) (fun y hy => by simp only [ints, List.mem_map] at hy; obtain ⟨u, _, rfl⟩ := hy; rfl)
  simpa only [ints, List.map_take, List.map_drop] using this
theorem opv_slice_terms {x : Operand} {lo hi : Option Operand} {t e l h : Nat} {xs : List Term} [S : Slc P t e 4] (hx : evT T x = .d (.list (encs xs))) (hlo : bndOk T lo 0 l) (hhi : bndOk T hi xs.length h) (hlh : l ≤ h) (hh : h ≤ xs.length) :
    OpV P ro ⟨dst, .slice t x lo hi none, ty, pos, af, g⟩ T O (.d (.list (encs ((xs.take h).drop l)))) O := by
  have := opv_slice (P := P) (ro := ro) (dst := dst) (ty := ty) (pos := pos) (af := af) (g := g) (O := O) (t := t) hx hlo (by rw [encs_len]; exact hhi) hlh (by rw [encs_len]; exact hh) (fun y hy => by rw [encs_map] at hy; obtain ⟨u, _, rfl⟩ := List.mem_map.1 hy; exact enc_cells u)
  simpa only [encs_map, List.map_take, List.map_drop] using this

/-- An own slice that an operation yields is data at once. -/
theorem OpV.shut {o : Oper} {id ver e sz : Nat} {xs : List D} {O1 : List AObj} (h : OpV P ro o T O (.own id ver) O1) (hO : O1[id]? = some (.buf e sz xs ver)) : OpV P ro o T O (.d (.list xs)) (O1.set id .dead) := by
  intro w F γ a I H
  refine Oper.wpIn_mono (fun a' w' ⟨u, F', γ', k1, k2, k3, k4⟩ => ?_) (h w F γ a I H)
  obtain ⟨g', hg, _, hp⟩ := ownAt_val hO k2.2
  obtain ⟨I', E⟩ := k3.upd (w' := w') (F' := fun b => F' b ∨ g'.blk = some b) (o' := .dead) (g' := { blk := none }) hO hg rfl rfl rfl (Nat.le_refl _) (fun _ _ _ => rfl) (fun b h => by cases h) (fun b h => by cases h)
    (fun b h => .inl h) (fun b h => h.imp (fun h => h) (fun h => .inl ⟨h, (k3.blks id g' b hg h).1⟩)) trivial trivial (fun E => rfl)
  exact ⟨u, _, _, k1, own_data k3 hO k2 _ (fun b h => .inl h) (fun g b hg' hb => by rw [hg] at hg'; cases hg'; exact .inr hb), I', k4.trans k3.len E⟩
/-- Two strings, one behind the other. -/
theorem opv_cat {x y : Operand} {t yt : TypeId} {a b : ByteArray} (hx : evT T x = .d (.str a)) (hy : evT T y = .d (.str b)) (h : a.size + b.size ≤ 9223372036854775807) : OpV P ro ⟨dst, .binOp .add t x y yt, ty, pos, af, g⟩ T O (.d (.str (a ++ b))) O :=
  opv_bin hx hy (by simp only [binD, if_pos h])
end
end Go.Proofs.Ythpiggjclhnkcaa.AM
