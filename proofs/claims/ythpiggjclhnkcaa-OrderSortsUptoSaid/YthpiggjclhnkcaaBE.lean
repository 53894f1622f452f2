/- Parts of the call's own slices; slices made; maps of whole numbers. -/
import Derived.Test.YthpiggjclhnkcaaBC
import Derived.Carry
import Derived.MapKept
namespace Go.Proofs.Ythpiggjclhnkcaa.AM
open Go
set_option linter.unusedVariables false
set_option linter.unusedSimpArgs false
section
variable {P : Program} {ro : Option Nat} {N : Nat} {K : Org} {T : Nat → AV} {O : List AObj} {dst : Option Tmp} {ty : TypeId} {pos : String} {af : Array Edge} {g : Option (Nat × Bool)}

theorem opndv {w : World} {F : Nat → Prop} {γ : List GO} {a : Act} {o : Oper} (H : OpndOk w F γ O T a o) {x : Operand} (hx : x ∈ o.op.operands) {k : IntKind} {n : Int} (h : evT T x = .d (.int k n)) : a.eval x = .int k n := H.at hx h

/-- A bound as it is evaluated. -/
def bvOk (ρ : Operand → Value) (x : Option Operand) (d n : Nat) : Prop := match x with
  | none => n = d
  | some y => ∃ k, ρ y = .int k (n : Nat)
theorem bounds_run {w : World} {ρ : Operand → Value} {lo hi mx : Option Operand} {len cap l h m : Nat} (hlo : bvOk ρ lo 0 l) (hhi : bvOk ρ hi len h) (hmh : mx = none ∨ hi ≠ none)
    (hmx : bvOk ρ mx cap m) (h1 : l ≤ h) (h2 : h ≤ m) (h3 : m ≤ cap) : (Instr.sliceBounds true len cap (lo.map ρ) (hi.map ρ) (mx.map ρ)).run P w = .ok (l, h, m) w := by
  unfold Instr.sliceBounds
  cases mx with
  | none =>
    obtain rfl : m = cap := hmx
    cases hi with
    | none =>
      obtain rfl : h = len := hhi
      cases lo with
      | none => obtain rfl : l = 0 := hlo; rfl
      | some x => obtain ⟨k, hk⟩ := hlo; simp only [Option.map_none, Option.map_some, hk, Sem.run_bind, Sem.run_pure, Result.andThen_ok, sliceBound_run h1, Option.isSome_none, Bool.false_eq_true, if_false]
    | some y =>
      obtain ⟨k', hk'⟩ := hhi
      cases lo with
      | none => obtain rfl : l = 0 := hlo; simp only [Option.map_none, Option.map_some, hk', Sem.run_bind, Sem.run_pure, Result.andThen_ok, sliceBound_run h2, if_true]
      | some x => obtain ⟨k, hk⟩ := hlo; simp only [Option.map_none, Option.map_some, hk, hk', Sem.run_bind, Sem.run_pure, Result.andThen_ok, sliceBound_run h1, sliceBound_run h2, Option.isSome_none, Bool.false_eq_true, if_false, if_true]
  | some z =>
    obtain ⟨k2, hk2⟩ := hmx
    cases hi with
    | none => rcases hmh with h | h <;> simp at h
    | some y =>
      obtain ⟨k', hk'⟩ := hhi
      cases lo with
      | none => obtain rfl : l = 0 := hlo; simp only [Option.map_none, Option.map_some, hk', hk2, Sem.run_bind, Sem.run_pure, Result.andThen_ok, sliceBound_run h2, sliceBound_run h3, if_true]
      | some x => obtain ⟨k, hk⟩ := hlo; simp only [Option.map_some, hk, hk', hk2, Sem.run_bind, Sem.run_pure, Result.andThen_ok, sliceBound_run h1, sliceBound_run h2, sliceBound_run h3, Option.isSome_some, if_true]

theorem slice_run {w : World} {a : Act} {x : Operand} {t e sz : Nat} {lo hi mx : Option Operand} {A : Option Addr} {len cap l h m : Nat} [S : Slc P t e sz] (hp : a.eval x = .slice A len cap) (hlo : bvOk a.eval lo 0 l) (hhi : bvOk a.eval hi len h) (hmh : mx = none ∨ hi ≠ none)
    (hmx : bvOk a.eval mx cap m) (h1 : l ≤ h) (h2 : h ≤ m) (h3 : m ≤ cap) :
    (execOp a.eval ⟨dst, .slice t x lo hi mx, ty, pos, af, g⟩).run P w = .ok (.value (.slice (if m = l then A else A.map (·.add (l * sz))) (h - l) (m - l))) w := by
  simp only [execOp, hp, Instr.sliceAt, Sem.run_bind, run_underlying S.und, Result.andThen_ok, Instr.slice, bounds_run hlo hhi hmh hmx h1 h2 h3, run_size_of S.info, Sem.run_pure]

theorem bnd_ev {w : World} {F : Nat → Prop} {γ : List GO} {a : Act} {o : Oper} (H : OpndOk w F γ O T a o) {x : Option Operand} (hx : ∀ y, x = some y → y ∈ o.op.operands) {d n : Nat} (h : bndOk T x d n) : bvOk a.eval x d n := by
  cases x with
  | none => exact h
  | some y => obtain ⟨k, hk⟩ := h; exact ⟨k, opndv H (hx y rfl) hk⟩

/-- A part of a slice of the call's own, to be read. -/
theorem opv_slice_osl {x : Operand} {lo hi : Option Operand} {t e sz l h id ver : Nat} {xs : List D} [S : Slc P t e sz] (hx : evT T x = .own id ver) (hO : O[id]? = some (.buf e sz xs ver)) (hlo : bndOk T lo 0 l) (hhi : bndOk T hi xs.length h) (hlh : l ≤ h) (hh : h ≤ xs.length) :
    OpV P ro ⟨dst, .slice t x lo hi none, ty, pos, af, g⟩ T O (.osl id ver l (h - l)) O :=
  OpV.of_same (fun c h => by cases h) fun w F γ a I H => by
    have h1 := H.at (x := x) (by simp [Op.operands]) hx
    obtain ⟨g', hg, _, hp⟩ := ownAt_val hO h1.2
    have hp := hp rfl
    have hcap : xs.length ≤ g'.cap := by
      rcases I.ok id _ g' hO hg with ⟨_, hx0, _⟩ | ⟨b, cs, hb, hrow, _⟩
      · rw [hx0]; exact Nat.zero_le _
      · exact hrow.2.1
    have hlo' := bnd_ev H (fun y hy => by subst hy; simp [Op.operands]) hlo
    have hhi' := bnd_ev H (fun y hy => by subst hy; simp [Op.operands]) hhi
    refine ⟨_, slice_run (mx := none) (m := g'.cap) (l := l) (h := h) (e := e) (sz := sz) (by rw [hp]; rfl) hlo' hhi' (.inl rfl) rfl hlh (by omega) (Nat.le_refl _), rfl, g', _, hg, hO, Nat.le_refl _, fun _ => ⟨by omega, _, _, rfl, by omega, fun hne => ?_⟩⟩
    rcases I.ok id _ g' hO hg with ⟨_, hx0, _⟩ | ⟨b, cs, hb, hrow, _⟩
    · rw [hx0] at hh; simp at hh; omega
    · refine ⟨b, hb, ?_⟩
      rw [if_neg (by omega), hb]
      simp [add_lit]
theorem opv_len_osl {x : Operand} {t : TypeId} {id ver off n e sz : Nat} {xs : List D} {du : TypeDesc} [S : Slc P t e sz] (hx : evT T x = .osl id ver off n) (hO : O[id]? = some (.buf e sz xs ver)) :
    OpV P ro ⟨dst, .call { callee := .builtin .len, args := #[x], argTypes := #[t] }, ty, pos, af, g⟩ T O (.d (.int .i64 n)) O :=
  OpV.of_same (fun c h => by cases h) fun w F γ ac I H => by
    have h1 := H.at (x := x) (by simp [Op.operands, Call.operands]) hx
    obtain ⟨g', hg, _, hp⟩ := ownAt_val hO h1.2
    obtain ⟨_, A, c, hp, _⟩ := hp rfl
    refine ⟨.int .i64 n, run_builtin (s := Builtin.len_ #[t] ty (#[x].map ac.eval)) (fun _ => rfl) ?_, rfl⟩
    simp [Builtin.len_, run_underlying S.und, hp, goInt]
theorem opv_index_osl {x ix : Operand} {t e sz id ver off n : Nat} {k : IntKind} {i : Int} {xs : List D} [S : Slc P t e sz] (hx : evT T x = .osl id ver off n) (hO : O[id]? = some (.buf e sz xs ver)) (hi : evT T ix = .d (.int k i)) (h0 : 0 ≤ i) (hl : i < n) :
    OpV P ro ⟨dst, .indexAddr t x ix, ty, pos, af, g⟩ T O (.oel id ver (off + i.toNat) 0) O :=
  OpV.of_same (fun c h => by cases h) fun w F γ a I H => by
    have h1 := H.at (x := x) (by simp [Op.operands]) hx
    obtain ⟨g', hg, _, hp⟩ := ownAt_val hO h1.2
    obtain ⟨_, A, c, hp, _, hA⟩ := hp rfl
    have h2 : a.eval ix = .int k i := H.at (x := ix) (by simp [Op.operands]) hi
    obtain ⟨b, hb, rfl⟩ := hA (by omega)
    refine ⟨.pointer (some ⟨b, (off + i.toNat) * sz, none⟩), ?_, rfl, g', _, hg, hO, Nat.le_refl _, fun _ => ⟨b, hb, rfl⟩⟩
    simp only [execOp, hp, h2]
    simp [Instr.indexAt, asIntOf, run_underlying S.und, h0, hl, run_size_of S.info, add_lit, Nat.add_mul]

/-- The first elements of a slice of the call's own, in its place; with a capacity, or without. -/
theorem opv_cut {x : Operand} {hi mx : Option Operand} {t e sz h id ver : Nat} {xs : List D} [S : Slc P t e sz] (hx : evT T x = .own id ver) (hO : O[id]? = some (.buf e sz xs ver)) (hhi : ∃ y k, hi = some y ∧ evT T y = .d (.int k (h : Nat))) (hmx : mx = none ∨ ∃ y k, mx = some y ∧ evT T y = .d (.int k (h : Nat))) (hh : h ≤ xs.length) :
    OpV P ro ⟨dst, .slice t x none hi mx, ty, pos, af, g⟩ T O (.own id (ver + 1)) (O.set id (.buf e sz (xs.take h) (ver + 1))) :=
  OpV.of_run (fun c h => by cases h) fun w F γ a I H => by
    have h1 := H.at (x := x) (by simp [Op.operands]) hx
    obtain ⟨g', hg, _, hp⟩ := ownAt_val hO h1.2
    have hp := hp rfl
    have hok := I.ok id _ g' hO hg
    have hcap : xs.length ≤ g'.cap := by
      rcases hok with ⟨_, hx0, _⟩ | ⟨b, cs, hb, hrow, _⟩
      · rw [hx0]; exact Nat.zero_le _
      · exact hrow.2.1
    obtain ⟨y, k, rfl, hy⟩ := hhi
    have hyv := opndv H (x := y) (by simp [Op.operands]) hy
    obtain ⟨m, hm1, hm2, hm3⟩ : ∃ m, bvOk a.eval mx g'.cap m ∧ h ≤ m ∧ m ≤ g'.cap := by
      rcases hmx with rfl | ⟨z, k', rfl, hz⟩
      · exact ⟨g'.cap, rfl, by omega, Nat.le_refl _⟩
      · exact ⟨h, ⟨k', opndv H (x := z) (by simp [Op.operands]) hz⟩, Nat.le_refl _, by omega⟩
    have hrun := slice_run (P := P) (w := w) (a := a) (dst := dst) (ty := ty) (pos := pos) (af := af) (g := g) (x := x) (t := t) (lo := none) (hi := some y) (mx := mx) (m := m) (l := 0) (h := h) (e := e) (sz := sz) (by rw [hp]; rfl) rfl ⟨k, hyv⟩ (.inr (by simp)) hm1 (Nat.zero_le _) hm2 hm3
    have hidO : id < O.length := (List.getElem?_eq_some_iff.1 hO).1
    have hidγ : id < γ.length := (List.getElem?_eq_some_iff.1 hg).1
    obtain ⟨I', E⟩ := I.upd (w' := w) (F' := F) (o' := .buf e sz (xs.take h) (ver + 1)) (g' := { g' with cap := m }) hO hg rfl rfl rfl (Nat.le_refl _) (fun _ _ _ => rfl) (fun _ h => .inl h) (fun b hb => I.blks id g' b hg hb)
        (fun _ h => h) (fun _ h => .inl h) ⟨rfl, rfl, .inl (Nat.lt_succ_self _)⟩ trivial (fun E => by
          rcases hok with ⟨q1, q2, q3, _⟩ | ⟨b, cs, q1, ⟨r1, r2, r3, cur, r4, r5, r6⟩, q3, q4, _⟩
          · exact .inl ⟨q1, by rw [q2]; simp, by show m = 0; omega, fun h => by cases h⟩
          · refine .inr ⟨b, cs.take (h * sz), q1, ⟨?_, by rw [List.length_take]; show min h _ ≤ m; omega, by show m ≤ maxLen; omega, cur, r4, Nat.le_trans (Nat.mul_le_mul_right _ hm3) r5, ?_⟩, fun u hu => q3 u (List.mem_of_mem_take hu), RE_mk _ 0 fun j z hz => ?_, Nat.succ_pos _⟩
            · have := Nat.mul_le_mul_right sz hh
              rw [List.length_take, List.length_take, r1, Nat.min_eq_left hh, Nat.min_eq_left this]
            · rw [← r6, List.take_take, List.length_take, Nat.min_eq_left hh, Nat.min_eq_left (Nat.mul_le_mul_right sz hh)]
            · rw [List.getElem?_take] at hz
              split at hz
              · rename_i hj
                obtain ⟨v', k1, k2, k3⟩ := RE_get xs 0 j z q4 hz
                refine ⟨v', k1, k2, fun t u ht => ?_⟩
                have htl : t < v'.cells.size := (Array.getElem?_eq_some_iff.1 ht).1
                have : j * sz + sz ≤ h * sz := by rw [← Nat.succ_mul]; exact Nat.mul_le_mul_right _ hj
                rw [Nat.zero_add]
                rw [List.getElem?_take, if_pos (by omega)]
                have := k3 t u ht
                rwa [Nat.zero_add] at this
              · cases hz)
    refine ⟨_, w, F, _, .inl hrun, ⟨rfl, { g' with cap := m }, .buf e sz (xs.take h) (ver + 1), by rw [List.getElem?_set_self hidγ], by rw [List.getElem?_set_self hidO], Nat.le_refl _, fun _ => ?_⟩, I', E⟩
    have key : ∀ A : Option Addr, (if m = 0 then A else A.map (fun ad : Addr => ad.add (0 * sz))) = A := fun A => by cases A <;> simp [Addr.add]
    show Value.slice _ (h - 0) (m - 0) = GO.slice _ (List.take h xs).length
    rw [List.length_take, Nat.min_eq_left hh]
    unfold GO.slice
    rw [Nat.sub_zero, Nat.sub_zero]
    exact congrArg (fun A => Value.slice A h m) (key _)

theorem R_of_RC {w : World} {F : Nat → Prop} {z : D} {us : List Value} (h : D.RC w F z.cells us) : ∃ v : Value, z.R w F v ∧ v.cells.toList = us := by
  have key : z.cells = [z] → ∃ v : Value, z.R w F v ∧ v.cells.toList = us := fun e => by
    rw [e] at h
    obtain ⟨u, us', rfl, h1, h2, h3⟩ := h
    rw [show us' = [] from h3]
    exact ⟨u, h2, by rw [(D.R_one h1 h2).2]⟩
  cases z with
  | agg cs => exact ⟨.agg us.toArray, ⟨us, rfl, h⟩, by simp [Value.cells]⟩
  | _ => exact key rfl

/-! Maps from whole numbers. -/
class Mp (P : Program) (t : TypeId) (k : outParam IntKind) (e : outParam TypeId) : Prop where
  h : ∃ kt, P.underlying t = some (.map kt e) ∧ P.underlying kt = some (.int k)
def mints (k : IntKind) (l : List (Int × D)) : List (D × D) := l.map fun p => (.int k p.1, p.2)
def mfind : List (Int × D) → Int → Option D
  | [], _ => none
  | p :: l, n => if n = p.1 then some p.2 else mfind l n
def mset : List (Int × D) → Int → D → List (Int × D)
  | [], n, x => [(n, x)]
  | p :: l, n, x => if n = p.1 then (n, x) :: l else p :: mset l n x

/-- Where a key stands. -/
def mpos : List (Int × D) → Int → Nat → Option Nat
  | [], _, _ => none
  | p :: l, n, i => if n = p.1 then some i else mpos l n (i + 1)
class Zv (P : Program) (t : TypeId) (z : outParam D) : Prop where
  h : ∃ v : Value, (P.info? t).bind (·.zero) = some v ∧ constAV v = .d z
end
end Go.Proofs.Ythpiggjclhnkcaa.AM

/- Calls that are handed objects that stand elsewhere: the same, with other numbers. -/
namespace Go.Proofs.Ythpiggjclhnkcaa.AM
open Go
set_option linter.unusedVariables false
set_option linter.unusedSimpArgs false
mutual
def AV.shift (k : Nat) : AV → AV
  | .d x => .d x
  | .nil0 => .nil0
  | .nilf => .nilf
  | .own id v => .own (k + id) v
  | .ref id o => .ref (k + id) o
  | .oel id v i o => .oel (k + id) v i o
  | .osl id v o n => .osl (k + id) v o n
  | .mp id => .mp (k + id)
  | .yld id => .yld (k + id)
  | .fn f cs => .fn f (AV.shifts k cs)
  | .tup xs => .tup (AV.shifts k xs)
  | .agg cs => .agg (AV.shifts k cs)
  | .unk => .unk
def AV.shifts (k : Nat) : List AV → List AV
  | [] => []
  | x :: xs => x.shift k :: AV.shifts k xs
end
def AObj.shift (k : Nat) : AObj → AObj
  | .cells cs => .cells (AV.shifts k cs)
  | .buf e sz xs v => .buf e sz xs v
  | .mapo es => .mapo es
  | .loopo T N ps ag bo st pe => .loopo (fun s => (T s).shift k) N ps ag bo st pe
  | .dfro => .dfro
  | .vbuf e xs => .vbuf e (AV.shifts k xs)
  | .dead => .dead
def shiftO (k : Nat) : List AObj → List AObj
  | [] => []
  | o :: l => o.shift k :: shiftO k l
theorem shiftO_map (k : Nat) : ∀ l, shiftO k l = l.map (AObj.shift k)
  | [] => rfl
  | o :: l => by rw [shiftO, shiftO_map k l]; rfl
theorem shiftO_len (k : Nat) (l : List AObj) : (shiftO k l).length = l.length := by rw [shiftO_map, List.length_map]
theorem AV.shift_one (k : Nat) (x : AV) : (x.shift k).one = x.one := by cases x <;> rfl

section
variable {w w' : World} {F F' : Nat → Prop} {γ : List GO} {Op O : List AObj} {k : Nat}
theorem get_right {α : Type} {a b : List α} {k id : Nat} (h : a.length = k) : (a ++ b)[k + id]? = b[id]? := by
  rw [List.getElem?_append_right (by omega)]; congr 1; omega
theorem get_drop {γ : List GO} {k id : Nat} : γ[k + id]? = (γ.drop k)[id]? := by rw [List.getElem?_drop]
theorem getO_shift (hk : Op.length = k) (id : Nat) : (Op ++ shiftO k O)[k + id]? = (O[id]?).map (AObj.shift k) := by rw [get_right hk, shiftO_map, List.getElem?_map]

theorem AV.shifts_nil : ∀ (k : Nat) (xs : List AV), (AV.shifts k xs).map (fun _ => D.nilp) = xs.map fun _ => D.nilp
  | k, [] => rfl
  | k, x :: xs => by simp [AV.shifts, AV.shifts_nil k xs]
theorem AV.shifts_len : ∀ (k : Nat) (xs : List AV), (AV.shifts k xs).length = xs.length
  | k, [] => rfl
  | k, x :: xs => by simp [AV.shifts, AV.shifts_len k xs]
theorem ownAt_shift (hk : Op.length = k) {id ver : Nat} {P : GO → Nat → List D → Prop} : ownAt (Op ++ shiftO k O) γ (k + id) ver P ↔ ownAt O (γ.drop k) id ver P := by
  unfold ownAt
  rw [getO_shift hk, get_drop]
  cases O[id]? with
  | none => simp
  | some o => cases o <;> simp [AObj.shift, AV.shifts_nil]
theorem refAt_shift (hk : Op.length = k) {id : Nat} {P : Nat → Prop} : refAt (Op ++ shiftO k O) γ (k + id) P ↔ refAt O (γ.drop k) id P := by
  unfold refAt
  rw [getO_shift hk, get_drop]
  cases O[id]? with
  | none => simp
  | some o => cases o <;> simp [AObj.shift]
theorem mapAt_shift (hk : Op.length = k) {id : Nat} {P : Nat → Prop} : mapAt (Op ++ shiftO k O) γ (k + id) P ↔ mapAt O (γ.drop k) id P := by
  unfold mapAt
  rw [getO_shift hk, get_drop]
  cases O[id]? with
  | none => simp
  | some o => cases o <;> simp [AObj.shift]
theorem loopAt_shift (hk : Op.length = k) {id : Nat} {P : Nat → Prop} : loopAt (Op ++ shiftO k O) γ (k + id) P ↔ loopAt O (γ.drop k) id P := by
  unfold loopAt
  rw [getO_shift hk, get_drop]
  cases O[id]? with
  | none => simp
  | some o => cases o <;> simp [AObj.shift]
mutual
theorem AV.V_shift (hk : Op.length = k) : ∀ (x : AV) (v : Value), (x.shift k).V w F γ (Op ++ shiftO k O) v ↔ x.V w F (γ.drop k) O v
  | .d x, v => Iff.rfl
  | .nil0, v => Iff.rfl
  | .nilf, v => Iff.rfl
  | .own id ver, v => and_congr Iff.rfl (ownAt_shift hk)
  | .ref id off, v => and_congr Iff.rfl (refAt_shift hk)
  | .oel id ver i off, v => and_congr Iff.rfl (ownAt_shift hk)
  | .osl id ver off n, v => and_congr Iff.rfl (ownAt_shift hk)
  | .mp id, v => and_congr Iff.rfl (mapAt_shift hk)
  | .yld id, v => and_congr Iff.rfl (loopAt_shift hk)
  | .fn f caps, v => exists_congr fun us => and_congr Iff.rfl (AV.Vs_shift hk caps us)
  | .tup xs, v => exists_congr fun us => and_congr Iff.rfl (AV.Vs_shift hk xs us)
  | .agg cs, v => exists_congr fun us => and_congr Iff.rfl (AV.VC_shift hk cs us)
  | .unk, v => Iff.rfl
theorem AV.Vs_shift (hk : Op.length = k) : ∀ (xs : List AV) (us : List Value), AV.Vs w F γ (Op ++ shiftO k O) (AV.shifts k xs) us ↔ AV.Vs w F (γ.drop k) O xs us
  | [], us => Iff.rfl
  | c :: cs, us => exists_congr fun u => exists_congr fun us' => and_congr Iff.rfl (and_congr (AV.V_shift hk c u) (AV.Vs_shift hk cs us'))
theorem AV.VC_shift (hk : Op.length = k) : ∀ (xs : List AV) (us : List Value), AV.VC w F γ (Op ++ shiftO k O) (AV.shifts k xs) us ↔ AV.VC w F (γ.drop k) O xs us
  | [], us => Iff.rfl
  | c :: cs, us => exists_congr fun u => exists_congr fun us' => and_congr Iff.rfl (and_congr (by rw [AV.shift_one]) (and_congr (AV.V_shift hk c u) (AV.VC_shift hk cs us')))
end
mutual
theorem AV.bd_shift {n : Nat} : ∀ (x : AV), (x.shift k).bd (k + n) ↔ x.bd n
  | .d x => Iff.rfl
  | .nil0 => Iff.rfl
  | .nilf => Iff.rfl
  | .own id ver => Nat.add_lt_add_iff_left
  | .ref id off => Nat.add_lt_add_iff_left
  | .oel id ver i off => Nat.add_lt_add_iff_left
  | .osl id ver off n => Nat.add_lt_add_iff_left
  | .mp id => Nat.add_lt_add_iff_left
  | .yld id => Nat.add_lt_add_iff_left
  | .fn f caps => AV.bds_shift caps
  | .tup xs => AV.bds_shift xs
  | .agg cs => AV.bds_shift cs
  | .unk => Iff.rfl
theorem AV.bds_shift {n : Nat} : ∀ (xs : List AV), AV.bds (k + n) (AV.shifts k xs) ↔ AV.bds n xs
  | [] => Iff.rfl
  | c :: cs => and_congr (AV.bd_shift c) (AV.bds_shift cs)
end
theorem AObj.bd_shift {n : Nat} : ∀ (o : AObj), (o.shift k).bd (k + n) ↔ o.bd n
  | .cells cs => AV.bds_shift cs
  | .buf e sz xs v => Iff.rfl
  | .mapo es => Iff.rfl
  | .loopo T N ps ag bo st pe => forall_congr' fun s => imp_congr Iff.rfl (AV.bd_shift (T s))
  | .dfro => Iff.rfl
  | .vbuf e cs => AV.bds_shift cs
  | .dead => Iff.rfl
theorem OkObj.shift (hk : Op.length = k) (g : GO) : ∀ (o : AObj), OkObj w F γ (Op ++ shiftO k O) (o.shift k) g ↔ OkObj w F (γ.drop k) O o g
  | .cells cs => exists_congr fun b => exists_congr fun us => exists_congr fun t => and_congr Iff.rfl (and_congr Iff.rfl (AV.VC_shift hk cs us))
  | .buf e sz xs v => Iff.rfl
  | .mapo es => Iff.rfl
  | .loopo T N ps ag bo st pe => exists_congr fun b => exists_congr fun fn => exists_congr fun tmps => exists_congr fun df => and_congr Iff.rfl (and_congr Iff.rfl (and_congr Iff.rfl (forall_congr' fun s => imp_congr Iff.rfl (AV.V_shift hk _ _))))
  | .dfro => Iff.rfl
  | .vbuf e cs => exists_congr fun b => exists_congr fun us => and_congr Iff.rfl (and_congr Iff.rfl (AV.VC_shift hk cs us))
  | .dead => Iff.rfl

theorem Inv.shifted (hk : Op.length = k) (I : Inv w F γ (Op ++ shiftO k O)) : Inv w F (γ.drop k) O := by
  have hl := I.len
  simp only [List.length_append, shiftO_len] at hl
  refine ⟨by simp; omega, fun i o g ho hg => ?_, fun i o ho => ?_, fun i g b hg hb => I.blks (k + i) g b (by rw [get_drop]; exact hg) hb, fun i j g g' b h1 h2 h3 h4 => ?_, I.fr⟩
  · exact (OkObj.shift hk g o).1 (I.ok (k + i) _ g (by rw [getO_shift hk, ho]; rfl) (by rw [get_drop]; exact hg))
  · have := I.bd (k + i) _ (by rw [getO_shift hk, ho]; rfl)
    exact (AObj.bd_shift o).1 (by rw [← Nat.add_assoc]; exact this)
  · have := I.inj (k + i) (k + j) g g' b (by rw [get_drop]; exact h1) (by rw [get_drop]; exact h2) h3 h4
    omega

/-- The last objects have gone on by themselves. -/
theorem Inv.rejoinR (hk : Op.length = k) (I : Inv w F γ (Op ++ shiftO k O)) {γ1 : List GO} {O1 : List AObj} (I1 : Inv w' F' γ1 O1) (E : Evo w F (γ.drop k) O w' F' γ1 O1) :
    Inv w' F' (γ.take k ++ γ1) (Op ++ shiftO k O1) ∧ Evo w F γ (Op ++ shiftO k O) w' F' (γ.take k ++ γ1) (Op ++ shiftO k O1) := by
  have hl := I.len
  simp only [List.length_append, shiftO_len] at hl
  have hkγ : (γ.take k).length = k := by simp; omega
  have hd : (γ.take k ++ γ1).drop k = γ1 := by rw [List.drop_append_of_le_length (by omega), List.drop_of_length_le (by omega)]; rfl
  have getL : ∀ i, i < k → (γ.take k ++ γ1)[i]? = γ[i]? := fun i h => by rw [List.getElem?_append_left (by omega), List.getElem?_take_of_lt h]
  have getR : ∀ i, (γ.take k ++ γ1)[k + i]? = γ1[i]? := fun i => get_right hkγ
  have getOL : ∀ (X : List AObj) i, i < k → (Op ++ X)[i]? = Op[i]? := fun X i h => List.getElem?_append_left (by omega)
  have split : ∀ i, i < k ∨ ∃ j, i = k + j := fun i => by
    by_cases h : i < k
    · exact .inl h
    · exact .inr ⟨i - k, by omega⟩
  have keepL : ∀ (i : Nat) (g : GO) (b : Nat), i < k → γ[i]? = some g → g.blk = some b → w'.heap[b]? = w.heap[b]? := by
    intro i g b hi hg hb
    refine E.old b (I.blks i g b hg hb).1 fun j g' hj hb' => ?_
    have := I.inj i (k + j) g g' b hg (by rw [get_drop]; exact hj) hb hb'
    omega
  have E2 : Evo w F γ (Op ++ shiftO k O) w' F' (γ.take k ++ γ1) (Op ++ shiftO k O1) := by
    refine ⟨E.os, E.tape, E.output, E.size, fun b hb hn => E.old b hb fun i g hg => hn (k + i) g (by rw [get_drop]; exact hg), fun i g b hg hb => ?_, E.frm, fun b hb hf => ?_, fun i o o' g g' h1 h2 h3 h4 => ?_, by have := E.len; simp [shiftO_len]; omega⟩
    · rcases split i with hi | ⟨j, rfl⟩
      · rw [getL i hi] at hg; exact .inl ⟨i, g, hg, hb⟩
      · rw [getR] at hg
        rcases E.mine j g b hg hb with ⟨j', g', e1, e2⟩ | h
        · exact .inl ⟨k + j', g', by rw [get_drop]; exact e1, e2⟩
        · exact .inr h
    · rcases E.frn b hb hf with h | ⟨j, g', e1, e2⟩
      · exact .inl h
      · exact .inr ⟨k + j, g', by rw [get_drop]; exact e1, e2⟩
    · rcases split i with hi | ⟨j, rfl⟩
      · rw [getL i hi] at h4
        rw [getOL _ i hi] at h1 h3
        rw [h1] at h3; rw [h2] at h4; cases h3; cases h4
        exact Stab.refl _ _
      · rw [getR] at h4
        rw [getO_shift hk] at h1 h3
        rw [get_drop] at h2
        obtain ⟨p, hp, rfl⟩ := Option.map_eq_some_iff.1 h1
        obtain ⟨p', hp', rfl⟩ := Option.map_eq_some_iff.1 h3
        have := E.stab j p p' g g' hp h2 hp' h4
        cases p <;> cases p' <;> first | exact this | exact ⟨this.1, by rw [AV.shifts_len, AV.shifts_len]; exact this.2⟩
  have hlen : (γ.take k ++ γ1).length = (Op ++ shiftO k O1).length := by have := I1.len; simp [shiftO_len]; omega
  refine ⟨⟨hlen, fun i o g ho hg => ?_, fun i o ho => ?_, fun i g b hg hb => ?_, fun i j g g' b h1 h2 h3 h4 => ?_, I1.fr⟩, E2⟩
  · rcases split i with hi | ⟨j, rfl⟩
    · rw [getL i hi] at hg
      rw [getOL _ i hi] at ho
      exact (I.ok i o g (by rw [getOL _ i hi]; exact ho) hg).evo I E2 hlen fun b hb => keepL i g b hi hg hb
    · rw [getR] at hg
      rw [getO_shift hk] at ho
      obtain ⟨p, hp, rfl⟩ := Option.map_eq_some_iff.1 ho
      exact (OkObj.shift hk g p).2 (by rw [hd]; exact I1.ok j p g hp hg)
  · rcases split i with hi | ⟨j, rfl⟩
    · rw [getOL _ i hi] at ho; exact I.bd i o (by rw [getOL _ i hi]; exact ho)
    · rw [getO_shift hk] at ho
      obtain ⟨p, hp, rfl⟩ := Option.map_eq_some_iff.1 ho
      have := (AObj.bd_shift (k := k) p).2 (I1.bd j p hp)
      rwa [← Nat.add_assoc] at this
  · rcases split i with hi | ⟨j, rfl⟩
    · rw [getL i hi] at hg
      obtain ⟨k1, k2⟩ := I.blks i g b hg hb
      refine ⟨Nat.lt_of_lt_of_le k1 E.size, fun hF => ?_⟩
      rcases E.frn b k1 hF with h | ⟨j, g', e1, e2⟩
      · exact k2 h
      · have := I.inj i (k + j) g g' b hg (by rw [get_drop]; exact e1) hb e2
        omega
    · rw [getR] at hg; exact I1.blks j g b hg hb
  · have cross : ∀ (i j : Nat) (g g' : GO), i < k → γ[i]? = some g → γ1[j]? = some g' → g.blk = some b → g'.blk = some b → False := by
      intro i j g g' hi h1 h2 h3 h4
      rcases E.mine j g' b h2 h4 with ⟨j', g2, e1, e2⟩ | h
      · have := I.inj i (k + j') g g2 b h1 (by rw [get_drop]; exact e1) h3 e2
        omega
      · have := (I.blks i g b h1 h3).1
        omega
    rcases split i with hi | ⟨i', rfl⟩ <;> rcases split j with hj | ⟨j', rfl⟩
    · rw [getL i hi] at h1; rw [getL j hj] at h2; exact I.inj i j g g' b h1 h2 h3 h4
    · rw [getL i hi] at h1; rw [getR] at h2; exact (cross i j' g g' hi h1 h2 h3 h4).elim
    · rw [getR] at h1; rw [getL j hj] at h2; exact (cross j i' g' g hj h2 h1 h4 h3).elim
    · rw [getR] at h1 h2; have := I1.inj i' j' g g' b h1 h2 h3 h4; omega
end

/-- A CALL OVER OBJECTS THAT STAND BEHIND OTHERS. -/
theorem Fn.shift {P : Program} {f : FuncId} {ys : List AV} {O : List AObj} {v : AV} {O1 : List AObj} (h : Fn P f ys O v O1) (Op : List AObj) : Fn P f (AV.shifts Op.length ys) (Op ++ shiftO Op.length O) (v.shift Op.length) (Op ++ shiftO Op.length O1) := by
  intro w F γ vs I hV
  refine (h w F (γ.drop Op.length) vs (I.shifted rfl) ((AV.Vs_shift rfl ys vs).1 hV)).mono fun e w' ⟨u, x, F', γ', O', he, hx, I', E, hxv, hO⟩ => ?_
  subst hxv; subst hO
  obtain ⟨I2, E2⟩ := I.rejoinR rfl I' E
  have hd : (γ.take Op.length ++ γ').drop Op.length = γ' := by
    have hl := I.len
    simp only [List.length_append, shiftO_len] at hl
    rw [List.drop_append_of_le_length (by simp; omega), List.drop_of_length_le (by simp; omega)]; rfl
  exact ⟨u, _, F', _, _, he, (AV.V_shift rfl x u).2 (by rw [hd]; exact hx), I2, E2, rfl, rfl⟩

section
variable {P : Program} {ro : Option Nat} {N : Nat} {K : Org} {T : Nat → AV} {O : List AObj} {dst : Option Tmp} {ty : TypeId} {pos : String} {af : Array Edge} {g : Option (Nat × Bool)}
/-- The call that makes objects. -/
theorem opv_callN {c : Operand} {xs : Array Operand} {ts : Array TypeId} {f : FuncId} {ys : List AV} {v : AV} {O1 : List AObj} (k : Nat) [S : Fnc P f]
    (h : Fn P f ys [] v O1) (hc : evT T c = .fn f []) (hk : O.length = k) (hx : xs.toList.map (evT T) = AV.shifts k ys) :
    OpV P ro ⟨dst, .call { callee := .value c, args := xs, argTypes := ts }, ty, pos, af, g⟩ T O (v.shift k) (O ++ shiftO k O1) := by
  subst hk
  have h2 := h.shift O
  refine opv_call (ys := AV.shifts O.length ys) hc hx ?_
  rw [List.append_nil]
  simpa [shiftO] using h2
end
end Go.Proofs.Ythpiggjclhnkcaa.AM
