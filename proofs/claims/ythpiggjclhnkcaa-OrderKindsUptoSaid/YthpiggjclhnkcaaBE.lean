/- Parts of the call's own slices; slices made; maps of whole numbers. -/
import Derived.Test.YthpiggjclhnkcaaBC
import Derived.Carry
import Derived.MapKept
namespace Go.Proofs.Ythpiggjclhnkcaa.AM
open Go
set_option linter.unusedVariables false
set_option linter.unusedSimpArgs false
section
variable {P : Program} {ro : Option Nat} {N : Nat} {K : Org} {T : Nat → AV} {O : List AObj} {dst : Option Tmp} {ty : TypeId} {pos : String} {af : Array Edge} {g : Option (Nat × Bool)}

theorem opndv {w : World} {F : Nat → Prop} {γ : List GO} {a : Act} {o : Oper} (H : OpndOk w F γ O T a o) {x : Operand} (hx : x ∈ o.op.operands) {k : IntKind} {n : Int} (h : evT T x = .d (.int k n)) : a.eval x = .int k n := H.at hx h

/-- A bound as it is evaluated. -/
def bvOk (ρ : Operand → Value) (x : Option Operand) (d n : Nat) : Prop := match x with
  | none => n = d
  | some y => ∃ k, ρ y = .int k (n : Nat)
theorem bounds_run {w : World} {ρ : Operand → Value} {lo hi mx : Option Operand} {len cap l h m : Nat} (hlo : bvOk ρ lo 0 l) (hhi : bvOk ρ hi len h) (hmh : mx = none ∨ hi ≠ none)
    (hmx : bvOk ρ mx cap m) (h1 : l ≤ h) (h2 : h ≤ m) (h3 : m ≤ cap) : (Instr.sliceBounds true len cap (lo.map ρ) (hi.map ρ) (mx.map ρ)).run P w = .ok (l, h, m) w := by
  unfold Instr.sliceBounds
  cases mx with
  | none =>
    obtain rfl : m = cap := hmx
    cases hi with
    | none =>
      obtain rfl : h = len := hhi
      cases lo with
      | none => obtain rfl : l = 0 := hlo; rfl
      | some x => obtain ⟨k, hk⟩ := hlo; simp only [Option.map_none, Option.map_some, hk, Sem.run_bind, Sem.run_pure, Result.andThen_ok, sliceBound_run h1, Option.isSome_none, Bool.false_eq_true, if_false]
    | some y =>
      obtain ⟨k', hk'⟩ := hhi
      cases lo with
      | none => obtain rfl : l = 0 := hlo; simp only [Option.map_none, Option.map_some, hk', Sem.run_bind, Sem.run_pure, Result.andThen_ok, sliceBound_run h2, if_true]
      | some x => obtain ⟨k, hk⟩ := hlo; simp only [Option.map_none, Option.map_some, hk, hk', Sem.run_bind, Sem.run_pure, Result.andThen_ok, sliceBound_run h1, sliceBound_run h2, Option.isSome_none, Bool.false_eq_true, if_false, if_true]
  | some z =>
    obtain ⟨k2, hk2⟩ := hmx
    cases hi with
    | none => rcases hmh with h | h <;> simp at h
    | some y =>
      obtain ⟨k', hk'⟩ := hhi
      cases lo with
      | none => obtain rfl : l = 0 := hlo; simp only [Option.map_none, Option.map_some, hk', hk2, Sem.run_bind, Sem.run_pure, Result.andThen_ok, sliceBound_run h2, sliceBound_run h3, if_true]
      | some x => obtain ⟨k, hk⟩ := hlo; simp only [Option.map_some, hk, hk', hk2, Sem.run_bind, Sem.run_pure, Result.andThen_ok, sliceBound_run h1, sliceBound_run h2, sliceBound_run h3, Option.isSome_some, if_true]

theorem slice_run {w : World} {a : Act} {x : Operand} {t e sz : Nat} {lo hi mx : Option Operand} {A : Option Addr} {len cap l h m : Nat} [S : Slc P t e sz] (hp : a.eval x = .slice A len cap) (hlo : bvOk a.eval lo 0 l) (hhi : bvOk a.eval hi len h) (hmh : mx = none ∨ hi ≠ none)
    (hmx : bvOk a.eval mx cap m) (h1 : l ≤ h) (h2 : h ≤ m) (h3 : m ≤ cap) :
    (execOp a.eval ⟨dst, .slice t x lo hi mx, ty, pos, af, g⟩).run P w = .ok (.value (.slice (if m = l then A else A.map (·.add (l * sz))) (h - l) (m - l))) w := by
  simp only [execOp, hp, Instr.sliceAt, Sem.run_bind, run_underlying S.und, Result.andThen_ok, Instr.slice, bounds_run hlo hhi hmh hmx h1 h2 h3, run_size_of S.info, Sem.run_pure]

theorem bnd_ev {w : World} {F : Nat → Prop} {γ : List GO} {a : Act} {o : Oper} (H : OpndOk w F γ O T a o) {x : Option Operand} (hx : ∀ y, x = some y → y ∈ o.op.operands) {d n : Nat} (h : bndOk T x d n) : bvOk a.eval x d n := by
  cases x with
  | none => exact h
  | some y => obtain ⟨k, hk⟩ := h; exact ⟨k, opndv H (hx y rfl) hk⟩

/-- A part of a slice of the call's own, to be read. -/
theorem opv_slice_osl {x : Operand} {lo hi : Option Operand} {t e sz l h id ver : Nat} {xs : List D} [S : Slc P t e sz] (hx : evT T x = .own id ver) (hO : O[id]? = some (.buf e sz xs ver)) (hlo : bndOk T lo 0 l) (hhi : bndOk T hi xs.length h) (hlh : l ≤ h) (hh : h ≤ xs.length) :
    OpV P ro ⟨dst, .slice t x lo hi none, ty, pos, af, g⟩ T O (.osl id ver l (h - l)) O :=
  OpV.of_same (fun c h => by cases h) fun w F γ a I H => by
    have h1 := H.at (x := x) (by simp [Op.operands]) hx
    obtain ⟨g', hg, _, hp⟩ := ownAt_val hO h1.2
    have hp := hp rfl
    have hcap : xs.length ≤ g'.cap := by
      rcases I.ok id _ g' hO hg with ⟨_, hx0, _⟩ | ⟨b, cs, hb, hrow, _⟩
      · rw [hx0]; exact Nat.zero_le _
      · exact hrow.2.1
    have hlo' := bnd_ev H (fun y hy => by subst hy; simp [Op.operands]) hlo
    have hhi' := bnd_ev H (fun y hy => by subst hy; simp [Op.operands]) hhi
    refine ⟨_, slice_run (mx := none) (m := g'.cap) (l := l) (h := h) (e := e) (sz := sz) (by rw [hp]; rfl) hlo' hhi' (.inl rfl) rfl hlh (by omega) (Nat.le_refl _), rfl, g', _, hg, hO, Nat.le_refl _, fun _ => ⟨by omega, _, _, rfl, by omega, fun hne => ?_⟩⟩
    rcases I.ok id _ g' hO hg with ⟨_, hx0, _⟩ | ⟨b, cs, hb, hrow, _⟩
    · rw [hx0] at hh; simp at hh; omega
    · refine ⟨b, hb, ?_⟩
      rw [if_neg (by omega), hb]
      simp [add_lit]
theorem opv_len_osl {x : Operand} {t : TypeId} {id ver off n e sz : Nat} {xs : List D} {du : TypeDesc} [S : Slc P t e sz] (hx : evT T x = .osl id ver off n) (hO : O[id]? = some (.buf e sz xs ver)) :
    OpV P ro ⟨dst, .call { callee := .builtin .len, args := #[x], argTypes := #[t] }, ty, pos, af, g⟩ T O (.d (.int .i64 n)) O :=
  OpV.of_same (fun c h => by cases h) fun w F γ ac I H => by
    have h1 := H.at (x := x) (by simp [Op.operands, Call.operands]) hx
    obtain ⟨g', hg, _, hp⟩ := ownAt_val hO h1.2
    obtain ⟨_, A, c, hp, _⟩ := hp rfl
    refine ⟨.int .i64 n, run_builtin (s := Builtin.len_ #[t] ty (#[x].map ac.eval)) (fun _ => rfl) ?_, rfl⟩
    simp [Builtin.len_, run_underlying S.und, hp, goInt]
theorem opv_index_osl {x ix : Operand} {t e sz id ver off n : Nat} {k : IntKind} {i : Int} {xs : List D} [S : Slc P t e sz] (hx : evT T x = .osl id ver off n) (hO : O[id]? = some (.buf e sz xs ver)) (hi : evT T ix = .d (.int k i)) (h0 : 0 ≤ i) (hl : i < n) :
    OpV P ro ⟨dst, .indexAddr t x ix, ty, pos, af, g⟩ T O (.oel id ver (off + i.toNat) 0) O :=
  OpV.of_same (fun c h => by cases h) fun w F γ a I H => by
    have h1 := H.at (x := x) (by simp [Op.operands]) hx
    obtain ⟨g', hg, _, hp⟩ := ownAt_val hO h1.2
    obtain ⟨_, A, c, hp, _, hA⟩ := hp rfl
    have h2 : a.eval ix = .int k i := H.at (x := ix) (by simp [Op.operands]) hi
    obtain ⟨b, hb, rfl⟩ := hA (by omega)
    refine ⟨.pointer (some ⟨b, (off + i.toNat) * sz, none⟩), ?_, rfl, g', _, hg, hO, Nat.le_refl _, fun _ => ⟨b, hb, rfl⟩⟩
    simp only [execOp, hp, h2]
    simp [Instr.indexAt, asIntOf, run_underlying S.und, h0, hl, run_size_of S.info, add_lit, Nat.add_mul]

/-- The first elements of a slice of the call's own, in its place; with a capacity, or without. -/
theorem opv_cut {x : Operand} {hi mx : Option Operand} {t e sz h id ver : Nat} {xs : List D} [S : Slc P t e sz] (hx : evT T x = .own id ver) (hO : O[id]? = some (.buf e sz xs ver)) (hhi : ∃ y k, hi = some y ∧ evT T y = .d (.int k (h : Nat))) (hmx : mx = none ∨ ∃ y k, mx = some y ∧ evT T y = .d (.int k (h : Nat))) (hh : h ≤ xs.length) :
    OpV P ro ⟨dst, .slice t x none hi mx, ty, pos, af, g⟩ T O (.own id (ver + 1)) (O.set id (.buf e sz (xs.take h) (ver + 1))) :=
  OpV.of_run (fun c h => by cases h) fun w F γ a I H => by
    have h1 := H.at (x := x) (by simp [Op.operands]) hx
    obtain ⟨g', hg, _, hp⟩ := ownAt_val hO h1.2
    have hp := hp rfl
    have hok := I.ok id _ g' hO hg
    have hcap : xs.length ≤ g'.cap := by
      rcases hok with ⟨_, hx0, _⟩ | ⟨b, cs, hb, hrow, _⟩
      · rw [hx0]; exact Nat.zero_le _
      · exact hrow.2.1
    obtain ⟨y, k, rfl, hy⟩ := hhi
    have hyv := opndv H (x := y) (by simp [Op.operands]) hy
    obtain ⟨m, hm1, hm2, hm3⟩ : ∃ m, bvOk a.eval mx g'.cap m ∧ h ≤ m ∧ m ≤ g'.cap := by
      rcases hmx with rfl | ⟨z, k', rfl, hz⟩
      · exact ⟨g'.cap, rfl, by omega, Nat.le_refl _⟩
      · exact ⟨h, ⟨k', opndv H (x := z) (by simp [Op.operands]) hz⟩, Nat.le_refl _, by omega⟩
    have hrun := slice_run (P := P) (w := w) (a := a) (dst := dst) (ty := ty) (pos := pos) (af := af) (g := g) (x := x) (t := t) (lo := none) (hi := some y) (mx := mx) (m := m) (l := 0) (h := h) (e := e) (sz := sz) (by rw [hp]; rfl) rfl ⟨k, hyv⟩ (.inr (by simp)) hm1 (Nat.zero_le _) hm2 hm3
    have hidO : id < O.length := (List.getElem?_eq_some_iff.1 hO).1
    have hidγ : id < γ.length := (List.getElem?_eq_some_iff.1 hg).1
    obtain ⟨I', E⟩ := I.upd (w' := w) (F' := F) (o' := .buf e sz (xs.take h) (ver + 1)) (g' := { g' with cap := m }) hO hg rfl rfl rfl (Nat.le_refl _) (fun _ _ _ => rfl) (fun _ h => .inl h) (fun b hb => I.blks id g' b hg hb)
        (fun _ h => h) (fun _ h => .inl h) ⟨rfl, rfl, .inl (Nat.lt_succ_self _)⟩ trivial (fun E => by
          rcases hok with ⟨q1, q2, q3, _⟩ | ⟨b, cs, q1, ⟨r1, r2, r3, cur, r4, r5, r6⟩, q3, q4, _⟩
          · exact .inl ⟨q1, by rw [q2]; simp, by show m = 0; omega, fun h => by cases h⟩
          · refine .inr ⟨b, cs.take (h * sz), q1, ⟨?_, by rw [List.length_take]; show min h _ ≤ m; omega, by show m ≤ maxLen; omega, cur, r4, Nat.le_trans (Nat.mul_le_mul_right _ hm3) r5, ?_⟩, fun u hu => q3 u (List.mem_of_mem_take hu), RE_mk _ 0 fun j z hz => ?_, Nat.succ_pos _⟩
            · have := Nat.mul_le_mul_right sz hh
              rw [List.length_take, List.length_take, r1, Nat.min_eq_left hh, Nat.min_eq_left this]
            · rw [← r6, List.take_take, List.length_take, Nat.min_eq_left hh, Nat.min_eq_left (Nat.mul_le_mul_right sz hh)]
            · rw [List.getElem?_take] at hz
              split at hz
              · rename_i hj
                obtain ⟨v', k1, k2, k3⟩ := RE_get xs 0 j z q4 hz
                refine ⟨v', k1, k2, fun t u ht => ?_⟩
                have htl : t < v'.cells.size := (Array.getElem?_eq_some_iff.1 ht).1
                have : j * sz + sz ≤ h * sz := by rw [← Nat.succ_mul]; exact Nat.mul_le_mul_right _ hj
                rw [Nat.zero_add]
                rw [List.getElem?_take, if_pos (by omega)]
                have := k3 t u ht
                rwa [Nat.zero_add] at this
              · cases hz)
    refine ⟨_, w, F, _, .inl hrun, ⟨rfl, { g' with cap := m }, .buf e sz (xs.take h) (ver + 1), by rw [List.getElem?_set_self hidγ], by rw [List.getElem?_set_self hidO], Nat.le_refl _, fun _ => ?_⟩, I', E⟩
    have key : ∀ A : Option Addr, (if m = 0 then A else A.map (fun ad : Addr => ad.add (0 * sz))) = A := fun A => by cases A <;> simp [Addr.add]
    show Value.slice _ (h - 0) (m - 0) = GO.slice _ (List.take h xs).length
    rw [List.length_take, Nat.min_eq_left hh]
    unfold GO.slice
    rw [Nat.sub_zero, Nat.sub_zero]
    exact congrArg (fun A => Value.slice A h m) (key _)

theorem R_of_RC {w : World} {F : Nat → Prop} {z : D} {us : List Value} (h : D.RC w F z.cells us) : ∃ v : Value, z.R w F v ∧ v.cells.toList = us := by
  have key : z.cells = [z] → ∃ v : Value, z.R w F v ∧ v.cells.toList = us := fun e => by
    rw [e] at h
    obtain ⟨u, us', rfl, h1, h2, h3⟩ := h
    rw [show us' = [] from h3]
    exact ⟨u, h2, by rw [(D.R_one h1 h2).2]⟩
  cases z with
  | agg cs => exact ⟨.agg us.toArray, ⟨us, rfl, h⟩, by simp [Value.cells]⟩
  | _ => exact key rfl

/-- A slice made: the call's own. -/
theorem opv_make {x y : Operand} {t e sz by_ n : Nat} {k k' : IntKind} {z : D} [S : Slc P t e sz] [Z : Ze P e (z.cells.map .d)] [B : Byt P e by_] (hx : evT T x = .d (.int k (n : Nat))) (hy : evT T y = .d (.int k' (n : Nat))) (hn : n ≤ 1073741824) (hz : Nat.beq z.cells.length sz = true := by rfl) (hby : Nat.ble by_ 4096 = true := by rfl) (hsz : Nat.ble 1 sz = true := by rfl) :
    OpV P ro ⟨dst, .makeSlice t x y, ty, pos, af, g⟩ T O (.own O.length 1) (O ++ [.buf e sz (List.replicate n z) 1]) :=
  OpV.of_run (fun c h => by cases h) fun w F γ a I H => by
    have h1 := opndv H (x := x) (by simp [Op.operands]) hx
    have h2 := opndv H (x := y) (by simp [Op.operands]) hy
    obtain ⟨zv, hzv, hze, hzo⟩ := Z.h
    obtain ⟨i, hi, hzz⟩ := Option.bind_eq_some_iff.1 hzv
    obtain ⟨i', hi', hsize⟩ := Option.map_eq_some_iff.1 S.info
    rw [hi] at hi'; cases hi'
    obtain ⟨i', hi', hbyt⟩ := Option.map_eq_some_iff.1 B.h
    rw [hi] at hi'; cases hi'
    have hzl : z.cells.length = sz := Nat.eq_of_beq_eq_true hz
    have hzs : zv.cells.size = sz := by have := congrArg List.length hze; simp at this; omega
    have hsz' : 1 ≤ sz := Nat.le_of_ble_eq_true hsz
    have hbb := bytes_of hn hby
    obtain ⟨w', hr, hown, hgr⟩ := run_make_full (P := P) w 0 t e i zv sz S.und hi hzz hsize k k' n (by rw [hbyt, Nat.mul_comm]; omega) (maxLen_of hn) (Nat.zero_le _)
    have hrow := Row.of_owns hown
    have hb : w.heap.size < w'.heap.size := by obtain ⟨_, _, _, cur, hh, _⟩ := hrow; exact (Array.getElem?_eq_some_iff.1 hh).1
    have hzRC : D.RC w F z.cells zv.cells.toList := RC_of_VC z.cells _ (by have := zero_VC (w := w) (F := F) (γ := γ) (O := O) zv.cells.toList (by rw [hze]; exact hzo); rw [hze] at this; exact this)
    obtain ⟨v, hv1, hv2⟩ := R_of_RC hzRC
    have hvs : v.cells.size = sz := by rw [← hzs, ← Array.length_toList, hv2, Array.length_toList]
    obtain ⟨I', E⟩ := I.push (w' := w') (.buf e sz (List.replicate n z) 1) { blk := some w.heap.size, cap := n } hgr.os hgr.tape hgr.output hgr.size (fun b hb => hgr.block b hb (by simp)) (fun b hb' => by cases hb'; exact ⟨Nat.le_refl _, hb⟩) trivial
      (fun E => .inr ⟨w.heap.size, _, rfl, by rw [List.length_replicate]; exact hrow, fun u hu => by
        simp only [Array.mem_toList_iff] at hu
        simp only [madeCells, Array.mem_map, Array.mem_range] at hu
        obtain ⟨q, hq, rfl⟩ := hu
        have hm : q % zv.cells.size < zv.cells.size := Nat.mod_lt _ (by omega)
        rw [getElem!_pos zv.cells _ hm]
        exact RC_one _ _ hzRC _ (by simp), RE_mk _ 0 fun j y hj => by
        obtain ⟨hj1, hj2⟩ := List.getElem?_eq_some_iff.1 hj
        simp only [List.length_replicate] at hj1
        simp only [List.getElem_replicate] at hj2
        subst hj2
        refine ⟨v, D.R_evo I E hv1, hvs, fun s u hs => ?_⟩
        have hsl : s < v.cells.size := (Array.getElem?_eq_some_iff.1 hs).1
        have hlt : (0 + j) * sz + s < n * sz := by
          have : (0 + j + 1) * sz ≤ n * sz := Nat.mul_le_mul_right _ (by omega)
          rw [Nat.add_mul] at this; omega
        have hm : ((0 + j) * sz + s) % zv.cells.size = s := by rw [hzs, Nat.mul_comm, Nat.mul_add_mod]; exact Nat.mod_eq_of_lt (by omega)
        have hs' : zv.cells[s]? = some u := by rw [← hs, ← Array.getElem?_toList, ← Array.getElem?_toList, hv2]
        have hsz2 : s < zv.cells.size := by omega
        rw [Array.getElem?_toList]
        simp only [madeCells, Array.getElem?_map, Array.getElem?_range, hlt, if_true, Option.map_some, hm]
        rw [getElem!_pos zv.cells _ hsz2]
        rw [Array.getElem?_eq_getElem hsz2] at hs'
        exact hs', Nat.one_pos⟩)
    refine ⟨_, w', F, _, .inl ?_, ⟨rfl, { blk := some w.heap.size, cap := n }, .buf e sz (List.replicate n z) 1, by rw [← I.len]; simp, by simp, Nat.le_refl _, fun _ => show _ = GO.slice _ (List.replicate n z).length by rw [List.length_replicate]⟩, I', E⟩
    simp only [execOp, h1, h2, Sem.run_bind, hr, Result.andThen_ok, Sem.run_pure]
    rfl

/-! Maps from whole numbers. -/
class Mp (P : Program) (t : TypeId) (k : outParam IntKind) (e : outParam TypeId) : Prop where
  h : ∃ kt, P.underlying t = some (.map kt e) ∧ P.underlying kt = some (.int k)
def mints (k : IntKind) (l : List (Int × D)) : List (D × D) := l.map fun p => (.int k p.1, p.2)
def mfind : List (Int × D) → Int → Option D
  | [], _ => none
  | p :: l, n => if n = p.1 then some p.2 else mfind l n
def mset : List (Int × D) → Int → D → List (Int × D)
  | [], n, x => [(n, x)]
  | p :: l, n, x => if n = p.1 then (n, x) :: l else p :: mset l n x

theorem mapAt_val {γ : List GO} {id : Nat} {P : Nat → Prop} {es : List (D × D)} (ho : O[id]? = some (.mapo es)) (h : mapAt O γ id P) : ∃ g b, γ[id]? = some g ∧ g.blk = some b ∧ P b := by
  obtain ⟨g, o', h1, h2, h3⟩ := h
  rw [ho] at h2; cases h2
  obtain ⟨b, h4, h5⟩ := h3
  exact ⟨g, b, h1, h4, h5⟩
/-- Where a key stands. -/
def mpos : List (Int × D) → Int → Nat → Option Nat
  | [], _, _ => none
  | p :: l, n, i => if n = p.1 then some i else mpos l n (i + 1)
theorem findNow_mints {w : World} {F : Nat → Prop} {k : IntKind} (n : Int) : ∀ (l : List (Int × D)) (ents : List MapEntry) (i : Nat), ents.length = l.length → (∀ (j : Nat) (p : Int × D), l[j]? = some p → ∃ e : MapEntry, ents[j]? = some e ∧ e.key = .int k p.1 ∧ p.2.R w F e.val) →
    ∃ r, Instr.findNow (.int k) (.int k n) ents i = some r ∧ match mfind l n with
      | none => r = none ∧ mpos l n i = none
      | some x => ∃ p v e, r = some (p, v) ∧ x.R w F v ∧ mpos l n i = some p ∧ i ≤ p ∧ ents[p - i]? = some e ∧ e.key = .int k n
  | [], ents, i, hl, _ => by
    cases ents with
    | nil => exact ⟨none, rfl, rfl, rfl⟩
    | cons e es => simp at hl
  | p :: l, ents, i, hl, h => by
    cases ents with
    | nil => simp at hl
    | cons e es =>
      obtain ⟨e', he', hk, hv⟩ := h 0 p rfl
      cases he'
      obtain ⟨r, h1, h2⟩ := findNow_mints n l es (i + 1) (by simpa using hl) (fun j q hj => h (j + 1) q hj)
      have hs : Instr.sameNow (.int k) (.int k n) e.key = some (n == p.1) := by rw [hk]; simp [Instr.sameNow]
      by_cases hn : n = p.1
      · refine ⟨some (i, e.val), by rw [Instr.findNow, hs, show (n == p.1) = true by simp [hn]], ?_⟩
        simp only [mfind, mpos, hn, if_true]
        exact ⟨i, e.val, e, rfl, hv, rfl, Nat.le_refl _, by simp, hk⟩
      · refine ⟨r, by rw [Instr.findNow, hs, show (n == p.1) = false by simp [hn]]; exact h1, ?_⟩
        simp only [mfind, mpos, hn, if_false]
        cases hm : mfind l n with
        | none => rw [hm] at h2; exact h2
        | some x =>
          rw [hm] at h2
          obtain ⟨q, v, e2, e3, e4, e5, e6, e7, e8⟩ := h2
          refine ⟨q, v, e2, e3, e4, e5, by omega, ?_, e8⟩
          rw [show q - i = q - (i + 1) + 1 by omega]; simpa using e7

theorem map_rel {w : World} {F : Nat → Prop} {k : IntKind} {l : List (Int × D)} {ents : Array MapEntry} (h : MapRel w F (mints k l) ents) : ents.toList.length = l.length ∧ ∀ (j : Nat) (p : Int × D), l[j]? = some p → ∃ e : MapEntry, ents.toList[j]? = some e ∧ e.key = .int k p.1 ∧ p.2.R w F e.val := by
  obtain ⟨h1, h2⟩ := h
  refine ⟨by simpa [mints] using h1, fun j p hj => ?_⟩
  obtain ⟨e, e1, e2, e3⟩ := h2 j (.int k p.1) p.2 (by simp [mints, hj])
  exact ⟨e, by simpa using e1, e2, e3⟩

theorem opv_makeMap {t : TypeId} : OpV P ro ⟨dst, .makeMap t none, ty, pos, af, g⟩ T O (.mp O.length) (O ++ [.mapo []]) :=
  OpV.of_run (fun c h => by cases h) fun w F γ a I H => by
    obtain ⟨I', E⟩ := I.push (w' := w.alloc (.map #[] 0)) (.mapo []) { blk := some w.heap.size } rfl rfl rfl (by simp) (fun b hb' => heap_alloc_old w _ hb')
      (fun b hb' => by cases hb'; simp) trivial fun E => ⟨w.heap.size, #[], 0, rfl, heap_alloc_new w _, rfl, fun i k x h => by simp at h⟩
    refine ⟨.map (some w.heap.size), _, F, _, .inl ?_, ⟨rfl, { blk := some w.heap.size }, .mapo [], by rw [← I.len]; simp, by simp, w.heap.size, rfl, rfl⟩, I', E⟩
    rfl

theorem run_findKey {w : World} {kt : TypeId} {k : IntKind} {key : Value} {es : List MapEntry} {r : Option (Nat × Value)} (hk : P.underlying kt = some (.int k)) (h : Instr.findNow (.int k) key es 0 = some r) : (Instr.findKey kt key es).run P w = .ok r w := by
  simp only [Instr.findKey, Sem.run_bind, run_underlying hk, Result.andThen_ok, h, Sem.run_pure]
theorem run_checkKey {w : World} {b : Bool} {kt : TypeId} {k : IntKind} {n : Int} (hk : P.underlying kt = some (.int k)) : (Instr.checkKey b 10000 kt (.int k n)).run P w = .ok () w := by
  have key : ∀ m, (Instr.checkKey b (m + 1) kt (.int k n)).run P w = .ok () w := fun m => by
    simp only [Instr.checkKey, Sem.run_bind, run_underlying hk, Result.andThen_ok, Sem.run_pure]
  exact key 9999

class Zv (P : Program) (t : TypeId) (z : outParam D) : Prop where
  h : ∃ v : Value, (P.info? t).bind (·.zero) = some v ∧ constAV v = .d z
theorem opv_lookup {x ix : Operand} {t e id : Nat} {k : IntKind} {n : Int} {l : List (Int × D)} {z : D} [S : Mp P t k e] [Z : Zv P e z] (hx : evT T x = .mp id) (hO : O[id]? = some (.mapo (mints k l))) (hi : evT T ix = .d (.int k n)) :
    OpV P ro ⟨dst, .lookup t x ix false, ty, pos, af, g⟩ T O (.d ((mfind l n).getD z)) O :=
  OpV.of_same (fun c h => by cases h) fun w F γ a I H => by
    have h1 := H.at (x := x) (by simp [Op.operands]) hx
    obtain ⟨g', b, hg, hb, hp⟩ := mapAt_val hO h1.2
    obtain ⟨b', ents, clock, e1, e2, e3⟩ := I.ok id _ g' hO hg
    rw [hb] at e1; cases e1
    have h2 := opndv H (x := ix) (by simp [Op.operands]) hi
    obtain ⟨kt, hmt, hkt⟩ := S.h
    obtain ⟨m1, m2⟩ := map_rel e3
    obtain ⟨r, f1, f2⟩ := findNow_mints (k := k) n l ents.toList 0 m1 m2
    obtain ⟨zv, hzv, hzc⟩ := Z.h
    obtain ⟨i, hi', hzz⟩ := Option.bind_eq_some_iff.1 hzv
    have hzV : D.R w F z zv := by
      have hV := constAV_V (w := w) (F := F) (γ := γ) (O := O) zv
      rw [hzc] at hV; exact hV
    cases hm : mfind l n with
    | none =>
      rw [hm] at f2
      obtain ⟨rfl, _⟩ := f2
      refine ⟨zv, ?_, hzV⟩
      simp [execOp, hp, h2, Instr.lookup, run_underlying hmt, MapKept.run_getObj_map e2, run_checkKey hkt, run_findKey hkt f1, zeroValue, typeInfo, hi', hzz, Result.andThen]
    | some y =>
      rw [hm] at f2
      obtain ⟨p, v, _, rfl, hR, _⟩ := f2
      refine ⟨v, ?_, hR⟩
      simp [execOp, hp, h2, Instr.lookup, run_underlying hmt, MapKept.run_getObj_map e2, run_checkKey hkt, run_findKey hkt f1, Result.andThen]

theorem mset_none : ∀ (l : List (Int × D)) (n : Int) (x : D), mfind l n = none → mset l n x = l ++ [(n, x)]
  | [], n, x, _ => rfl
  | p :: l, n, x, h => by
    simp only [mfind] at h
    by_cases hn : n = p.1
    · rw [if_pos hn] at h; cases h
    · rw [if_neg hn] at h; simp only [mset, if_neg hn, mset_none l n x h, List.cons_append]
theorem mset_some : ∀ (l : List (Int × D)) (n : Int) (x : D) (i p : Nat), mpos l n i = some p → i ≤ p ∧ mset l n x = l.set (p - i) (n, x) ∧ p - i < l.length
  | [], n, x, i, p, h => by cases h
  | q :: l, n, x, i, p, h => by
    simp only [mpos] at h
    by_cases hn : n = q.1
    · rw [if_pos hn] at h; cases h; exact ⟨Nat.le_refl _, by simp [mset, hn], by simp⟩
    · rw [if_neg hn] at h
      obtain ⟨h1, h2, h3⟩ := mset_some l n x (i + 1) p h
      refine ⟨by omega, ?_, by simp; omega⟩
      rw [show p - i = (p - (i + 1)) + 1 by omega]
      simp only [mset, if_neg hn, List.set_cons_succ, h2]
theorem sameBits_int (k : IntKind) (n : Int) : Instr.sameBits 10000 (.int k n) (.int k n) = true := by
  have key : ∀ m, Instr.sameBits m (.int k n) (.int k n) = true := fun m => by cases m <;> simp [Instr.sameBits]
  exact key 10000

theorem opv_mapUpdate {m x ix : Operand} {t e id : Nat} {k : IntKind} {n : Int} {l : List (Int × D)} {v : AV} {y : D} [S : Mp P t k e] (hm : evT T m = .mp id) (hO : O[id]? = some (.mapo (mints k l))) (hi : evT T ix = .d (.int k n)) (hx : evT T x = v) (hv : asD v = some y) :
    OpV P ro ⟨dst, .mapUpdate t m ix x, ty, pos, af, g⟩ T O .unk (O.set id (.mapo (mints k (mset l n y)))) :=
  OpV.of_run (fun c h => by cases h) fun w F γ a I H => by
    have h1 := H.at (x := m) (by simp [Op.operands]) hm
    obtain ⟨g', b, hg, hb, hp⟩ := mapAt_val hO h1.2
    obtain ⟨b', ents, clock, e1, e2, e3⟩ := I.ok id _ g' hO hg
    rw [hb] at e1; cases e1
    have h2 := opndv H (x := ix) (by simp [Op.operands]) hi
    have h3 := asD_R hv (H.at (x := x) (by simp [Op.operands]) hx)
    obtain ⟨kt, hmt, hkt⟩ := S.h
    obtain ⟨m1, m2⟩ := map_rel e3
    obtain ⟨r, f1, f2⟩ := findNow_mints (k := k) n l ents.toList 0 m1 m2
    obtain ⟨hlt, hnf⟩ := I.blks id g' b hg hb
    have fin : ∀ (ents' : Array MapEntry) (clock' : Nat), (execOp a.eval ⟨dst, .mapUpdate t m ix x, ty, pos, af, g⟩).run P w = .ok .skip (w.putObj b (.map ents' clock')) →
        ents'.toList.length = (mset l n y).length → (∀ (j : Nat) (p : Int × D), (mset l n y)[j]? = some p → ∃ e : MapEntry, ents'.toList[j]? = some e ∧ e.key = .int k p.1 ∧ p.2.R w F e.val) →
        ∃ u w' F' γ', ((execOp a.eval ⟨dst, .mapUpdate t m ix x, ty, pos, af, g⟩).run P w = .ok (.value u) w' ∨ ((execOp a.eval ⟨dst, .mapUpdate t m ix x, ty, pos, af, g⟩).run P w = .ok .skip w' ∧ u = undef)) ∧ AV.V w' F' γ' (O.set id (.mapo (mints k (mset l n y)))) .unk u ∧ Inv w' F' γ' (O.set id (.mapo (mints k (mset l n y)))) ∧ Evo w F γ O w' F' γ' (O.set id (.mapo (mints k (mset l n y)))) := by
      intro ents' clock' hrun hlen hrel
      obtain ⟨I', E⟩ := I.upd (w' := w.putObj b (.map ents' clock')) (F' := F) (o' := .mapo (mints k (mset l n y))) (g' := g') hO hg rfl rfl rfl (by simp)
        (fun c hc hne => World.putObj_heap_other fun (e : c = b) => hne (by rw [hb, e])) (fun c hc => .inl hc) (fun c hc => by rw [hb] at hc; cases hc; exact ⟨by rw [World.putObj_size]; exact hlt, hnf⟩)
        (fun _ h => h) (fun _ h => .inl h) rfl trivial
        fun E => ⟨b, ents', clock', hb, World.putObj_heap_same hlt, by simpa [mints] using hlen, fun i kd xd hi => by
          simp only [mints, List.getElem?_map, Option.map_eq_some_iff] at hi
          obtain ⟨p, hp1, hp2⟩ := hi
          cases hp2
          obtain ⟨e, q1, q2, q3⟩ := hrel i p hp1
          exact ⟨e, by simpa using q1, q2, D.R_evo I E q3⟩⟩
      exact ⟨undef, _, F, _, .inr ⟨hrun, rfl⟩, trivial, I', E⟩
    cases hm : mfind l n with
    | none =>
      rw [hm] at f2
      obtain ⟨rfl, _⟩ := f2
      refine fin (ents.push { key := .int k n, val := a.eval x, born := clock }) (clock + 1) ?_ ?_ ?_
      · simp [execOp, hp, h2, Instr.mapUpdate, run_underlying hmt, MapKept.run_getObj_map e2, run_checkKey hkt, run_findKey hkt f1, MapKept.run_setObj_map _ e2, Result.andThen, World.putObj]
      · rw [mset_none l n y hm]; simp at m1 ⊢; exact m1
      · intro j p hj
        rw [mset_none l n y hm] at hj
        rcases getElem?_snoc _ _ _ hj with ⟨h, hlt⟩ | ⟨rfl, rfl⟩
        · obtain ⟨e, q1, q2⟩ := m2 j p h
          exact ⟨e, by rw [Array.toList_push, List.getElem?_append_left (by rw [m1]; exact hlt)]; exact q1, q2⟩
        · exact ⟨{ key := .int k n, val := a.eval x, born := clock }, by rw [Array.toList_push, ← m1, List.getElem?_append_right (Nat.le_refl _)]; simp, rfl, h3⟩
    | some z =>
      rw [hm] at f2
      obtain ⟨p, v', e', rfl, hR, hpos, _, he', hek⟩ := f2
      obtain ⟨_, hset, hplt⟩ := mset_some l n y 0 p hpos
      simp only [Nat.sub_zero] at he' hset hplt
      have he2 : ents[p]? = some e' := by simpa using he'
      refine fin (ents.modify p fun e => { e with key := .int k n, val := a.eval x }) clock ?_ ?_ ?_
      · have hks : (Instr.keyThatStays (((ents[p]?).map (·.key)).getD (.int k n)) (.int k n)).run P w = .ok (.int k n) w := by
          rw [he2]; simp [Instr.keyThatStays, hek, sameBits_int]
        simp only [he2, Option.map_some, Option.getD_some] at hks
        simp [execOp, hp, h2, Instr.mapUpdate, run_underlying hmt, MapKept.run_getObj_map e2, run_checkKey hkt, run_findKey hkt f1, MapKept.run_setObj_map _ e2, Result.andThen, World.putObj, he2, hks]
      · rw [hset]; simp at m1 ⊢; exact m1
      · intro j q hj
        rw [hset] at hj
        rcases getElem?_set' _ _ _ _ hj with ⟨hne, h⟩ | ⟨rfl, rfl, _⟩
        · obtain ⟨e, q1, q2⟩ := m2 j q h
          refine ⟨e, ?_, q2⟩
          rw [Array.getElem?_toList, Array.getElem?_modify, if_neg hne]
          simpa using q1
        · refine ⟨{ e' with key := .int k n, val := a.eval x }, ?_, rfl, h3⟩
          rw [Array.getElem?_toList, Array.getElem?_modify, if_pos rfl, he2]
          rfl
theorem opv_len_map {x : Operand} {t e id : Nat} {k : IntKind} {l : List (Int × D)} [S : Mp P t k e] (hx : evT T x = .mp id) (hO : O[id]? = some (.mapo (mints k l))) :
    OpV P ro ⟨dst, .call { callee := .builtin .len, args := #[x], argTypes := #[t] }, ty, pos, af, g⟩ T O (.d (.int .i64 l.length)) O :=
  OpV.of_same (fun c h => by cases h) fun w F γ ac I H => by
    have h1 := H.at (x := x) (by simp [Op.operands, Call.operands]) hx
    obtain ⟨g', b, hg, hb, hp⟩ := mapAt_val hO h1.2
    obtain ⟨b', ents, clock, e1, e2, e3⟩ := I.ok id _ g' hO hg
    rw [hb] at e1; cases e1
    obtain ⟨kt, hmt, hkt⟩ := S.h
    obtain ⟨m1, m2⟩ := map_rel e3
    refine ⟨.int .i64 l.length, run_builtin (s := Builtin.len_ #[t] ty (#[x].map ac.eval)) (fun _ => rfl) ?_, rfl⟩
    simp at m1
    simp [Builtin.len_, run_underlying hmt, hp, goInt, MapKept.run_getObj_map e2, Result.andThen, m1]

/-- A new struct of two slices that are nil: both the call's own. -/
theorem opv_alloc_own2 {t : TypeId} (e sz e' sz' : Nat) [Z : Ze P t [.nil0, .nil0]] : OpV P ro ⟨dst, .alloc t, ty, pos, af, g⟩ T O (.ref (O.length + 2) 0) (O ++ [.buf e sz [] 0, .buf e' sz' [] 0, .cells [.own O.length 0, .own (O.length + 1) 0]]) :=
  OpV.of_run (fun c h => by cases h) fun w F γ a I H => by
    obtain ⟨z, hz, he, ho⟩ := Z.h
    obtain ⟨i, hi, hz⟩ := Option.bind_eq_some_iff.1 hz
    obtain ⟨I1, E1⟩ := I.push (w' := w) (.buf e sz [] 0) { blk := none } rfl rfl rfl (Nat.le_refl _) (fun _ _ => rfl) (fun b h => by cases h) trivial (fun E => .inl ⟨rfl, rfl, rfl, fun _ => rfl⟩)
    obtain ⟨I2, E2⟩ := I1.push (w' := w) (.buf e' sz' [] 0) { blk := none } rfl rfl rfl (Nat.le_refl _) (fun _ _ => rfl) (fun b h => by cases h) trivial (fun E => .inl ⟨rfl, rfl, rfl, fun _ => rfl⟩)
    have hzl : z.cells.toList = [.slice none 0 0, .slice none 0 0] := by
      match hl : z.cells.toList, he with
      | [v, v'], he =>
        simp only [List.map_cons, List.map_nil, List.cons.injEq, and_true] at he
        rw [const_nil he.1, const_nil he.2]
      | [], he => simp at he
      | [_], he => simp at he
      | _ :: _ :: _ :: _, he => simp at he
    have hc : AV.VC w F (γ ++ [{ blk := none }] ++ [{ blk := none }]) (O ++ [.buf e sz [] 0] ++ [.buf e' sz' [] 0]) [.own O.length 0, .own (O.length + 1) 0] z.cells.toList := by
      rw [hzl]
      exact ⟨_, _, rfl, rfl, own_nil I2 (e := e) (sz := sz) (by simp), _, _, rfl, rfl, own_nil I2 (e := e') (sz := sz') (by simp), rfl⟩
    obtain ⟨γ', h2, h3, h4⟩ := box_ok I2 t hc
    have e1 : (O ++ [AObj.buf e sz [] 0] ++ [AObj.buf e' sz' [] 0]).length = O.length + 2 := by simp
    have e2 : O ++ [AObj.buf e sz [] 0] ++ [AObj.buf e' sz' [] 0] ++ [.cells [.own O.length 0, .own (O.length + 1) 0]] = O ++ [.buf e sz [] 0, .buf e' sz' [] 0, .cells [.own O.length 0, .own (O.length + 1) 0]] := by simp
    rw [e1, e2] at h2
    rw [e2] at h3 h4
    refine ⟨_, _, F, γ', .inl ?_, h2, h3, (E1.trans I1.len E2).trans I2.len h4⟩
    simp [execOp, Instr.alloc, zeroValue, typeInfo, hi, hz, newVar, newRow]
end
end Go.Proofs.Ythpiggjclhnkcaa.AM

/- Calls that are handed objects that stand elsewhere: the same, with other numbers. -/
namespace Go.Proofs.Ythpiggjclhnkcaa.AM
open Go
set_option linter.unusedVariables false
set_option linter.unusedSimpArgs false
mutual
def AV.shift (k : Nat) : AV → AV
  | .d x => .d x
  | .nil0 => .nil0
  | .nilf => .nilf
  | .own id v => .own (k + id) v
  | .ref id o => .ref (k + id) o
  | .oel id v i o => .oel (k + id) v i o
  | .osl id v o n => .osl (k + id) v o n
  | .mp id => .mp (k + id)
  | .yld id => .yld (k + id)
  | .fn f cs => .fn f (AV.shifts k cs)
  | .tup xs => .tup (AV.shifts k xs)
  | .agg cs => .agg (AV.shifts k cs)
  | .unk => .unk
def AV.shifts (k : Nat) : List AV → List AV
  | [] => []
  | x :: xs => x.shift k :: AV.shifts k xs
end
def AObj.shift (k : Nat) : AObj → AObj
  | .cells cs => .cells (AV.shifts k cs)
  | .buf e sz xs v => .buf e sz xs v
  | .mapo es => .mapo es
  | .loopo T N ps ag bo st pe => .loopo (fun s => (T s).shift k) N ps ag bo st pe
  | .dfro => .dfro
  | .vbuf e xs => .vbuf e (AV.shifts k xs)
  | .dead => .dead
def shiftO (k : Nat) : List AObj → List AObj
  | [] => []
  | o :: l => o.shift k :: shiftO k l
theorem shiftO_map (k : Nat) : ∀ l, shiftO k l = l.map (AObj.shift k)
  | [] => rfl
  | o :: l => by rw [shiftO, shiftO_map k l]; rfl
theorem shiftO_len (k : Nat) (l : List AObj) : (shiftO k l).length = l.length := by rw [shiftO_map, List.length_map]
theorem AV.shift_one (k : Nat) (x : AV) : (x.shift k).one = x.one := by cases x <;> rfl

section
variable {w w' : World} {F F' : Nat → Prop} {γ : List GO} {Op O : List AObj} {k : Nat}
theorem get_right {α : Type} {a b : List α} {k id : Nat} (h : a.length = k) : (a ++ b)[k + id]? = b[id]? := by
  rw [List.getElem?_append_right (by omega)]; congr 1; omega
theorem get_drop {γ : List GO} {k id : Nat} : γ[k + id]? = (γ.drop k)[id]? := by rw [List.getElem?_drop]
theorem getO_shift (hk : Op.length = k) (id : Nat) : (Op ++ shiftO k O)[k + id]? = (O[id]?).map (AObj.shift k) := by rw [get_right hk, shiftO_map, List.getElem?_map]

theorem AV.shifts_nil : ∀ (k : Nat) (xs : List AV), (AV.shifts k xs).map (fun _ => D.nilp) = xs.map fun _ => D.nilp
  | k, [] => rfl
  | k, x :: xs => by simp [AV.shifts, AV.shifts_nil k xs]
theorem AV.shifts_len : ∀ (k : Nat) (xs : List AV), (AV.shifts k xs).length = xs.length
  | k, [] => rfl
  | k, x :: xs => by simp [AV.shifts, AV.shifts_len k xs]
theorem ownAt_shift (hk : Op.length = k) {id ver : Nat} {P : GO → Nat → List D → Prop} : ownAt (Op ++ shiftO k O) γ (k + id) ver P ↔ ownAt O (γ.drop k) id ver P := by
  unfold ownAt
  rw [getO_shift hk, get_drop]
  cases O[id]? with
  | none => simp
  | some o => cases o <;> simp [AObj.shift, AV.shifts_nil]
theorem refAt_shift (hk : Op.length = k) {id : Nat} {P : Nat → Prop} : refAt (Op ++ shiftO k O) γ (k + id) P ↔ refAt O (γ.drop k) id P := by
  unfold refAt
  rw [getO_shift hk, get_drop]
  cases O[id]? with
  | none => simp
  | some o => cases o <;> simp [AObj.shift]
theorem mapAt_shift (hk : Op.length = k) {id : Nat} {P : Nat → Prop} : mapAt (Op ++ shiftO k O) γ (k + id) P ↔ mapAt O (γ.drop k) id P := by
  unfold mapAt
  rw [getO_shift hk, get_drop]
  cases O[id]? with
  | none => simp
  | some o => cases o <;> simp [AObj.shift]
theorem loopAt_shift (hk : Op.length = k) {id : Nat} {P : Nat → Prop} : loopAt (Op ++ shiftO k O) γ (k + id) P ↔ loopAt O (γ.drop k) id P := by
  unfold loopAt
  rw [getO_shift hk, get_drop]
  cases O[id]? with
  | none => simp
  | some o => cases o <;> simp [AObj.shift]
mutual
theorem AV.V_shift (hk : Op.length = k) : ∀ (x : AV) (v : Value), (x.shift k).V w F γ (Op ++ shiftO k O) v ↔ x.V w F (γ.drop k) O v
  | .d x, v => Iff.rfl
  | .nil0, v => Iff.rfl
  | .nilf, v => Iff.rfl
  | .own id ver, v => and_congr Iff.rfl (ownAt_shift hk)
  | .ref id off, v => and_congr Iff.rfl (refAt_shift hk)
  | .oel id ver i off, v => and_congr Iff.rfl (ownAt_shift hk)
  | .osl id ver off n, v => and_congr Iff.rfl (ownAt_shift hk)
  | .mp id, v => and_congr Iff.rfl (mapAt_shift hk)
  | .yld id, v => and_congr Iff.rfl (loopAt_shift hk)
  | .fn f caps, v => exists_congr fun us => and_congr Iff.rfl (AV.Vs_shift hk caps us)
  | .tup xs, v => exists_congr fun us => and_congr Iff.rfl (AV.Vs_shift hk xs us)
  | .agg cs, v => exists_congr fun us => and_congr Iff.rfl (AV.VC_shift hk cs us)
  | .unk, v => Iff.rfl
theorem AV.Vs_shift (hk : Op.length = k) : ∀ (xs : List AV) (us : List Value), AV.Vs w F γ (Op ++ shiftO k O) (AV.shifts k xs) us ↔ AV.Vs w F (γ.drop k) O xs us
  | [], us => Iff.rfl
  | c :: cs, us => exists_congr fun u => exists_congr fun us' => and_congr Iff.rfl (and_congr (AV.V_shift hk c u) (AV.Vs_shift hk cs us'))
theorem AV.VC_shift (hk : Op.length = k) : ∀ (xs : List AV) (us : List Value), AV.VC w F γ (Op ++ shiftO k O) (AV.shifts k xs) us ↔ AV.VC w F (γ.drop k) O xs us
  | [], us => Iff.rfl
  | c :: cs, us => exists_congr fun u => exists_congr fun us' => and_congr Iff.rfl (and_congr (by rw [AV.shift_one]) (and_congr (AV.V_shift hk c u) (AV.VC_shift hk cs us')))
end
mutual
theorem AV.bd_shift {n : Nat} : ∀ (x : AV), (x.shift k).bd (k + n) ↔ x.bd n
  | .d x => Iff.rfl
  | .nil0 => Iff.rfl
  | .nilf => Iff.rfl
  | .own id ver => Nat.add_lt_add_iff_left
  | .ref id off => Nat.add_lt_add_iff_left
  | .oel id ver i off => Nat.add_lt_add_iff_left
  | .osl id ver off n => Nat.add_lt_add_iff_left
  | .mp id => Nat.add_lt_add_iff_left
  | .yld id => Nat.add_lt_add_iff_left
  | .fn f caps => AV.bds_shift caps
  | .tup xs => AV.bds_shift xs
  | .agg cs => AV.bds_shift cs
  | .unk => Iff.rfl
theorem AV.bds_shift {n : Nat} : ∀ (xs : List AV), AV.bds (k + n) (AV.shifts k xs) ↔ AV.bds n xs
  | [] => Iff.rfl
  | c :: cs => and_congr (AV.bd_shift c) (AV.bds_shift cs)
end
theorem AObj.bd_shift {n : Nat} : ∀ (o : AObj), (o.shift k).bd (k + n) ↔ o.bd n
  | .cells cs => AV.bds_shift cs
  | .buf e sz xs v => Iff.rfl
  | .mapo es => Iff.rfl
  | .loopo T N ps ag bo st pe => forall_congr' fun s => imp_congr Iff.rfl (AV.bd_shift (T s))
  | .dfro => Iff.rfl
  | .vbuf e cs => AV.bds_shift cs
  | .dead => Iff.rfl
theorem OkObj.shift (hk : Op.length = k) (g : GO) : ∀ (o : AObj), OkObj w F γ (Op ++ shiftO k O) (o.shift k) g ↔ OkObj w F (γ.drop k) O o g
  | .cells cs => exists_congr fun b => exists_congr fun us => exists_congr fun t => and_congr Iff.rfl (and_congr Iff.rfl (AV.VC_shift hk cs us))
  | .buf e sz xs v => Iff.rfl
  | .mapo es => Iff.rfl
  | .loopo T N ps ag bo st pe => exists_congr fun b => exists_congr fun fn => exists_congr fun tmps => exists_congr fun df => and_congr Iff.rfl (and_congr Iff.rfl (and_congr Iff.rfl (forall_congr' fun s => imp_congr Iff.rfl (AV.V_shift hk _ _))))
  | .dfro => Iff.rfl
  | .vbuf e cs => exists_congr fun b => exists_congr fun us => and_congr Iff.rfl (and_congr Iff.rfl (AV.VC_shift hk cs us))
  | .dead => Iff.rfl

theorem Inv.shifted (hk : Op.length = k) (I : Inv w F γ (Op ++ shiftO k O)) : Inv w F (γ.drop k) O := by
  have hl := I.len
  simp only [List.length_append, shiftO_len] at hl
  refine ⟨by simp; omega, fun i o g ho hg => ?_, fun i o ho => ?_, fun i g b hg hb => I.blks (k + i) g b (by rw [get_drop]; exact hg) hb, fun i j g g' b h1 h2 h3 h4 => ?_, I.fr⟩
  · exact (OkObj.shift hk g o).1 (I.ok (k + i) _ g (by rw [getO_shift hk, ho]; rfl) (by rw [get_drop]; exact hg))
  · have := I.bd (k + i) _ (by rw [getO_shift hk, ho]; rfl)
    exact (AObj.bd_shift o).1 (by rw [← Nat.add_assoc]; exact this)
  · have := I.inj (k + i) (k + j) g g' b (by rw [get_drop]; exact h1) (by rw [get_drop]; exact h2) h3 h4
    omega

/-- The last objects have gone on by themselves. -/
theorem Inv.rejoinR (hk : Op.length = k) (I : Inv w F γ (Op ++ shiftO k O)) {γ1 : List GO} {O1 : List AObj} (I1 : Inv w' F' γ1 O1) (E : Evo w F (γ.drop k) O w' F' γ1 O1) :
    Inv w' F' (γ.take k ++ γ1) (Op ++ shiftO k O1) ∧ Evo w F γ (Op ++ shiftO k O) w' F' (γ.take k ++ γ1) (Op ++ shiftO k O1) := by
  have hl := I.len
  simp only [List.length_append, shiftO_len] at hl
  have hkγ : (γ.take k).length = k := by simp; omega
  have hd : (γ.take k ++ γ1).drop k = γ1 := by rw [List.drop_append_of_le_length (by omega), List.drop_of_length_le (by omega)]; rfl
  have getL : ∀ i, i < k → (γ.take k ++ γ1)[i]? = γ[i]? := fun i h => by rw [List.getElem?_append_left (by omega), List.getElem?_take_of_lt h]
  have getR : ∀ i, (γ.take k ++ γ1)[k + i]? = γ1[i]? := fun i => get_right hkγ
  have getOL : ∀ (X : List AObj) i, i < k → (Op ++ X)[i]? = Op[i]? := fun X i h => List.getElem?_append_left (by omega)
  have split : ∀ i, i < k ∨ ∃ j, i = k + j := fun i => by
    by_cases h : i < k
    · exact .inl h
    · exact .inr ⟨i - k, by omega⟩
  have keepL : ∀ (i : Nat) (g : GO) (b : Nat), i < k → γ[i]? = some g → g.blk = some b → w'.heap[b]? = w.heap[b]? := by
    intro i g b hi hg hb
    refine E.old b (I.blks i g b hg hb).1 fun j g' hj hb' => ?_
    have := I.inj i (k + j) g g' b hg (by rw [get_drop]; exact hj) hb hb'
    omega
  have E2 : Evo w F γ (Op ++ shiftO k O) w' F' (γ.take k ++ γ1) (Op ++ shiftO k O1) := by
    refine ⟨E.os, E.tape, E.output, E.size, fun b hb hn => E.old b hb fun i g hg => hn (k + i) g (by rw [get_drop]; exact hg), fun i g b hg hb => ?_, E.frm, fun b hb hf => ?_, fun i o o' g g' h1 h2 h3 h4 => ?_, by have := E.len; simp [shiftO_len]; omega⟩
    · rcases split i with hi | ⟨j, rfl⟩
      · rw [getL i hi] at hg; exact .inl ⟨i, g, hg, hb⟩
      · rw [getR] at hg
        rcases E.mine j g b hg hb with ⟨j', g', e1, e2⟩ | h
        · exact .inl ⟨k + j', g', by rw [get_drop]; exact e1, e2⟩
        · exact .inr h
    · rcases E.frn b hb hf with h | ⟨j, g', e1, e2⟩
      · exact .inl h
      · exact .inr ⟨k + j, g', by rw [get_drop]; exact e1, e2⟩
    · rcases split i with hi | ⟨j, rfl⟩
      · rw [getL i hi] at h4
        rw [getOL _ i hi] at h1 h3
        rw [h1] at h3; rw [h2] at h4; cases h3; cases h4
        exact Stab.refl _ _
      · rw [getR] at h4
        rw [getO_shift hk] at h1 h3
        rw [get_drop] at h2
        obtain ⟨p, hp, rfl⟩ := Option.map_eq_some_iff.1 h1
        obtain ⟨p', hp', rfl⟩ := Option.map_eq_some_iff.1 h3
        have := E.stab j p p' g g' hp h2 hp' h4
        cases p <;> cases p' <;> first | exact this | exact ⟨this.1, by rw [AV.shifts_len, AV.shifts_len]; exact this.2⟩
  have hlen : (γ.take k ++ γ1).length = (Op ++ shiftO k O1).length := by have := I1.len; simp [shiftO_len]; omega
  refine ⟨⟨hlen, fun i o g ho hg => ?_, fun i o ho => ?_, fun i g b hg hb => ?_, fun i j g g' b h1 h2 h3 h4 => ?_, I1.fr⟩, E2⟩
  · rcases split i with hi | ⟨j, rfl⟩
    · rw [getL i hi] at hg
      rw [getOL _ i hi] at ho
      exact (I.ok i o g (by rw [getOL _ i hi]; exact ho) hg).evo I E2 hlen fun b hb => keepL i g b hi hg hb
    · rw [getR] at hg
      rw [getO_shift hk] at ho
      obtain ⟨p, hp, rfl⟩ := Option.map_eq_some_iff.1 ho
      exact (OkObj.shift hk g p).2 (by rw [hd]; exact I1.ok j p g hp hg)
  · rcases split i with hi | ⟨j, rfl⟩
    · rw [getOL _ i hi] at ho; exact I.bd i o (by rw [getOL _ i hi]; exact ho)
    · rw [getO_shift hk] at ho
      obtain ⟨p, hp, rfl⟩ := Option.map_eq_some_iff.1 ho
      have := (AObj.bd_shift (k := k) p).2 (I1.bd j p hp)
      rwa [← Nat.add_assoc] at this
  · rcases split i with hi | ⟨j, rfl⟩
    · rw [getL i hi] at hg
      obtain ⟨k1, k2⟩ := I.blks i g b hg hb
      refine ⟨Nat.lt_of_lt_of_le k1 E.size, fun hF => ?_⟩
      rcases E.frn b k1 hF with h | ⟨j, g', e1, e2⟩
      · exact k2 h
      · have := I.inj i (k + j) g g' b hg (by rw [get_drop]; exact e1) hb e2
        omega
    · rw [getR] at hg; exact I1.blks j g b hg hb
  · have cross : ∀ (i j : Nat) (g g' : GO), i < k → γ[i]? = some g → γ1[j]? = some g' → g.blk = some b → g'.blk = some b → False := by
      intro i j g g' hi h1 h2 h3 h4
      rcases E.mine j g' b h2 h4 with ⟨j', g2, e1, e2⟩ | h
      · have := I.inj i (k + j') g g2 b h1 (by rw [get_drop]; exact e1) h3 e2
        omega
      · have := (I.blks i g b h1 h3).1
        omega
    rcases split i with hi | ⟨i', rfl⟩ <;> rcases split j with hj | ⟨j', rfl⟩
    · rw [getL i hi] at h1; rw [getL j hj] at h2; exact I.inj i j g g' b h1 h2 h3 h4
    · rw [getL i hi] at h1; rw [getR] at h2; exact (cross i j' g g' hi h1 h2 h3 h4).elim
    · rw [getR] at h1; rw [getL j hj] at h2; exact (cross j i' g' g hj h2 h1 h4 h3).elim
    · rw [getR] at h1 h2; have := I1.inj i' j' g g' b h1 h2 h3 h4; omega
end

/-- A CALL OVER OBJECTS THAT STAND BEHIND OTHERS. -/
theorem Fn.shift {P : Program} {f : FuncId} {ys : List AV} {O : List AObj} {v : AV} {O1 : List AObj} (h : Fn P f ys O v O1) (Op : List AObj) : Fn P f (AV.shifts Op.length ys) (Op ++ shiftO Op.length O) (v.shift Op.length) (Op ++ shiftO Op.length O1) := by
  intro w F γ vs I hV
  refine (h w F (γ.drop Op.length) vs (I.shifted rfl) ((AV.Vs_shift rfl ys vs).1 hV)).mono fun e w' ⟨u, x, F', γ', O', he, hx, I', E, hxv, hO⟩ => ?_
  subst hxv; subst hO
  obtain ⟨I2, E2⟩ := I.rejoinR rfl I' E
  have hd : (γ.take Op.length ++ γ').drop Op.length = γ' := by
    have hl := I.len
    simp only [List.length_append, shiftO_len] at hl
    rw [List.drop_append_of_le_length (by simp; omega), List.drop_of_length_le (by simp; omega)]; rfl
  exact ⟨u, _, F', _, _, he, (AV.V_shift rfl x u).2 (by rw [hd]; exact hx), I2, E2, rfl, rfl⟩

section
variable {P : Program} {ro : Option Nat} {N : Nat} {K : Org} {T : Nat → AV} {O : List AObj} {dst : Option Tmp} {ty : TypeId} {pos : String} {af : Array Edge} {g : Option (Nat × Bool)}
/-- The call that is handed the m objects behind the first k. -/
theorem opv_callS (k m : Nat) {c : Operand} {xs : Array Operand} {ts : Array TypeId} {f : FuncId} {ys : List AV} {v : AV} {Om O1 : List AObj} [S : Fnc P f]
    (h : Fn P f ys Om v O1) (hc : evT T c = .fn f []) (hx : xs.toList.map (evT T) = AV.shifts k ys) (hO : O.take (k + m) = O.take k ++ shiftO k Om) (hm : k + m ≤ O.length) (hl : O1.length = m) (hb : AV.bds m ys) :
    OpV P ro ⟨dst, .call { callee := .value c, args := xs, argTypes := ts }, ty, pos, af, g⟩ T O (v.shift k) (O.take k ++ shiftO k O1 ++ O.drop (k + m)) := by
  have hk : (O.take k).length = k := by simp; omega
  have h2 := h.shift (O.take k)
  rw [hk, ← hO] at h2
  refine opv_callP (k + m) (ys := AV.shifts k ys) (caps := []) (by rw [List.append_nil]; exact h2) hc hx hm (by rw [List.length_append, hk, shiftO_len, hl]) ?_
  rw [List.append_nil]
  exact (AV.bds_shift ys).2 hb
/-- The call that makes objects. -/
theorem opv_callN {c : Operand} {xs : Array Operand} {ts : Array TypeId} {f : FuncId} {ys : List AV} {v : AV} {O1 : List AObj} (k : Nat) [S : Fnc P f]
    (h : Fn P f ys [] v O1) (hc : evT T c = .fn f []) (hk : O.length = k) (hx : xs.toList.map (evT T) = AV.shifts k ys) :
    OpV P ro ⟨dst, .call { callee := .value c, args := xs, argTypes := ts }, ty, pos, af, g⟩ T O (v.shift k) (O ++ shiftO k O1) := by
  subst hk
  have h2 := h.shift O
  refine opv_call (ys := AV.shifts O.length ys) hc hx ?_
  rw [List.append_nil]
  simpa [shiftO] using h2
end
end Go.Proofs.Ythpiggjclhnkcaa.AM
