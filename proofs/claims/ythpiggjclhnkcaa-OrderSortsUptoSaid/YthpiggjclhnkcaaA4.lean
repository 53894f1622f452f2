/- A rule for each operation: moves, loads, stores, addresses. -/
import Derived.Test.YthpiggjclhnkcaaA3
namespace Go.Proofs.Ythpiggjclhnkcaa.AM
open Go
set_option linter.unusedVariables false
set_option linter.unusedSimpArgs false
section
variable {P : Program} {ro : Option Nat} {T : Nat → AV} {O : List AObj} {dst : Option Tmp} {ty : TypeId} {pos : String} {af : Array Edge} {g : Option (Nat × Bool)}

theorem OpndOk.at {w : World} {F : Nat → Prop} {γ : List GO} {a : Act} {o : Oper} {x : Operand} (H : OpndOk w F γ O T a o) (hx : x ∈ o.op.operands) {v : AV} (hv : evT T x = v) : v.V w F γ O (a.eval x) := by
  subst hv
  exact evT_V fun s hs => H s (hs ▸ hx)

theorem opv_move {x : Operand} {v : AV} (hx : evT T x = v) : OpV P ro ⟨dst, .move x, ty, pos, af, g⟩ T O v O :=
  OpV.of_same (fun c h => by cases h) fun w F γ a I H => ⟨_, rfl, H.at (x := x) (by simp [Op.operands]) hx⟩
theorem opv_assign {x : Operand} {v : AV} (hx : evT T x = v) : OpV P ro ⟨dst, .assign x, ty, pos, af, g⟩ T O v O :=
  OpV.of_same (fun c h => by cases h) fun w F γ a I H => ⟨_, rfl, H.at (x := x) (by simp [Op.operands]) hx⟩
theorem opv_pick {c x y : Operand} {b : Bool} {v : AV} (hc : evT T c = .d (.bool b)) (hv : (bif b then evT T x else evT T y) = v) : OpV P ro ⟨dst, .pick c x y, ty, pos, af, g⟩ T O v O :=
  OpV.of_same (fun c h => by cases h) fun w F γ a I H => by
    have h1 : a.eval c = .bool b := H.at (x := c) (by simp [Op.operands]) hc
    refine ⟨if b then a.eval x else a.eval y, by simp [execOp, h1, asBool], ?_⟩
    cases b with
    | true => exact H.at (x := x) (by simp [Op.operands]) hv
    | false => exact H.at (x := y) (by simp [Op.operands]) hv

theorem Row.cell {w : World} {b e sz cap n : Nat} {cs : List Value} (h : Row w b e sz cap n cs) (j : Nat) (u : Value) (hj : cs[j]? = some u) : w.cell? ⟨b, j, none⟩ = some u := by
  obtain ⟨h1, h2, h3, cur, h4, h5, h6⟩ := h
  simp only [World.cell?, h4, Option.isSome_none]
  rw [← h6, List.getElem?_take] at hj
  split at hj
  · simpa using hj
  · cases hj
theorem Row.of_owns {w : World} {b e sz cap n : Nat} {cs : List Value} (h : w.ownsRow 0 e sz (.slice (some ⟨b, 0, none⟩) n cap) n cs) : Row w b e sz cap n cs := by
  obtain ⟨h1, h2⟩ := h
  rcases h2 with ⟨h2, _⟩ | ⟨b', cap', cur, hv, _, hh, hnc, hcm, hcs, ht⟩
  · cases h2
  · injection hv with hv1 hv2 hv3
    injection hv1 with hv1
    injection hv1 with hv1
    subst hv1; subst hv3
    exact ⟨h1, hnc, hcm, cur, hh, Nat.le_of_eq hcs.symm, ht⟩

/-! Structs out of cells. -/
def allD : List AV → Option (List D)
  | [] => some []
  | .d x :: r => (allD r).map (x :: ·)
  | .nil0 :: r => (allD r).map (.list [] :: ·)
  | _ :: _ => none
def mkAgg (cs : List AV) : AV := match allD cs with | some xs => .d (.agg xs) | none => .agg cs
def cellsOf : AV → Option (List AV)
  | .d (.agg xs) => some (xs.map .d)
  | .agg cs => some cs
  | .tup _ | .unk => none
  | x => some [x]
theorem nil0_R {w : World} {F : Nat → Prop} {v : Value} (h : ∃ A, v = .slice A 0 0) : D.R w F (.list []) v := by
  obtain ⟨A, rfl⟩ := h
  exact ⟨A, 0, 0, rfl, Nat.le_refl _, fun h => absurd rfl h, trivial⟩
theorem allD_RC {w : World} {F : Nat → Prop} {γ : List GO} : ∀ (cs : List AV) (us : List Value) (xs : List D), allD cs = some xs → AV.VC w F γ O cs us → D.RC w F xs us
  | [], us, xs, h, hc => by simp only [allD, Option.some.injEq] at h; subst h; exact hc
  | .d x :: r, us, xs, h, hc => by
    simp only [allD, Option.map_eq_some_iff] at h
    obtain ⟨ys, hy, rfl⟩ := h
    obtain ⟨u, us', rfl, h1, h2, h3⟩ := hc
    exact ⟨u, us', rfl, h1, h2, allD_RC r us' ys hy h3⟩
  | .nil0 :: r, us, xs, h, hc => by
    simp only [allD, Option.map_eq_some_iff] at h
    obtain ⟨ys, hy, rfl⟩ := h
    obtain ⟨u, us', rfl, h1, h2, h3⟩ := hc
    exact ⟨u, us', rfl, rfl, nil0_R h2, allD_RC r us' ys hy h3⟩
  | .nilf :: r, us, xs, h, hc => by simp [allD] at h
  | .own _ _ :: r, us, xs, h, hc => by simp [allD] at h
  | .ref _ _ :: r, us, xs, h, hc => by simp [allD] at h
  | .oel _ _ _ _ :: r, us, xs, h, hc => by simp [allD] at h
  | .osl _ _ _ _ :: r, us, xs, h, hc => by simp [allD] at h
  | .mp _ :: r, us, xs, h, hc => by simp [allD] at h
  | .yld _ :: r, us, xs, h, hc => by simp [allD] at h
  | .fn _ _ :: r, us, xs, h, hc => by simp [allD] at h
  | .tup _ :: r, us, xs, h, hc => by simp [allD] at h
  | .agg _ :: r, us, xs, h, hc => by simp [allD] at h
  | .unk :: r, us, xs, h, hc => by simp [allD] at h
theorem mkAgg_V {w : World} {F : Nat → Prop} {γ : List GO} {cs : List AV} {us : List Value} (h : AV.VC w F γ O cs us) : (mkAgg cs).V w F γ O (.agg us.toArray) := by
  unfold mkAgg
  cases hx : allD cs with
  | some xs => exact ⟨us, rfl, allD_RC cs us xs hx h⟩
  | none => exact ⟨us, rfl, h⟩
theorem D.R_one {w : World} {F : Nat → Prop} {x : D} {v : Value} (h : x.one = true) (hR : x.R w F v) : v.oneCell' = true ∧ v.cells = #[v] := by
  cases x with
  | int k n => cases hR; exact ⟨rfl, rfl⟩
  | bool b => cases hR; exact ⟨rfl, rfl⟩
  | str s => cases hR; exact ⟨rfl, rfl⟩
  | nilp => cases hR; exact ⟨rfl, rfl⟩
  | list xs => obtain ⟨A, c, sz, rfl, _⟩ := hR; exact ⟨rfl, rfl⟩
  | ptr cs => obtain ⟨ad, us, rfl, _⟩ := hR; exact ⟨rfl, rfl⟩
  | agg cs => cases h
theorem ownAt_val {γ : List GO} {id ver : Nat} {P : GO → Nat → List D → Prop} {e sz : Nat} {xs : List D} {v : Nat} (ho : O[id]? = some (.buf e sz xs v)) (h : ownAt O γ id ver P) : ∃ g, γ[id]? = some g ∧ ver ≤ v ∧ (ver = v → P g sz xs) := by
  obtain ⟨g, o', h1, h2, h3⟩ := h
  rw [ho] at h2; cases h2
  exact ⟨g, h1, h3⟩
theorem refAt_val {γ : List GO} {id : Nat} {P : Nat → Prop} {cs : List AV} (ho : O[id]? = some (.cells cs)) (h : refAt O γ id P) : ∃ g b, γ[id]? = some g ∧ g.blk = some b ∧ P b := by
  obtain ⟨g, o', h1, h2, h3⟩ := h
  rw [ho] at h2; cases h2
  obtain ⟨b, h4, h5⟩ := h3
  exact ⟨g, b, h1, h4, h5⟩
theorem RC_cells {w : World} {F : Nat → Prop} {x : D} {v : Value} (h : x.R w F v) : D.RC w F x.cells v.cells.toList ∨ ∃ cs, x = .agg cs := by
  cases hx : x.one with
  | true =>
    left
    obtain ⟨h1, h2⟩ := D.R_one hx h
    have : x.cells = [x] := by cases x <;> first | rfl | (simp [D.one] at hx)
    rw [this, h2]
    exact ⟨v, [], rfl, hx, h, rfl⟩
  | false => right; cases x <;> first | exact ⟨_, rfl⟩ | (simp [D.one] at hx)
theorem RC_cells' {w : World} {F : Nat → Prop} {x : D} {v : Value} (h : x.R w F v) : D.RC w F x.cells v.cells.toList := by
  rcases RC_cells h with h1 | ⟨cs, rfl⟩
  · exact h1
  · obtain ⟨us, rfl, hc⟩ := h; exact hc
theorem VC_of_RC {w : World} {F : Nat → Prop} {γ : List GO} : ∀ (xs : List D) (us : List Value), D.RC w F xs us → AV.VC w F γ O (xs.map .d) us
  | [], us, h => h
  | x :: xs, us, ⟨u, us', e, h1, h2, h3⟩ => ⟨u, us', e, h1, h2, VC_of_RC xs us' h3⟩
theorem VC_length {w : World} {F : Nat → Prop} {γ : List GO} : ∀ (cs : List AV) (us : List Value), AV.VC w F γ O cs us → us.length = cs.length
  | [], us, h => by rw [show us = [] from h]; rfl
  | c :: cs, us, ⟨u, us', e, _, _, h3⟩ => by rw [e]; simp [VC_length cs us' h3]
theorem RC_length {w : World} {F : Nat → Prop} : ∀ (cs : List D) (us : List Value), D.RC w F cs us → us.length = cs.length
  | [], us, h => by rw [show us = [] from h]; rfl
  | c :: cs, us, ⟨u, us', e, _, _, h3⟩ => by rw [e]; simp [RC_length cs us' h3]
theorem AV.V_one {w : World} {F : Nat → Prop} {γ : List GO} {x : AV} {v : Value} (h : x.one = true) (hV : x.V w F γ O v) : v.oneCell' = true := by
  cases x with
  | d x => exact (D.R_one h hV).1
  | nil0 => obtain ⟨A, rfl⟩ := hV; rfl
  | nilf => cases hV; rfl
  | own id ver => exact hV.1
  | ref id ver => exact hV.1
  | oel id ver => exact hV.1
  | osl id ver => exact hV.1
  | mp id => exact hV.1
  | yld id => exact hV.1
  | fn f caps => obtain ⟨us, rfl, _⟩ := hV; rfl
  | _ => cases h
theorem VC_one {w : World} {F : Nat → Prop} {γ : List GO} : ∀ (cs : List AV) (us : List Value), AV.VC w F γ O cs us → ∀ u ∈ us, u.oneCell' = true
  | [], us, h, u, hu => by rw [show us = [] from h] at hu; cases hu
  | c :: cs, us, ⟨u', us', e, h1, h2, h3⟩, u, hu => by
    rw [e] at hu
    rcases List.mem_cons.1 hu with rfl | hu
    · exact AV.V_one h1 h2
    · exact VC_one cs us' h3 u hu
theorem cells_one {v : Value} (h : v.oneCell' = true) : v.cells = #[v] := by cases v <;> first | rfl | cases h
/-- A value's cells. -/
theorem cellsOf_VC {w : World} {F : Nat → Prop} {γ : List GO} {x : AV} {v : Value} {cs : List AV} (h : cellsOf x = some cs) (hV : x.V w F γ O v) : AV.VC w F γ O cs v.cells.toList := by
  have key : ∀ x : AV, x.one = true → x.V w F γ O v → AV.VC w F γ O [x] v.cells.toList := fun x h1 h2 => by
    rw [cells_one (AV.V_one h1 h2)]; exact ⟨v, [], rfl, h1, h2, rfl⟩
  cases x with
  | d x =>
    cases x with
    | agg xs => obtain ⟨us, rfl, hc⟩ := hV; cases h; exact VC_of_RC xs us hc
    | _ => cases h; exact key _ rfl hV
  | agg cs' => obtain ⟨us, rfl, hc⟩ := hV; cases h; exact hc
  | tup xs => cases h
  | unk => cases h
  | _ => cases h; exact key _ rfl hV
theorem RC_drop {w : World} {F : Nat → Prop} : ∀ (n : Nat) (cs : List D) (us : List Value), D.RC w F cs us → D.RC w F (cs.drop n) (us.drop n)
  | 0, cs, us, h => h
  | n + 1, [], us, h => by rw [show us = [] from h]; rfl
  | n + 1, c :: cs, us, ⟨u, us', e, _, _, h3⟩ => by rw [e]; exact RC_drop n cs us' h3
theorem RC_take {w : World} {F : Nat → Prop} : ∀ (n : Nat) (cs : List D) (us : List Value), D.RC w F cs us → D.RC w F (cs.take n) (us.take n)
  | 0, cs, us, h => rfl
  | n + 1, [], us, h => by rw [show us = [] from h]; rfl
  | n + 1, c :: cs, us, ⟨u, us', e, h1, h2, h3⟩ => by rw [e]; exact ⟨u, us'.take n, rfl, h1, h2, RC_take n cs us' h3⟩
theorem VC_drop {w : World} {F : Nat → Prop} {γ : List GO} : ∀ (n : Nat) (cs : List AV) (us : List Value), AV.VC w F γ O cs us → AV.VC w F γ O (cs.drop n) (us.drop n)
  | 0, cs, us, h => h
  | n + 1, [], us, h => by rw [show us = [] from h]; rfl
  | n + 1, c :: cs, us, ⟨u, us', e, _, _, h3⟩ => by rw [e]; exact VC_drop n cs us' h3
theorem VC_take {w : World} {F : Nat → Prop} {γ : List GO} : ∀ (n : Nat) (cs : List AV) (us : List Value), AV.VC w F γ O cs us → AV.VC w F γ O (cs.take n) (us.take n)
  | 0, cs, us, h => rfl
  | n + 1, [], us, h => by rw [show us = [] from h]; rfl
  | n + 1, c :: cs, us, ⟨u, us', e, h1, h2, h3⟩ => by rw [e]; exact ⟨u, us'.take n, rfl, h1, h2, VC_take n cs us' h3⟩
theorem VC_append {w : World} {F : Nat → Prop} {γ : List GO} : ∀ (cs ds : List AV) (us vs : List Value), AV.VC w F γ O cs us → AV.VC w F γ O ds vs → AV.VC w F γ O (cs ++ ds) (us ++ vs)
  | [], ds, us, vs, h, k => by rw [show us = [] from h]; exact k
  | c :: cs, ds, us, vs, ⟨u, us', e, h1, h2, h3⟩, k => by rw [e]; exact ⟨u, us' ++ vs, rfl, h1, h2, VC_append cs ds us' vs h3 k⟩

/-! Loads. -/
def takeAV (ag : Bool) (n : Nat) (cs : List AV) : Option AV := match ag with
  | true => if n ≤ cs.length then some (mkAgg (cs.take n)) else none
  | false => if n = 1 then cs.head? else none
def takeD (ag : Bool) (n : Nat) (cs : List D) : Option AV := match ag with
  | true => if n ≤ cs.length then some (.d (.agg (cs.take n))) else none
  | false => if n = 1 then cs.head?.map .d else none

theorem add_lit (b o j : Nat) : (⟨b, o, none⟩ : Addr).add j = ⟨b, o + j, none⟩ := by unfold Addr.add; split <;> simp_all
theorem add_add' (a : Addr) (hs : a.spot = none) (i j : Nat) : (a.add i).add j = a.add (i + j) := by
  obtain ⟨b, o, s⟩ := a; cases hs; simp only [add_lit, Nat.add_assoc]

theorem load_cells {w : World} {F : Nat → Prop} {γ : List GO} {t n : Nat} {ag : Bool} (S : Sz P t n ag) {ad : Addr} {cs : List AV} {us : List Value} {v : AV}
    (hc : AV.VC w F γ O cs us) (hm : ∀ (j : Nat) (u : Value), us[j]? = some u → w.cell? (ad.add j) = some u) (hv : takeAV ag n cs = some v) :
    ∃ u, (loadVar t ad).run P w = .ok u w ∧ v.V w F γ O u := by
  cases ag with
  | true =>
    simp only [takeAV] at hv
    split at hv
    · rename_i hn
      cases hv
      have hl := VC_length cs us hc
      refine ⟨.agg (us.take n).toArray, ?_, mkAgg_V (VC_take n cs us hc)⟩
      have := run_loadVar S ad (us.take n) (by simp; omega) (fun h => by cases h) (fun j u hj => hm j u (by rw [List.getElem?_take] at hj; split at hj <;> first | exact hj | cases hj))
      simpa using this
    · cases hv
  | false =>
    simp only [takeAV] at hv
    split at hv
    · rename_i hn
      subst hn
      cases cs with
      | nil => cases hv
      | cons c cs' =>
        cases hv
        obtain ⟨u, us', rfl, h1, h2, h3⟩ := hc
        refine ⟨u, ?_, h2⟩
        have := run_loadVar S ad [u] rfl (fun _ => rfl) (fun j x hj => hm j x (by cases j with | zero => exact hj | succ j => cases hj))
        simpa using this
    · cases hv

theorem cell_row {w : World} {b off : Nat} {us : List Value} {t : TypeId} (h : w.heap[b]? = some (.cells us.toArray t (0, 0))) (j : Nat) (u : Value) (hj : (us.drop off)[j]? = some u) : w.cell? ((⟨b, off, none⟩ : Addr).add j) = some u := by
  rw [add_lit]
  simp only [World.cell?, h, Option.isSome_none]
  rw [List.getElem?_drop] at hj
  simpa using hj

theorem opv_load_ref {x : Operand} {t id off n : Nat} {ag : Bool} {cs : List AV} {v : AV} [S : Sz P t n ag] (hx : evT T x = .ref id off) (hO : O[id]? = some (.cells cs)) (hv : takeAV ag n (cs.drop off) = some v) :
    OpV P ro ⟨dst, .load t x, ty, pos, af, g⟩ T O v O :=
  OpV.of_same (fun c h => by cases h) fun w F γ a I H => by
    have h1 := H.at (x := x) (by simp [Op.operands]) hx
    obtain ⟨g', b, hg, hb, hp⟩ := refAt_val hO h1.2
    obtain ⟨b', us, t', e1, e2, e3⟩ := I.ok id _ g' hO hg
    rw [hb] at e1; cases e1
    obtain ⟨u, hr, hV⟩ := load_cells (P := P) S (ad := ⟨b, off, none⟩) (VC_drop off cs us e3) (fun j u hj => cell_row e2 j u hj) hv
    refine ⟨u, ?_, hV⟩
    simp only [execOp, Instr.loadAt, hp, Instr.sureAddr]
    simp [hr]
theorem opv_load_ptr {x : Operand} {t n : Nat} {ag : Bool} {cs : List D} {v : AV} [S : Sz P t n ag] (hx : evT T x = .d (.ptr cs)) (hv : takeD ag n cs = some v) :
    OpV P ro ⟨dst, .load t x, ty, pos, af, g⟩ T O v O :=
  OpV.of_same (fun c h => by cases h) fun w F γ a I H => by
    obtain ⟨ad, us, hp, hs, hF, hc, hm⟩ := H.at (x := x) (by simp [Op.operands]) hx
    cases ag with
    | true =>
      simp only [takeD] at hv
      split at hv
      · rename_i hn
        cases hv
        have hl := RC_length cs us hc
        refine ⟨.agg (us.take n).toArray, ?_, ⟨us.take n, rfl, RC_take n cs us hc⟩⟩
        have := run_loadVar (w := w) S ad (us.take n) (by simp; omega) (fun h => by cases h) (fun j u hj => hm j u (by rw [List.getElem?_take] at hj; split at hj <;> first | exact hj | cases hj))
        simp only [execOp, Instr.loadAt, hp, Instr.sureAddr]
        simp [this]
      · cases hv
    | false =>
      simp only [takeD] at hv
      split at hv
      · rename_i hn
        subst hn
        cases cs with
        | nil => cases hv
        | cons c cs' =>
          cases hv
          obtain ⟨u, us', rfl, h1, h2, h3⟩ := hc
          refine ⟨u, ?_, h2⟩
          have := run_loadVar (w := w) S ad [u] rfl (fun _ => rfl) (fun j x hj => hm j x (by cases j with | zero => exact hj | succ j => cases hj))
          simp only [execOp, Instr.loadAt, hp, Instr.sureAddr]
          simp [this]
      · cases hv

/-! Addresses. -/
theorem run_field {s j off ft : Nat} (h : Fld P s j off ft) (w : World) (ad : Addr) : (Instr.fieldAt s (.pointer (some ad)) j).run P w = .ok (.pointer (some (ad.add off))) w := by
  obtain ⟨fs, f, hu, hf, ho, htt, hz⟩ := h.h
  subst ho
  cases hi : P.info? f.type with
  | none => rw [hi] at hz; cases hz
  | some i =>
    rw [hi] at hz
    have hz' : i.size ≠ 0 := by simp at hz; omega
    simp [Instr.fieldAt, run_underlying hu, hf, Instr.sureAddr, fieldPlace, sizeOf, typeInfo, hi, hz']
theorem opv_field_ref {x : Operand} {s j off fo ft id : Nat} {cs : List AV} [S : Fld P s j fo ft] (hx : evT T x = .ref id off) (hO : O[id]? = some (.cells cs)) : OpV P ro ⟨dst, .fieldAddr s x j, ty, pos, af, g⟩ T O (.ref id (off + fo)) O :=
  OpV.of_same (fun c h => by cases h) fun w F γ a I H => by
    have h1 := H.at (x := x) (by simp [Op.operands]) hx
    obtain ⟨g', b, hg, hb, hp⟩ := refAt_val hO h1.2
    refine ⟨.pointer (some ⟨b, off + fo, none⟩), ?_, rfl, g', _, hg, hO, b, hb, rfl⟩
    simp only [execOp, hp]
    simp [run_field S, add_lit]
theorem opv_field_ptr {x : Operand} {s j fo ft : Nat} {cs : List D} [S : Fld P s j fo ft] (hx : evT T x = .d (.ptr cs)) : OpV P ro ⟨dst, .fieldAddr s x j, ty, pos, af, g⟩ T O (.d (.ptr (cs.drop fo))) O :=
  OpV.of_same (fun c h => by cases h) fun w F γ a I H => by
    obtain ⟨ad, us, hp, hs, hF, hc, hm⟩ := H.at (x := x) (by simp [Op.operands]) hx
    refine ⟨.pointer (some (ad.add fo)), ?_, ad.add fo, us.drop fo, rfl, ?_, ?_, RC_drop fo cs us hc, fun j u hj => ?_⟩
    · simp only [execOp, hp]
      simp [run_field S]
    · unfold Addr.add; split <;> simp [hs]
    · unfold Addr.add; split <;> exact hF
    · rw [add_add' ad hs]; exact hm _ u (by rw [List.getElem?_drop] at hj; exact hj)
theorem RE_get {w : World} {F : Nat → Prop} {get : Nat → Option Value} {sz : Nat} : ∀ (xs : List D) (i k : Nat) (y : D), D.RE w F get sz i xs → xs[k]? = some y → ∃ v, y.R w F v ∧ v.cells.size = sz ∧ ∀ (j : Nat) (u : Value), v.cells[j]? = some u → get ((i + k) * sz + j) = some u
  | [], i, k, y, h, hk => by cases hk
  | x :: xs, i, 0, y, h, hk => by cases hk; exact h.1
  | x :: xs, i, k + 1, y, h, hk => by
    obtain ⟨v, h1, h2, h3⟩ := RE_get xs (i + 1) k y h.2 hk
    exact ⟨v, h1, h2, fun j u hj => by rw [show i + (k + 1) = i + 1 + k by omega]; exact h3 j u hj⟩
theorem index_ok {n : Nat} {i : Int} (h0 : 0 ≤ i) {y : D} {xs : List D} (hy : xs[i.toNat]? = some y) : i < xs.length ∧ i.toNat < xs.length := by
  have := (List.getElem?_eq_some_iff.1 hy).1
  exact ⟨by omega, this⟩
theorem opv_index_list {x ix : Operand} {t e sz : Nat} {k : IntKind} {i : Int} {xs : List D} {y : D} [S : Slc P t e sz] (hx : evT T x = .d (.list xs)) (hi : evT T ix = .d (.int k i)) (h0 : 0 ≤ i) (hy : xs[i.toNat]? = some y) (hsz : y.cells.length = sz) :
    OpV P ro ⟨dst, .indexAddr t x ix, ty, pos, af, g⟩ T O (.d (.ptr y.cells)) O :=
  OpV.of_same (fun c h => by cases h) fun w F γ a I H => by
    obtain ⟨A, c, s, hp, hc, hA, hE⟩ := H.at (x := x) (by simp [Op.operands]) hx
    have h2 : a.eval ix = .int k i := H.at (x := ix) (by simp [Op.operands]) hi
    obtain ⟨v, hv, hvs, hm⟩ := RE_get xs 0 i.toNat y hE hy
    obtain ⟨hl1, hl2⟩ := index_ok (n := 0) h0 hy
    have hrc := RC_cells' hv
    have hss : s = sz := by rw [← hvs, ← hsz, ← RC_length _ _ hrc]; simp
    subst hss
    obtain ⟨ad, rfl, hsp, hF⟩ := hA (fun h => by rw [h] at hl2; exact absurd hl2 (Nat.not_lt_zero _))
    refine ⟨.pointer (some (ad.add (i.toNat * s))), ?_, ad.add (i.toNat * s), v.cells.toList, rfl, ?_, ?_, hrc, fun j u hj => ?_⟩
    · simp only [execOp, hp, h2]
      simp [Instr.indexAt, asIntOf, run_underlying S.und, h0, hl1, run_size_of S.info]
    · unfold Addr.add; split <;> simp [hsp]
    · unfold Addr.add; split <;> exact hF
    · rw [add_add' ad hsp]
      have := hm j u (by simpa using hj)
      simpa using this
theorem opv_index_own {x ix : Operand} {t e sz id ver : Nat} {k : IntKind} {i : Int} {xs : List D} [S : Slc P t e sz] (hx : evT T x = .own id ver) (hO : O[id]? = some (.buf e sz xs ver)) (hi : evT T ix = .d (.int k i)) (h0 : 0 ≤ i) (hl : i < xs.length) :
    OpV P ro ⟨dst, .indexAddr t x ix, ty, pos, af, g⟩ T O (.oel id ver i.toNat 0) O :=
  OpV.of_same (fun c h => by cases h) fun w F γ a I H => by
    have h1 := H.at (x := x) (by simp [Op.operands]) hx
    obtain ⟨g', hg, _, hp⟩ := ownAt_val hO h1.2
    have hp := hp rfl
    have h2 : a.eval ix = .int k i := H.at (x := ix) (by simp [Op.operands]) hi
    rcases I.ok id _ g' hO hg with ⟨_, hx0, _⟩ | ⟨b, cs, hb, _, _, _⟩
    · rw [hx0] at hl; simp at hl; omega
    · refine ⟨.pointer (some ⟨b, i.toNat * sz, none⟩), ?_, rfl, g', _, hg, hO, Nat.le_refl _, fun _ => ⟨b, hb, rfl⟩⟩
      simp only [execOp, hp, h2, GO.slice, hb]
      simp [Instr.indexAt, asIntOf, run_underlying S.und, h0, hl, run_size_of S.info, add_lit]
end
end Go.Proofs.Ythpiggjclhnkcaa.AM
