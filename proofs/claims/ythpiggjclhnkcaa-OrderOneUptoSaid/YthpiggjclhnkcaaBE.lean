/- Calls that are handed objects that stand elsewhere: the same, with other numbers. -/
import Derived.Test.YthpiggjclhnkcaaBD
namespace Go.Proofs.Ythpiggjclhnkcaa.AM
open Go
set_option linter.unusedVariables false
set_option linter.unusedSimpArgs false
mutual
def AV.shift (k : Nat) : AV → AV
  | .d x => .d x
  | .nil0 => .nil0
  | .nilf => .nilf
  | .own id v => .own (k + id) v
  | .ref id o => .ref (k + id) o
  | .oel id v i o => .oel (k + id) v i o
  | .osl id v o n => .osl (k + id) v o n
  | .mp id => .mp (k + id)
  | .yld id => .yld (k + id)
  | .fn f cs => .fn f (AV.shifts k cs)
  | .tup xs => .tup (AV.shifts k xs)
  | .agg cs => .agg (AV.shifts k cs)
  | .unk => .unk
def AV.shifts (k : Nat) : List AV → List AV
  | [] => []
  | x :: xs => x.shift k :: AV.shifts k xs
end
def AObj.shift (k : Nat) : AObj → AObj
  | .cells cs => .cells (AV.shifts k cs)
  | .buf e sz xs v => .buf e sz xs v
  | .mapo es => .mapo es
  | .loopo T N ps ag bo st pe => .loopo (fun s => (T s).shift k) N ps ag bo st pe
  | .dfro => .dfro
  | .dead => .dead
def shiftO (k : Nat) : List AObj → List AObj
  | [] => []
  | o :: l => o.shift k :: shiftO k l
theorem shiftO_map (k : Nat) : ∀ l, shiftO k l = l.map (AObj.shift k)
  | [] => rfl
  | o :: l => by rw [shiftO, shiftO_map k l]; rfl
theorem shiftO_len (k : Nat) (l : List AObj) : (shiftO k l).length = l.length := by rw [shiftO_map, List.length_map]
theorem AV.shift_one (k : Nat) (x : AV) : (x.shift k).one = x.one := by cases x <;> rfl

section
variable {w w' : World} {F F' : Nat → Prop} {γ : List GO} {Op O : List AObj} {k : Nat}
theorem get_right {α : Type} {a b : List α} {k id : Nat} (h : a.length = k) : (a ++ b)[k + id]? = b[id]? := by
  rw [List.getElem?_append_right (by omega)]; congr 1; omega
theorem get_drop {γ : List GO} {k id : Nat} : γ[k + id]? = (γ.drop k)[id]? := by rw [List.getElem?_drop]
theorem getO_shift (hk : Op.length = k) (id : Nat) : (Op ++ shiftO k O)[k + id]? = (O[id]?).map (AObj.shift k) := by rw [get_right hk, shiftO_map, List.getElem?_map]

theorem ownAt_shift (hk : Op.length = k) {id ver : Nat} {P : GO → Nat → List D → Prop} : ownAt (Op ++ shiftO k O) γ (k + id) ver P ↔ ownAt O (γ.drop k) id ver P := by
  unfold ownAt
  rw [getO_shift hk, get_drop]
  cases O[id]? with
  | none => simp
  | some o => cases o <;> simp [AObj.shift]
theorem refAt_shift (hk : Op.length = k) {id : Nat} {P : Nat → Prop} : refAt (Op ++ shiftO k O) γ (k + id) P ↔ refAt O (γ.drop k) id P := by
  unfold refAt
  rw [getO_shift hk, get_drop]
  cases O[id]? with
  | none => simp
  | some o => cases o <;> simp [AObj.shift]
theorem mapAt_shift (hk : Op.length = k) {id : Nat} {P : Nat → Prop} : mapAt (Op ++ shiftO k O) γ (k + id) P ↔ mapAt O (γ.drop k) id P := by
  unfold mapAt
  rw [getO_shift hk, get_drop]
  cases O[id]? with
  | none => simp
  | some o => cases o <;> simp [AObj.shift]
theorem loopAt_shift (hk : Op.length = k) {id : Nat} {P : Nat → Prop} : loopAt (Op ++ shiftO k O) γ (k + id) P ↔ loopAt O (γ.drop k) id P := by
  unfold loopAt
  rw [getO_shift hk, get_drop]
  cases O[id]? with
  | none => simp
  | some o => cases o <;> simp [AObj.shift]
mutual
theorem AV.V_shift (hk : Op.length = k) : ∀ (x : AV) (v : Value), (x.shift k).V w F γ (Op ++ shiftO k O) v ↔ x.V w F (γ.drop k) O v
  | .d x, v => Iff.rfl
  | .nil0, v => Iff.rfl
  | .nilf, v => Iff.rfl
  | .own id ver, v => and_congr Iff.rfl (ownAt_shift hk)
  | .ref id off, v => and_congr Iff.rfl (refAt_shift hk)
  | .oel id ver i off, v => and_congr Iff.rfl (ownAt_shift hk)
  | .osl id ver off n, v => and_congr Iff.rfl (ownAt_shift hk)
  | .mp id, v => and_congr Iff.rfl (mapAt_shift hk)
  | .yld id, v => and_congr Iff.rfl (loopAt_shift hk)
  | .fn f caps, v => exists_congr fun us => and_congr Iff.rfl (AV.Vs_shift hk caps us)
  | .tup xs, v => exists_congr fun us => and_congr Iff.rfl (AV.Vs_shift hk xs us)
  | .agg cs, v => exists_congr fun us => and_congr Iff.rfl (AV.VC_shift hk cs us)
  | .unk, v => Iff.rfl
theorem AV.Vs_shift (hk : Op.length = k) : ∀ (xs : List AV) (us : List Value), AV.Vs w F γ (Op ++ shiftO k O) (AV.shifts k xs) us ↔ AV.Vs w F (γ.drop k) O xs us
  | [], us => Iff.rfl
  | c :: cs, us => exists_congr fun u => exists_congr fun us' => and_congr Iff.rfl (and_congr (AV.V_shift hk c u) (AV.Vs_shift hk cs us'))
theorem AV.VC_shift (hk : Op.length = k) : ∀ (xs : List AV) (us : List Value), AV.VC w F γ (Op ++ shiftO k O) (AV.shifts k xs) us ↔ AV.VC w F (γ.drop k) O xs us
  | [], us => Iff.rfl
  | c :: cs, us => exists_congr fun u => exists_congr fun us' => and_congr Iff.rfl (and_congr (by rw [AV.shift_one]) (and_congr (AV.V_shift hk c u) (AV.VC_shift hk cs us')))
end
mutual
theorem AV.bd_shift {n : Nat} : ∀ (x : AV), (x.shift k).bd (k + n) ↔ x.bd n
  | .d x => Iff.rfl
  | .nil0 => Iff.rfl
  | .nilf => Iff.rfl
  | .own id ver => Nat.add_lt_add_iff_left
  | .ref id off => Nat.add_lt_add_iff_left
  | .oel id ver i off => Nat.add_lt_add_iff_left
  | .osl id ver off n => Nat.add_lt_add_iff_left
  | .mp id => Nat.add_lt_add_iff_left
  | .yld id => Nat.add_lt_add_iff_left
  | .fn f caps => AV.bds_shift caps
  | .tup xs => AV.bds_shift xs
  | .agg cs => AV.bds_shift cs
  | .unk => Iff.rfl
theorem AV.bds_shift {n : Nat} : ∀ (xs : List AV), AV.bds (k + n) (AV.shifts k xs) ↔ AV.bds n xs
  | [] => Iff.rfl
  | c :: cs => and_congr (AV.bd_shift c) (AV.bds_shift cs)
end
theorem AObj.bd_shift {n : Nat} : ∀ (o : AObj), (o.shift k).bd (k + n) ↔ o.bd n
  | .cells cs => AV.bds_shift cs
  | .buf e sz xs v => Iff.rfl
  | .mapo es => Iff.rfl
  | .loopo T N ps ag bo st pe => forall_congr' fun s => imp_congr Iff.rfl (AV.bd_shift (T s))
  | .dfro => Iff.rfl
  | .dead => Iff.rfl
theorem OkObj.shift (hk : Op.length = k) (g : GO) : ∀ (o : AObj), OkObj w F γ (Op ++ shiftO k O) (o.shift k) g ↔ OkObj w F (γ.drop k) O o g
  | .cells cs => exists_congr fun b => exists_congr fun us => exists_congr fun t => and_congr Iff.rfl (and_congr Iff.rfl (AV.VC_shift hk cs us))
  | .buf e sz xs v => Iff.rfl
  | .mapo es => Iff.rfl
  | .loopo T N ps ag bo st pe => exists_congr fun b => exists_congr fun fn => exists_congr fun tmps => exists_congr fun df => and_congr Iff.rfl (and_congr Iff.rfl (and_congr Iff.rfl (forall_congr' fun s => imp_congr Iff.rfl (AV.V_shift hk _ _))))
  | .dfro => Iff.rfl
  | .dead => Iff.rfl

theorem Inv.shifted (hk : Op.length = k) (I : Inv w F γ (Op ++ shiftO k O)) : Inv w F (γ.drop k) O := by
  have hl := I.len
  simp only [List.length_append, shiftO_len] at hl
  refine ⟨by simp; omega, fun i o g ho hg => ?_, fun i o ho => ?_, fun i g b hg hb => I.blks (k + i) g b (by rw [get_drop]; exact hg) hb, fun i j g g' b h1 h2 h3 h4 => ?_, I.fr⟩
  · exact (OkObj.shift hk g o).1 (I.ok (k + i) _ g (by rw [getO_shift hk, ho]; rfl) (by rw [get_drop]; exact hg))
  · have := I.bd (k + i) _ (by rw [getO_shift hk, ho]; rfl)
    exact (AObj.bd_shift o).1 (by rw [← Nat.add_assoc]; exact this)
  · have := I.inj (k + i) (k + j) g g' b (by rw [get_drop]; exact h1) (by rw [get_drop]; exact h2) h3 h4
    omega

/-- The last objects have gone on by themselves. -/
theorem Inv.rejoinR (hk : Op.length = k) (I : Inv w F γ (Op ++ shiftO k O)) {γ1 : List GO} {O1 : List AObj} (I1 : Inv w' F' γ1 O1) (E : Evo w F (γ.drop k) O w' F' γ1 O1) :
    Inv w' F' (γ.take k ++ γ1) (Op ++ shiftO k O1) ∧ Evo w F γ (Op ++ shiftO k O) w' F' (γ.take k ++ γ1) (Op ++ shiftO k O1) := by
  have hl := I.len
  simp only [List.length_append, shiftO_len] at hl
  have hkγ : (γ.take k).length = k := by simp; omega
  have hd : (γ.take k ++ γ1).drop k = γ1 := by rw [List.drop_append_of_le_length (by omega), List.drop_of_length_le (by omega)]; rfl
  have getL : ∀ i, i < k → (γ.take k ++ γ1)[i]? = γ[i]? := fun i h => by rw [List.getElem?_append_left (by omega), List.getElem?_take_of_lt h]
  have getR : ∀ i, (γ.take k ++ γ1)[k + i]? = γ1[i]? := fun i => get_right hkγ
  have getOL : ∀ (X : List AObj) i, i < k → (Op ++ X)[i]? = Op[i]? := fun X i h => List.getElem?_append_left (by omega)
  have split : ∀ i, i < k ∨ ∃ j, i = k + j := fun i => by
    by_cases h : i < k
    · exact .inl h
    · exact .inr ⟨i - k, by omega⟩
  have keepL : ∀ (i : Nat) (g : GO) (b : Nat), i < k → γ[i]? = some g → g.blk = some b → w'.heap[b]? = w.heap[b]? := by
    intro i g b hi hg hb
    refine E.old b (I.blks i g b hg hb).1 fun j g' hj hb' => ?_
    have := I.inj i (k + j) g g' b hg (by rw [get_drop]; exact hj) hb hb'
    omega
  have E2 : Evo w F γ (Op ++ shiftO k O) w' F' (γ.take k ++ γ1) (Op ++ shiftO k O1) := by
    refine ⟨E.os, E.tape, E.output, E.size, fun b hb hn => E.old b hb fun i g hg => hn (k + i) g (by rw [get_drop]; exact hg), fun i g b hg hb => ?_, E.frm, fun b hb hf => ?_, fun i o o' g g' h1 h2 h3 h4 => ?_, by have := E.len; simp [shiftO_len]; omega⟩
    · rcases split i with hi | ⟨j, rfl⟩
      · rw [getL i hi] at hg; exact .inl ⟨i, g, hg, hb⟩
      · rw [getR] at hg
        rcases E.mine j g b hg hb with ⟨j', g', e1, e2⟩ | h
        · exact .inl ⟨k + j', g', by rw [get_drop]; exact e1, e2⟩
        · exact .inr h
    · rcases E.frn b hb hf with h | ⟨j, g', e1, e2⟩
      · exact .inl h
      · exact .inr ⟨k + j, g', by rw [get_drop]; exact e1, e2⟩
    · rcases split i with hi | ⟨j, rfl⟩
      · rw [getL i hi] at h4
        rw [getOL _ i hi] at h1 h3
        rw [h1] at h3; rw [h2] at h4; cases h3; cases h4
        exact Stab.refl _ _
      · rw [getR] at h4
        rw [getO_shift hk] at h1 h3
        rw [get_drop] at h2
        obtain ⟨p, hp, rfl⟩ := Option.map_eq_some_iff.1 h1
        obtain ⟨p', hp', rfl⟩ := Option.map_eq_some_iff.1 h3
        have := E.stab j p p' g g' hp h2 hp' h4
        cases p <;> cases p' <;> exact this
  have hlen : (γ.take k ++ γ1).length = (Op ++ shiftO k O1).length := by have := I1.len; simp [shiftO_len]; omega
  refine ⟨⟨hlen, fun i o g ho hg => ?_, fun i o ho => ?_, fun i g b hg hb => ?_, fun i j g g' b h1 h2 h3 h4 => ?_, I1.fr⟩, E2⟩
  · rcases split i with hi | ⟨j, rfl⟩
    · rw [getL i hi] at hg
      rw [getOL _ i hi] at ho
      exact (I.ok i o g (by rw [getOL _ i hi]; exact ho) hg).evo I E2 hlen fun b hb => keepL i g b hi hg hb
    · rw [getR] at hg
      rw [getO_shift hk] at ho
      obtain ⟨p, hp, rfl⟩ := Option.map_eq_some_iff.1 ho
      exact (OkObj.shift hk g p).2 (by rw [hd]; exact I1.ok j p g hp hg)
  · rcases split i with hi | ⟨j, rfl⟩
    · rw [getOL _ i hi] at ho; exact I.bd i o (by rw [getOL _ i hi]; exact ho)
    · rw [getO_shift hk] at ho
      obtain ⟨p, hp, rfl⟩ := Option.map_eq_some_iff.1 ho
      have := (AObj.bd_shift (k := k) p).2 (I1.bd j p hp)
      rwa [← Nat.add_assoc] at this
  · rcases split i with hi | ⟨j, rfl⟩
    · rw [getL i hi] at hg
      obtain ⟨k1, k2⟩ := I.blks i g b hg hb
      refine ⟨Nat.lt_of_lt_of_le k1 E.size, fun hF => ?_⟩
      rcases E.frn b k1 hF with h | ⟨j, g', e1, e2⟩
      · exact k2 h
      · have := I.inj i (k + j) g g' b hg (by rw [get_drop]; exact e1) hb e2
        omega
    · rw [getR] at hg; exact I1.blks j g b hg hb
  · have cross : ∀ (i j : Nat) (g g' : GO), i < k → γ[i]? = some g → γ1[j]? = some g' → g.blk = some b → g'.blk = some b → False := by
      intro i j g g' hi h1 h2 h3 h4
      rcases E.mine j g' b h2 h4 with ⟨j', g2, e1, e2⟩ | h
      · have := I.inj i (k + j') g g2 b h1 (by rw [get_drop]; exact e1) h3 e2
        omega
      · have := (I.blks i g b h1 h3).1
        omega
    rcases split i with hi | ⟨i', rfl⟩ <;> rcases split j with hj | ⟨j', rfl⟩
    · rw [getL i hi] at h1; rw [getL j hj] at h2; exact I.inj i j g g' b h1 h2 h3 h4
    · rw [getL i hi] at h1; rw [getR] at h2; exact (cross i j' g g' hi h1 h2 h3 h4).elim
    · rw [getR] at h1; rw [getL j hj] at h2; exact (cross j i' g' g hj h2 h1 h4 h3).elim
    · rw [getR] at h1 h2; have := I1.inj i' j' g g' b h1 h2 h3 h4; omega
end

/-- A CALL OVER OBJECTS THAT STAND BEHIND OTHERS. -/
theorem Fn.shift {P : Program} {f : FuncId} {ys : List AV} {O : List AObj} {v : AV} {O1 : List AObj} (h : Fn P f ys O v O1) (Op : List AObj) : Fn P f (AV.shifts Op.length ys) (Op ++ shiftO Op.length O) (v.shift Op.length) (Op ++ shiftO Op.length O1) := by
  intro w F γ vs I hV
  refine (h w F (γ.drop Op.length) vs (I.shifted rfl) ((AV.Vs_shift rfl ys vs).1 hV)).mono fun e w' ⟨u, x, F', γ', O', he, hx, I', E, hxv, hO⟩ => ?_
  subst hxv; subst hO
  obtain ⟨I2, E2⟩ := I.rejoinR rfl I' E
  have hd : (γ.take Op.length ++ γ').drop Op.length = γ' := by
    have hl := I.len
    simp only [List.length_append, shiftO_len] at hl
    rw [List.drop_append_of_le_length (by simp; omega), List.drop_of_length_le (by simp; omega)]; rfl
  exact ⟨u, _, F', _, _, he, (AV.V_shift rfl x u).2 (by rw [hd]; exact hx), I2, E2, rfl, rfl⟩

section
variable {P : Program} {ro : Option Nat} {N : Nat} {K : Org} {T : Nat → AV} {O : List AObj} {dst : Option Tmp} {ty : TypeId} {pos : String} {af : Array Edge} {g : Option (Nat × Bool)}
/-- The call that is handed the m objects behind the first k. -/
theorem opv_callS (k m : Nat) {c : Operand} {xs : Array Operand} {ts : Array TypeId} {f : FuncId} {ys : List AV} {v : AV} {Om O1 : List AObj} [S : Fnc P f]
    (h : Fn P f ys Om v O1) (hc : evT T c = .fn f []) (hx : xs.toList.map (evT T) = AV.shifts k ys) (hO : O.take (k + m) = O.take k ++ shiftO k Om) (hm : k + m ≤ O.length) (hl : O1.length = m) (hb : AV.bds m ys) :
    OpV P ro ⟨dst, .call { callee := .value c, args := xs, argTypes := ts }, ty, pos, af, g⟩ T O (v.shift k) (O.take k ++ shiftO k O1 ++ O.drop (k + m)) := by
  have hk : (O.take k).length = k := by simp; omega
  have h2 := h.shift (O.take k)
  rw [hk, ← hO] at h2
  refine opv_callP (k + m) (ys := AV.shifts k ys) (caps := []) (by rw [List.append_nil]; exact h2) hc hx hm (by rw [List.length_append, hk, shiftO_len, hl]) ?_
  rw [List.append_nil]
  exact (AV.bds_shift ys).2 hb
/-- The call that makes objects. -/
theorem opv_callN {c : Operand} {xs : Array Operand} {ts : Array TypeId} {f : FuncId} {ys : List AV} {v : AV} {O1 : List AObj} (k : Nat) [S : Fnc P f]
    (h : Fn P f ys [] v O1) (hc : evT T c = .fn f []) (hk : O.length = k) (hx : xs.toList.map (evT T) = AV.shifts k ys) :
    OpV P ro ⟨dst, .call { callee := .value c, args := xs, argTypes := ts }, ty, pos, af, g⟩ T O (v.shift k) (O ++ shiftO k O1) := by
  subst hk
  have h2 := h.shift O
  refine opv_call (ys := AV.shifts O.length ys) hc hx ?_
  rw [List.append_nil]
  simpa [shiftO] using h2
end
end Go.Proofs.Ythpiggjclhnkcaa.AM
