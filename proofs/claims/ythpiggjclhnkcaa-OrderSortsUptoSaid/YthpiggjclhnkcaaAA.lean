/- Some of the objects handed on, and put back; a block that is nobody's written. -/
import Derived.Test.YthpiggjclhnkcaaA9
import Derived.RangeFuncRecord
namespace Go.Proofs.Ythpiggjclhnkcaa.AM
open Go
set_option linter.unusedVariables false
set_option linter.unusedSimpArgs false
section
variable {w w' : World} {F F' : Nat → Prop} {γ γ' : List GO} {O O' : List AObj}

/-- What stands in one list stands in the other. -/
def Emb (γ γ' : List GO) (O O' : List AObj) : Prop := ∀ (id : Nat) (g : GO) (o : AObj), γ[id]? = some g → O[id]? = some o → γ'[id]? = some g ∧ O'[id]? = some o

mutual
theorem AV.V_mono (hF : ∀ b, F b → F' b) (hw : ∀ b, F b → w'.heap[b]? = w.heap[b]?) (he : Emb γ γ' O O') : ∀ (x : AV) (v : Value), x.V w F γ O v → x.V w' F' γ' O' v
  | .d x, v, h => D.R_mono hF hw x v h
  | .nil0, v, h => h
  | .nilf, v, h => h
  | .own id ver, v, h => ⟨h.1, let ⟨g, o, h1, h2, h3⟩ := h.2; ⟨g, o, (he id g o h1 h2).1, (he id g o h1 h2).2, h3⟩⟩
  | .ref id off, v, h => ⟨h.1, let ⟨g, o, h1, h2, h3⟩ := h.2; ⟨g, o, (he id g o h1 h2).1, (he id g o h1 h2).2, h3⟩⟩
  | .oel id ver i off, v, h => ⟨h.1, let ⟨g, o, h1, h2, h3⟩ := h.2; ⟨g, o, (he id g o h1 h2).1, (he id g o h1 h2).2, h3⟩⟩
  | .osl id ver off n, v, h => ⟨h.1, let ⟨g, o, h1, h2, h3⟩ := h.2; ⟨g, o, (he id g o h1 h2).1, (he id g o h1 h2).2, h3⟩⟩
  | .mp id, v, h => ⟨h.1, let ⟨g, o, h1, h2, h3⟩ := h.2; ⟨g, o, (he id g o h1 h2).1, (he id g o h1 h2).2, h3⟩⟩
  | .yld id, v, h => ⟨h.1, let ⟨g, o, h1, h2, h3⟩ := h.2; ⟨g, o, (he id g o h1 h2).1, (he id g o h1 h2).2, h3⟩⟩
  | .fn f caps, v, h => by simp only [AV.V] at h ⊢; obtain ⟨us, rfl, hs⟩ := h; exact ⟨us, rfl, AV.Vs_mono hF hw he caps us hs⟩
  | .tup xs, v, h => by simp only [AV.V] at h ⊢; obtain ⟨us, rfl, hs⟩ := h; exact ⟨us, rfl, AV.Vs_mono hF hw he xs us hs⟩
  | .agg cs, v, h => by simp only [AV.V] at h ⊢; obtain ⟨us, rfl, hs⟩ := h; exact ⟨us, rfl, AV.VC_mono hF hw he cs us hs⟩
  | .unk, v, h => trivial
theorem AV.Vs_mono (hF : ∀ b, F b → F' b) (hw : ∀ b, F b → w'.heap[b]? = w.heap[b]?) (he : Emb γ γ' O O') : ∀ (xs : List AV) (us : List Value), AV.Vs w F γ O xs us → AV.Vs w' F' γ' O' xs us
  | [], us, h => h
  | c :: cs, us, h => by simp only [AV.Vs] at h ⊢; obtain ⟨u, us', rfl, h1, h2⟩ := h; exact ⟨u, us', rfl, AV.V_mono hF hw he c u h1, AV.Vs_mono hF hw he cs us' h2⟩
theorem AV.VC_mono (hF : ∀ b, F b → F' b) (hw : ∀ b, F b → w'.heap[b]? = w.heap[b]?) (he : Emb γ γ' O O') : ∀ (xs : List AV) (us : List Value), AV.VC w F γ O xs us → AV.VC w' F' γ' O' xs us
  | [], us, h => h
  | c :: cs, us, h => by simp only [AV.VC] at h ⊢; obtain ⟨u, us', rfl, h0, h1, h2⟩ := h; exact ⟨u, us', rfl, h0, AV.V_mono hF hw he c u h1, AV.VC_mono hF hw he cs us' h2⟩
end
theorem OkObj.mono (hF : ∀ b, F b → F' b) (hw : ∀ b, F b → w'.heap[b]? = w.heap[b]?) (he : Emb γ γ' O O') {o : AObj} {g : GO} (h : OkObj w F γ O o g) (hb : ∀ b, g.blk = some b → w'.heap[b]? = w.heap[b]?) : OkObj w' F' γ' O' o g := by
  cases o with
  | cells cs => obtain ⟨b, us, t, h1, h2, h3⟩ := h; exact ⟨b, us, t, h1, (hb b h1).trans h2, AV.VC_mono hF hw he cs us h3⟩
  | buf e sz xs v =>
    rcases h with h | ⟨b, cs, h0, h1, h2, h3, h4⟩
    · exact .inl h
    · exact .inr ⟨b, cs, h0, h1.kept (hb b h0), h2, D.RE_mono hF hw _ _ (fun _ _ h => h) _ _ xs h3, h4⟩
  | mapo es =>
    obtain ⟨b, ents, clock, h1, h2, h3, h4⟩ := h
    exact ⟨b, ents, clock, h1, (hb b h1).trans h2, h3, fun i k x hi => let ⟨e, e1, e2, e3⟩ := h4 i k x hi; ⟨e, e1, D.R_mono hF hw _ _ e2, D.R_mono hF hw _ _ e3⟩⟩
  | loopo T N ps ag bo st pe =>
    obtain ⟨b, fn, tmps, df, h1, h2, h3, h4⟩ := h
    exact ⟨b, fn, tmps, df, h1, (hb b h1).trans h2, h3, fun s hs => AV.V_mono hF hw he _ _ (h4 s hs)⟩
  | dfro => obtain ⟨b, h1, h2⟩ := h; exact ⟨b, h1, (hb b h1).trans h2⟩
  | vbuf e xs => obtain ⟨b, us, h1, h2, h3⟩ := h; exact ⟨b, us, h1, h2.kept (hb b h1), AV.VC_mono hF hw he xs us h3⟩
  | dead => exact h

theorem Emb.refl : Emb γ γ O O := fun _ _ _ h1 h2 => ⟨h1, h2⟩
theorem Emb.app (x : List GO) (y : List AObj) : Emb γ (γ ++ x) O (O ++ y) := fun id g o h1 h2 => ⟨by rw [List.getElem?_append_left (List.getElem?_eq_some_iff.1 h1).1]; exact h1, by rw [List.getElem?_append_left (List.getElem?_eq_some_iff.1 h2).1]; exact h2⟩

/-- A block that is nobody's is written. -/
theorem Inv.poke (I : Inv w F γ O) {b : Nat} (ob : Obj) (hn : ∀ (i : Nat) (g : GO), γ[i]? = some g → g.blk ≠ some b) (hF : ¬ F b) : Inv (w.putObj b ob) F γ O := by
  have hk : ∀ b', F b' → (w.putObj b ob).heap[b']? = w.heap[b']? := fun b' h => World.putObj_heap_other fun (e : b' = b) => hF (e ▸ h)
  exact ⟨I.len, fun i o g ho hg => (I.ok i o g ho hg).mono (fun _ h => h) hk Emb.refl (fun b' hb => World.putObj_heap_other fun (e : b' = b) => hn i g hg (e ▸ hb)), I.bd, fun i g b' hg hb => by rw [World.putObj_size]; exact I.blks i g b' hg hb, I.inj, fun b' h => by rw [World.putObj_size]; exact I.fr b' h⟩
theorem AV.V_poke {b : Nat} (ob : Obj) (hF : ¬ F b) {x : AV} {v : Value} (h : x.V w F γ O v) : x.V (w.putObj b ob) F γ O v :=
  AV.V_mono (fun _ h => h) (fun b' h => World.putObj_heap_other fun (e : b' = b) => hF (e ▸ h)) Emb.refl x v h
theorem Evo.poke {w0 : World} {F0 : Nat → Prop} {γ0 : List GO} {O0 : List AObj} (E : Evo w0 F0 γ0 O0 w F γ O) {b : Nat} (ob : Obj) (hb : w0.heap.size ≤ b) : Evo w0 F0 γ0 O0 (w.putObj b ob) F γ O :=
  ⟨E.os, E.tape, E.output, by rw [World.putObj_size]; exact E.size, fun b' h1 h2 => (World.putObj_heap_other (by omega)).trans (E.old b' h1 h2), E.mine, E.frm, E.frn, E.stab, E.len⟩

/-- The first m objects have gone on by themselves. -/
theorem Inv.rejoin (I : Inv w F γ O) {m : Nat} {γ1 : List GO} {O1 : List AObj} (hm : m ≤ O.length) (I1 : Inv w' F' γ1 O1) (hl : O1.length = m) (E : Evo w F (γ.take m) (O.take m) w' F' γ1 O1) :
    Inv w' F' (γ1 ++ γ.drop m) (O1 ++ O.drop m) ∧ Evo w F γ O w' F' (γ1 ++ γ.drop m) (O1 ++ O.drop m) := by
  have hγ1 : γ1.length = m := by rw [I1.len, hl]
  have hγ : γ.length = O.length := I.len
  have getγ : ∀ i, m ≤ i → (γ1 ++ γ.drop m)[i]? = γ[i]? := fun i h => by
    rw [List.getElem?_append_right (by omega), List.getElem?_drop, hγ1]; congr 1; omega
  have getO : ∀ i, m ≤ i → (O1 ++ O.drop m)[i]? = O[i]? := fun i h => by
    rw [List.getElem?_append_right (by omega), List.getElem?_drop, hl]; congr 1; omega
  have getγ1 : ∀ i, i < m → (γ1 ++ γ.drop m)[i]? = γ1[i]? := fun i h => List.getElem?_append_left (by omega)
  have getO1 : ∀ i, i < m → (O1 ++ O.drop m)[i]? = O1[i]? := fun i h => List.getElem?_append_left (by omega)
  have notTake : ∀ b, (∀ (i : Nat) (g : GO), γ[i]? = some g → g.blk ≠ some b) → ∀ (i : Nat) (g : GO), (γ.take m)[i]? = some g → g.blk ≠ some b := by
    intro b h i g hg
    rw [List.getElem?_take] at hg
    split at hg
    · exact h i g hg
    · cases hg
  have inTake : ∀ (i : Nat) (g : GO), (γ.take m)[i]? = some g → γ[i]? = some g ∧ i < m := by
    intro i g hg
    rw [List.getElem?_take] at hg
    split at hg
    · rename_i h; exact ⟨hg, h⟩
    · cases hg
  have later : ∀ (i : Nat) (g : GO) (b : Nat), m ≤ i → γ[i]? = some g → g.blk = some b → w'.heap[b]? = w.heap[b]? := by
    intro i g b hi hg hb
    refine E.old b (I.blks i g b hg hb).1 fun j g' hj hb' => ?_
    have := I.inj i j g g' b hg (inTake j g' hj).1 hb hb'
    have := (inTake j g' hj).2
    omega
  have E2 : Evo w F γ O w' F' (γ1 ++ γ.drop m) (O1 ++ O.drop m) := by
    refine ⟨E.os, E.tape, E.output, E.size, fun b hb hn => E.old b hb (notTake b hn), fun i g b hg hb => ?_, E.frm, fun b hb hf => ?_, fun i o o' g g' h1 h2 h3 h4 => ?_, by simp; omega⟩
    · by_cases hi : i < m
      · rw [getγ1 i hi] at hg
        rcases E.mine i g b hg hb with ⟨j, g', e1, e2⟩ | h
        · exact .inl ⟨j, g', (inTake j g' e1).1, e2⟩
        · exact .inr h
      · rw [getγ i (by omega)] at hg
        exact .inl ⟨i, g, hg, hb⟩
    · rcases E.frn b hb hf with h | ⟨j, g', e1, e2⟩
      · exact .inl h
      · exact .inr ⟨j, g', (inTake j g' e1).1, e2⟩
    · by_cases hi : i < m
      · rw [getO1 i hi] at h3
        rw [getγ1 i hi] at h4
        exact E.stab i o o' g g' (by rw [List.getElem?_take, if_pos hi]; exact h1) (by rw [List.getElem?_take, if_pos hi]; exact h2) h3 h4
      · rw [getO i (by omega)] at h3
        rw [getγ i (by omega)] at h4
        rw [h1] at h3; rw [h2] at h4; cases h3; cases h4
        exact Stab.refl _ _
  have hlen : (γ1 ++ γ.drop m).length = (O1 ++ O.drop m).length := by simp; omega
  refine ⟨⟨hlen, fun i o g ho hg => ?_, fun i o ho => ?_, fun i g b hg hb => ?_, fun i j g g' b h1 h2 h3 h4 => ?_, I1.fr⟩, E2⟩
  · by_cases hi : i < m
    · rw [getO1 i hi] at ho
      rw [getγ1 i hi] at hg
      exact (I1.ok i o g ho hg).mono (fun _ h => h) (fun _ _ => rfl) (Emb.app _ _) (fun _ _ => rfl)
    · rw [getO i (by omega)] at ho
      rw [getγ i (by omega)] at hg
      exact (I.ok i o g ho hg).evo I E2 hlen fun b hb => later i g b (by omega) hg hb
  · by_cases hi : i < m
    · rw [getO1 i hi] at ho; exact I1.bd i o ho
    · rw [getO i (by omega)] at ho; exact I.bd i o ho
  · by_cases hi : i < m
    · rw [getγ1 i hi] at hg; exact I1.blks i g b hg hb
    · rw [getγ i (by omega)] at hg
      obtain ⟨k1, k2⟩ := I.blks i g b hg hb
      refine ⟨Nat.lt_of_lt_of_le k1 E.size, fun hF => ?_⟩
      rcases E.frn b k1 hF with h | ⟨j, g', e1, e2⟩
      · exact k2 h
      · have := I.inj i j g g' b hg (inTake j g' e1).1 hb e2
        have := (inTake j g' e1).2
        omega
  · have cross : ∀ (i j : Nat) (g g' : GO), i < m → m ≤ j → γ1[i]? = some g → γ[j]? = some g' → g.blk = some b → g'.blk = some b → False := by
      intro i j g g' hi hj h1 h2 h3 h4
      rcases E.mine i g b h1 h3 with ⟨k, g2, e1, e2⟩ | h
      · have := I.inj j k g' g2 b h2 (inTake k g2 e1).1 h4 e2
        have := (inTake k g2 e1).2
        omega
      · have := (I.blks j g' b h2 h4).1
        omega
    by_cases hi : i < m <;> by_cases hj : j < m
    · rw [getγ1 i hi] at h1; rw [getγ1 j hj] at h2; exact I1.inj i j g g' b h1 h2 h3 h4
    · rw [getγ1 i hi] at h1; rw [getγ j (by omega)] at h2; exact (cross i j g g' hi (by omega) h1 h2 h3 h4).elim
    · rw [getγ i (by omega)] at h1; rw [getγ1 j hj] at h2; exact (cross j i g' g hj (by omega) h2 h1 h4 h3).elim
    · rw [getγ i (by omega)] at h1; rw [getγ j (by omega)] at h2; exact I.inj i j g g' b h1 h2 h3 h4
end
end Go.Proofs.Ythpiggjclhnkcaa.AM
