/- How the relation is kept: a heap that grows, a new object, a changed object, objects that are dropped, sealed. -/
import Derived.Test.YthpiggjclhnkcaaA1
namespace Go.Proofs.Ythpiggjclhnkcaa.AM
open Go
set_option linter.unusedVariables false
set_option linter.unusedSimpArgs false
variable {w w' : World} {F F' : Nat → Prop} {γ γ' : List GO} {O O' : List AObj}

/-- The heap has grown; nothing that was there has turned; some new blocks are data. -/
theorem Inv.grow (I : Inv w F γ O) (hos : w'.os = w.os) (ht : w'.tape = w.tape) (hout : w'.output = w.output) (hs : w.heap.size ≤ w'.heap.size)
    (hold : ∀ b, b < w.heap.size → w'.heap[b]? = w.heap[b]?) (h1 : ∀ b, F b → F' b) (h2 : ∀ b, b < w.heap.size → F' b → F b) (h3 : ∀ b, F' b → b < w'.heap.size) :
    Inv w' F' γ O ∧ Evo w F γ O w' F' γ O := by
  have E : Evo w F γ O w' F' γ O := ⟨hos, ht, hout, hs, fun b hb _ => hold b hb, fun i g b e1 e2 => .inl ⟨i, g, e1, e2⟩, h1, fun b hb hf => .inl (h2 b hb hf),
    fun i o o' g g' e1 e2 e3 e4 => by rw [e1] at e3; rw [e2] at e4; cases e3; cases e4; exact Stab.refl _ _, Nat.le_refl _⟩
  refine ⟨⟨I.len, fun i o g ho hg => (I.ok i o g ho hg).evo I E I.len fun b hb => hold b (I.blks i g b hg hb).1, I.bd, fun i g b hg hb => ?_, I.inj, h3⟩, E⟩
  obtain ⟨e1, e2⟩ := I.blks i g b hg hb
  exact ⟨Nat.lt_of_lt_of_le e1 hs, fun hf => e2 (h2 b e1 hf)⟩

theorem getElem?_snoc {α : Type} (l : List α) (x : α) (i : Nat) {y : α} (h : (l ++ [x])[i]? = some y) : l[i]? = some y ∧ i < l.length ∨ i = l.length ∧ y = x := by
  by_cases hi : i < l.length
  · rw [List.getElem?_append_left hi] at h; exact .inl ⟨h, hi⟩
  · rw [List.getElem?_append_right (by omega)] at h
    have : i - l.length = 0 := by
      rcases Nat.eq_zero_or_pos (i - l.length) with e | e
      · exact e
      · rw [List.getElem?_eq_none (by simp; omega)] at h; cases h
    rw [this] at h
    exact .inr ⟨by omega, by simpa using h.symm⟩

/-- A new object, over a world that has grown. -/
theorem Inv.push (I : Inv w F γ O) (o : AObj) (g : GO) (hos : w'.os = w.os) (ht : w'.tape = w.tape) (hout : w'.output = w.output) (hs : w.heap.size ≤ w'.heap.size)
    (hold : ∀ b, b < w.heap.size → w'.heap[b]? = w.heap[b]?) (hg : ∀ b, g.blk = some b → w.heap.size ≤ b ∧ b < w'.heap.size) (hbd : o.bd (O.length + 1))
    (hok : Evo w F γ O w' F (γ ++ [g]) (O ++ [o]) → OkObj w' F (γ ++ [g]) (O ++ [o]) o g) :
    Inv w' F (γ ++ [g]) (O ++ [o]) ∧ Evo w F γ O w' F (γ ++ [g]) (O ++ [o]) := by
  have E : Evo w F γ O w' F (γ ++ [g]) (O ++ [o]) := by
    refine ⟨hos, ht, hout, hs, fun b hb _ => hold b hb, fun i g' b e1 e2 => ?_, fun _ h => h, fun b hb hf => .inl hf, fun i o1 o2 g1 g2 e1 e2 e3 e4 => ?_, by simp⟩
    · rcases getElem?_snoc γ g i e1 with ⟨e, _⟩ | ⟨_, rfl⟩
      · exact .inl ⟨i, g', e, e2⟩
      · exact .inr (hg b e2).1
    · rw [List.getElem?_append_left (List.getElem?_eq_some_iff.1 e1).1, e1] at e3
      rw [List.getElem?_append_left (List.getElem?_eq_some_iff.1 e2).1, e2] at e4
      cases e3; cases e4; exact Stab.refl _ _
  have hl : (γ ++ [g]).length = (O ++ [o]).length := by simp [I.len]
  refine ⟨⟨hl, fun i o' g' ho hg' => ?_, fun i o' ho => ?_, fun i g' b hg' hb => ?_, fun i j g1 g2 b h1 h2 h3 h4 => ?_, fun b hb => Nat.lt_of_lt_of_le (I.fr b hb) hs⟩, E⟩
  · rcases getElem?_snoc O o i ho with ⟨e, hi⟩ | ⟨rfl, rfl⟩
    · rcases getElem?_snoc γ g i hg' with ⟨e', _⟩ | ⟨e', _⟩
      · exact (I.ok i o' g' e e').evo I E hl fun b hb => hold b (I.blks i g' b e' hb).1
      · have := I.len; omega
    · rcases getElem?_snoc γ g _ hg' with ⟨_, e'⟩ | ⟨_, rfl⟩
      · have := I.len; omega
      · exact hok E
  · rcases getElem?_snoc O o i ho with ⟨e, hi⟩ | ⟨rfl, rfl⟩
    · exact I.bd i o' e
    · exact hbd
  · rcases getElem?_snoc γ g i hg' with ⟨e, _⟩ | ⟨_, rfl⟩
    · obtain ⟨e1, e2⟩ := I.blks i g' b e hb; exact ⟨Nat.lt_of_lt_of_le e1 hs, e2⟩
    · obtain ⟨e1, e2⟩ := hg b hb; exact ⟨e2, fun hf => by have := I.fr b hf; omega⟩
  · rcases getElem?_snoc γ g i h1 with ⟨e, hi⟩ | ⟨hi, eg1⟩ <;> rcases getElem?_snoc γ g j h2 with ⟨e', hj⟩ | ⟨hj, eg2⟩
    · exact I.inj i j g1 g2 b e e' h3 h4
    · subst eg2; have := (I.blks i g1 b e h3).1; have := (hg b h4).1; omega
    · subst eg1; have := (I.blks j g2 b e' h4).1; have := (hg b h3).1; omega
    · omega

theorem getElem?_set' {α : Type} (l : List α) (i j : Nat) (x : α) {y : α} (h : (l.set i x)[j]? = some y) : (i ≠ j ∧ l[j]? = some y) ∨ (i = j ∧ y = x ∧ i < l.length) := by
  by_cases e : i = j
  · subst e
    by_cases hi : i < l.length
    · rw [List.getElem?_set_self hi] at h; exact .inr ⟨rfl, by simpa using h.symm, hi⟩
    · rw [List.getElem?_eq_none (by simp; omega)] at h; cases h
  · rw [List.getElem?_set_ne e] at h; exact .inl ⟨e, h⟩

/-- One object has turned; its block alone was written; it may have a new block. -/
theorem Inv.upd (I : Inv w F γ O) {i : Nat} {o o' : AObj} {g g' : GO} (hi : O[i]? = some o) (hgi : γ[i]? = some g)
    (hos : w'.os = w.os) (ht : w'.tape = w.tape) (hout : w'.output = w.output) (hs : w.heap.size ≤ w'.heap.size)
    (hold : ∀ b, b < w.heap.size → g.blk ≠ some b → w'.heap[b]? = w.heap[b]?)
    (hg : ∀ b, g'.blk = some b → g.blk = some b ∨ w.heap.size ≤ b) (hg2 : ∀ b, g'.blk = some b → b < w'.heap.size ∧ ¬ F' b)
    (h1 : ∀ b, F b → F' b) (h2 : ∀ b, F' b → F b ∨ (g.blk = some b ∧ b < w'.heap.size) ∨ (w.heap.size ≤ b ∧ b < w'.heap.size)) (hst : Stab o o' g g') (hbd : o'.bd (i + 1))
    (hok : Evo w F γ O w' F' (γ.set i g') (O.set i o') → OkObj w' F' (γ.set i g') (O.set i o') o' g') :
    Inv w' F' (γ.set i g') (O.set i o') ∧ Evo w F γ O w' F' (γ.set i g') (O.set i o') := by
  have hiO : i < O.length := (List.getElem?_eq_some_iff.1 hi).1
  have hiγ : i < γ.length := (List.getElem?_eq_some_iff.1 hgi).1
  have E : Evo w F γ O w' F' (γ.set i g') (O.set i o') := by
    refine ⟨hos, ht, hout, hs, fun b hb hn => hold b hb (hn i g hgi), fun j g1 b e1 e2 => ?_, h1, fun b hb hf => ?_, fun j o1 o2 g1 g2 e1 e2 e3 e4 => ?_, by simp⟩
    · rcases getElem?_set' γ i j g' e1 with ⟨_, e⟩ | ⟨_, rfl, _⟩
      · exact .inl ⟨j, g1, e, e2⟩
      · rcases hg b e2 with e | e
        · exact .inl ⟨i, g, hgi, e⟩
        · exact .inr e
    · rcases h2 b hf with e | ⟨e, _⟩ | ⟨e, _⟩
      · exact .inl e
      · exact .inr ⟨i, g, hgi, e⟩
      · omega
    · rcases getElem?_set' O i j o' e3 with ⟨hne, e⟩ | ⟨rfl, rfl, _⟩
      · rcases getElem?_set' γ i j g' e4 with ⟨_, e'⟩ | ⟨he, _, _⟩
        · rw [e1] at e; rw [e2] at e'; cases e; cases e'; exact Stab.refl _ _
        · exact absurd he hne
      · rcases getElem?_set' γ i i g' e4 with ⟨he, _⟩ | ⟨_, rfl, _⟩
        · exact absurd rfl he
        · rw [hi] at e1; rw [hgi] at e2; cases e1; cases e2; exact hst
  have hl : (γ.set i g').length = (O.set i o').length := by simp [I.len]
  refine ⟨⟨hl, fun j o1 g1 ho hg1 => ?_, fun j o1 ho => ?_, fun j g1 b hg1 hb => ?_, fun j k g1 g2 b e1 e2 e3 e4 => ?_, fun b hb => ?_⟩, E⟩
  · rcases getElem?_set' O i j o' ho with ⟨hne, e⟩ | ⟨rfl, rfl, _⟩
    · rcases getElem?_set' γ i j g' hg1 with ⟨_, e'⟩ | ⟨he, _, _⟩
      · exact (I.ok j o1 g1 e e').evo I E hl fun b hb => hold b (I.blks j g1 b e' hb).1 fun he => hne (I.inj i j g g1 b hgi e' he hb)
      · exact absurd he hne
    · rcases getElem?_set' γ i i g' hg1 with ⟨he, _⟩ | ⟨_, rfl, _⟩
      · exact absurd rfl he
      · exact hok E
  · rcases getElem?_set' O i j o' ho with ⟨hne, e⟩ | ⟨rfl, rfl, _⟩
    · exact I.bd j o1 e
    · exact hbd
  · rcases getElem?_set' γ i j g' hg1 with ⟨hne, e⟩ | ⟨rfl, rfl, _⟩
    · obtain ⟨e1, e2⟩ := I.blks j g1 b e hb
      refine ⟨Nat.lt_of_lt_of_le e1 hs, fun hf => ?_⟩
      rcases h2 b hf with h | ⟨h, _⟩ | ⟨h, _⟩
      · exact e2 h
      · exact hne (I.inj i j g g1 b hgi e h hb)
      · omega
    · exact hg2 b hb
  · rcases getElem?_set' γ i j g' e1 with ⟨hj, e⟩ | ⟨rfl, eg1, _⟩ <;> rcases getElem?_set' γ i k g' e2 with ⟨hk, e'⟩ | ⟨hk, eg2, _⟩
    · exact I.inj j k g1 g2 b e e' e3 e4
    · subst eg2; rcases hg b e4 with h | h
      · exact (I.inj j i g1 g b e hgi e3 h).trans hk
      · have := (I.blks j g1 b e e3).1; omega
    · subst eg1; rcases hg b e3 with h | h
      · exact I.inj i k g g2 b hgi e' h e4
      · have := (I.blks k g2 b e' e4).1; omega
    · exact hk
  · rcases h2 b hb with h | ⟨_, h⟩ | ⟨_, h⟩
    · exact Nat.lt_of_lt_of_le (I.fr b h) hs
    · exact h
    · exact h

/-! Objects that are dropped from the end. -/
theorem getElem?_take' {α : Type} (l : List α) (n i : Nat) (hi : i < n) : (l.take n)[i]? = l[i]? := by
  rw [List.getElem?_take]; simp [hi]
section take
variable {n : Nat}
theorem ownAt_take {id ver : Nat} {P : GO → Nat → List D → Prop} (hid : id < n) (h : ownAt O γ id ver P) : ownAt (O.take n) (γ.take n) id ver P := by
  obtain ⟨g, o, h1, h2, h3⟩ := h; exact ⟨g, o, by rw [getElem?_take' _ _ _ hid, h1], by rw [getElem?_take' _ _ _ hid, h2], h3⟩
theorem refAt_take {id : Nat} {P : Nat → Prop} (hid : id < n) (h : refAt O γ id P) : refAt (O.take n) (γ.take n) id P := by
  obtain ⟨g, o, h1, h2, h3⟩ := h; exact ⟨g, o, by rw [getElem?_take' _ _ _ hid, h1], by rw [getElem?_take' _ _ _ hid, h2], h3⟩
theorem mapAt_take {id : Nat} {P : Nat → Prop} (hid : id < n) (h : mapAt O γ id P) : mapAt (O.take n) (γ.take n) id P := by
  obtain ⟨g, o, h1, h2, h3⟩ := h; exact ⟨g, o, by rw [getElem?_take' _ _ _ hid, h1], by rw [getElem?_take' _ _ _ hid, h2], h3⟩
theorem loopAt_take {id : Nat} {P : Nat → Prop} (hid : id < n) (h : loopAt O γ id P) : loopAt (O.take n) (γ.take n) id P := by
  obtain ⟨g, o, h1, h2, h3⟩ := h; exact ⟨g, o, by rw [getElem?_take' _ _ _ hid, h1], by rw [getElem?_take' _ _ _ hid, h2], h3⟩
mutual
theorem AV.V_take : ∀ (x : AV) (v : Value), x.bd n → x.V w F γ O v → x.V w F (γ.take n) (O.take n) v
  | .d x, v, _, h => h
  | .nil0, v, _, h => h
  | .nilf, v, _, h => h
  | .own id ver, v, b, h => ⟨h.1, ownAt_take b h.2⟩
  | .ref id off, v, b, h => ⟨h.1, refAt_take b h.2⟩
  | .oel id ver i off, v, b, h => ⟨h.1, ownAt_take b h.2⟩
  | .osl id ver off n, v, b, h => ⟨h.1, ownAt_take b h.2⟩
  | .mp id, v, b, h => ⟨h.1, mapAt_take b h.2⟩
  | .yld id, v, b, h => ⟨h.1, loopAt_take b h.2⟩
  | .fn f caps, v, b, h => by simp only [AV.V] at h ⊢; obtain ⟨us, rfl, hs⟩ := h; exact ⟨us, rfl, AV.Vs_take caps us b hs⟩
  | .tup xs, v, b, h => by simp only [AV.V] at h ⊢; obtain ⟨us, rfl, hs⟩ := h; exact ⟨us, rfl, AV.Vs_take xs us b hs⟩
  | .agg cs, v, b, h => by simp only [AV.V] at h ⊢; obtain ⟨us, rfl, hs⟩ := h; exact ⟨us, rfl, AV.VC_take cs us b hs⟩
  | .unk, v, _, h => trivial
theorem AV.Vs_take : ∀ (xs : List AV) (us : List Value), AV.bds n xs → AV.Vs w F γ O xs us → AV.Vs w F (γ.take n) (O.take n) xs us
  | [], us, _, h => h
  | c :: cs, us, b, h => by simp only [AV.Vs, AV.bds] at h b ⊢; obtain ⟨u, us', rfl, h1, h2⟩ := h; exact ⟨u, us', rfl, AV.V_take c u b.1 h1, AV.Vs_take cs us' b.2 h2⟩
theorem AV.VC_take : ∀ (xs : List AV) (us : List Value), AV.bds n xs → AV.VC w F γ O xs us → AV.VC w F (γ.take n) (O.take n) xs us
  | [], us, _, h => h
  | c :: cs, us, b, h => by simp only [AV.VC, AV.bds] at h b ⊢; obtain ⟨u, us', rfl, h0, h1, h2⟩ := h; exact ⟨u, us', rfl, h0, AV.V_take c u b.1 h1, AV.VC_take cs us' b.2 h2⟩
end
end take
mutual
theorem AV.bd_mono {n m : Nat} (h : n ≤ m) : ∀ (x : AV), x.bd n → x.bd m
  | .d _, b => trivial
  | .nil0, b => trivial
  | .nilf, b => trivial
  | .own id _, b => Nat.lt_of_lt_of_le b h
  | .ref id _, b => Nat.lt_of_lt_of_le b h
  | .oel id _ _ _, b => Nat.lt_of_lt_of_le b h
  | .osl id _ _ _, b => Nat.lt_of_lt_of_le b h
  | .mp id, b => Nat.lt_of_lt_of_le b h
  | .yld id, b => Nat.lt_of_lt_of_le b h
  | .fn f caps, b => AV.bds_mono h caps b
  | .tup xs, b => AV.bds_mono h xs b
  | .agg cs, b => AV.bds_mono h cs b
  | .unk, b => trivial
theorem AV.bds_mono {n m : Nat} (h : n ≤ m) : ∀ (xs : List AV), AV.bds n xs → AV.bds m xs
  | [], b => trivial
  | c :: cs, b => ⟨AV.bd_mono h c b.1, AV.bds_mono h cs b.2⟩
end
/-- A value's objects are there. -/
theorem lt_of_at {id : Nat} {g : GO} (I : Inv w F γ O) (h : γ[id]? = some g) : id < O.length := by
  have := (List.getElem?_eq_some_iff.1 h).1; have := I.len; omega
mutual
theorem AV.V_bd (I : Inv w F γ O) : ∀ (x : AV) (v : Value), x.V w F γ O v → x.bd O.length
  | .d x, v, h => trivial
  | .nil0, v, h => trivial
  | .nilf, v, h => trivial
  | .own id ver, v, h => lt_of_at I h.2.choose_spec.choose_spec.1
  | .ref id off, v, h => lt_of_at I h.2.choose_spec.choose_spec.1
  | .oel id ver i off, v, h => lt_of_at I h.2.choose_spec.choose_spec.1
  | .osl id ver off n, v, h => lt_of_at I h.2.choose_spec.choose_spec.1
  | .mp id, v, h => lt_of_at I h.2.choose_spec.choose_spec.1
  | .yld id, v, h => lt_of_at I h.2.choose_spec.choose_spec.1
  | .fn f caps, v, h => by simp only [AV.V] at h; obtain ⟨us, rfl, hs⟩ := h; exact AV.Vs_bd I caps us hs
  | .tup xs, v, h => by simp only [AV.V] at h; obtain ⟨us, rfl, hs⟩ := h; exact AV.Vs_bd I xs us hs
  | .agg cs, v, h => by simp only [AV.V] at h; obtain ⟨us, rfl, hs⟩ := h; exact AV.VC_bd I cs us hs
  | .unk, v, h => trivial
theorem AV.Vs_bd (I : Inv w F γ O) : ∀ (xs : List AV) (us : List Value), AV.Vs w F γ O xs us → AV.bds O.length xs
  | [], us, h => trivial
  | c :: cs, us, h => by simp only [AV.Vs] at h; obtain ⟨u, us', rfl, h1, h2⟩ := h; exact ⟨AV.V_bd I c u h1, AV.Vs_bd I cs us' h2⟩
theorem AV.VC_bd (I : Inv w F γ O) : ∀ (xs : List AV) (us : List Value), AV.VC w F γ O xs us → AV.bds O.length xs
  | [], us, h => trivial
  | c :: cs, us, h => by simp only [AV.VC] at h; obtain ⟨u, us', rfl, _, h1, h2⟩ := h; exact ⟨AV.V_bd I c u h1, AV.VC_bd I cs us' h2⟩
end

theorem OkObj.take {n : Nat} {o : AObj} {g : GO} (hb : o.bd n) (h : OkObj w F γ O o g) : OkObj w F (γ.take n) (O.take n) o g := by
  cases o with
  | cells cs => obtain ⟨b, us, t, h1, h2, h3⟩ := h; exact ⟨b, us, t, h1, h2, AV.VC_take cs us hb h3⟩
  | buf e sz xs v => exact h
  | mapo es => exact h
  | loopo T N ps ag bo st pe =>
    obtain ⟨b, fn, tmps, df, h1, h2, h3, h4⟩ := h
    exact ⟨b, fn, tmps, df, h1, h2, h3, fun s hs => AV.V_take _ _ (hb s hs) (h4 s hs)⟩
  | dfro => exact h
  | vbuf e xs => obtain ⟨b, us, h1, h2, h3⟩ := h; exact ⟨b, us, h1, h2, AV.VC_take xs us hb h3⟩
  | dead => exact h
theorem AObj.bd_mono {n m : Nat} (h : n ≤ m) {o : AObj} (b : o.bd n) : o.bd m := by
  cases o with
  | cells cs => exact AV.bds_mono h cs b
  | vbuf e cs => exact AV.bds_mono h cs b
  | loopo T N ps ag bo st pe => exact fun s hs => AV.bd_mono h _ (b s hs)
  | _ => exact trivial

theorem Inv.take (I : Inv w F γ O) (n : Nat) : Inv w F (γ.take n) (O.take n) := by
  have hlt : ∀ {α : Type} (l : List α) (i : Nat) (x : α), (l.take n)[i]? = some x → i < n ∧ l[i]? = some x := fun l i x h => by
    have hi := (List.getElem?_eq_some_iff.1 h).1
    have hn : i < n := by simp at hi; omega
    exact ⟨hn, by rw [getElem?_take' _ _ _ hn] at h; exact h⟩
  refine ⟨by simp [I.len], fun i o g ho hg => ?_, fun i o ho => I.bd i o (hlt O i o ho).2, fun i g b hg hb => I.blks i g b (hlt γ i g hg).2 hb,
    fun i j g g' b h1 h2 h3 h4 => I.inj i j g g' b (hlt γ i g h1).2 (hlt γ j g' h2).2 h3 h4, I.fr⟩
  obtain ⟨hn, ho'⟩ := hlt O i o ho
  obtain ⟨_, hg'⟩ := hlt γ i g hg
  exact (I.ok i o g ho' hg').take (AObj.bd_mono hn (I.bd i o ho'))

/-- Evolution to fewer objects, as long as those that were there at its start stay. -/
theorem Evo.take {w0 : World} {F0 : Nat → Prop} {γ0 : List GO} {O0 : List AObj} (E : Evo w0 F0 γ0 O0 w F γ O) (n : Nat) (hn : O0.length ≤ n) (hl : γ.length = O.length) : Evo w0 F0 γ0 O0 w F (γ.take n) (O.take n) := by
  have hlt : ∀ {α : Type} (l : List α) (i : Nat) (x : α), (l.take n)[i]? = some x → l[i]? = some x := fun l i x h => by
    have hi := (List.getElem?_eq_some_iff.1 h).1
    have hn : i < n := by simp at hi; omega
    rw [getElem?_take' _ _ _ hn] at h; exact h
  exact ⟨E.os, E.tape, E.output, E.size, E.old, fun i g b h1 h2 => E.mine i g b (hlt γ i g h1) h2, E.frm, E.frn,
    fun i o o' g g' h1 h2 h3 h4 => E.stab i o o' g g' h1 h2 (hlt O i o' h3) (hlt γ i g' h4), by have := E.len; simp; omega⟩

/-- A value without what was dropped. -/
def AV.kill (n : Nat) : AV → AV
  | .d x => .d x
  | .nil0 => .nil0
  | .nilf => .nilf
  | .own id v => bif Nat.blt id n then .own id v else .unk
  | .ref id o => bif Nat.blt id n then .ref id o else .unk
  | .oel id v i o => bif Nat.blt id n then .oel id v i o else .unk
  | .osl id v i o => bif Nat.blt id n then .osl id v i o else .unk
  | .mp id => bif Nat.blt id n then .mp id else .unk
  | .yld id => bif Nat.blt id n then .yld id else .unk
  | .fn f [] => .fn f []
  | _ => .unk
theorem AV.V_kill {n : Nat} {x : AV} {v : Value} (h : x.V w F γ O v) : (x.kill n).V w F (γ.take n) (O.take n) v := by
  have key : ∀ (id : Nat) (y : AV), ((h' : id < n) → y.V w F (γ.take n) (O.take n) v) → AV.V w F (γ.take n) (O.take n) (bif Nat.blt id n then y else .unk) v := fun id y hy => by
    cases hb : Nat.blt id n with
    | true => exact hy (by simpa [Nat.blt_eq] using hb)
    | false => exact trivial
  cases x with
  | d x => exact h
  | nil0 => exact h
  | nilf => exact h
  | own id ver => exact key id _ fun hi => ⟨h.1, ownAt_take hi h.2⟩
  | ref id off => exact key id _ fun hi => ⟨h.1, refAt_take hi h.2⟩
  | oel id ver i off => exact key id _ fun hi => ⟨h.1, ownAt_take hi h.2⟩
  | osl id ver off n => exact key id _ fun hi => ⟨h.1, ownAt_take hi h.2⟩
  | mp id => exact key id _ fun hi => ⟨h.1, mapAt_take hi h.2⟩
  | yld id => exact key id _ fun hi => ⟨h.1, loopAt_take hi h.2⟩
  | fn f caps =>
    cases caps with
    | nil => obtain ⟨us, h1, h2⟩ := h; exact ⟨us, h1, h2⟩
    | cons c cs => exact trivial
  | tup xs => exact trivial
  | agg cs => exact trivial
  | unk => exact trivial
end Go.Proofs.Ythpiggjclhnkcaa.AM
