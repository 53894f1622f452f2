/- Elements of the call's own slices read and written; parts of such slices; slices made; maps. -/
import Derived.Test.YthpiggjclhnkcaaB9
import Derived.Laws.OwnMore
namespace Go.Proofs.Ythpiggjclhnkcaa.AM
open Go
set_option linter.unusedVariables false
set_option linter.unusedSimpArgs false

theorem load_D {P : Program} {w : World} {F : Nat → Prop} {γ : List GO} {O : List AObj} {t n : Nat} {ag : Bool} (S : Sz P t n ag) {ad : Addr} {cs : List D} {us : List Value} {v : AV}
    (hc : D.RC w F cs us) (hm : ∀ (j : Nat) (u : Value), us[j]? = some u → w.cell? (ad.add j) = some u) (hv : takeD ag n cs = some v) :
    ∃ u, (loadVar t ad).run P w = .ok u w ∧ v.V w F γ O u := by
  cases ag with
  | true =>
    simp only [takeD] at hv
    split at hv
    · rename_i hn
      cases hv
      have hl := RC_length cs us hc
      refine ⟨.agg (us.take n).toArray, ?_, ⟨us.take n, rfl, RC_take n cs us hc⟩⟩
      have := run_loadVar (w := w) S ad (us.take n) (by simp; omega) (fun h => by cases h) (fun j u hj => hm j u (by rw [List.getElem?_take] at hj; split at hj <;> first | exact hj | cases hj))
      simpa using this
    · cases hv
  | false =>
    simp only [takeD] at hv
    split at hv
    · rename_i hn
      subst hn
      cases cs with
      | nil => cases hv
      | cons c cs' =>
        cases hv
        obtain ⟨u, us', rfl, h1, h2, h3⟩ := hc
        refine ⟨u, ?_, h2⟩
        have := run_loadVar (w := w) S ad [u] rfl (fun _ => rfl) (fun j x hj => hm j x (by cases j with | zero => exact hj | succ j => cases hj))
        simpa using this
    · cases hv

section
variable {P : Program} {ro : Option Nat} {N : Nat} {K : Org} {T : Nat → AV} {O : List AObj} {dst : Option Tmp} {ty : TypeId} {pos : String} {af : Array Edge} {g : Option (Nat × Bool)}

/-- An element of a slice of the call's own. -/
theorem own_elem {w : World} {F : Nat → Prop} {γ : List GO} (I : Inv w F γ O) {id e sz ver i : Nat} {xs : List D} {y : D} {g' : GO} (hO : O[id]? = some (.buf e sz xs ver)) (hg : γ[id]? = some g') (hy : xs[i]? = some y) :
    ∃ (b : Nat) (cs : List Value) (v : Value), g'.blk = some b ∧ Row w b e sz g'.cap xs.length cs ∧ (∀ u ∈ cs, u.oneCell' = true) ∧ D.RE w F (fun k => cs[k]?) sz 0 xs ∧ 0 < ver ∧ y.R w F v ∧ v.cells.size = sz ∧ ∀ (j : Nat) (u : Value), v.cells[j]? = some u → w.cell? ⟨b, i * sz + j, none⟩ = some u := by
  rcases I.ok id _ g' hO hg with ⟨_, hx0, _⟩ | ⟨b, cs, hb, hrow, h1, hE, hv⟩
  · rw [hx0] at hy; cases hy
  · obtain ⟨v, k1, k2, k3⟩ := RE_get xs 0 i y hE hy
    exact ⟨b, cs, v, hb, hrow, h1, hE, hv, k1, k2, fun j u hj => hrow.cell _ u (by have := k3 j u hj; simpa using this)⟩

theorem opv_load_oel {x : Operand} {t id ver i off n e sz : Nat} {ag : Bool} {xs : List D} {y : D} {v : AV} [S : Sz P t n ag] (hx : evT T x = .oel id ver i off) (hO : O[id]? = some (.buf e sz xs ver)) (hy : xs[i]? = some y) (hv : takeD ag n (y.cells.drop off) = some v) :
    OpV P ro ⟨dst, .load t x, ty, pos, af, g⟩ T O v O :=
  OpV.of_same (fun c h => by cases h) fun w F γ a I H => by
    have h1 := H.at (x := x) (by simp [Op.operands]) hx
    obtain ⟨g', hg, _, hp⟩ := ownAt_val hO h1.2
    obtain ⟨b, hb, hp⟩ := hp rfl
    obtain ⟨b', cs, vv, hb', hrow, h2, hE, _, k1, k2, k3⟩ := own_elem I hO hg hy
    rw [hb] at hb'; cases hb'
    obtain ⟨u, hr, hV⟩ := load_D (P := P) (γ := γ) (O := O) S (ad := ⟨b, i * sz + off, none⟩) (RC_drop off _ _ (RC_cells' k1)) (fun j u hj => by
      rw [add_lit, Nat.add_assoc]; exact k3 _ u (by rw [List.getElem?_drop] at hj; simpa using hj)) hv
    refine ⟨u, ?_, hV⟩
    simp only [execOp, Instr.loadAt, hp, Instr.sureAddr]
    simp [hr]

/-- A whole element is written. -/
theorem opv_store_oel {p x : Operand} {t id ver i n e sz : Nat} {ag : Bool} {xs : List D} {v : AV} {y : D} [S : Sz P t n ag] (hp : evT T p = .oel id ver i 0) (hO : O[id]? = some (.buf e sz xs ver)) (hx : evT T x = v) (hv : asD v = some y) (hi : i < xs.length) (hn : n = sz) (hsz : y.cells.length = sz) :
    OpV P ro ⟨dst, .store t p x, ty, pos, af, g⟩ T O .unk (O.set id (.buf e sz (xs.set i y) ver)) :=
  OpV.of_run (fun c h => by cases h) fun w F γ a I H => by
    subst hn
    have h1 := H.at (x := p) (by simp [Op.operands]) hp
    have h2 := asD_R hv (H.at (x := x) (by simp [Op.operands]) hx)
    obtain ⟨g', hg, _, hpp⟩ := ownAt_val hO h1.2
    obtain ⟨b, hb, hpp⟩ := hpp rfl
    obtain ⟨b', cs, vv, hb', hrow, hone, hE, hver, _⟩ := own_elem I hO hg (List.getElem?_eq_getElem hi)
    rw [hb] at hb'; cases hb'
    have hrow0 := hrow
    obtain ⟨r1, r2, r3, cur, r4, r5, r6⟩ := hrow
    have hrc := RC_cells' h2
    have hvl : (a.eval x).cells.toList.length = n := by rw [RC_length _ _ hrc, hsz]
    have hvs : (a.eval x).cells.size = n := by simpa using hvl
    have hone2 := RC_one _ _ hrc
    have hcl : xs.length * n ≤ cur.size := by have := congrArg List.length r6; rw [List.length_take, r1] at this; simp at this; omega
    have hin : i * n + n ≤ xs.length * n := by rw [← Nat.succ_mul]; exact Nat.mul_le_mul_right _ hi
    have hst := run_storeCells_at P b (i * n) e (a.eval x).cells.toList 0 cur w r4 (by simp at hvl ⊢; omega) hone2
    obtain ⟨ns, hns⟩ : ∃ ns, ns = cur.toList.take (i * n) ++ ((a.eval x).cells.toList ++ cur.toList.drop (i * n + (a.eval x).cells.toList.length)) := ⟨_, rfl⟩
    have hst' : (storeCells ⟨b, i * n, none⟩ (a.eval x).cells.toList).run P w = .ok () (w.setRow b ns.toArray) := by
      rw [hns]; rw [hst]; simp [List.append_assoc]
    have hrun : (execOp a.eval ⟨dst, .store t p x, ty, pos, af, g⟩).run P w = .ok .skip (w.setRow b ns.toArray) := by
      simp only [Nat.add_zero] at hpp
      simp only [execOp, Instr.storeAt, hpp, Instr.sureAddr, storeVar]
      simp [S.run_size, hvs, hst']
    obtain ⟨hlt, hnf⟩ := I.blks id g' b hg hb
    -- the cells of the elements, behind
    have hget : ∀ k, (ns.take (xs.length * n))[k]? = if i * n ≤ k ∧ k < i * n + n then (a.eval x).cells.toList[k - i * n]? else cs[k]? := by
      intro k
      have hl1 : (cur.toList.take (i * n)).length = i * n := by rw [List.length_take, Array.length_toList]; omega
      rw [hns, ← r6]
      by_cases k0 : k < xs.length * n
      · rw [List.getElem?_take_of_lt k0, List.getElem?_take_of_lt k0]
        by_cases k1 : k < i * n
        · rw [if_neg (by omega), List.getElem?_append_left (by rw [hl1]; exact k1), List.getElem?_take_of_lt k1]
        · by_cases k2 : k < i * n + n
          · rw [if_pos ⟨by omega, k2⟩, List.getElem?_append_right (by rw [hl1]; omega), hl1, List.getElem?_append_left (by rw [hvl]; omega)]
          · rw [if_neg (by omega), List.getElem?_append_right (by rw [hl1]; omega), hl1, List.getElem?_append_right (by rw [hvl]; omega), hvl, List.getElem?_drop]
            congr 1; omega
      · rw [List.getElem?_eq_none (by rw [List.length_take]; omega), if_neg (by omega), List.getElem?_eq_none (by rw [List.length_take]; omega)]
    obtain ⟨I', E⟩ := I.upd (w' := w.setRow b ns.toArray) (F' := F) (o' := .buf e n (xs.set i y) ver) (g' := g') hO hg
      rfl rfl rfl (by simp) (fun c hc hne => setRow_other w b c _ (fun e => hne (by rw [e]; exact hb))) (fun c hc => .inl hc) (fun c hc => by rw [hb] at hc; cases hc; exact ⟨by simpa using hlt, hnf⟩)
      (fun _ h => h) (fun _ h => .inl h) ⟨rfl, rfl, .inr ⟨rfl, rfl, by simp⟩⟩ trivial
      fun E => .inr ⟨b, ns.take (xs.length * n), hb, ⟨by
          rw [List.length_take, hns]; simp only [List.length_append, List.length_take, List.length_drop, hvl, Array.length_toList, List.length_set]; omega, by simpa using r2, r3, ns.toArray, setRow_heap w b cur _ e (0, 0) r4, by
          rw [hns]; simp only [List.size_toArray, List.length_append, List.length_take, List.length_drop, hvl, Array.length_toList]; omega, by simp⟩,
        fun u hu => by
          rw [List.mem_iff_getElem?] at hu
          obtain ⟨k, hk⟩ := hu
          rw [hget k] at hk
          split at hk
          · exact hone2 u (List.mem_of_getElem? hk)
          · exact hone u (List.mem_of_getElem? hk),
        RE_mk _ 0 fun j z hz => by
          by_cases hji : j = i
          · subst hji
            rw [List.getElem?_set_self hi] at hz
            cases hz
            refine ⟨_, D.R_evo I E h2, hvs, fun k u hk => ?_⟩
            rw [Nat.zero_add, hget]
            have hkl : k < (a.eval x).cells.size := (Array.getElem?_eq_some_iff.1 hk).1
            rw [if_pos (by omega), Nat.add_sub_cancel_left]
            simpa using hk
          · rw [List.getElem?_set_ne (fun h => hji h.symm)] at hz
            obtain ⟨v', k1, k2, k3⟩ := RE_get xs 0 j z hE hz
            refine ⟨v', D.R_evo I E k1, k2, fun k u hk => ?_⟩
            have hkl : k < v'.cells.size := (Array.getElem?_eq_some_iff.1 hk).1
            rw [hget, if_neg]
            · exact k3 k u hk
            · rw [Nat.zero_add]
              rcases Nat.lt_or_gt_of_ne hji with h | h
              · have : j * n + n ≤ i * n := by rw [← Nat.succ_mul]; exact Nat.mul_le_mul_right _ h
                omega
              · have : i * n + n ≤ j * n := by rw [← Nat.succ_mul]; exact Nat.mul_le_mul_right _ h
                omega, hver⟩
    exact ⟨undef, _, F, _, .inr ⟨hrun, rfl⟩, trivial, I', E⟩
end
end Go.Proofs.Ythpiggjclhnkcaa.AM
