/- A region that draws its order and makes a place meanwhile. -/
import Derived.Test.YthpiggjclhnkcaaV2
namespace Go.Proofs.Ythpiggjclhnkcaa.AM
open Go
set_option linter.unusedVariables false
set_option linter.unusedSimpArgs false
section
variable {P : Program} {ro : Option Nat} {N : Nat} {K : Org} {T : Nat → AV} {O : List AObj}
/-- A region that draws its order, where one place is made (p) while others turn theirs, and is written at last. -/
theorem Runs.drawnX {id : Nat} {ops : List Oper} {Q : Exit → (Nat → AV) → List AObj → Prop} (hm : P.follows .mixedOrders = true) (ids : List Nat) (any imp : List Bool) (hc : drawOk ops imp any = true) (p q : Nat) (hq1 : ops.length = q + 1) (hpq : p < q) (hip : imp.getD p false = false) (hiq : imp.getD q false = true)
    (hbq : ∀ j, j < q → ((masks ops []).getD q 0).testBit j = true) (hany0 : ∀ i, i < q → any.getD i false = !(imp.getD i false)) (hng : ∀ (i : Nat) (o : Oper), ops[i]? = some o → o.guard = none) (z : AObj) (Oe : List AObj) (Tq : Nat → Nat → AV) (Ob : Nat → List AObj) (val : Nat → AV)
    (hids : ∀ x ∈ ids, x < O.length) (hlen : ∀ i, i ≤ q → (Ob i).length = O.length) (hT0 : Tq 0 = T) (hO0 : Ob 0 = O) (hq : Q .normal (Tq ops.length) Oe)
    (hall0 : ∀ i o, ops[i]? = some o → dstB N o.dst = true ∧ Tq (i + 1) = updo (Tq i) o.dst (val i))
    (hst : ∀ i o, ops[i]? = some o → i < q → (imp.getD i false = false → Ob (i + 1) = Ob i) ∧ KeepI ids (Ob i) (Ob (i + 1)))
    (hpure : ∀ i o, ops[i]? = some o → i < q → i ≠ p → imp.getD i false = false → ∀ O', KeepI ids (Ob i) O' → OpV P ro o (Tq i) O' (val i) O')
    (himp : ∀ i o, ops[i]? = some o → i < q → imp.getD i false = true → ∀ X, X = [] ∨ X = [z] → OpV P ro o (Tq i) (Ob i ++ X) (val i) (Ob (i + 1) ++ X))
    (hmk0 : ∀ o, ops[p]? = some o → ∀ O', O'.length = O.length → OpV P ro o (Tq p) O' (val p) (O' ++ [z]))
    (hend : ∀ o, ops[q]? = some o → OpV P ro o (Tq q) (Ob q ++ [z]) (val q) Oe) : Runs P ro N K (.region id ops.toArray true) T O Q := by
  intro a w hat
  refine wpIn_region_any hm ?_
  -- what the sequential run holds
  have seqT : ∀ k, k ≤ ops.length → ∀ s, (∀ j o, j < k → ops[j]? = some o → o.dst = some s → Tq k s = val j) ∧ ((∀ j o, j < k → ops[j]? = some o → o.dst ≠ some s) → Tq k s = T s) := by
    intro k
    induction k with
    | zero => intro _ s; exact ⟨fun j o h => absurd h (Nat.not_lt_zero _), fun _ => by rw [hT0]⟩
    | succ k ih =>
      intro hk s
      obtain ⟨i1, i2⟩ := ih (by omega) s
      have hok : ops[k]? = some ops[k] := List.getElem?_eq_getElem (by omega)
      obtain ⟨_, hT1⟩ := hall0 k _ hok
      refine ⟨fun j o hj ho hd => ?_, fun hno => ?_⟩
      · rw [hT1]
        by_cases hjk : j = k
        · subst hjk
          rw [hok] at ho; cases ho
          rw [hd]; simp only [updo, upd, Nat.beq_refl, cond_true]
        · have hne : (ops[k]).dst ≠ some s := by
            intro hd'
            have := pair_of hc hok ho (by omega)
            simp only [pairOk, hd, hd', dstEq, Nat.beq_refl, Bool.not_true, Bool.false_and] at this
            cases this
          have : updo (Tq k) (ops[k]).dst (val k) s = Tq k s := by
            cases hdk : (ops[k]).dst with
            | none => rfl
            | some d =>
              simp only [updo, upd]
              cases hb : Nat.beq s d with
              | false => rfl
              | true => exact absurd (by rw [hdk, Nat.eq_of_beq_eq_true hb]) hne
          rw [this]
          exact i1 j o (by omega) ho hd
      · rw [hT1]
        have hne := hno k _ (Nat.lt_succ_self k) hok
        have : updo (Tq k) (ops[k]).dst (val k) s = Tq k s := by
          cases hdk : (ops[k]).dst with
          | none => rfl
          | some d =>
            simp only [updo, upd]
            cases hb : Nat.beq s d with
            | false => rfl
            | true => exact absurd (by rw [hdk, Nat.eq_of_beq_eq_true hb]) hne
        rw [this]
        exact i2 fun j o hj => hno j o (by omega)
  have seqO : ∀ m k, m ≤ k → k ≤ q → (∀ j, m ≤ j → j < k → imp.getD j false = false) → Ob k = Ob m := by
    intro m k
    induction k with
    | zero => intro h _ _; rw [show m = 0 by omega]
    | succ k ih =>
      intro h hk hi
      by_cases hmk : m = k + 1
      · rw [hmk]
      · obtain ⟨h3, _⟩ := hst k _ (List.getElem?_eq_getElem (by omega)) (by omega)
        rw [h3 (hi k (by omega) (by omega)), ih (by omega) (by omega) fun j h1 h2 => hi j h1 (by omega)]
  let L : Array Bool → Nat → Prop := fun listed i => listed.getD i false = true
  let Oc : Nat → Array Bool → List AObj := fun m listed => if m = q + 1 then Oe else Ob m ++ (if listed.getD p false = true then [z] else [])
  have main : ∀ (fuel : Nat) (listed : Array Bool) (T1 : Nat → AV) (O1 : List AObj) (m : Nat) (a : Act) (w : World), listed.size = ops.length → Closed ops (L listed) → (List.range ops.length).countP (fun i => !(listed.getD i false)) ≤ fuel →
      (∀ s, (∀ (j : Nat) (o : Oper), L listed j → ops[j]? = some o → o.dst = some s → T1 s = val j) ∧ ((∀ (j : Nat) (o : Oper), L listed j → ops[j]? = some o → o.dst ≠ some s) → T1 s = T s)) → m ≤ ops.length → O1 = Oc m listed → (∀ j, imp.getD j false = true → j < ops.length → (L listed j ↔ j < m)) → At N K T1 O1 a w →
      wpAnyIn (WF ro) 0 P .any ops.toArray (fun e a' w' => ∃ T' O', At N K T' O' a' w' ∧ Q e T' O') fuel listed a w := by
    intro fuel
    -- all listed: what follows
    have fin : ∀ (listed : Array Bool) (T1 : Nat → AV) (O1 : List AObj) (m : Nat) (a : Act) (w : World), (∀ i, i < ops.length → L listed i) →
      (∀ s, (∀ (j : Nat) (o : Oper), L listed j → ops[j]? = some o → o.dst = some s → T1 s = val j) ∧ ((∀ (j : Nat) (o : Oper), L listed j → ops[j]? = some o → o.dst ≠ some s) → T1 s = T s)) → m ≤ ops.length → O1 = Oc m listed → (∀ j, imp.getD j false = true → j < ops.length → (L listed j ↔ j < m)) → At N K T1 O1 a w →
      ∃ T' O', At N K T' O' a w ∧ Q .normal T' O' := by
      intro listed T1 O1 m a w hall hT hm hO hI hat
      have hTT : ∀ s, Tq ops.length s = T1 s := by
        intro s
        obtain ⟨s1, s2⟩ := seqT ops.length (Nat.le_refl _) s
        by_cases hex : ∃ (j : Nat) (o : Oper), ops[j]? = some o ∧ o.dst = some s
        · obtain ⟨j, o, ho, hd⟩ := hex
          have hj : j < ops.length := (List.getElem?_eq_some_iff.1 ho).1
          rw [s1 j o hj ho hd, (hT s).1 j o (hall j hj) ho hd]
        · rw [s2 (fun j o _ ho hd => hex ⟨j, o, ho, hd⟩), (hT s).2 (fun j o _ ho hd => hex ⟨j, o, ho, hd⟩)]
      have hmq : m = q + 1 := by have := (hI q hiq (by omega)).1 (hall q (by omega)); omega
      have hOO : Oe = O1 := by rw [hO]; simp only [Oc]; rw [if_pos hmq]
      refine ⟨Tq ops.length, Oe, ?_, hq⟩
      rw [hOO, show Tq ops.length = T1 from funext hTT]
      exact hat
    have none_ready : ∀ (listed : Array Bool), listed.size = ops.length → Region.ready .any ops.toArray listed = [] → ∀ i, i < ops.length → L listed i := by
      intro listed hsz hr i
      induction i using Nat.strongRecOn with
      | _ i ih =>
        intro hi
        cases hb : listed.getD i false with
        | true => exact hb
        | false =>
          have : i ∈ Region.ready .any ops.toArray listed := by
            rw [mem_ready]
            refine ⟨?_, ops[i], by simp [hi], fun e he hbd => ?_⟩
            · rw [Array.getD_eq_getD_getElem?] at hb ⊢
              rw [show listed[i]? = some listed[i] from Array.getElem?_eq_getElem (by omega)] at hb ⊢
              exact hb
            · have hlt := edge_lt hc (List.getElem?_eq_getElem hi) he hbd
              exact ih e.on hlt (by omega)
          rw [hr] at this; cases this
    induction fuel with
    | zero =>
      intro listed T1 O1 m a w hsz hcl hcnt hT hmn hO hI hat
      have hall : ∀ i, i < ops.length → L listed i := by
        intro i hi
        have h0 : (List.range ops.length).countP (fun i => !(listed.getD i false)) = 0 := by omega
        rw [List.countP_eq_zero] at h0
        have := h0 i (List.mem_range.2 hi)
        show listed.getD i false = true
        cases hb : listed.getD i false with
        | true => rfl
        | false => rw [hb] at this; exact absurd rfl this
      refine ⟨?_, fin listed T1 O1 m a w hall hT hmn hO hI hat⟩
      refine List.eq_nil_iff_forall_not_mem.2 fun i hi => ?_
      obtain ⟨h1, o, ho, _⟩ := mem_ready.1 hi
      have hil : i < ops.length := by
        have := (Array.getElem?_eq_some_iff.1 ho).1; simpa using this
      have := hall i hil
      simp only [L] at this
      rw [Array.getD_eq_getD_getElem?] at h1 this
      rw [show listed[i]? = some listed[i] from Array.getElem?_eq_getElem (by omega)] at h1 this
      simp only [Option.getD_some] at h1 this
      rw [h1] at this; cases this
    | succ fuel ih =>
      intro listed T1 O1 m a w hsz hcl hcnt hT hmn hO hI hat
      refine ⟨fun hr => fin listed T1 O1 m a w (none_ready listed hsz hr) hT hmn hO hI hat, fun i hi => ?_⟩
      obtain ⟨hun, o, ho, hed⟩ := mem_ready.1 hi
      have ho' : ops[i]? = some o := by simpa using ho
      have hil : i < ops.length := (List.getElem?_eq_some_iff.1 ho').1
      have hnl : ¬ L listed i := by
        intro hl
        simp only [L] at hl
        rw [Array.getD_eq_getD_getElem?] at hun hl
        rw [show listed[i]? = some listed[i] from Array.getElem?_eq_getElem (by omega)] at hun hl
        simp only [Option.getD_some] at hun hl
        rw [hun] at hl; cases hl
      have hmk := masks_ok hcl ops [] (by simp) (fun i h => absurd h (Nat.not_lt_zero _))
      simp only [List.length_nil, Nat.zero_add] at hmk
      -- who stands ahead of i is listed
      have ahead : ∀ j, ((masks ops []).getD i 0).testBit j = true → L listed j := by
        -- the listed ones and i are closed
        have hcl' : Closed ops (fun j => L listed j ∨ j = i) := by
          intro j oj hoj hj e he hb
          rcases hj with hj | rfl
          · exact .inl (hcl j oj hoj hj e he hb)
          · rw [ho'] at hoj; cases hoj
            exact .inl (hed e he hb)
        have hmk' := masks_ok hcl' ops [] (by simp) (fun i h => absurd h (Nat.not_lt_zero _))
        simp only [List.length_nil, Nat.zero_add] at hmk'
        -- but i is not ahead of itself: by the edges
        intro j hj
        have hlt : ∀ (L0 : Nat → Prop), Closed ops L0 → L0 i → L0 j := fun L0 h0 h1 => by
          have := masks_ok h0 ops [] (by simp) (fun i h => absurd h (Nat.not_lt_zero _))
          simp only [List.length_nil, Nat.zero_add] at this
          exact this i hil h1 j hj
        -- those that i's edges need, closed: listed
        rcases hmk' i hil (.inr rfl) j hj with h | h
        · exact h
        · subst h
          -- j = i: the set of those below i and i... i's mask has i: impossible, since masks look back
          exfalso
          have hback : ∀ (rest : List Oper) (acc : List Nat), (∀ q, rest[q]? = ops[acc.length + q]?) → (∀ q, q < acc.length → ∀ b, (acc.getD q 0).testBit b = true → b < q) → ∀ q, q < acc.length + rest.length → ∀ b, ((masks rest acc).getD q 0).testBit b = true → b < q := by
            intro rest
            induction rest with
            | nil => intro acc _ h q hq; exact h q (by simpa using hq)
            | cons o' rest ihr =>
              intro acc hr hacc q hq
              simp only [masks]
              refine ihr _ (fun q => by have := hr (q + 1); simp only [List.getElem?_cons_succ] at this; rw [this]; congr 1; simp; omega) ?_ q (by simp at hq ⊢; omega)
              intro q hq b hb
              simp only [List.length_append, List.length_cons, List.length_nil] at hq
              by_cases hlt : q < acc.length
              · rw [List.getD_eq_getElem?_getD, List.getElem?_append_left hlt, ← List.getD_eq_getElem?_getD] at hb
                exact hacc q hlt b hb
              · have hq' : q = acc.length := by omega
                subst hq'
                simp only [List.getD_eq_getElem?_getD, List.getElem?_concat_length, Option.getD_some] at hb
                have h0 := hr 0
                simp only [List.getElem?_cons_zero, Nat.add_zero] at h0
                have hfold : ∀ (es : List Edge) (m : Nat), (∀ e ∈ es, Region.binds .any e = true → e.on < acc.length) → (∀ b, m.testBit b = true → b < acc.length) → ∀ b, (es.foldl (fun m e => bif Region.binds .any e then m ||| ((1 <<< e.on) ||| acc.getD e.on 0) else m) m).testBit b = true → b < acc.length := by
                  intro es
                  induction es with
                  | nil => intro m _ h; exact h
                  | cons e es ihe =>
                    intro m he hm b hb
                    simp only [List.foldl_cons] at hb
                    refine ihe _ (fun e' he' => he e' (List.mem_cons_of_mem _ he')) ?_ b hb
                    intro b' hb'
                    cases hbd : Region.binds .any e with
                    | false => rw [hbd] at hb'; exact hm b' hb'
                    | true =>
                      rw [hbd, cond_true, Nat.testBit_or, Nat.testBit_or] at hb'
                      have hlt := he e (List.mem_cons_self ..) hbd
                      simp only [Bool.or_eq_true] at hb'
                      rcases hb' with hb' | hb' | hb'
                      · exact hm b' hb'
                      · rw [Nat.one_shiftLeft, Nat.testBit_two_pow] at hb'
                        have := of_decide_eq_true hb'; omega
                      · have := hacc e.on hlt b' hb'; omega
                refine hfold o'.after.toList 0 (fun e he hbd => edge_lt hc h0.symm (by simpa using he) hbd) (fun b hb => by simp at hb) b ?_
                simpa [List.getD_eq_getElem?_getD] using hb
          have := hback ops [] (by simp) (fun q h => absurd h (Nat.not_lt_zero _)) j (by simpa using hil) j hj
          omega
      have behind : ∀ j oj, ops[j]? = some oj → i < j → ((masks ops []).getD j 0).testBit i = true → ¬ L listed j := by
        intro j oj hoj hlt hb hl
        exact hnl (hmk j (List.getElem?_eq_some_iff.1 hoj).1 hl i hb)
      obtain ⟨hdst, hT1⟩ := hall0 i o ho'
      -- what the operation looks at is what it is in the sequential run
      have look : ∀ s, s ∈ slotsOf ops.toArray o → T1 s = Tq i s := by
        intro s hs
        obtain ⟨s1, s2⟩ := seqT i (by omega) s
        by_cases hex : ∃ (j : Nat) (oj : Oper), ops[j]? = some oj ∧ oj.dst = some s ∧ j ≠ i
        · obtain ⟨j, oj, hoj, hd, hne⟩ := hex
          by_cases hlt : j < i
          · have hp := pair_of hc ho' hoj hlt
            simp only [pairOk, Bool.and_eq_true, Bool.or_eq_true] at hp
            rcases hp.2 with hp | hp
            · rw [s1 j oj hlt hoj hd, (hT s).1 j oj (ahead j hp) hoj hd]
            · rw [hd, dstIn_mem hs] at hp; simp at hp
          · have hp := pair_of hc hoj ho' (by omega)
            simp only [pairOk, Bool.and_eq_true, Bool.or_eq_true] at hp
            rcases hp.2 with hp | hp
            · have hnj := behind j oj hoj (by omega) hp
              have uniq : ∀ k ok, ops[k]? = some ok → ok.dst = some s → k = j := by
                intro k ok hok hdk
                rcases Nat.lt_trichotomy k j with h | h | h
                · have := pair_of hc hoj hok h; simp only [pairOk, hd, hdk, dstEq, Nat.beq_refl, Bool.not_true, Bool.false_and] at this; cases this
                · exact h
                · have := pair_of hc hok hoj h; simp only [pairOk, hd, hdk, dstEq, Nat.beq_refl, Bool.not_true, Bool.false_and] at this; cases this
              rw [s2 (fun k ok hk hok hdk => by have := uniq k ok hok hdk; omega), (hT s).2 (fun k ok hk hok hdk => by have := uniq k ok hok hdk; subst this; exact hnj hk)]
            · rw [hd, dstIn_mem hs] at hp; simp at hp
        · have hno : ∀ (j : Nat) (oj : Oper), j ≠ i → ops[j]? = some oj → oj.dst ≠ some s := fun j oj hne hoj hd => hex ⟨j, oj, hoj, hd, hne⟩
          rw [s2 (fun j oj hj hoj => hno j oj (by omega) hoj), (hT s).2 (fun j oj hj hoj => hno j oj (fun e => hnl (e ▸ hj)) hoj)]
      -- the objects are those of the sequential run
      have hnq : i < q → ¬ L listed q := fun hlt hl => behind q _ (List.getElem?_eq_getElem (by omega)) hlt (hbq i hlt) hl
      have hmle : i < q → m ≤ q := fun hlt => by
        rcases Nat.lt_or_ge q m with h | h
        · exact absurd ((hI q hiq (by omega)).2 h) (hnq hlt)
        · exact h
      have hOi : i < q → imp.getD i false = true → O1 = Ob i ++ (if listed.getD p false = true then [z] else []) := by
        intro hlt hbi
        have hmq := hmle hlt
        rw [hO]
        simp only [Oc]
        rw [if_neg (by omega)]
        congr 1
        have hna : (any.getD i false && !(imp.getD i false)) = false := by rw [hbi]; simp
        rcases Nat.le_total m i with hmi | hmi
        · refine (seqO m i hmi (by omega) fun j h1 h2 => ?_).symm
          cases hb : imp.getD j false with
          | false => rfl
          | true =>
            exfalso
            have hjl : j < ops.length := by omega
            have hp := pair_of hc ho' (List.getElem?_eq_getElem hjl) h2
            simp only [pairOk, hb, hna, Bool.not_true, Bool.false_or, Bool.and_false, Bool.false_and, Bool.or_false, Bool.and_eq_true] at hp
            have := (hI j hb hjl).1 (ahead j hp.2); omega
        · refine seqO i m hmi hmq fun j h1 h2 => ?_
          cases hb : imp.getD j false with
          | false => rfl
          | true =>
            exfalso
            have hjl : j < ops.length := by omega
            have hlj := (hI j hb hjl).2 h2
            by_cases hji : j = i
            · subst hji; exact hnl hlj
            · have hp := pair_of hc (List.getElem?_eq_getElem hjl) ho' (by omega)
              simp only [pairOk, hb, hna, Bool.not_true, Bool.false_or, Bool.and_false, Bool.false_and, Bool.or_false, Bool.and_eq_true] at hp
              exact behind j _ (List.getElem?_eq_getElem hjl) (by omega) hp.2 hlj
      -- after it
      have hL' : ∀ j, L (listed.setIfInBounds i true) j ↔ (L listed j ∨ j = i) := by
        intro j
        simp only [L]
        by_cases hji : j = i
        · subst hji
          simp [Array.getElem?_setIfInBounds, hsz, hil]
        · rw [getD_set_ne false (Ne.symm hji)]; simp [hji]
      have next : ∀ (O2 : List AObj) (m2 : Nat), m2 ≤ ops.length → O2 = Oc m2 (listed.setIfInBounds i true) → (imp.getD i false = true → m2 = i + 1) → (imp.getD i false = false → m2 = m) → ∀ (a' : Act) (w' : World), At N K (updo T1 o.dst (val i)) O2 a' w' → wpAnyIn (WF ro) 0 P .any ops.toArray (fun e a' w' => ∃ T' O', At N K T' O' a' w' ∧ Q e T' O') fuel (listed.setIfInBounds i true) a' w' := by
        intro O2 m2 hm2 hO2 hi1 hi2 a' w' hat'
        refine ih _ (updo T1 o.dst (val i)) O2 m2 a' w' (by simpa using hsz) ?_ ?_ ?_ hm2 hO2 ?_ hat'
        · intro j oj hoj hj e he hb
          rw [hL'] at hj ⊢
          rcases hj with hj | rfl
          · exact .inl (hcl j oj hoj hj e he hb)
          · rw [ho'] at hoj; cases hoj
            exact .inl (hed e he hb)
        · have key : (List.range ops.length).countP (fun j => !((listed.setIfInBounds i true).getD j false)) < (List.range ops.length).countP (fun j => !(listed.getD j false)) := by
            have hgen : ∀ (l : List Nat), i ∈ l → l.countP (fun j => !((listed.setIfInBounds i true).getD j false)) < l.countP (fun j => !(listed.getD j false)) := by
              have hle : ∀ (l : List Nat), l.countP (fun j => !((listed.setIfInBounds i true).getD j false)) ≤ l.countP (fun j => !(listed.getD j false)) := by
                intro l
                refine List.countP_mono_left fun j _ hj => ?_
                cases hb : listed.getD j false with
                | false => rfl
                | true => have := (hL' j).2 (.inl hb); simp only [L] at this; rw [this] at hj; exact hj
              intro l hl
              induction l with
              | nil => cases hl
              | cons x l ihl =>
                by_cases hx : x = i
                · subst hx
                  have h1 : (listed.setIfInBounds x true).getD x false = true := (hL' x).2 (.inr rfl)
                  have h2 : listed.getD x false = false := by cases hb : listed.getD x false with | false => rfl | true => exact absurd hb hnl
                  have := hle l
                  rw [List.countP_cons, List.countP_cons, h1, h2]
                  simp only [Bool.not_true, Bool.not_false, Bool.false_eq_true, if_false, if_true]
                  omega
                · have := ihl ((List.mem_cons.1 hl).resolve_left (Ne.symm hx))
                  simp only [List.countP_cons]
                  rw [getD_set_ne false (Ne.symm hx)]
                  omega
            exact hgen _ (List.mem_range.2 hil)
          omega
        · intro s
          refine ⟨fun j oj hj hoj hd => ?_, fun hno => ?_⟩
          · by_cases hji : j = i
            · subst hji
              rw [ho'] at hoj; cases hoj
              rw [hd]; simp only [updo, upd, Nat.beq_refl, cond_true]
            · have hne : o.dst ≠ some s := by
                intro hd'
                rcases Nat.lt_or_gt_of_ne hji with h | h
                · have := pair_of hc ho' hoj h; simp only [pairOk, hd, hd', dstEq, Nat.beq_refl, Bool.not_true, Bool.false_and] at this; cases this
                · have := pair_of hc hoj ho' h; simp only [pairOk, hd, hd', dstEq, Nat.beq_refl, Bool.not_true, Bool.false_and] at this; cases this
              have : updo T1 o.dst (val i) s = T1 s := by
                cases hdk : o.dst with
                | none => rfl
                | some d =>
                  simp only [updo, upd]
                  cases hb : Nat.beq s d with
                  | false => rfl
                  | true => exact absurd (by rw [hdk, Nat.eq_of_beq_eq_true hb]) hne
              rw [this]
              exact (hT s).1 j oj (((hL' j).1 hj).resolve_right hji) hoj hd
          · have hne := hno i o ((hL' i).2 (.inr rfl)) ho'
            have : updo T1 o.dst (val i) s = T1 s := by
              cases hdk : o.dst with
              | none => rfl
              | some d =>
                simp only [updo, upd]
                cases hb : Nat.beq s d with
                | false => rfl
                | true => exact absurd (by rw [hdk, Nat.eq_of_beq_eq_true hb]) hne
            rw [this]
            exact (hT s).2 fun j oj hj => hno j oj ((hL' j).2 (.inl hj))
        · intro j hj hjl
          rw [hL']
          cases hb : imp.getD i false with
          | true =>
            rw [hi1 hb]
            by_cases hji : j = i
            · subst hji; simp
            · rcases Nat.lt_or_gt_of_ne hji with h | h
              · have hp := pair_of hc ho' (List.getElem?_eq_getElem hjl) h
                simp only [pairOk, Bool.and_eq_true, Bool.or_eq_true, hj, hb] at hp
                rcases hp.2 with hp | hp
                · exact ⟨fun _ => by omega, fun _ => .inl (ahead j hp)⟩
                · simp at hp
              · have hp := pair_of hc (List.getElem?_eq_getElem hjl) ho' h
                simp only [pairOk, Bool.and_eq_true, Bool.or_eq_true, hj, hb] at hp
                rcases hp.2 with hp | hp
                · exact ⟨fun hh => (hh.resolve_right hji |> behind j _ (List.getElem?_eq_getElem hjl) h hp).elim, fun hh => by omega⟩
                · simp at hp
          | false =>
            rw [hi2 hb]
            have hji : j ≠ i := fun e => by subst e; rw [hj] at hb; cases hb
            rw [← hI j hj hjl]
            simp [hji]
      unfold Go.wpOpIn
      simp only [ho]
      have keep : ∀ a b, a ≤ b → b ≤ q → KeepI ids (Ob a) (Ob b) := by
        intro a b
        induction b with
        | zero => intro h _; rw [show a = 0 by omega]; exact KeepI.refl _ _
        | succ b ihb =>
          intro h hb
          by_cases he : a = b + 1
          · rw [he]; exact KeepI.refl _ _
          · exact (ihb (by omega) (by omega)).trans (hst b _ (List.getElem?_eq_getElem (by omega)) (by omega)).2
      have keepX : ∀ (l : List Nat) (A X : List AObj), (∀ x ∈ l, x < A.length) → KeepI l A (A ++ X) := by
        intro l
        induction l with
        | nil => intro A X _; trivial
        | cons x l ihl => intro A X h; exact ⟨List.getElem?_append_left (h x (by simp)), ihl A X fun y hy => h y (by simp [hy])⟩
      have keepO : i < q → KeepI ids (Ob i) O1 := by
        intro hlt
        have hmq := hmle hlt
        rw [hO]
        simp only [Oc]
        rw [if_neg (by omega)]
        refine KeepI.trans ?_ (keepX ids (Ob m) _ fun x hx => by rw [hlen m hmq]; exact hids x hx)
        rcases Nat.le_total i m with h | h
        · exact keep i m h hmq
        · exact (keep m i h (by omega)).symm
      have hpset : i ≠ p → (listed.setIfInBounds i true).getD p false = listed.getD p false := fun hne => getD_set_ne false hne
      -- what comes of the objects
      have hOn : ∃ (O2 : List AObj) (m2 : Nat), m2 ≤ ops.length ∧ O2 = Oc m2 (listed.setIfInBounds i true) ∧ (imp.getD i false = true → m2 = i + 1) ∧ (imp.getD i false = false → m2 = m) ∧ OpV P ro o (Tq i) O1 (val i) O2 := by
        by_cases hiq' : i = q
        · subst hiq'
          refine ⟨Oe, i + 1, by omega, by simp [Oc], fun _ => rfl, (fun h => by rw [hiq] at h; cases h), ?_⟩
          have hmi : ∀ j, j < i → L listed j := fun j hj => ahead j (hbq j hj)
          have hm1 : m ≤ i := by
            rcases Nat.lt_or_ge i m with h | h
            · exact absurd ((hI i hiq (by omega)).2 h) hnl
            · exact h
          have hOm : Ob i = Ob m := seqO m i hm1 (Nat.le_refl _) fun j h1 h2 => by
            cases hb : imp.getD j false with
            | false => rfl
            | true => have := (hI j hb (by omega)).1 (hmi j h2); omega
          have e : O1 = Ob i ++ [z] := by
            rw [hO]; simp only [Oc]
            rw [if_neg (by omega), if_pos (hmi p hpq), hOm]
          rw [e]
          exact hend o ho'
        · have hlt : i < q := by omega
          have hmq := hmle hlt
          by_cases hip' : i = p
          · subst hip'
            have hun : listed.getD i false = false := by cases hb : listed.getD i false with | false => rfl | true => exact absurd hb hnl
            have hse : (listed.setIfInBounds i true).getD i false = true := (hL' i).2 (.inr rfl)
            refine ⟨Ob m ++ [z], m, hmn, ?_, (fun h => by rw [hip] at h; cases h), fun _ => rfl, ?_⟩
            · simp only [Oc]; rw [if_neg (by omega), if_pos hse]
            · have e : O1 = Ob m := by
                rw [hO]; simp only [Oc]
                rw [if_neg (by omega), if_neg (by rw [hun]; simp), List.append_nil]
              rw [e]
              exact hmk0 o ho' (Ob m) (hlen m hmq)
          · cases hb : imp.getD i false with
            | true =>
              refine ⟨Ob (i + 1) ++ (if listed.getD p false = true then [z] else []), i + 1, by omega, ?_, fun _ => rfl, (fun h => by cases h), ?_⟩
              · have e0 : ¬ i + 1 = q + 1 := by omega
                show _ = (if i + 1 = q + 1 then Oe else Ob (i + 1) ++ (if (listed.setIfInBounds i true).getD p false = true then [z] else []))
                rw [if_neg e0, hpset hip']
              · rw [hOi hlt hb]
                exact himp i o ho' hlt hb _ (by split <;> simp)
            | false =>
              refine ⟨O1, m, hmn, ?_, (fun h => by cases h), fun _ => rfl, hpure i o ho' hlt hip' hb O1 (keepO hlt)⟩
              rw [hO]
              show (if m = q + 1 then Oe else Ob m ++ (if listed.getD p false = true then [z] else [])) = (if m = q + 1 then Oe else Ob m ++ (if (listed.setIfInBounds i true).getD p false = true then [z] else []))
              rw [hpset hip']
      obtain ⟨O2, m2, hm2, hO2, hi1, hi2, hop⟩ := hOn
      rw [if_pos (guard_wanted hat (by rw [hng i o ho']; rfl))]
      have hat0 := hat
      obtain ⟨F, γ, I, hTT, hs, hdf, E0⟩ := hat0
      have hop' := opv_slots (T' := T1) hop fun s hs => look s (slots_op hs)
      refine Oper.wpIn_mono (K := fun a' w' => ∃ u F' γ', a' = a.put o.dst u ∧ (val i).V w' F' γ' O2 u ∧ Inv w' F' γ' O2 ∧ Evo w F γ O1 w' F' γ' O2) ?_ ?_
      · rintro a' w' ⟨u, F', γ', rfl, h1, h2, h3⟩
        exact next O2 m2 hm2 hO2 hi1 hi2 _ _ (hat.put I hTT hdf E0 hdst h1 h2 h3)
      · have := hop' w F γ a I (fun s _ => hTT s)
        refine ⟨this.1, ?_⟩
        have h2 := this.2
        generalize ((o.semAt (WF ro).round a.eval).run P w) = r at h2
        cases r with
        | ok x w' => cases x <;> first | exact h2 | (exact ⟨h2.1, CallsIn.mono h2.2 fun e w'' he => by cases e <;> first | exact he | exact he.elim | (obtain ⟨_, _, q⟩ := he; exact q.elim)⟩) | (exact ⟨h2.1, RoundIn.mono h2.2 fun e w'' he => by cases e <;> first | exact he | exact he.elim | (obtain ⟨_, _, q⟩ := he; exact q.elim)⟩) | exact h2.elim
        | halt x w' => cases x <;> exact h2.elim
  refine main _ _ T O 0 a _ (by simp) ?_ ?_ ?_ (Nat.zero_le _) ?_ ?_ hat.drew
  · intro i o ho hi
    simp only [L, List.size_toArray] at hi
    simp [Array.getElem?_replicate] at hi
    split at hi <;> simp at hi
  · simp only [List.size_toArray]; exact Nat.le_trans (List.countP_le_length ..) (by simp)
  · intro s
    refine ⟨fun j o hj => ?_, fun _ => rfl⟩
    simp only [L, List.size_toArray] at hj
    simp [Array.getElem?_replicate] at hj
    split at hj <;> simp at hj
  · simp only [Oc, List.size_toArray]
    rw [if_neg (by omega), if_neg (by simp [Array.getElem?_replicate]; split <;> rfl), List.append_nil, hO0]
  · intro j hj hjl
    simp only [L, List.size_toArray]
    simp [Array.getElem?_replicate, hjl]

/-- The operations ahead of the place that is made: what turns an object does so beside it, too; what turns none yields the same whatever else is there. -/
def RX (P : Program) (ro : Option Nat) (N : Nat) (ids : List Nat) (imp : List Bool) (z : AObj) (rest : List Oper) (T : Nat → AV) (O : List AObj) (Q : (Nat → AV) → List AObj → Prop) : Prop :=
  ∃ (Tq : Nat → Nat → AV) (Ob : Nat → List AObj) (val : Nat → AV), Tq 0 = T ∧ Ob 0 = O ∧ Q (Tq rest.length) (Ob rest.length) ∧ ∀ i o, rest[i]? = some o →
    dstB N o.dst = true ∧ Tq (i + 1) = updo (Tq i) o.dst (val i) ∧ (Ob (i + 1)).length = (Ob i).length ∧ KeepI ids (Ob i) (Ob (i + 1)) ∧ (imp.getD i false = false → Ob (i + 1) = Ob i ∧ ∀ O', KeepI ids (Ob i) O' → OpV P ro o (Tq i) O' (val i) O') ∧
    (imp.getD i false = true → ∀ X, X = [] ∨ X = [z] → OpV P ro o (Tq i) (Ob i ++ X) (val i) (Ob (i + 1) ++ X))
theorem RX.nil {ids : List Nat} {imp : List Bool} {z : AObj} {Q : (Nat → AV) → List AObj → Prop} (h : Q T O) : RX P ro N ids imp z [] T O Q :=
  ⟨fun _ => T, fun _ => O, fun _ => .unk, rfl, rfl, h, fun i o h => by simp at h⟩
theorem RX.cons {ids : List Nat} {b : Bool} {imp : List Bool} {z : AObj} {o : Oper} {rest : List Oper} {Q : (Nat → AV) → List AObj → Prop} {v : AV} {O1 : List AObj} (hd : dstB N o.dst = true) (hl : O1.length = O.length) (hk : KeepI ids O O1)
    (hp : b = false → O1 = O ∧ ∀ O', KeepI ids O O' → OpV P ro o T O' v O') (hi : b = true → ∀ X, X = [] ∨ X = [z] → OpV P ro o T (O ++ X) v (O1 ++ X)) (hr : RX P ro N ids imp z rest (updo T o.dst v) O1 Q) : RX P ro N ids (b :: imp) z (o :: rest) T O Q := by
  obtain ⟨Tq, Ob, val, h1, h2, h3, h4⟩ := hr
  refine ⟨fun | 0 => T | i + 1 => Tq i, fun | 0 => O | i + 1 => Ob i, fun | 0 => v | i + 1 => val i, rfl, rfl, h3, ?_⟩
  intro i o' ho
  cases i with
  | zero =>
    simp only [List.getElem?_cons_zero, Option.some.injEq] at ho
    subst ho
    simp only [List.getD_cons_zero, h2]
    exact ⟨hd, h1, hl, hk, hp, hi⟩
  | succ i =>
    simp only [List.getElem?_cons_succ] at ho
    have := h4 i o' ho
    simpa only [List.getD_cons_succ] using this
theorem RX.pure {ids : List Nat} {imp : List Bool} {z : AObj} {op : Op} {dst : Tmp} {ty : TypeId} {pos : String} {af : Array Edge} {rest : List Oper} {Q : (Nat → AV) → List AObj → Prop} {v v' : AV}
    (h : ∀ O', KeepI ids O O' → OpV P ro ⟨some dst, op, ty, pos, af, none⟩ T O' v O') (hv : v = v') (hr : RX P ro N ids imp z rest (upd T dst v') O Q) (hd : Nat.blt dst N = true := by rfl) : RX P ro N ids (false :: imp) z (⟨some dst, op, ty, pos, af, none⟩ :: rest) T O Q :=
  RX.cons hd rfl (KeepI.refl _ _) (fun _ => ⟨rfl, h⟩) (fun h => by cases h) (hv ▸ hr)
theorem RX.turn {ids : List Nat} {imp : List Bool} {z : AObj} {op : Op} {dst : Tmp} {ty : TypeId} {pos : String} {af : Array Edge} {rest : List Oper} {Q : (Nat → AV) → List AObj → Prop} {v : AV} (O1 : List AObj) (hl : O1.length = O.length) (hk : KeepI ids O O1)
    (h : ∀ X, X = [] ∨ X = [z] → OpV P ro ⟨some dst, op, ty, pos, af, none⟩ T (O ++ X) v (O1 ++ X)) (hr : RX P ro N ids imp z rest (upd T dst v) O1 Q) (hd : Nat.blt dst N = true := by rfl) : RX P ro N ids (true :: imp) z (⟨some dst, op, ty, pos, af, none⟩ :: rest) T O Q :=
  RX.cons hd hl hk (fun h => by cases h) (fun _ => h) hr
theorem getD_app2 {l : List Bool} {a b : Bool} {i : Nat} (h : i < l.length) : (l ++ [a, b]).getD i false = l.getD i false := by
  rw [List.getD_eq_getElem?_getD, List.getD_eq_getElem?_getD, List.getElem?_append_left h]
theorem Runs.drawnA {id : Nat} {ops : List Oper} {Q : Exit → (Nat → AV) → List AObj → Prop} (hm : P.follows .mixedOrders = true) (ids : List Nat) (imp : List Bool) (p d n0 : Nat) (z : AObj) (hl : ops.length = p + 2) (hil : imp.length = p) (hn0 : O.length = n0) (hc : drawOk ops (imp ++ [false, true]) (imp.map (fun b => !b) ++ [true, false]) = true)
    (hbq : ((List.range (p + 1)).all fun j => ((masks ops []).getD (p + 1) 0).testBit j) = true) (hng : (ops.all fun o => o.guard.isNone) = true) (hids : ∀ x ∈ ids, x < n0) (hdN : Nat.blt d N = true)
    (h : RX P ro N ids imp z (ops.take p) T O fun T1 O1 => ∀ oa os, ops[p]? = some oa → ops[p + 1]? = some os → oa.dst = some d ∧ os.dst = none ∧ (∀ O', O'.length = n0 → OpV P ro oa T1 O' (.ref n0 0) (O' ++ [z])) ∧
      ∃ Oe Oe', OpV P ro os (upd T1 d (.ref n0 0)) (O1 ++ [z]) .unk Oe ∧ Oe = Oe' ∧ Q .normal (upd T1 d (.ref n0 0)) Oe') : Runs P ro N K (.region id ops.toArray true) T O Q := by
  subst hn0
  obtain ⟨Tq, Ob, val, h1, h2, h3, h4⟩ := h
  have hlt : (ops.take p).length = p := by rw [List.length_take]; omega
  rw [hlt] at h3
  have hoa : ops[p]? = some ops[p] := List.getElem?_eq_getElem (by omega)
  have hos : ops[p + 1]? = some ops[p + 1] := List.getElem?_eq_getElem (by omega)
  obtain ⟨hda, hds, hA, Oe, _, hS, rfl, hQ⟩ := h3 _ _ hoa hos
  have h4' : ∀ i o, i < p → ops[i]? = some o → _ := fun i o hi ho => h4 i o (by rw [List.getElem?_take, if_pos hi]; exact ho)
  have hlen : ∀ i, i ≤ p → (Ob i).length = O.length := by
    intro i
    induction i with
    | zero => intro _; rw [h2]
    | succ i ih => intro hi; rw [(h4' i _ (by omega) (List.getElem?_eq_getElem (by omega))).2.2.1]; exact ih (by omega)
  have impI : ∀ i, i < p → (imp ++ [false, true]).getD i false = imp.getD i false := fun i hi => getD_app2 (by omega)
  have impP : (imp ++ [false, true]).getD p false = false := by rw [List.getD_eq_getElem?_getD, List.getElem?_append_right (by omega), hil]; simp
  have impQ : (imp ++ [false, true]).getD (p + 1) false = true := by rw [List.getD_eq_getElem?_getD, List.getElem?_append_right (by omega), hil]; simp
  let Tq' : Nat → Nat → AV := fun i => if i ≤ p then Tq i else upd (Tq p) d (.ref O.length 0)
  let Ob' : Nat → List AObj := fun i => if i ≤ p then Ob i else Ob p
  let val' : Nat → AV := fun i => if i < p then val i else if i = p then .ref O.length 0 else .unk
  have tI : ∀ i, i ≤ p → Tq' i = Tq i := fun i hi => if_pos hi
  have tE : ∀ i, p < i → Tq' i = upd (Tq p) d (.ref O.length 0) := fun i hi => if_neg (by omega)
  have oI : ∀ i, i ≤ p → Ob' i = Ob i := fun i hi => if_pos hi
  have oE : ∀ i, p < i → Ob' i = Ob p := fun i hi => if_neg (by omega)
  have vI : ∀ i, i < p → val' i = val i := fun i hi => if_pos hi
  have vP : val' p = .ref O.length 0 := by show (if p < p then val p else if p = p then AV.ref O.length 0 else .unk) = _; rw [if_neg (by omega), if_pos rfl]
  have vQ : val' (p + 1) = .unk := by show (if p + 1 < p then val (p + 1) else if p + 1 = p then AV.ref O.length 0 else .unk) = _; rw [if_neg (by omega), if_neg (by omega)]
  refine Runs.drawnX hm ids (imp.map (fun b => !b) ++ [true, false]) (imp ++ [false, true]) hc p (p + 1) (by omega) (by omega) impP impQ (fun j hj => List.all_eq_true.1 hbq j (List.mem_range.2 hj)) ?_ (fun i o ho => by
    have := List.all_eq_true.1 hng o (List.mem_of_getElem? ho)
    simpa using this) z Oe Tq' Ob' val' hids ?_ (by rw [tI 0 (by omega)]; exact h1) (by rw [oI 0 (by omega)]; exact h2) (by rw [tE _ (by omega)]; exact hQ) ?_ ?_ ?_ ?_ ?_ ?_
  · intro i hi
    by_cases hip : i < p
    · rw [impI i hip, getD_app2 (by simp; omega), List.getD_eq_getElem?_getD, List.getD_eq_getElem?_getD, List.getElem?_map, List.getElem?_eq_getElem (show i < imp.length by omega)]; rfl
    · have e : i = p := by omega
      subst e
      rw [impP, List.getD_eq_getElem?_getD, List.getElem?_append_right (by simp; omega)]; simp [hil]
  · intro i hi
    by_cases hip : i ≤ p
    · rw [oI i hip]; exact hlen i hip
    · rw [oE i (by omega)]; exact hlen p (Nat.le_refl _)
  · intro i o ho
    by_cases hip : i < p
    · obtain ⟨a1, a2, _⟩ := h4' i o hip ho
      rw [tI (i + 1) (by omega), tI i (by omega), vI i hip]
      exact ⟨a1, a2⟩
    · by_cases e : i = p
      · subst e
        rw [hoa] at ho; cases ho
        rw [tE _ (by omega), tI i (Nat.le_refl _), vP, hda]
        exact ⟨hdN, rfl⟩
      · have e : i = p + 1 := by have := (List.getElem?_eq_some_iff.1 ho).1; omega
        subst e
        rw [hos] at ho; cases ho
        rw [tE _ (by omega), tE (p + 1) (by omega), hds]
        exact ⟨rfl, rfl⟩
  · intro i o ho hi
    by_cases hip : i < p
    · obtain ⟨_, _, _, a4, a5, _⟩ := h4' i o hip ho
      rw [oI (i + 1) (by omega), oI i (by omega), impI i hip]
      exact ⟨fun hb => (a5 hb).1, a4⟩
    · have e : i = p := by omega
      subst e
      rw [oE (i + 1) (by omega), oI i (Nat.le_refl _)]
      exact ⟨fun _ => rfl, KeepI.refl _ _⟩
  · intro i o ho hi hne hb
    have hip : i < p := by omega
    obtain ⟨_, _, _, _, a5, _⟩ := h4' i o hip ho
    rw [impI i hip] at hb
    rw [tI i (by omega), oI i (by omega), vI i hip]
    exact (a5 hb).2
  · intro i o ho hi hb
    have hip : i < p := by
      by_cases e : i = p
      · subst e; rw [impP] at hb; cases hb
      · omega
    obtain ⟨_, _, _, _, _, a6⟩ := h4' i o hip ho
    rw [impI i hip] at hb
    rw [tI i (by omega), oI i (by omega), oI (i + 1) (by omega), vI i hip]
    exact a6 hb
  · intro o ho O' hO'
    rw [hoa] at ho; cases ho
    rw [tI p (Nat.le_refl _), vP]
    exact hA O' hO'
  · intro o ho
    rw [hos] at ho; cases ho
    rw [tE _ (by omega), oE _ (by omega), vQ]
    exact hS
/-- A slice of nothing goes on as one of the call's own, that has its place already. -/
theorem OpV.adopt_at {o : Oper} {k e sz : Nat} (h : OpV P ro o T O .nil0 O) (hO : O[k]? = some (.buf e sz [] 0)) : OpV P ro o T O (.own k 1) (O.set k (.buf e sz [] 1)) := by
  intro w F γ a I H
  refine Oper.wpIn_mono (fun a' w' ⟨u, F', γ', k1, k2, k3, k4⟩ => ?_) (h w F γ a I H)
  obtain ⟨A, hA⟩ := k2
  have hk : k < γ'.length := by rw [k3.len]; exact (List.getElem?_eq_some_iff.1 hO).1
  have hg : γ'[k]? = some γ'[k] := List.getElem?_eq_getElem hk
  have hnb : (γ'[k]).blk = none := by
    rcases k3.ok k _ _ hO hg with ⟨h1, _⟩ | ⟨b, cs, _, _, _, _, h⟩
    · exact h1
    · exact absurd h (Nat.lt_irrefl 0)
  obtain ⟨I', E⟩ := k3.upd (w' := w') (F' := F') (o' := .buf e sz [] 1) (g' := { blk := none, base := A }) hO hg rfl rfl rfl (Nat.le_refl _) (fun _ _ _ => rfl) (fun b h => by cases h) (fun b h => by cases h) (fun b h => h) (fun b h => .inl h) ⟨rfl, rfl, .inl Nat.zero_lt_one⟩ trivial (fun E => .inl ⟨rfl, rfl, rfl, fun h => by cases h⟩)
  refine ⟨u, F', _, k1, ?_, I', k4.trans k3.len E⟩
  refine ⟨by rw [hA]; rfl, { blk := none, base := A }, .buf e sz [] 1, ?_, ?_, Nat.le_refl _, fun _ => by rw [hA]; rfl⟩
  · rw [List.getElem?_set_self hk]
  · rw [List.getElem?_set_self (List.getElem?_eq_some_iff.1 hO).1]
end

/-! Kinds of terms, and names. -/
theorem erase_fun (s : ByteArray) (n : Int) (ks : List Term) : (Term.node 3 n s ks).erase = .node 3 n s (erases ks) := by
  rw [erase_node (by rfl)]; rfl
theorem compare_vn (v n : Int) : compareT (.node 1 v ⟨#[]⟩ []) (.node 2 n ⟨#[]⟩ []) = -1 := by rfl
theorem compare_nf (n : Int) (s : ByteArray) (ks : List Term) : compareT (.node 2 n ⟨#[]⟩ []) (.node 3 0 s ks) = -1 := by
  unfold compareT; rw [erase_fun]; rfl
theorem compare_nn (n m : Int) : compareT (.node 2 n ⟨#[]⟩ []) (.node 2 m ⟨#[]⟩ []) = cmpI n m := by
  show (Term.node 2 n ⟨#[]⟩ []).bare (.node 2 m ⟨#[]⟩ []) = _
  rw [bare_eq, if_pos (.inr (.inr rfl)), headC_num (a := .node 2 n ⟨#[]⟩ []) (b := .node 2 m ⟨#[]⟩ []) rfl (.inr rfl)]; rfl
theorem cmpI_lt (n m : Int) : decide (cmpI n m < 0) = decide (n < m) := by
  rw [Bool.eq_iff_iff, decide_eq_true_eq, decide_eq_true_eq]; unfold cmpI; split <;> (try split) <;> omega
theorem compare_more (s t : ByteArray) (ks : List Term) (x : Term) : compareT (.node 3 0 s ks) (.node 3 0 t (ks ++ [x])) = -1 := by
  unfold compareT
  rw [erase_fun, erase_fun]
  have h : headC (.node 3 0 s (erases ks)) (.node 3 0 t (erases (ks ++ [x]))) = -1 := by
    rw [headC_fun (a := .node 3 0 s (erases ks)) (b := .node 3 0 t (erases (ks ++ [x]))) rfl rfl]
    show orI [cmpI (erases ks).length (erases (ks ++ [x])).length, _] = -1
    rw [erases_len, erases_len, List.length_append]
    have : cmpI (ks.length : Int) ((ks.length + [x].length : Nat) : Int) = -1 := by unfold cmpI; rw [if_pos (by simp; omega)]
    rw [this]; rfl
  rw [bare_eq, if_pos (.inl (by rw [h]; decide)), h]
theorem compare_names (s t : ByteArray) (ks : List Term) : compareT (.node 3 0 s ks) (.node 3 0 t ks) = cmpS s t := by
  unfold compareT
  rw [erase_fun, erase_fun]
  have h : headC (.node 3 0 s (erases ks)) (.node 3 0 t (erases ks)) = cmpS s t := by
    rw [headC_fun (a := .node 3 0 s (erases ks)) (b := .node 3 0 t (erases ks)) rfl rfl]
    show orI [cmpI (erases ks).length (erases ks).length, cmpS s t] = _
    rw [cmpI_self, orI, if_neg (fun h => h rfl), orI]
    split
    · rfl
    · rename_i h0; simp only [ne_eq, Decidable.not_not] at h0; rw [h0]; rfl
  rw [bare_eq, h]
  split
  · rfl
  · rename_i h0
    have h1 : cmpS s t = 0 := by
      rcases Classical.em (cmpS s t = 0) with e | e
      · exact e
      · exact absurd (.inl e) h0
    rw [h1]; exact bares_refl _
theorem cmpS_lt (s t : ByteArray) : decide (cmpS s t < 0) = Op.bytesLess s.toList t.toList := by
  unfold cmpS
  cases h : Op.bytesLess s.toList t.toList with
  | true => rfl
  | false =>
    rw [if_neg (by simp)]
    split <;> rfl
end Go.Proofs.Ythpiggjclhnkcaa.AM
