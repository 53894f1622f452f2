/- Plain laws of what is accepted. -/
import Derived.Test.YtohncglpjiplaaaQ0
namespace Go.Proofs.Ytohncglpjiplaaa.AM
open Go
set_option linter.unusedVariables false
set_option linter.unusedSimpArgs false
theorem reason_none {l : Lt} {t : Term} {b : Int} : reasonB l t b = bNone ↔ (decide (¬ b = l.bottom) && t.opens) = false ∧ (decide (¬ b = l.bottom) && t.parts.any (fun p => p.isN bCall 1)) = false ∧ t.parts.any (fun p => p.isN bDecl 4) = false ∧ (decide (¬ b = l.bottom) && t.parts.any (lowP l b)) = false := by
  have n1 : ¬ bGoal = bNone := by decide +kernel
  have n2 : ¬ bCall = bNone := by decide +kernel
  have n3 : ¬ bDecl = bNone := by decide +kernel
  have n4 : ¬ bWrite = bNone := by decide +kernel
  unfold reasonB
  cases h1 : (decide (¬ b = l.bottom) && t.opens) with
  | true => simp [n1]
  | false =>
    cases h2 : (decide (¬ b = l.bottom) && t.parts.any (fun p => p.isN bCall 1)) with
    | true => simp [n2]
    | false =>
      cases h3 : t.parts.any (fun p => p.isN bDecl 4) with
      | true => simp [n3]
      | false =>
        cases h4 : (decide (¬ b = l.bottom) && t.parts.any (lowP l b)) with
        | true => simp [n4]
        | false => simp
section
variable {k : Nat} (hk : k < 16)
include hk
theorem lowP_mono {b b' : Int} (h0 : 0 ≤ b) (h1 : b ≤ b') {p : Term} (h : lowP (C k) b p = true) : lowP (C k) b' p = true := by
  unfold lowP at h ⊢
  rw [Bool.and_eq_true, Bool.or_eq_true] at h ⊢
  refine ⟨h.1, h.2.imp (fun h => h) fun h => ?_⟩
  have hl := C_lev hk (kid p 0).num
  rw [Bool.not_eq_true', C_leq hk, decide_eq_false_iff_not] at h ⊢
  omega
theorem reason_mono {b b' : Int} (h0 : 0 ≤ b) (h1 : b ≤ b') {t : Term} (h : reasonB (C k) t b' = bNone) : reasonB (C k) t b = bNone := by
  rw [reason_none] at h ⊢
  rw [C_bot hk] at h ⊢
  obtain ⟨a1, a2, a3, a4⟩ := h
  have hb : decide (¬ b = 0) = true → decide (¬ b' = 0) = true := by simp; omega
  simp only [Bool.and_eq_false_iff] at a1 a2 a4 ⊢
  refine ⟨?_, ?_, a3, ?_⟩
  · rcases a1 with a | a
    · left; cases hq : decide (¬ b = 0) with | false => rfl | true => rw [hb hq] at a; cases a
    · right; exact a
  · rcases a2 with a | a
    · left; cases hq : decide (¬ b = 0) with | false => rfl | true => rw [hb hq] at a; cases a
    · right; exact a
  · rcases a4 with a | a
    · left; cases hq : decide (¬ b = 0) with | false => rfl | true => rw [hb hq] at a; cases a
    · right
      rw [List.any_eq_false] at a ⊢
      exact fun p hp h => a p hp (lowP_mono hk h0 h1 h)
theorem boundG_rng : ∀ (gs : List Term) {b : Int}, 0 ≤ b → b ≤ (k : Nat) → b ≤ boundG (C k) b gs ∧ boundG (C k) b gs ≤ (k : Nat)
  | [], b, h0, h1 => ⟨Int.le_refl _, h1⟩
  | g :: gs, b, h0, h1 => by
    have hs := sj_rng hk g
    have := boundG_rng gs (b := (C k).join b (g.sj (C k))) (by rw [C_join hk h0 h1 hs.1 hs.2]; omega) (by rw [C_join hk h0 h1 hs.1 hs.2]; omega)
    rw [C_join hk h0 h1 hs.1 hs.2] at this
    show b ≤ boundG (C k) ((C k).join b (g.sj (C k))) gs ∧ _
    rw [C_join hk h0 h1 hs.1 hs.2]
    refine ⟨by omega, ?_⟩
    have e : boundG (C k) b (g :: gs) = boundG (C k) ((C k).join b (g.sj (C k))) gs := rfl
    rw [e, C_join hk h0 h1 hs.1 hs.2]; exact this.2
theorem boundG_mono : ∀ (gs : List Term) {b b' : Int}, 0 ≤ b → b ≤ b' → b' ≤ (k : Nat) → boundG (C k) b gs ≤ boundG (C k) b' gs
  | [], b, b', h0, h1, h2 => h1
  | g :: gs, b, b', h0, h1, h2 => by
    have hs := sj_rng hk g
    show boundG (C k) ((C k).join b (g.sj (C k))) gs ≤ boundG (C k) ((C k).join b' (g.sj (C k))) gs
    rw [C_join hk h0 (by omega) hs.1 hs.2, C_join hk (by omega) h2 hs.1 hs.2]
    exact boundG_mono gs (by omega) (by omega) (by omega)
omit hk in
theorem boundG_app (l : Lt) (b : Int) (gs hs : List Term) : boundG l b (gs ++ hs) = boundG l (boundG l b gs) hs := by simp [boundG]
omit hk in
theorem bound0_none (lv : Int) : bound0 (C k) none lv = (C k).lev lv := rfl
theorem bound0_some {cs : List Cl} (h : ∀ c ∈ cs, 0 ≤ c.level ∧ c.level ≤ (k : Nat)) (lv : Int) : bound0 (C k) (some cs) lv = max ((C k).lev lv) (tops k cs) := by
  have h1 := C_lev hk lv
  have h2 := tops_rng hk cs h
  show (C k).join ((C k).lev lv) (topO (C k) (some cs)) = _
  rw [topO_eq hk h, C_join hk h1.1 h1.2 h2.1 h2.2]
theorem accept_iff (h1 : 1 ≤ k) (o : Option (List Cl)) (gs : List Term) (lv : Int) : (acceptB (C k) o gs lv).1 = true ↔ ∀ t ∈ textsC (allB o) ++ gs, reasonB (C k) t.erase (boundG (C k) (bound0 (C k) o lv) gs) = bNone := by
  have hn : (C k).n = k + 1 := rfl
  unfold acceptB
  rw [if_neg (by omega), if_neg (by omega), judge_iff]
/-- Less to ask, at a lower level. -/
theorem accept_less (h1 : 1 ≤ k) {o o' : Option (List Cl)} {gs gs' : List Term} {lv lv' : Int} (ht : ∀ t ∈ textsC (allB o) ++ gs, t ∈ textsC (allB o') ++ gs') (h0 : 0 ≤ boundG (C k) (bound0 (C k) o lv) gs) (hb : boundG (C k) (bound0 (C k) o lv) gs ≤ boundG (C k) (bound0 (C k) o' lv') gs')
    (h : (acceptB (C k) o' gs' lv').1 = true) : (acceptB (C k) o gs lv).1 = true := by
  rw [accept_iff hk h1] at h ⊢
  exact fun t hm => reason_mono hk h0 hb (h t (ht t hm))
theorem accept_more (h1 : 1 ≤ k) {cs : List Cl} (hc : ∀ c ∈ cs, 0 ≤ c.level ∧ c.level ≤ (k : Nat)) (gs : List Term) (more : Term) (lv : Int) (h : (acceptB (C k) (some cs) (gs ++ [more]) lv).1 = true) : (acceptB (C k) (some cs) gs lv).1 = true := by
  have hl := C_lev hk lv
  have ht := tops_rng hk cs hc
  have e := bound0_some hk hc lv
  have r := boundG_rng hk gs (b := bound0 (C k) (some cs) lv) (by rw [e]; omega) (by rw [e]; omega)
  refine accept_less hk h1 (fun t hm => ?_) (by rw [e] at r ⊢; omega) ?_ h
  · rcases List.mem_append.1 hm with hm | hm
    · exact List.mem_append_left _ hm
    · exact List.mem_append_right _ (List.mem_append_left _ hm)
  · rw [boundG_app]
    exact (boundG_rng hk [more] (by rw [e] at r ⊢; omega) r.2).1
theorem accept_clause (h1 : 1 ≤ k) {cs : List Cl} {c : Cl} (hc : ∀ d ∈ cs ++ [c], 0 ≤ d.level ∧ d.level ≤ (k : Nat)) (gs : List Term) (lv : Int) (h : (acceptB (C k) (some (cs ++ [c])) gs lv).1 = true) : (acceptB (C k) (some cs) gs lv).1 = true := by
  have hc1 : ∀ d ∈ cs, 0 ≤ d.level ∧ d.level ≤ (k : Nat) := fun d hd => hc d (List.mem_append_left _ hd)
  have hc2 : ∀ d ∈ [c], 0 ≤ d.level ∧ d.level ≤ (k : Nat) := fun d hd => hc d (List.mem_append_right _ hd)
  have hl := C_lev hk lv
  have ht := tops_rng hk cs hc1
  have ht2 := tops_rng hk [c] hc2
  have e := bound0_some hk hc1 lv
  have e2 := bound0_some hk hc lv
  rw [tops_app _ _ (fun _ _ => trivial) ht2.1] at e2
  have r := boundG_rng hk gs (b := bound0 (C k) (some cs) lv) (by rw [e]; omega) (by rw [e]; omega)
  refine accept_less hk h1 (fun t hm => ?_) (by rw [e] at r ⊢; omega) (boundG_mono hk gs (by rw [e]; omega) (by rw [e, e2]; omega) (by rw [e2]; omega)) h
  show t ∈ textsC (cs ++ [c]) ++ gs
  rw [textsC_app]
  rcases List.mem_append.1 hm with hm | hm
  · exact List.mem_append_left _ (List.mem_append_left _ hm)
  · exact List.mem_append_right _ hm
theorem accept_level (h1 : 1 ≤ k) {cs : List Cl} (hc : ∀ c ∈ cs, 0 ≤ c.level ∧ c.level ≤ (k : Nat)) (gs : List Term) {x y : Int} (x0 : 0 ≤ x) (hxy : x ≤ y) (y1 : y ≤ (k : Nat)) (h : (acceptB (C k) (some cs) gs y).1 = true) : (acceptB (C k) (some cs) gs x).1 = true := by
  have ht := tops_rng hk cs hc
  have e := bound0_some hk hc x
  have e2 := bound0_some hk hc y
  rw [C_lev_in x0 (by omega)] at e
  rw [C_lev_in (by omega) y1] at e2
  have r := boundG_rng hk gs (b := bound0 (C k) (some cs) x) (by rw [e]; omega) (by rw [e]; omega)
  exact accept_less hk h1 (fun t hm => hm) (by rw [e] at r ⊢; omega) (boundG_mono hk gs (by rw [e]; omega) (by rw [e, e2]; omega) (by rw [e2]; omega)) h
theorem accept_nothing (h1 : 1 ≤ k) (lv : Int) : (acceptB (C k) none [] lv).1 = true := by
  rw [accept_iff hk h1]
  intro t ht; cases ht
end

/-! What has no part of a kind. -/
def Term.hasB (t : Term) (s : ByteArray) (n : Int) : Bool := t.parts.any fun p => p.isN s n
theorem partss_any (q : Term → Bool) : ∀ l : List Term, (partss l).any q = l.any fun t => t.parts.any q
  | [] => rfl
  | t :: l => by rw [partss, List.any_append, partss_any q l]; rfl
theorem hasB_eq (t : Term) (s : ByteArray) (n : Int) : t.hasB s n = (t.isN s n || t.kids.any fun x => x.hasB s n) := by
  unfold Term.hasB
  rw [Term.parts_kids, List.any_cons, partss_any]
theorem hasB_no {t : Term} {s : ByteArray} {n : Int} (h : t.isN s n = false) (hks : ∀ (i : Nat) (hi : i < t.kids.length), t.kids[i].hasB s n = false) : t.hasB s n = false := by
  rw [hasB_eq, h, Bool.false_or, List.any_eq_false]
  intro x hx
  obtain ⟨i, hi, rfl⟩ := List.getElem_of_mem hx
  rw [hks i hi]; simp
theorem hasB_yes {t : Term} {s : ByteArray} {n : Int} {i : Nat} (hi : i < t.kids.length) (h : t.kids[i].hasB s n = true) : t.hasB s n = true := by
  rw [hasB_eq, Bool.or_eq_true, List.any_eq_true]; exact .inr ⟨_, List.getElem_mem hi, h⟩
mutual
/-- A goal that is a variable is a part. -/
theorem opens_var : ∀ t : Term, t.opens = true → ∃ p ∈ t.parts, p.kind = 1
  | .node k n s ks, h => by
    simp only [Term.opens] at h
    cases hc : (Term.node k n s ks).ctl with
    | true =>
      rw [hc, cond_true] at h
      obtain ⟨p, hp, h1⟩ := openss_var ks h
      exact ⟨p, by simp only [Term.parts]; exact List.mem_cons_of_mem _ hp, h1⟩
    | false =>
      rw [hc, cond_false] at h
      exact ⟨.node k n s ks, by simp only [Term.parts]; exact List.mem_cons_self .., of_decide_eq_true h⟩
theorem openss_var : ∀ l : List Term, openss l = true → ∃ p ∈ partss l, p.kind = 1
  | [], h => by cases h
  | t :: l, h => by
    simp only [openss, Bool.or_eq_true] at h
    simp only [partss]
    rcases h with h | h
    · obtain ⟨p, hp, h1⟩ := opens_var t h; exact ⟨p, List.mem_append_left _ hp, h1⟩
    · obtain ⟨p, hp, h1⟩ := openss_var l h; exact ⟨p, List.mem_append_right _ hp, h1⟩
end
theorem partsq_mem {l : List Term} {p : Term} : p ∈ partss l ↔ ∃ x ∈ l, p ∈ x.parts := by
  induction l with
  | nil => simp [partss]
  | cons t l ih => simp [partss, ih]
theorem erase_var (t : Term) : ∀ p ∈ t.erase.parts, p.kind = 1 → ∃ q ∈ t.parts, q.kind = 1 := by
  refine term_ind (Q := fun t => ∀ p ∈ t.erase.parts, p.kind = 1 → ∃ q ∈ t.parts, q.kind = 1) ?_ ?_ t
  · intro n s x ih p hp h1
    rw [erase_s] at hp
    obtain ⟨q, hq, h2⟩ := ih p hp h1
    exact ⟨q, by simp only [Term.parts, partss]; exact List.mem_cons_of_mem _ (List.mem_append_left _ hq), h2⟩
  · intro t hs ih p hp h1
    rw [erase_node hs, Term.parts] at hp
    rw [Term.parts_kids]
    rcases List.mem_cons.1 hp with rfl | hp
    · exact ⟨t, List.mem_cons_self .., h1⟩
    · obtain ⟨y, hy, hpy⟩ := partsq_mem.1 hp
      rw [erases_map] at hy
      obtain ⟨x, hx, rfl⟩ := List.mem_map.1 hy
      obtain ⟨q, hq, h2⟩ := ih x hx p hpy h1
      exact ⟨q, List.mem_cons_of_mem _ (partsq_mem.2 ⟨x, hx, hq⟩), h2⟩
/-- What a program's text may be without being asked. -/
def cleanE (t : Term) : Prop := (∀ p ∈ t.parts, p.kind ≠ 1) ∧ t.hasB bWrite 2 = false ∧ t.hasB bCall 1 = false ∧ t.hasB bDecl 4 = false
theorem clean_reason {l : Lt} {t : Term} (h : cleanE t) (b : Int) : reasonB l t b = bNone := by
  rw [reason_none]
  have ho : t.opens = false := by
    cases hq : t.opens with
    | false => rfl
    | true => obtain ⟨p, hp, h1⟩ := opens_var t hq; exact absurd h1 (h.1 p hp)
  have hw : t.parts.any (lowP l b) = false := by
    rw [List.any_eq_false]
    intro p hp hl
    have := List.any_eq_false.1 h.2.1 p hp
    unfold lowP at hl
    rw [Bool.and_eq_true] at hl
    exact this hl.1
  refine ⟨by rw [ho, Bool.and_false], ?_, h.2.2.2, by rw [hw, Bool.and_false]⟩
  have : (t.parts.any fun p => p.isN bCall 1) = false := h.2.2.1
  rw [this, Bool.and_false]
theorem clean_sub {t u : Term} (h : cleanE t) (hs : ∀ p ∈ u.parts, p ∈ t.parts) : cleanE u := by
  have key : ∀ (s : ByteArray) (n : Int), t.hasB s n = false → u.hasB s n = false := fun s n h0 => List.any_eq_false.2 fun p hp => List.any_eq_false.1 h0 p (hs p hp)
  exact ⟨fun p hp => h.1 p (hs p hp), key _ _ h.2.1, key _ _ h.2.2.1, key _ _ h.2.2.2⟩
theorem erase_kid {t x : Term} (hk : t.kind = 3) (hx : x ∈ t.kids) : ∀ p ∈ x.erase.parts, p ∈ t.erase.parts := by
  intro p hp
  have hs : t.isS = false := by unfold Term.isS; rw [hk]; rfl
  rw [erase_node hs, Term.parts]
  exact List.mem_cons_of_mem _ (partsq_mem.2 ⟨x.erase, by rw [erases_map]; exact List.mem_map_of_mem hx, hp⟩)
/-- What CheckWrites asks of a text. -/
def plainS (t : Term) : Bool := decide (¬ t.check 16 = 0) || t.erase.hasB bWrite 2 || t.erase.hasB bCall 1 || t.erase.hasB bDecl 4
def cleanT (t : Term) : Bool := !(t.hasB bWrite 2 || t.hasB bCall 1 || t.hasB bDecl 4 || decide (0 < t.vars.length) || plainS t)
theorem clean_of {t : Term} (h : cleanT t = true) : (∀ p ∈ t.parts, p.kind ≠ 1) ∧ cleanE t.erase := by
  unfold cleanT plainS at h
  simp only [Bool.not_eq_true', Bool.or_eq_false_iff, decide_eq_false_iff_not] at h
  have hv : ∀ p ∈ t.parts, p.kind ≠ 1 := fun p hp h1 => by
    have : p.num ∈ t.vars := (mem_vars _ _).2 ⟨p, hp, h1, rfl⟩
    have := List.length_pos_of_mem this
    exact h.1.2 this
  exact ⟨hv, fun p hp h1 => by obtain ⟨q, hq, h2⟩ := erase_var t p hp h1; exact hv q hq h2, h.2.1.1.2, h.2.1.2, h.2.2⟩
theorem trueT_clean : cleanE trueT := ⟨fun p hp => by simp [trueT, Term.parts, partss] at hp; rw [hp]; decide, by decide +kernel, by decide +kernel, by decide +kernel⟩
theorem trueT_erase : trueT.erase = trueT := by simp [trueT, Term.erase, erases]
theorem parse_clean {l : Lt} {t : Term} (h : cleanT t = true) (h0 : (parseL l t).2 = 0) : cleanE (parseL l t).1.head.erase ∧ cleanE (parseL l t).1.body.erase := by
  obtain ⟨hv, hc⟩ := clean_of h
  have key : ∀ (lv : Int) (u : Term), (∀ p ∈ u.parts, p.kind ≠ 1) → cleanE u.erase → (parse1 lv (asRule u)).2 = 0 → cleanE (parse1 lv (asRule u)).1.head.erase ∧ cleanE (parse1 lv (asRule u)).1.body.erase := by
    intro lv u hv hc hu
    obtain ⟨x, y, hr, hx, hy, hx1, hy1⟩ : ∃ x y, asRule u = .node 3 (asRule u).num neck [x, y] ∧ cleanE x.erase ∧ cleanE y.erase ∧ (∀ p ∈ x.parts, p.kind ≠ 1) ∧ (∀ p ∈ y.parts, p.kind ≠ 1) := by
      by_cases ht : u.two neck = true
      · rw [asRule_yes ht]
        obtain ⟨k3, kn, kl⟩ := two_iff.1 ht
        match u, k3, kn, kl, hv, hc with
        | .node k n s [x, y], k3, kn, _, hv, hc =>
          obtain rfl : k = 3 := k3
          obtain rfl : s = neck := kn
          have hp := Term.parts_kids (.node 3 n neck [x, y])
          refine ⟨x, y, rfl, clean_sub hc (erase_kid rfl (List.mem_cons_self ..)), clean_sub hc (erase_kid rfl (List.mem_cons_of_mem _ (List.mem_cons_self ..))), fun p q => hv p ?_, fun p q => hv p ?_⟩
          · rw [hp]; exact List.mem_cons_of_mem _ (partsq_mem.2 ⟨x, List.mem_cons_self .., q⟩)
          · rw [hp]; exact List.mem_cons_of_mem _ (partsq_mem.2 ⟨y, List.mem_cons_of_mem _ (List.mem_cons_self ..), q⟩)
      · rw [asRule_no ht]
        exact ⟨u, trueT, rfl, hc, by rw [trueT_erase]; exact trueT_clean, hv, trueT_clean.1⟩
    have hn : (asRule u).norm.kids = [x.put (fun n => placeOf (asRule u).vars n 0), y.put (fun n => placeOf (asRule u).vars n 0)] := by
      unfold Term.norm; rw [put_eq]; show puts _ _ = _; rw [show (asRule u).kids = [x, y] from by rw [hr]; rfl]; rfl
    have ex : x.put (fun n => placeOf (asRule u).vars n 0) = x := put_id x fun p hp h1 => absurd h1 (hx1 p hp)
    have ey : y.put (fun n => placeOf (asRule u).vars n 0) = y := put_id y fun p hp h1 => absurd h1 (hy1 p hp)
    rw [ex, ey] at hn
    unfold parse1 parse2 at hu ⊢
    have k0 : kid (asRule u).norm 0 = x := by unfold kid; rw [hn]; rfl
    have k1 : kid (asRule u).norm 1 = y := by unfold kid; rw [hn]; rfl
    rw [k0, k1] at hu ⊢
    split at hu
    · cases hu
    · rename_i ha
      split at hu
      · cases hu
      · rename_i hb
        rw [if_neg ha, if_neg hb]
        exact ⟨hx, hy⟩
  unfold parseL at h0 ⊢
  split at h0
  · rename_i h1
    split at h0
    · rename_i h2
      rw [if_pos h1, if_pos h2]
      obtain ⟨k3, _, kl⟩ := two_iff.1 h1
      have hlt : 1 < t.kids.length := by omega
      have hm : kid t 1 ∈ t.kids := by rw [← kid_eq hlt]; exact List.getElem_mem hlt
      refine key _ _ (fun p hp => hv p ?_) (clean_sub hc (erase_kid k3 hm)) h0
      rw [Term.parts_kids]; exact List.mem_cons_of_mem _ (partsq_mem.2 ⟨_, hm, hp⟩)
    · cases h0
  · rename_i h1
    rw [if_neg h1]
    exact key _ _ hv hc h0
/-- A program that writes nothing. -/
theorem accept_clean {k : Nat} (hk : k < 16) (h1 : 1 ≤ k) {ts : List Term} (hok : ∀ t ∈ ts, (parseL (C k) t).2 = 0) (hc : ∀ t ∈ ts, cleanT t = true) (gs : List Term) (lv : Int)
    (hg : ∀ g ∈ gs, ∀ b : Int, 0 ≤ b → b ≤ (k : Nat) → reasonB (C k) g.erase b = bNone) : (acceptB (C k) (some (parsesT (C k) ts)) gs lv).1 = true := by
  rw [accept_iff hk h1]
  have hl := parsesT_level hk ts
  have hlv := C_lev hk lv
  have htp := tops_rng hk _ hl
  have e := bound0_some hk hl lv
  have r := boundG_rng hk gs (b := bound0 (C k) (some (parsesT (C k) ts)) lv) (by rw [e]; omega) (by rw [e]; omega)
  intro t ht
  rcases List.mem_append.1 ht with ht | ht
  · obtain ⟨c, hcm, h⟩ := textsC_mem.1 ht
    obtain ⟨u, hu, rfl⟩ := List.mem_map.1 (show c ∈ parsesT (C k) ts from hcm)
    have := parse_clean (hc u hu) (hok u hu)
    rcases h with rfl | rfl
    · exact clean_reason this.1 _
    · exact clean_reason this.2 _
  · exact hg t ht _ (by rw [e] at r ⊢; omega) r.2
theorem high_reason {k : Nat} (hk : k < 16) {b : Int} (h0 : 0 ≤ b) (h1 : b ≤ (k : Nat)) : reasonB (C k) (Term.node 3 0 bWrite [.node 2 ((k : Nat) : Int) ⟨#[]⟩ [], .node 1 0 ⟨#[]⟩ []]).erase b = bNone := by
  have e : (Term.node 3 0 bWrite [.node 2 ((k : Nat) : Int) ⟨#[]⟩ [], .node 1 0 ⟨#[]⟩ []]).erase = .node 3 0 bWrite [.node 2 ((k : Nat) : Int) ⟨#[]⟩ [], .node 1 0 ⟨#[]⟩ []] := by simp [Term.erase, erases]
  rw [e, reason_none]
  have i2 : ∀ (n m : Int) (s : ByteArray), (Term.node 2 n ⟨#[]⟩ []).isN s m = false := fun n m s => rfl
  have i1 : ∀ (n m : Int) (s : ByteArray), (Term.node 1 n ⟨#[]⟩ []).isN s m = false := fun n m s => rfl
  have hctl : (Term.node 3 0 bWrite [.node 2 ((k : Nat) : Int) ⟨#[]⟩ [], .node 1 0 ⟨#[]⟩ []]).ctl = false := by
    have w1 : (bWrite.toList == bComma.toList) = false := by decide +kernel
    have w2 : (bWrite.toList == bSemi.toList) = false := by decide +kernel
    have w3 : (bWrite.toList == bArrow.toList) = false := by decide +kernel
    have w4 : (bWrite.toList == bNot.toList) = false := by decide +kernel
    unfold Term.ctl Term.isN
    simp only [Term.kind, Term.name, w1, w2, w3, w4]; rfl
  have hcall : (bWrite.toList == bCall.toList) = false := by decide +kernel
  have hdecl : (bWrite.toList == bDecl.toList) = false := by decide +kernel
  have hp : (Term.node 3 0 bWrite [.node 2 ((k : Nat) : Int) ⟨#[]⟩ [], .node 1 0 ⟨#[]⟩ []]).parts = [.node 3 0 bWrite [.node 2 ((k : Nat) : Int) ⟨#[]⟩ [], .node 1 0 ⟨#[]⟩ []], .node 2 ((k : Nat) : Int) ⟨#[]⟩ [], .node 1 0 ⟨#[]⟩ []] := rfl
  have hlv : (C k).lev ((k : Nat) : Int) = (k : Nat) := C_lev_in (Int.natCast_nonneg _) (Int.le_refl _)
  refine ⟨?_, ?_, ?_, ?_⟩
  · rw [opens_eq, hctl]; simp [Term.kind]
  · rw [hp]; simp only [List.any_cons, List.any_nil, i2, i1]
    unfold Term.isN
    simp only [Term.kind, Term.name, hcall]; simp
  · rw [hp]; simp only [List.any_cons, List.any_nil, i2, i1]
    unfold Term.isN
    simp only [Term.kind, Term.name, hdecl]; simp
  · rw [hp]; simp only [List.any_cons, List.any_nil]
    have l0 : lowP (C k) b (.node 3 0 bWrite [.node 2 ((k : Nat) : Int) ⟨#[]⟩ [], .node 1 0 ⟨#[]⟩ []]) = false := by
      unfold lowP
      have : kid (.node 3 0 bWrite [.node 2 ((k : Nat) : Int) ⟨#[]⟩ [], .node 1 0 ⟨#[]⟩ []]) 0 = .node 2 ((k : Nat) : Int) ⟨#[]⟩ [] := rfl
      rw [this, show (Term.node 2 ((k : Nat) : Int) ⟨#[]⟩ []).num = ((k : Nat) : Int) from rfl, hlv, C_leq hk, decide_eq_true (show 0 ≤ b ∧ b ≤ ((k : Nat) : Int) ∧ ((k : Nat) : Int) ≤ (k : Nat) from ⟨h0, h1, Int.le_refl _⟩)]
      simp [Term.kind]
    rw [l0]
    unfold lowP
    rw [i2, i1]; simp
/-! One fact, and a write. -/
def factT (c s : Int) : Term := .node 3 0 ncol [.node 2 c ⟨#[]⟩ [], .node 3 0 ⟨#[112]⟩ [putS (.node 3 0 ⟨#[97]⟩ []) s]]
def writeT (w : Int) : Term := .node 3 0 bWrite [.node 2 w ⟨#[]⟩ [], .node 3 0 ⟨#[120]⟩ []]
def boundsOk (k c s w : Nat) : Bool :=
  decide ((newB (C k) [factT c s]).2.2 = 0) && ((acceptB (C k) (newB (C k) [factT c s]).1 [writeT w] 0).1 == decide ((max (c : Int) (s : Int)) ≤ (w : Int))) && ((acceptB (C k) (newB (C k) [factT c s]).1 [writeT w] 0).1 || ((acceptB (C k) (newB (C k) [factT c s]).1 [writeT w] 0).2.toList == bWrite.toList))
theorem bounds_tab : ((List.range 7).all fun j => (List.range (j + 2)).all fun c => (List.range (j + 2)).all fun s => (List.range (j + 2)).all fun w => boundsOk (j + 1) c s w) = true := by decide +kernel
theorem bounds_at {k c s w : Nat} (h1 : 1 ≤ k) (h7 : k ≤ 7) (hc : c ≤ k) (hs : s ≤ k) (hw : w ≤ k) : boundsOk k c s w = true := by
  have h := List.all_eq_true.1 bounds_tab (k - 1) (List.mem_range.2 (by omega))
  have h := List.all_eq_true.1 h c (List.mem_range.2 (by omega))
  have h := List.all_eq_true.1 h s (List.mem_range.2 (by omega))
  have h := List.all_eq_true.1 h w (List.mem_range.2 (by omega))
  rwa [show k - 1 + 1 = k by omega] at h
end Go.Proofs.Ytohncglpjiplaaa.AM
