/- Terms made one, and erased. -/
import Derived.Test.YtegfpnpghfcopaaU3
namespace Go.Proofs.Ytegfpnpghfcopaa.AM
open Go
set_option linter.unusedVariables false
set_option linter.unusedSimpArgs false
set_option linter.unusedSectionVars false
/-- The other store holds what this one holds, erased. -/
def Er (s t : St) : Prop := t.cs = s.cs.map (Option.map Term.erase)
theorem Er.at {s t : St} (h : Er s t) (n : Int) : t.at n = (s.at n).map Term.erase := by
  unfold St.at
  rw [h]
  split
  · rw [List.getElem?_map]
    cases s.cs[n.toNat]? with
    | none => rfl
    | some c => cases c <;> rfl
  · rfl
theorem Er.len {s t : St} (h : Er s t) : t.cs.length = s.cs.length := by rw [h, List.length_map]
section
variable {k : Nat}
theorem er_nodes {t : Term} (g : Gd k t) (h : t.kind ≠ 4) : t.erase = .node t.kind t.num t.name (erases t.kids) := erase_node (isS_of h)
theorem er_var {t : Term} (g : Gd k t) (h : t.kind = 1) : t.erase = t := by
  rw [g.var h, erase_node (isS_of (by show (1 : Int) ≠ 4; decide))]; rfl
theorem er_ground {t : Term} : Gr t → Gr t.erase := by
  induction t using term_ind with
  | hs n s x ih => intro h; rw [erase_s]; exact ih (h.kid (by simp [Term.kids]))
  | hn t hf ih =>
    intro h p hp
    rw [erase_node hf, Term.parts] at hp
    rcases List.mem_cons.1 hp with rfl | hp
    · exact h.self
    · have key : ∀ l : List Term, (∀ x ∈ l, x ∈ t.kids) → ∀ p ∈ partss (erases l), p.kind ≠ 1 := by
        intro l
        induction l with
        | nil => intro _ p hp; cases hp
        | cons y l ih2 =>
          intro hy p hp
          rw [erases, partss, List.mem_append] at hp
          rcases hp with hp | hp
          · exact ih y (hy y (by simp)) (h.kid (hy y (by simp))) p hp
          · exact ih2 (fun x hx => hy x (by simp [hx])) p hp
      exact key t.kids (fun x hx => hx) p hp
theorem er_kind {t : Term} (g : Gd k t) (h : t.kind ≠ 1) : t.erase.kind ≠ 1 ∧ t.erase.kind ≠ 4 := by
  by_cases h4 : t.kind = 4
  · obtain ⟨n, x, rfl, _, _, gx⟩ := g.slt h4
    rw [erase_s]
    refine ⟨(er_ground gx).self, ?_⟩
    have hx : Gd k x := g.kid (by simp [Term.kids])
    have : ∀ x : Term, Gd k x → x.erase.kind ≠ 4 := by
      intro x
      induction x using term_ind with
      | hs n s y ih => intro g; rw [erase_s]; exact ih (g.kid (by simp [Term.kids]))
      | hn t hf ih => intro g; rw [erase_node hf]; exact g.notS hf
    exact this x hx
  · rw [er_nodes g h4]; exact ⟨h, h4⟩
theorem alone_like {lv : Int} {t u : Term} (h1 : t.kind = u.kind) (h2 : t.num = u.num) (h3 : t.name = u.name) (h4 : t.kids.length = u.kids.length) (hk : t.kind ≠ 4) : alone lv t = alone lv u := by
  have b4 : (u.kind == 4) = false := by rw [beq_eq_false_iff_ne, ← h1]; exact hk
  simp only [alone, h1, h2, h3, h4, b4, cond_false]
theorem gd_erase {t : Term} : Gd k t → Gd k t.erase := by
  intro g
  refine ⟨?_, Nat.le_trans (erase_bulk t) g.bulk⟩
  have key : ∀ t : Term, Gd k t → t.erase.parts.all (alone ((k + 1 : Nat) : Int)) = true := by
    intro t
    induction t using term_ind with
    | hs n s x ih => intro g; rw [erase_s]; exact ih (g.kid (by simp [Term.kids]))
    | hn t hf ih =>
      intro g
      have h4 := g.notS hf
      rw [erase_node hf, Term.parts, List.all_cons, Bool.and_eq_true]
      constructor
      · have hs := g.self
        rw [alone_like (t := .node t.kind t.num t.name (erases t.kids)) (u := t) rfl rfl rfl (by exact erases_len _) (by exact h4)]; exact hs
      · have key2 : ∀ l : List Term, (∀ x ∈ l, x ∈ t.kids) → (partss (erases l)).all (alone ((k + 1 : Nat) : Int)) = true := by
          intro l
          induction l with
          | nil => intro _; rfl
          | cons y l ih2 =>
            intro hy
            rw [erases, partss, List.all_append, ih y (hy y (by simp)) (g.kid (hy y (by simp))), ih2 fun x hx => hy x (by simp [hx])]; rfl
        exact key2 t.kids fun x hx => hx
  exact key t g
theorem er_live {t : Term} : Gd k t → t.erase.live = t.live := by
  induction t using term_ind with
  | hs n s x ih =>
    intro g
    obtain ⟨n', x', e, _, _, gx⟩ := g.slt (show (Term.node 4 n s [x]).kind = 4 from rfl)
    simp only [Term.node.injEq, List.cons.injEq, and_true, true_and] at e
    obtain ⟨rfl, rfl, rfl⟩ := e
    rw [erase_s, gr_live (er_ground gx), Term.live, if_neg (by decide), if_pos rfl]
  | hn t hf ih =>
    intro g
    rw [erase_node hf, Term.live, t.live_eq]
    split
    · rfl
    · split
      · rfl
      · have key : ∀ l : List Term, (∀ x ∈ l, x ∈ t.kids) → lives (erases l) = lives l := by
          intro l
          induction l with
          | nil => intro _; rfl
          | cons y l ih2 => intro hy; rw [erases, lives, lives, ih y (hy y (by simp)) (g.kid (hy y (by simp))), ih2 fun x hx => hy x (by simp [hx])]
        exact key t.kids fun x hx => hx
theorem er_look {s t : St} (h : Er s t) {a : Term} (g : Gd k a) : t.look a.erase = (s.look a).map Term.erase := by
  by_cases h1 : a.kind = 1
  · rw [er_var g h1, look_at, look_at, if_pos h1, if_pos h1, h.at]
  · rw [look_at, look_at, if_neg (er_kind g h1).1, if_neg h1]; rfl
theorem er_walk {s t : St} (h : Er s t) (hs : Sg k s) : ∀ (n : Nat) (a : Term), Gd k a → t.walk n a.erase = (s.walk n a).erase
  | 0, a, g => rfl
  | n + 1, a, g => by
    cases hl : s.look a with
    | none => rw [walk_stop hl, walk_stop (by rw [er_look h g, hl]; rfl)]
    | some u =>
      rw [walk_nx hl, walk_nx (u := u.erase) (by rw [er_look h g, hl]; rfl)]
      have hat : s.at a.num = some u := by
        rw [look_at] at hl
        split at hl
        · exact hl
        · cases hl
      exact er_walk h hs n u (hs.gd _ _ hat)
theorem er_wk {s t : St} (h : Er s t) (hs : Sg k s) {a : Term} (g : Gd k a) : t.wk a.erase = (s.wk a).erase := by
  unfold St.wk; rw [h.len]; exact er_walk h hs _ a g
theorem er_reach {s t : St} (h : Er s t) (hs : Sg k s) {v u : Int} : Reach s v u ↔ Reach t v u := by
  constructor
  · intro hr
    induction hr with
    | here => exact .here
    | step h1 h2 _ ih => exact .step (by rw [h.at, h1]; rfl) (by rw [er_live (hs.gd _ _ h1)]; exact h2) ih
  · intro hr
    induction hr with
    | here => exact .here
    | @step u w x h1 h2 _ ih =>
      rw [h.at] at h1
      cases hc : s.at u with
      | none => rw [hc] at h1; cases h1
      | some y =>
        rw [hc] at h1; cases h1
        rw [er_live (hs.gd _ _ hc)] at h2
        exact .step hc h2 ih
theorem er_ranked {s t : St} (h : Er s t) (hs : Sg k s) {r : Int → Nat} (hr : s.Ranked r) : t.Ranked r := by
  intro n x hx u hu
  rw [h.at] at hx
  cases hc : s.at n with
  | none => rw [hc] at hx; cases hx
  | some y =>
    rw [hc] at hx; cases hx
    rw [er_live (hs.gd _ _ hc)] at hu
    exact hr n y hc u hu
theorem er_has {s t : St} (h : Er s t) (hs : Sg k s) {v : Int} (hv : s.at v = none) {b : Term} (g : Gd k b) : t.has v b.erase = s.has v b := by
  obtain ⟨r, hr⟩ := hs.ok.ranked
  have hv' : t.at v = none := by rw [h.at, hv]; rfl
  rw [Bool.eq_iff_iff, has_spec (er_ranked h hs hr) hv', has_spec hr hv, er_live g]
  constructor
  · rintro ⟨u, h1, h2⟩; exact ⟨u, h1, (er_reach h hs).2 h2⟩
  · rintro ⟨u, h1, h2⟩; exact ⟨u, h1, (er_reach h hs).1 h2⟩
theorem er_bind {s t : St} (h : Er s t) (hs : Sg k s) (v : Int) {b : Term} (g : Gd k b) : (t.bind v b.erase).2 = (s.bind v b).2 ∧ Er (s.bind v b).1 (t.bind v b.erase).1 := by
  unfold St.bind
  rw [h.len]
  split
  · exact ⟨rfl, h⟩
  · rename_i hv
    have e1 : ((t.cs[v.toNat]?).join).isSome = ((s.cs[v.toNat]?).join).isSome := by
      rw [h, List.getElem?_map]
      cases s.cs[v.toNat]? with
      | none => rfl
      | some c => cases c <;> rfl
    rw [e1]
    split
    · exact ⟨rfl, h⟩
    · rename_i hb
      have hat : s.at v = none := by
        unfold St.at
        rw [if_pos (by omega)]
        cases hq : (s.cs[v.toNat]?).join with
        | none => rfl
        | some c => rw [hq] at hb; exact absurd rfl hb
      rw [er_has h hs hat g]
      split
      · exact ⟨rfl, h⟩
      · refine ⟨rfl, ?_⟩
        show t.cs.set v.toNat (some b.erase) = (s.cs.set v.toNat (some b)).map (Option.map Term.erase)
        rw [List.map_set, ← h]; rfl
end
def ee (p : Term × Term) : Term × Term := (p.1.erase, p.2.erase)
theorem zip_ee : ∀ l m : List Term, (l.zip m).map ee = (erases l).zip (erases m)
  | [], m => by simp [erases]
  | _ :: _, [] => by simp [erases]
  | x :: l, y :: m => by rw [List.zip_cons_cons, List.map_cons, zip_ee l m]; rfl
theorem meet_er (x y : Term) : meetT (.node x.kind x.num x.name (erases x.kids)) (.node y.kind y.num y.name (erases y.kids)) = (meetT x y).map fun q => q.map ee := by
  have hl : (erases x.kids).length = (erases y.kids).length ↔ x.kids.length = y.kids.length := by rw [erases_len, erases_len]
  by_cases c1 : x.kind = 2 ∧ y.kind = 2 ∧ x.num = y.num
  · have e1 : meetT x y = some [] := by unfold meetT; exact if_pos c1
    have e2 : meetT (.node x.kind x.num x.name (erases x.kids)) (.node y.kind y.num y.name (erases y.kids)) = some [] := by unfold meetT; exact if_pos c1
    rw [e1, e2]; rfl
  · by_cases c2 : x.kind = 3 ∧ y.kind = 3 ∧ x.name = y.name ∧ x.kids.length = y.kids.length
    · have e1 : meetT x y = some (x.kids.zip y.kids) := by unfold meetT; exact (if_neg c1).trans (if_pos c2)
      have e2 : meetT (.node x.kind x.num x.name (erases x.kids)) (.node y.kind y.num y.name (erases y.kids)) = some ((erases x.kids).zip (erases y.kids)) := by
        unfold meetT; exact (if_neg c1).trans (if_pos ⟨c2.1, c2.2.1, c2.2.2.1, hl.2 c2.2.2.2⟩)
      rw [e1, e2, Option.map_some, zip_ee]
    · have e1 : meetT x y = none := by unfold meetT; exact (if_neg c1).trans (if_neg c2)
      have e2 : meetT (.node x.kind x.num x.name (erases x.kids)) (.node y.kind y.num y.name (erases y.kids)) = none := by
        unfold meetT; exact (if_neg c1).trans (if_neg fun hh => c2 ⟨hh.1, hh.2.1, hh.2.2.1, hl.1 hh.2.2.2⟩)
      rw [e1, e2]; rfl
section
variable {k : Nat} (hk : k < 16)
include hk
theorem er_open {a : Term} (g : Gd k a) (h1 : a.kind ≠ 1) : sopen (C k) a.erase = (a.erase, (C k).bottom) ∧ a.erase = .node (sopen (C k) a).1.kind (sopen (C k) a).1.num (sopen (C k) a).1.name (erases (sopen (C k) a).1.kids) := by
  refine ⟨sopen_no (er_kind g h1).2, ?_⟩
  have hx : (sopen (C k) a).1.kind ≠ 4 := by rcases sopen_cases hk g h1 with ⟨e, _⟩ | ⟨e, _⟩ <;> omega
  rw [← sopen_erase (C k) a, erase_node (isS_of hx)]
theorem er_meet {a b : Term} (ga : Gd k a) (gb : Gd k b) (h1 : a.kind ≠ 1) (h2 : b.kind ≠ 1) : meetT a.erase b.erase = (meetT (sopen (C k) a).1 (sopen (C k) b).1).map fun q => q.map ee := by
  rw [(er_open hk ga h1).2, (er_open hk gb h2).2]
  exact meet_er _ _
theorem er_mwk {s t : St} (h : Er s t) (hs : Sg k s) {lv : Int} {a b : Term} (ga : Gd k a) (gb : Gd k b) : Er (mwk (C k) s lv a b).1 (mwk (C k) t 0 a.erase b.erase).1 ∧ (mwk (C k) t 0 a.erase b.erase).2.1 = 0 ∧
    (mwk (C k) t 0 a.erase b.erase).2.2 = (mwk (C k) s lv a b).2.2.map fun q => q.map ee := by
  unfold mwk
  by_cases h1 : a.kind = 1
  · have ea := er_var ga h1
    by_cases h2 : b.kind = 1
    · have eb := er_var gb h2
      rw [ea, eb]
      by_cases c : a.kind = 1 ∧ b.kind = 1 ∧ a.num = b.num
      · rw [if_pos c, if_pos c]; exact ⟨h, rfl, rfl⟩
      · rw [if_neg c, if_neg c, if_pos h1, if_pos h1]
        have hb := er_bind h hs a.num gb
        rw [eb] at hb
        refine ⟨hb.2, rfl, ?_⟩
        show (if (t.bind a.num b).2 = 0 then some [] else none) = Option.map _ (if (s.bind a.num b).2 = 0 then some [] else none)
        rw [hb.1]; split <;> rfl
    · rw [ea, if_neg (show ¬ (a.kind = 1 ∧ b.kind = 1 ∧ a.num = b.num) from fun c => h2 c.2.1), if_neg (show ¬ (a.kind = 1 ∧ b.erase.kind = 1 ∧ a.num = b.erase.num) from fun c => (er_kind gb h2).1 c.2.1), if_pos h1, if_pos h1]
      have hb := er_bind h hs a.num gb
      refine ⟨hb.2, rfl, ?_⟩
      show (if (t.bind a.num b.erase).2 = 0 then some [] else none) = Option.map _ (if (s.bind a.num b).2 = 0 then some [] else none)
      rw [hb.1]; split <;> rfl
  · rw [if_neg (show ¬ (a.kind = 1 ∧ b.kind = 1 ∧ a.num = b.num) from fun c => h1 c.1), if_neg (show ¬ (a.erase.kind = 1 ∧ b.erase.kind = 1 ∧ a.erase.num = b.erase.num) from fun c => (er_kind ga h1).1 c.1), if_neg h1, if_neg (er_kind ga h1).1]
    by_cases h2 : b.kind = 1
    · have eb := er_var gb h2
      rw [eb, if_pos h2, if_pos h2]
      have hb := er_bind h hs b.num ga
      refine ⟨hb.2, rfl, ?_⟩
      show (if (t.bind b.num a.erase).2 = 0 then some [] else none) = Option.map _ (if (s.bind b.num a).2 = 0 then some [] else none)
      rw [hb.1]; split <;> rfl
    · rw [if_neg h2, if_neg (er_kind gb h2).1]
      refine ⟨h, ?_, ?_⟩
      · show (C k).join 0 ((C k).join (sopen (C k) a.erase).2 (sopen (C k) b.erase).2) = 0
        rw [(er_open hk ga h1).1, (er_open hk gb h2).1, C_bot hk, C_join hk (Int.le_refl _) (by omega) (Int.le_refl _) (by omega), show max (0 : Int) 0 = 0 from rfl, C_join hk (Int.le_refl _) (by omega) (Int.le_refl _) (by omega)]; rfl
      · show meetT (sopen (C k) a.erase).1 (sopen (C k) b.erase).1 = _
        rw [(er_open hk ga h1).1, (er_open hk gb h2).1]
        exact er_meet hk ga gb h1 h2
omit hk in
theorem er_sv : Er sv sv := by
  have e : sv.cs = List.replicate 12 none := by rw [show sv = (e0.fresh 12).1 from rfl, fresh_ok (by decide) (by decide +kernel)]; rfl
  unfold Er; rw [e]; rfl
theorem er_mt : ∀ (m : Nat) (s t : St) (lv : Int) (ps : List (Term × Term)), Er s t → Sg k s → Ps k ps → Er (mt (C k) m s lv ps).1 (mt (C k) m t 0 (ps.map ee)).1 ∧ (mt (C k) m t 0 (ps.map ee)).2.1 = (mt (C k) m s lv ps).2.1 ∧
    (mt (C k) m t 0 (ps.map ee)).2.2.1 = 0 ∧ (mt (C k) m t 0 (ps.map ee)).2.2.2 = (mt (C k) m s lv ps).2.2.2
  | m, s, t, lv, [], h, _, _ => by rw [List.map_nil, mt_nil, mt_nil]; exact ⟨h, rfl, rfl, rfl⟩
  | 0, s, t, lv, p :: ps, h, _, _ => ⟨h, rfl, rfl, rfl⟩
  | m + 1, s, t, lv, (a, b) :: ps, h, hs, hp => by
    obtain ⟨ha, hb⟩ := hp (a, b) (by simp)
    obtain ⟨g1, _, g3⟩ := mone_good hk (lv := lv) hs ha hb
    have e := er_mwk hk h hs (lv := lv) (hs.wk ha) (hs.wk hb)
    rw [← er_wk h hs ha, ← er_wk h hs hb] at e
    have hee : ee (a, b) = (a.erase, b.erase) := rfl
    rw [List.map_cons, hee]
    simp only [mt]
    have e1 : mone (C k) t 0 a.erase b.erase = mwk (C k) t 0 (t.wk a.erase) (t.wk b.erase) := rfl
    have e2 : mone (C k) s lv a b = mwk (C k) s lv (s.wk a) (s.wk b) := rfl
    rw [← e1, ← e2] at e
    rcases hq : mone (C k) s lv a b with ⟨s', lv', q⟩
    rcases hq' : mone (C k) t 0 a.erase b.erase with ⟨t', lt', q'⟩
    rw [hq, hq'] at e
    rw [hq] at g1 g3
    obtain ⟨f1, f2, f3⟩ := e
    simp only at f1 f2 f3
    subst f2
    cases q with
    | none =>
      have : q' = none := f3
      subst this
      exact ⟨f1, rfl, rfl, rfl⟩
    | some q =>
      have : q' = some (q.map ee) := f3
      subst this
      show Er (mt (C k) m s' lv' (q ++ ps)).1 (mt (C k) m t' 0 (q.map ee ++ ps.map ee)).1 ∧ _
      simp only [← List.map_append]
      exact er_mt m s' t' lv' (q ++ ps) f1 g1 fun p hp' => by
        rcases List.mem_append.1 hp' with h | h
        · exact g3 q rfl p h
        · exact hp p (by simp [h])
theorem er_un {a b : Term} (ga : Gd k a) (gb : Gd k b) : Er (matchS (C k) sv [a] [b]).1 (matchS (C k) sv [a.erase] [b.erase]).1 ∧ (matchS (C k) sv [a.erase] [b.erase]).2.1 = (matchS (C k) sv [a] [b]).2.1 ∧
    (matchS (C k) sv [a.erase] [b.erase]).2.2.1 = 0 ∧ (matchS (C k) sv [a.erase] [b.erase]).2.2.2 = (matchS (C k) sv [a] [b]).2.2.2 := by
  rw [un_eq, un_eq, C_bot hk]
  exact er_mt hk 2000 sv sv 0 [(a, b)] er_sv (sv_sg k) (ps_one ga gb)
omit hk in
mutual
theorem fil_er {s t : St} (h : Er s t) (hs : Sg k s) (hE : t.Ok (2 ^ 20)) : ∀ (x a : Term), Fil s a x → Gd k a → Fil t a.erase x.erase
  | .node kd n nm xs, a, hf, ga => by
    generalize hx : Term.node kd n nm xs = x at hf
    cases hf with
    | @mk _ ys hf =>
      simp only [Term.node.injEq] at hx
      obtain ⟨rfl, rfl, rfl, rfl⟩ := hx
      have gw := hs.wk ga
      have ew := er_wk h hs ga
      by_cases h4 : (s.wk a).kind = 4
      · obtain ⟨m, u, e, _, _, gu⟩ := gw.slt h4
        have gu' : Gd k u := gw.kid (by rw [e]; simp [Term.kids])
        rw [e] at hf ⊢
        have hf : Fils s [u] xs := hf
        match xs, hf with
        | [z], .cons h1 .nil =>
          have ih := fil_er h hs hE z u h1 gu'
          show Fil t a.erase (Term.node 4 m _ [z]).erase
          rw [erase_s]
          refine fil_wk ?_ ih
          rw [ew, e, erase_s]
          exact wk_kind (er_ground gu).self
      · have e1 : (Term.node (s.wk a).kind (s.wk a).num (s.wk a).name xs).erase = .node (s.wk a).kind (s.wk a).num (s.wk a).name (erases xs) := erase_node (isS_of (by show (s.wk a).kind ≠ 4; exact h4))
        have e2 := er_nodes gw h4
        have ih := fils_er h hs hE xs _ hf (fun x hx => gw.kid hx)
        have := Fil.mk (s := t) (t := a.erase) (xs := erases xs) (by rw [ew, e2]; exact ih)
        rw [ew, e2] at this
        rw [e1]
        exact this
theorem fils_er {s t : St} (h : Er s t) (hs : Sg k s) (hE : t.Ok (2 ^ 20)) : ∀ (xs as_ : List Term), Fils s as_ xs → (∀ x ∈ as_, Gd k x) → Fils t (erases as_) (erases xs)
  | [], _, .nil, _ => .nil
  | x :: xs, _, .cons (t := a) (ts := as_) h1 h2, g => .cons (fil_er h hs hE x a h1 (g a (by simp))) (fils_er h hs hE xs as_ h2 fun y hy => g y (by simp [hy]))
end
theorem un_erased {a b : Term} (ga : Gd k a) (gb : Gd k b) {v : Int} (h0 : 0 ≤ v) (h1 : v < 12) (hx : ((matchS (C k) sv [a] [b]).1.full (lets v)).2 = 0) (hy : ((matchS (C k) sv [a.erase] [b.erase]).1.full (lets v)).2 = 0) :
    ((matchS (C k) sv [a] [b]).1.full (lets v)).1.erase = ((matchS (C k) sv [a.erase] [b.erase]).1.full (lets v)).1 := by
  obtain ⟨g1, _⟩ := un_good hk (sv_sg k) ga gb
  obtain ⟨g2, _⟩ := un_good hk (sv_sg k) (gd_erase ga) (gd_erase gb)
  have gl := lets_gd (k := k) h0 h1
  have fx := (full_spec g1.ok.small gl.bulk hx).1
  have fy := (full_spec g2.ok.small gl.bulk hy).1
  have := fil_er (er_un hk ga gb).1 g1 g2.ok _ _ fx gl
  rw [er_var gl rfl] at this
  exact fil_det _ this fy
end
end Go.Proofs.Ytegfpnpghfcopaa.AM
