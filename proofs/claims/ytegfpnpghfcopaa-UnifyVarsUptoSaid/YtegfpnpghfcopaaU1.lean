/- Terms made one: what follows. -/
import Derived.Test.YtegfpnpghfcopaaU0
import Derived.Test.YtegfpnpghfcopaaS4
namespace Go.Proofs.Ytegfpnpghfcopaa.AM
open Go
set_option linter.unusedVariables false
set_option linter.unusedSimpArgs false
set_option linter.unusedSectionVars false
theorem isS_of {t : Term} (h : t.kind ≠ 4) : t.isS = false := by simp [Term.isS, h]
/-- A store of terms that may be. -/
structure Sg (k : Nat) (s : St) : Prop where
  ok : s.Ok (2 ^ 20)
  gd : ∀ n u, s.at n = some u → Gd k u
def Ps (k : Nat) (ps : List (Term × Term)) : Prop := ∀ p ∈ ps, Gd k p.1 ∧ Gd k p.2
theorem walk_gd {k : Nat} {s : St} (h : Sg k s) : ∀ (n : Nat) (t : Term), Gd k t → Gd k (s.walk n t)
  | 0, t, ht => ht
  | n + 1, t, ht => by
    cases hl : s.look t with
    | none => rw [walk_stop hl]; exact ht
    | some u =>
      rw [walk_nx hl]
      have hat : s.at t.num = some u := by
        rw [look_at] at hl
        split at hl
        · exact hl
        · cases hl
      exact walk_gd h n u (h.gd _ _ hat)
theorem Sg.wk {k : Nat} {s : St} (h : Sg k s) {t : Term} (ht : Gd k t) : Gd k (s.wk t) := walk_gd h _ t ht
theorem Sg.bind {k : Nat} {s : St} (h : Sg k s) (v : Int) {t : Term} (ht : Gd k t) : Sg k (s.bind v t).1 := by
  refine ⟨h.ok.bind v t ht.bulk, fun n u hu => ?_⟩
  rcases bind_cases s v t with ⟨e, _⟩ | ⟨_, _, _, _, e, _⟩
  · rw [e] at hu; exact h.gd n u hu
  · rw [bind_at e] at hu
    split at hu
    · cases hu; exact ht
    · exact h.gd n u hu
/-- Bound as it was, and more. -/
def Ext (s s' : St) : Prop := ∀ n u, s.at n = some u → s'.at n = some u
theorem Ext.refl (s : St) : Ext s s := fun _ _ h => h
theorem Ext.trans {s s1 s2 : St} (h : Ext s s1) (h' : Ext s1 s2) : Ext s s2 := fun n u hu => h' n u (h n u hu)
theorem Ext.bind (s : St) (v : Int) (t : Term) : Ext s (s.bind v t).1 := fun n u hu => by
  rcases bind_cases s v t with ⟨e, _⟩ | ⟨_, _, hv, _, e, _⟩
  · rw [e]; exact hu
  · rw [bind_at e]
    split
    · rename_i h; subst h; rw [hv] at hu; cases hu
    · exact hu
theorem ext_wk {s s' : St} (he : Ext s s') (h' : s'.Ok (2 ^ 20)) : ∀ (n : Nat) (t : Term), s'.wk (s.walk n t) = s'.wk t
  | 0, t => rfl
  | n + 1, t => by
    cases hl : s.look t with
    | none => rw [walk_stop hl]
    | some u =>
      rw [walk_nx hl, ext_wk he h' n u]
      refine (wk_look h' ?_).symm
      rw [look_at] at hl ⊢
      split at hl
      · rename_i hk; rw [if_pos hk]; exact he _ _ hl
      · cases hl
theorem ext_fil {s s' : St} (he : Ext s s') (h' : s'.Ok (2 ^ 20)) {t x : Term} : Fil s' (s.wk t) x ↔ Fil s' t x := by
  have e : s'.wk (s.wk t) = s'.wk t := ext_wk he h' _ t
  exact ⟨fil_wk e, fil_wk e.symm⟩
section
variable {k : Nat} (hk : k < 16)
include hk
/-! One pair. -/
theorem mwk_good {s : St} {lv : Int} {a b : Term} (hs : Sg k s) (ha : Gd k a) (hb : Gd k b) : Sg k (mwk (C k) s lv a b).1 ∧ Ext s (mwk (C k) s lv a b).1 ∧ ∀ q, (mwk (C k) s lv a b).2.2 = some q → Ps k q := by
  unfold mwk
  split
  · exact ⟨hs, Ext.refl s, fun q h => by cases h; exact fun p hp => by cases hp⟩
  · split
    · refine ⟨hs.bind _ hb, Ext.bind _ _ _, fun q h => ?_⟩
      split at h
      · cases h; exact fun p hp => by cases hp
      · cases h
    · split
      · refine ⟨hs.bind _ ha, Ext.bind _ _ _, fun q h => ?_⟩
        split at h
        · cases h; exact fun p hp => by cases hp
        · cases h
      · refine ⟨hs, Ext.refl s, fun q h => ?_⟩
        have h : meetT (sopen (C k) a).1 (sopen (C k) b).1 = some q := h
        unfold meetT at h
        split at h
        · cases h; exact fun p hp => by cases hp
        · split at h
          · cases h
            intro p hp
            exact ⟨gd_sopen hk ha (List.of_mem_zip hp).1, gd_sopen hk hb (List.of_mem_zip hp).2⟩
          · cases h
theorem mone_good {s : St} {lv : Int} {a b : Term} (hs : Sg k s) (ha : Gd k a) (hb : Gd k b) : Sg k (mone (C k) s lv a b).1 ∧ Ext s (mone (C k) s lv a b).1 ∧ ∀ q, (mone (C k) s lv a b).2.2 = some q → Ps k q :=
  mwk_good hk hs (hs.wk ha) (hs.wk hb)
theorem mt_good : ∀ (m : Nat) (s : St) (lv : Int) (ps : List (Term × Term)), Sg k s → Ps k ps → Sg k (mt (C k) m s lv ps).1 ∧ Ext s (mt (C k) m s lv ps).1
  | m, s, lv, [], hs, _ => by cases m <;> exact ⟨hs, Ext.refl s⟩
  | 0, s, lv, p :: ps, hs, _ => ⟨hs, Ext.refl s⟩
  | m + 1, s, lv, (a, b) :: ps, hs, hp => by
    obtain ⟨ha, hb⟩ := hp (a, b) (by simp)
    obtain ⟨h1, h2, h3⟩ := mone_good hk (lv := lv) hs ha hb
    simp only [mt]
    rcases hq : mone (C k) s lv a b with ⟨s', lv', q⟩
    rw [hq] at h1 h2 h3
    cases q with
    | none => exact ⟨h1, h2⟩
    | some q =>
      obtain ⟨e1, e2⟩ := mt_good m s' lv' (q ++ ps) h1 (fun p hp' => by
        rcases List.mem_append.1 hp' with h | h
        · exact h3 q rfl p h
        · exact hp p (by simp [h]))
      exact ⟨e1, h2.trans e2⟩

/-! What was made one is one and the same, erased. -/
def EqA (s : St) (a b : Term) : Prop := ∀ x y, Fil s a x → Fil s b y → x.erase = y.erase
omit hk in
theorem fils_eqA {s : St} : ∀ (as bs xs ys : List Term), as.length = bs.length → (∀ p ∈ as.zip bs, EqA s p.1 p.2) → Fils s as xs → Fils s bs ys → erases xs = erases ys
  | [], [], xs, ys, _, _, h1, h2 => by cases h1; cases h2; rfl
  | a :: as, b :: bs, xs, ys, hl, h, h1, h2 => by
    cases h1 with
    | cons h1 h1' => cases h2 with
      | cons h2 h2' =>
        rw [erases, erases, h (a, b) (by simp) _ _ h1 h2, fils_eqA as bs _ _ (by simpa using hl) (fun p hp => h p (by simp [hp])) h1' h2']
theorem mwk_sound {s s' : St} {lv lv' : Int} {a b : Term} {q : List (Term × Term)} {s1 : St} (hs : Sg k s) (ha : Gd k a) (hb : Gd k b) (h : mwk (C k) s lv a b = (s1, lv', some q)) (he : Ext s1 s') (ho : s'.Ok (2 ^ 20)) (hq : ∀ p ∈ q, EqA s' p.1 p.2)
    (hla : s.look a = none) (hlb : s.look b = none) : EqA s' a b := by
  intro x y hx hy
  unfold mwk at h
  have bindcase : ∀ (v w : Term), Gd k v → v.kind = 1 → s1 = (s.bind v.num w).1 → (s.bind v.num w).2 = 0 → ∀ x, Fil s' v x → Fil s' w x := by
    intro v w hv h1 e1 e2 x hx
    have hat : s'.at v.num = some w := he _ _ (by rw [e1, bind_at e2, if_pos rfl])
    refine fil_wk ?_ hx
    exact wk_look ho (by rw [look_at, if_pos h1]; exact hat)
  split at h
  · rename_i hc
    have : a = b := by rw [ha.var hc.1, hb.var hc.2.1, hc.2.2]
    subst this
    rw [fil_det _ hx hy]
  · split at h
    · rename_i h1
      simp only [Prod.mk.injEq] at h
      obtain ⟨e1, _, e2⟩ := h
      split at e2
      · rename_i e3
        have := bindcase a b ha h1 e1.symm e3 x hx
        rw [fil_det _ this hy]
      · cases e2
    · split at h
      · rename_i h1
        simp only [Prod.mk.injEq] at h
        obtain ⟨e1, _, e2⟩ := h
        split at e2
        · rename_i e3
          have := bindcase b a hb h1 e1.symm e3 y hy
          rw [fil_det _ this hx]
        · cases e2
      · rename_i h1 h2
        simp only [Prod.mk.injEq] at h
        obtain ⟨e1, _, e2⟩ := h
        obtain ⟨xs, f1, f2⟩ := fil_open hk ha h1 hx
        obtain ⟨ys, g1, g2⟩ := fil_open hk hb h2 hy
        rw [f2, g2]
        have la := fils_len f1
        have lb := fils_len g1
        unfold meetT at e2
        rcases sopen_cases hk ha h1 with ⟨c1, c2, c3⟩ | ⟨c1, c2, _⟩
        · split at e2
          · rename_i hm
            rcases sopen_cases hk hb h2 with ⟨d1, d2, d3⟩ | ⟨d1, _⟩
            · rw [c3] at f1; rw [d3] at g1
              cases f1; cases g1
              rw [hm.1, hm.2.1, hm.2.2, c2, d2]
            · omega
          · split at e2
            · rename_i hm; omega
            · cases e2
        · split at e2
          · rename_i hm; omega
          · split at e2
            · rename_i hm
              rcases sopen_cases hk hb h2 with ⟨d1, _⟩ | ⟨d1, d2, _⟩
              · omega
              · cases e2
                rw [hm.1, hm.2.1, hm.2.2.1, c2, d2, fils_eqA _ _ _ _ hm.2.2.2 hq f1 g1]
            · cases e2
theorem mt_sound : ∀ (m : Nat) (s : St) (lv : Int) (ps : List (Term × Term)), Sg k s → Ps k ps → (mt (C k) m s lv ps).2.1 = true → ∀ p ∈ ps, EqA (mt (C k) m s lv ps).1 p.1 p.2
  | m, s, lv, [], _, _, _, p, hp => by cases hp
  | 0, s, lv, p :: ps, _, _, h, _, _ => by cases h
  | m + 1, s, lv, (a, b) :: ps, hs, hp, h, p, hpm => by
    obtain ⟨ha, hb⟩ := hp (a, b) (by simp)
    obtain ⟨h1, h2, h3⟩ := mone_good hk (lv := lv) hs ha hb
    simp only [mt] at h ⊢
    rcases hq : mone (C k) s lv a b with ⟨s', lv', q⟩
    rw [hq] at h1 h2 h3 h
    cases q with
    | none => cases h
    | some q =>
      have hps : Ps k (q ++ ps) := fun p hp' => by
        rcases List.mem_append.1 hp' with h | h
        · exact h3 q rfl p h
        · exact hp p (by simp [h])
      have ih := mt_sound m s' lv' (q ++ ps) h1 hps h
      obtain ⟨g1, g2⟩ := mt_good hk m s' lv' (q ++ ps) h1 hps
      rcases List.mem_cons.1 hpm with rfl | hpm
      · have hext : Ext s (mt (C k) m s' lv' (q ++ ps)).1 := h2.trans g2
        have := mwk_sound hk hs (hs.wk ha) (hs.wk hb) hq g2 g1.ok (fun p hp => ih p (by simp [hp])) (hs.ok.ends a) (hs.ok.ends b)
        intro x y hx hy
        exact this x y ((ext_fil hext g1.ok).2 hx) ((ext_fil hext g1.ok).2 hy)
      · exact ih p (by simp [hpm])

/-! What is one and the same, erased, is made one, and nothing is bound. -/
def EqE (s : St) (a b : Term) : Prop := ∃ x y, Fil s a x ∧ Fil s b y ∧ x.erase = y.erase
omit hk in
theorem fils_eqE {s : St} : ∀ (as bs xs ys : List Term), Fils s as xs → Fils s bs ys → erases xs = erases ys → as.length = bs.length ∧ ∀ p ∈ as.zip bs, EqE s p.1 p.2
  | _, _, _, _, .nil, .nil, _ => ⟨rfl, fun p hp => by cases hp⟩
  | _, _, _, _, .nil, .cons _ _, h => by simp [erases] at h
  | _, _, _, _, .cons _ _, .nil, h => by simp [erases] at h
  | _, _, _, _, .cons (t := t) (ts := ts) h1 h1', .cons (t := u) (ts := us) h2 h2', h => by
    simp only [erases, List.cons.injEq] at h
    obtain ⟨e1, e2⟩ := fils_eqE ts us _ _ h1' h2' h.2
    refine ⟨by simp [e1], fun p hp => ?_⟩
    rw [List.zip_cons_cons] at hp
    rcases List.mem_cons.1 hp with rfl | hp
    · exact ⟨_, _, h1, h2, h.1⟩
    · exact e2 p hp
theorem erase_kind_var {s : St} {a b x y : Term} (ha : Gd k a) (hb : Gd k b) (hka : a.kind = 1) (hkb : b.kind ≠ 1) (hwa : s.wk a = a) (hx : Fil s a x) (hy : Fil s b y) : x.erase ≠ y.erase := by
  intro e
  obtain ⟨ys, g1, g2⟩ := fil_open hk hb hkb hy
  cases hx with
  | mk hx =>
    rw [hwa] at hx e
    have hall : ∀ zs, (Term.node a.kind a.num a.name zs).erase = .node a.kind a.num a.name (erases zs) := fun zs => erase_node (t := .node a.kind a.num a.name zs) (isS_of (by show a.kind ≠ 4; omega))
    rw [hall, g2] at e
    simp only [Term.node.injEq] at e
    rcases sopen_cases hk hb hkb with ⟨d1, _⟩ | ⟨d1, _⟩ <;> omega
theorem mwk_again {s : St} {lv : Int} {a b : Term} (ha : Gd k a) (hb : Gd k b) (hwa : s.wk a = a) (hwb : s.wk b = b) (h : EqE s a b) : ∃ lv' q, mwk (C k) s lv a b = (s, lv', some q) ∧ ∀ p ∈ q, EqE s p.1 p.2 := by
  obtain ⟨x, y, hx, hy, e⟩ := h
  unfold mwk
  by_cases h1 : a.kind = 1
  · by_cases h2 : b.kind = 1
    · have e' : a.num = b.num := by
        cases hx with
        | mk hx => cases hy with
          | mk hy =>
            rw [hwa] at hx e
            rw [hwb] at hy e
            have ea := ha.var h1
            have eb := hb.var h2
            have ka : a.kids = [] := by rw [ea]; rfl
            have kb : b.kids = [] := by rw [eb]; rfl
            rw [ka] at hx; rw [kb] at hy
            cases hx; cases hy
            have i1 : (Term.node a.kind a.num a.name []).isS = false := isS_of (by show a.kind ≠ 4; omega)
            have i2 : (Term.node b.kind b.num b.name []).isS = false := isS_of (by show b.kind ≠ 4; omega)
            rw [erase_node i1, erase_node i2] at e
            simp only [Term.node.injEq, Term.num] at e
            exact e.2.1
      rw [if_pos ⟨h1, h2, e'⟩]
      exact ⟨_, _, rfl, fun p hp => by cases hp⟩
    · exact absurd e (erase_kind_var hk ha hb h1 h2 hwa hx hy)
  · by_cases h2 : b.kind = 1
    · exact absurd e.symm (erase_kind_var hk hb ha h2 h1 hwb hy hx)
    · rw [if_neg (fun hh => h1 hh.1), if_neg h1, if_neg h2]
      obtain ⟨xs, f1, f2⟩ := fil_open hk ha h1 hx
      obtain ⟨ys, g1, g2⟩ := fil_open hk hb h2 hy
      rw [f2, g2] at e
      simp only [Term.node.injEq] at e
      obtain ⟨e1, e2, e3, e4⟩ := e
      obtain ⟨l1, l2⟩ := fils_eqE _ _ _ _ f1 g1 e4
      unfold meetT
      rcases sopen_cases hk ha h1 with ⟨c1, c2, c3⟩ | ⟨c1, c2, _⟩
      · rw [if_pos ⟨c1, e1 ▸ c1, e2⟩]
        exact ⟨_, _, rfl, fun p hp => by cases hp⟩
      · rw [if_neg (fun hh => by omega), if_pos ⟨c1, e1 ▸ c1, e3, l1⟩]
        exact ⟨_, _, rfl, l2⟩
theorem mt_again : ∀ (m : Nat) (s : St) (lv : Int) (ps : List (Term × Term)), Sg k s → Ps k ps → (∀ p ∈ ps, EqE s p.1 p.2) → (mt (C k) m s lv ps).1 = s ∧ ((mt (C k) m s lv ps).2.1 = true ∨ (mt (C k) m s lv ps).2.2.2 = 3)
  | m, s, lv, [], _, _, _ => by cases m <;> exact ⟨rfl, .inl rfl⟩
  | 0, s, lv, p :: ps, _, _, _ => ⟨rfl, .inr rfl⟩
  | m + 1, s, lv, (a, b) :: ps, hs, hp, h => by
    obtain ⟨ha, hb⟩ := hp (a, b) (by simp)
    have hE : EqE s (s.wk a) (s.wk b) := by
      obtain ⟨x, y, hx, hy, e⟩ := h (a, b) (by simp)
      exact ⟨x, y, (ext_fil (Ext.refl s) hs.ok).2 hx, (ext_fil (Ext.refl s) hs.ok).2 hy, e⟩
    obtain ⟨lv', q, e1, e2⟩ := mwk_again hk (lv := lv) (hs.wk ha) (hs.wk hb) (wk_none (hs.ok.ends a)) (wk_none (hs.ok.ends b)) hE
    obtain ⟨_, _, h3⟩ := mone_good hk (lv := lv) hs ha hb
    simp only [mt, mone, e1]
    refine mt_again m s lv' (q ++ ps) hs (fun p hp' => ?_) fun p hp' => ?_
    · rcases List.mem_append.1 hp' with h' | h'
      · exact h3 q (by show (mwk _ _ _ _ _).2.2 = _; rw [e1]) p h'
      · exact hp p (by simp [h'])
    · rcases List.mem_append.1 hp' with h' | h'
      · exact e2 p h'
      · exact h p (by simp [h'])

/-! The level. -/
structure Lo (k : Nat) (J : Int) (s : St) : Prop where
  le : ∀ n u, s.at n = some u → u.sj (C k) ≤ J
def Pj (k : Nat) (J : Int) (ps : List (Term × Term)) : Prop := ∀ p ∈ ps, p.1.sj (C k) ≤ J ∧ p.2.sj (C k) ≤ J
omit hk in
theorem Lo.wk {J : Int} {s : St} (h : Lo k J s) : ∀ (n : Nat) (t : Term), t.sj (C k) ≤ J → (s.walk n t).sj (C k) ≤ J
  | 0, t, ht => ht
  | n + 1, t, ht => by
    cases hl : s.look t with
    | none => rw [walk_stop hl]; exact ht
    | some u =>
      rw [walk_nx hl]
      refine Lo.wk h n u ?_
      rw [look_at] at hl
      split at hl
      · exact h.le _ _ hl
      · cases hl
omit hk in
theorem Lo.bind {J : Int} {s : St} (h : Lo k J s) (v : Int) {t : Term} (ht : t.sj (C k) ≤ J) : Lo k J (s.bind v t).1 := ⟨fun n u hu => by
  rcases bind_cases s v t with ⟨e, _⟩ | ⟨_, _, _, _, e, _⟩
  · rw [e] at hu; exact h.le n u hu
  · rw [bind_at e] at hu
    split at hu
    · cases hu; exact ht
    · exact h.le n u hu⟩
theorem sopen_lo {t : Term} (h : Gd k t) {J : Int} (hJ : t.sj (C k) ≤ J) : (sopen (C k) t).2 ≤ J ∧ ∀ x ∈ (sopen (C k) t).1.kids, x.sj (C k) ≤ J := by
  have e := sopen_sj hk h.fine
  refine ⟨by omega, fun x hx => ?_⟩
  have := sj_kid hk hx
  omega
theorem mone_lo {s : St} {lv : Int} {a b : Term} {J : Int} (hs : Sg k s) (ha : Gd k a) (hb : Gd k b) (hl : Lo k J s) (h0 : 0 ≤ lv) (h1 : lv ≤ J) (h2 : J ≤ (k : Nat)) (hja : a.sj (C k) ≤ J) (hjb : b.sj (C k) ≤ J) :
    Lo k J (mone (C k) s lv a b).1 ∧ 0 ≤ (mone (C k) s lv a b).2.1 ∧ (mone (C k) s lv a b).2.1 ≤ J ∧ ∀ q, (mone (C k) s lv a b).2.2 = some q → Pj k J q := by
  have wa := hl.wk (s.cs.length + 1) a hja
  have wb := hl.wk (s.cs.length + 1) b hjb
  have ga := hs.wk ha
  have gb := hs.wk hb
  unfold mone mwk
  split
  · exact ⟨hl, h0, h1, fun q h => by cases h; exact fun p hp => by cases hp⟩
  · split
    · refine ⟨hl.bind _ wb, h0, h1, fun q h => ?_⟩
      split at h
      · cases h; exact fun p hp => by cases hp
      · cases h
    · split
      · refine ⟨hl.bind _ wa, h0, h1, fun q h => ?_⟩
        split at h
        · cases h; exact fun p hp => by cases hp
        · cases h
      · obtain ⟨e1, e2⟩ := sopen_lo hk ga (J := J) wa
        obtain ⟨e3, e4⟩ := sopen_lo hk gb (J := J) wb
        have r1 := sopen_rng hk (s.wk a)
        have r2 := sopen_rng hk (s.wk b)
        refine ⟨hl, ?_, ?_, fun q h => ?_⟩
        · show 0 ≤ (C k).join lv _; rw [C_join hk r1.1 r1.2 r2.1 r2.2, C_join hk h0 (by omega) (by omega) (by omega)]; omega
        · show (C k).join lv _ ≤ J; rw [C_join hk r1.1 r1.2 r2.1 r2.2, C_join hk h0 (by omega) (by omega) (by omega)]; omega
        · have h : meetT (sopen (C k) (s.wk a)).1 (sopen (C k) (s.wk b)).1 = some q := h
          unfold meetT at h
          split at h
          · cases h; exact fun p hp => by cases hp
          · split at h
            · cases h
              intro p hp
              exact ⟨e2 _ (List.of_mem_zip hp).1, e4 _ (List.of_mem_zip hp).2⟩
            · cases h
theorem mt_lo {J : Int} (h2 : J ≤ (k : Nat)) : ∀ (m : Nat) (s : St) (lv : Int) (ps : List (Term × Term)), Sg k s → Ps k ps → Lo k J s → Pj k J ps → 0 ≤ lv → lv ≤ J → 0 ≤ (mt (C k) m s lv ps).2.2.1 ∧ (mt (C k) m s lv ps).2.2.1 ≤ J
  | m, s, lv, [], _, _, _, _, h0, h1 => by cases m <;> exact ⟨h0, h1⟩
  | 0, s, lv, p :: ps, _, _, _, _, h0, h1 => ⟨h0, h1⟩
  | m + 1, s, lv, (a, b) :: ps, hs, hp, hl, hj, h0, h1 => by
    obtain ⟨ha, hb⟩ := hp (a, b) (by simp)
    obtain ⟨ja, jb⟩ := hj (a, b) (by simp)
    obtain ⟨g1, _, g3⟩ := mone_good hk (lv := lv) hs ha hb
    obtain ⟨l1, l2, l3, l4⟩ := mone_lo hk hs ha hb hl h0 h1 h2 ja jb
    simp only [mt]
    rcases hq : mone (C k) s lv a b with ⟨s', lv', q⟩
    rw [hq] at g1 g3 l1 l2 l3 l4
    cases q with
    | none => exact ⟨l2, l3⟩
    | some q =>
      refine mt_lo h2 m s' lv' (q ++ ps) g1 (fun p hp' => ?_) l1 (fun p hp' => ?_) l2 l3
      · rcases List.mem_append.1 hp' with h | h
        · exact g3 q rfl p h
        · exact hp p (by simp [h])
      · rcases List.mem_append.1 hp' with h | h
        · exact l4 q rfl p h
        · exact hj p (by simp [h])
end
end Go.Proofs.Ytegfpnpghfcopaa.AM
