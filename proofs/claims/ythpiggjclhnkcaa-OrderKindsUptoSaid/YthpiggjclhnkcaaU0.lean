/- Terms made one: what is computed. -/
import Derived.Test.YthpiggjclhnkcaaF3
import Derived.Test.YthpiggjclhnkcaaS6
import Derived.Test.YthpiggjclhnkcaaS4
namespace Go.Proofs.Ythpiggjclhnkcaa.AM
open Go
set_option linter.unusedVariables false
set_option linter.unusedSimpArgs false
set_option linter.unusedSectionVars false
/-- What two that are no variables ask for: pairs more, or nothing. -/
def meetT (x y : Term) : Option (List (Term × Term)) :=
  if x.kind = 2 ∧ y.kind = 2 ∧ x.num = y.num then some []
  else if x.kind = 3 ∧ y.kind = 3 ∧ x.name = y.name ∧ x.kids.length = y.kids.length then some (x.kids.zip y.kids)
  else none
/-- One pair, walked. -/
def mwk (l : Lt) (s : St) (lv : Int) (a b : Term) : St × Int × Option (List (Term × Term)) :=
  if a.kind = 1 ∧ b.kind = 1 ∧ a.num = b.num then (s, lv, some [])
  else if a.kind = 1 then ((s.bind a.num b).1, lv, if (s.bind a.num b).2 = 0 then some [] else none)
  else if b.kind = 1 then ((s.bind b.num a).1, lv, if (s.bind b.num a).2 = 0 then some [] else none)
  else (s, l.join lv (l.join (sopen l a).2 (sopen l b).2), meetT (sopen l a).1 (sopen l b).1)
def mone (l : Lt) (s : St) (lv : Int) (a b : Term) : St × Int × Option (List (Term × Term)) := mwk l s lv (s.wk a) (s.wk b)
def mt (l : Lt) : Nat → St → Int → List (Term × Term) → St × Bool × Int × Int
  | _, s, lv, [] => (s, true, lv, 0)
  | 0, s, lv, _ :: _ => (s, false, lv, 3)
  | k + 1, s, lv, (a, b) :: ps => match mone l s lv a b with
    | (s', lv', some q) => mt l k s' lv' (q ++ ps)
    | (s', lv', none) => (s', false, lv', 0)
def matchS (l : Lt) (s : St) (as bs : List Term) : St × Bool × Int × Int :=
  if as.length = bs.length then mt l 2000 s l.bottom (as.zip bs) else (s, false, l.bottom, 0)

/-! What terms may be. -/
/-- Terms that may be, over levels 0 to k, and are not too great. -/
structure Gd (k : Nat) (t : Term) : Prop where
  all : t.parts.all (alone ((k + 1 : Nat) : Int)) = true
  bulk : t.bulk ≤ 2 ^ 20
def Gr (t : Term) : Prop := ∀ p ∈ t.parts, p.kind ≠ 1
theorem gr_vars {t : Term} : Gr t ↔ t.vars = [] := vars_nil.symm
theorem Gr.kid {t x : Term} (h : Gr t) (hx : x ∈ t.kids) : Gr x := fun p hp => h p (by rw [t.parts_kids]; exact List.mem_cons_of_mem _ (partss_mem hx hp))
theorem Gr.self {t : Term} (h : Gr t) : t.kind ≠ 1 := h t (by rw [t.parts_kids]; simp)
section
variable {k : Nat}
theorem Gd.self {t : Term} (h : Gd k t) : alone ((k + 1 : Nat) : Int) t = true := by
  have := h.all; rw [t.parts_kids, List.all_cons, Bool.and_eq_true] at this; exact this.1
theorem Gd.cases {t : Term} (h : Gd k t) : (t.kind = 1 ∧ t.name = ⟨#[]⟩ ∧ t.kids = []) ∨ (t.kind = 2 ∧ t.name = ⟨#[]⟩ ∧ t.kids = []) ∨ (t.kind = 3 ∧ t.num = 0 ∧ t.kids.length ≤ 8) ∨
    (t.kind = 4 ∧ t.name = ⟨#[]⟩ ∧ 0 ≤ t.num ∧ t.num < ((k + 1 : Nat) : Int) ∧ ∃ x, t.kids = [x] ∧ x.vars = []) := alone_cases h.self
theorem Gd.kid {t x : Term} (h : Gd k t) (hx : x ∈ t.kids) : Gd k x := by
  refine ⟨?_, ?_⟩
  · have := h.all
    rw [List.all_eq_true] at this ⊢
    exact fun p hp => this p (by rw [t.parts_kids]; exact List.mem_cons_of_mem _ (partss_mem hx hp))
  · have := h.bulk; have := t.bulk_kids; have := bulks_mem hx; omega
theorem Gd.fine {t : Term} (h : Gd k t) : t.fine ((k + 1 : Nat) : Int) = true := fine_of _ t h.all
theorem Gd.okv {t : Term} (h : Gd k t) : t.okv := alone_okv h.all
theorem Gd.bulk_kid {t x : Term} (h : Gd k t) (hx : x ∈ t.kids) : x.bulk + 1 ≤ t.bulk := by have := t.bulk_kids; have := bulks_mem hx; omega
theorem Gd.put {x : Term} (h : Gd k x) (hg : Gr x) (hb : x.bulk + 1 ≤ 2 ^ 20) {n : Int} (h0 : 0 ≤ n) (h1 : n ≤ (k : Nat)) : Gd k (putS x n) := by
  refine ⟨?_, by show 0 + (x.bulk + 0) + 1 ≤ _; omega⟩
  show (Term.parts (.node 4 n ⟨#[]⟩ [x])).all _ = true
  rw [Term.parts, List.all_cons, partss, partss, List.append_nil, h.all, Bool.and_true]
  have e : (((⟨#[]⟩ : ByteArray).toList) == (⟨#[]⟩ : ByteArray).toList) = true := by simp
  have hv : x.vars = [] := gr_vars.1 hg
  have d1 : decide (n ≥ 0) = true := decide_eq_true h0
  have d2 : decide (n < ((k + 1 : Nat) : Int)) = true := decide_eq_true (by omega)
  show (bif (4 : Int) == 1 then _ else bif (4 : Int) == 2 then _ else bif (4 : Int) == 3 then _ else bif (4 : Int) == 4 then (((⟨#[]⟩ : ByteArray).toList) == (⟨#[]⟩ : ByteArray).toList) && decide (n ≥ 0) && decide (n < ((k + 1 : Nat) : Int)) && ((([x] : List Term).length : Int) == 0 + 1) && (((x.vars.length : Int) == 0)) else false) = true
  rw [e, d1, d2, hv]; rfl
theorem Gd.slt {t : Term} (h : Gd k t) (h4 : t.kind = 4) : ∃ n x, t = .node 4 n ⟨#[]⟩ [x] ∧ 0 ≤ n ∧ n ≤ (k : Nat) ∧ Gr x := by
  rcases h.cases with ⟨h1, _⟩ | ⟨h1, _⟩ | ⟨h1, _⟩ | ⟨_, h2, h3, h5, x, h6, h7⟩
  · omega
  · omega
  · omega
  · cases t with
    | node kd n s ks =>
      obtain rfl : kd = 4 := h4
      obtain rfl : s = ⟨#[]⟩ := h2
      obtain rfl : ks = [x] := h6
      have h3 : 0 ≤ n := h3
      have h5 : n < ((k + 1 : Nat) : Int) := h5
      exact ⟨n, x, rfl, h3, by omega, gr_vars.2 h7⟩
theorem Gd.notS {t : Term} (h : Gd k t) (hs : t.isS = false) : t.kind ≠ 4 := fun h4 => by
  have := (fine_seal h.fine h4).1; rw [hs] at this; cases this
theorem Gd.var {t : Term} (h : Gd k t) (h1 : t.kind = 1) : t = .node 1 t.num ⟨#[]⟩ [] := by
  rcases h.cases with ⟨_, h2, h3⟩ | ⟨h2, _⟩ | ⟨h2, _⟩ | ⟨h2, _⟩
  · cases t with
    | node kd n s ks => obtain rfl : kd = 1 := h1; obtain rfl : s = _ := h2; obtain rfl : ks = [] := h3; rfl
  all_goals omega

/-! Opened. -/
theorem gd_opn {t : Term} : Gd k t → ∀ a, Gd k (t.opn (C k) a).1 := by
  induction t using term_ind with
  | hs n s x ih => intro h a; rw [opn_s]; exact ih (h.kid (by simp [Term.kids])) _
  | hn t hf ih => intro h a; rw [opn_node hf]; exact h
theorem gr_opn {t : Term} : Gr t → ∀ a, Gr (t.opn (C k) a).1 := by
  induction t using term_ind with
  | hs n s x ih => intro h a; rw [opn_s]; exact ih (h.kid (by simp [Term.kids])) _
  | hn t hf ih => intro h a; rw [opn_node hf]; exact h
theorem gr_seal {t : Term} (h : Gd k t) (h4 : t.kind = 4) : Gr t := by
  obtain ⟨n, x, rfl, _, _, hx⟩ := h.slt h4
  intro p hp
  simp only [Term.parts, partss, List.append_nil, List.mem_cons] at hp
  rcases hp with rfl | hp
  · show (4 : Int) ≠ 1; decide
  · exact hx p hp
theorem puts4_mem {n : Int} {l : List Term} {x : Term} (h : x ∈ puts4 n l) : ∃ y ∈ l, x = putS y n := by
  unfold puts4 at h; rw [List.mem_map] at h; obtain ⟨y, h1, h2⟩ := h; exact ⟨y, h1, h2.symm⟩
variable (hk : k < 16)
include hk
theorem gd_sopen {t x : Term} (h : Gd k t) (hx : x ∈ (sopen (C k) t).1.kids) : Gd k x := by
  unfold sopen at hx
  split at hx
  · rename_i hs
    obtain ⟨y, hy, rfl⟩ := puts4_mem (show x ∈ puts4 _ _ from hx)
    rw [C_bot hk] at hy ⊢
    have hg := gd_opn h 0
    have hr := gr_opn (gr_seal h (isS_iff.1 hs).1) 0 (k := k)
    have hm := opn_max hk t 0 (Int.le_refl _) (by omega)
    exact (hg.kid hy).put (hr.kid hy) (by have := hg.bulk_kid hy; have := hg.bulk; omega) hm.1 hm.2.1
  · exact h.kid hx
/-- What was opened is a number, or a name. -/
theorem sopen_cases {t : Term} (h : Gd k t) (h1 : t.kind ≠ 1) : ((sopen (C k) t).1.kind = 2 ∧ (sopen (C k) t).1.name = ⟨#[]⟩ ∧ (sopen (C k) t).1.kids = []) ∨ ((sopen (C k) t).1.kind = 3 ∧ (sopen (C k) t).1.num = 0 ∧ (sopen (C k) t).1.kids.length ≤ 8) := by
  have hg := gd_opn h 0
  have key : (t.opn (C k) 0).1.kind ≠ 1 := by
    by_cases h4 : t.kind = 4
    · exact (gr_opn (gr_seal h h4) 0).self
    · rw [opn_node (by simp [Term.isS, h4])]; exact h1
  have k4 : (t.opn (C k) 0).1.kind ≠ 4 := hg.notS (opn_end _ _ _)
  have hn : (sopen (C k) t).1.num = (t.opn (C k) 0).1.num := by
    unfold sopen
    split
    · rw [C_bot hk]; rfl
    · rename_i hs
      rw [opn_node (by simpa using hs)]
  obtain ⟨e1, e2, e3, _⟩ := sopen_like hk t
  rw [e1, e2, hn]
  rcases hg.cases with ⟨c1, _⟩ | ⟨c1, c2, c3⟩ | ⟨c1, c2, c3⟩ | ⟨c1, _⟩
  · exact absurd c1 key
  · exact .inl ⟨c1, c2, List.eq_nil_of_length_eq_zero (by rw [e3, c3]; rfl)⟩
  · exact .inr ⟨c1, c2, by rw [e3]; exact c3⟩
  · exact absurd c1 k4
end

/-! Full. -/
theorem fils_len {s : St} : ∀ {ts xs : List Term}, Fils s ts xs → xs.length = ts.length
  | _, _, .nil => rfl
  | _, _, .cons _ h => by simp [fils_len h]
theorem fil_wk {s : St} {t u x : Term} (h : s.wk t = s.wk u) (hf : Fil s t x) : Fil s u x := by
  cases hf with
  | mk hf => rw [h] at hf ⊢; exact .mk hf
theorem wk_kind {s : St} {t : Term} (h : t.kind ≠ 1) : s.wk t = t := walk_at _ h
theorem fil_put {s : St} {t x : Term} (n : Int) (h : Fil s t x) : Fil s (putS t n) (putS x n) := by
  have e : s.wk (putS t n) = putS t n := wk_kind (by show (4 : Int) ≠ 1; decide)
  have := Fil.mk (s := s) (t := putS t n) (xs := [x]) (by rw [e]; exact .cons h .nil)
  rw [e] at this
  exact this
theorem fils_put {s : St} (n : Int) : ∀ {ts xs : List Term}, Fils s ts xs → Fils s (puts4 n ts) (puts4 n xs)
  | _, _, .nil => .nil
  | _, _, .cons h hs => .cons (fil_put n h) (fils_put n hs)
theorem fil_opn {s : St} {k : Nat} {t : Term} : Gd k t → t.kind ≠ 1 → ∀ (a : Int) (x : Term), Fil s t x → ∃ ys, Fils s (t.opn (C k) a).1.kids ys ∧ x.erase = .node (t.opn (C k) a).1.kind (t.opn (C k) a).1.num (t.opn (C k) a).1.name (erases ys) := by
  induction t using term_ind with
  | hs n sn u ih =>
    intro hg h1 a x hf
    obtain ⟨n', u', e, _, _, hu⟩ := hg.slt (show (Term.node 4 n sn [u]).kind = 4 from rfl)
    simp only [Term.node.injEq, List.cons.injEq, and_true, true_and] at e
    obtain ⟨rfl, rfl, rfl⟩ := e
    cases hf with
    | mk hf =>
      rw [wk_kind h1] at hf
      cases hf with
      | cons h1' h2' =>
        cases h2'
        rw [opn_s, wk_kind h1]
        show ∃ ys, _ ∧ (Term.node 4 n _ [_]).erase = _
        rw [erase_s]
        exact ih (hg.kid (by simp [Term.kids])) hu.self _ _ h1'
  | hn t hf ih =>
    intro hg h1 a x hx
    rw [opn_node hf]
    cases hx with
    | mk hx =>
      rw [wk_kind h1] at hx ⊢
      refine ⟨_, hx, erase_node ?_⟩
      rw [isS_like (t := .node t.kind t.num t.name _) (u := t) rfl (fils_len hx)]
      exact hf
section
variable {k : Nat} (hk : k < 16)
include hk
theorem fil_open {s : St} {t x : Term} (hg : Gd k t) (h1 : t.kind ≠ 1) (hf : Fil s t x) : ∃ ys, Fils s (sopen (C k) t).1.kids ys ∧ x.erase = .node (sopen (C k) t).1.kind (sopen (C k) t).1.num (sopen (C k) t).1.name (erases ys) := by
  obtain ⟨ys, e1, e2⟩ := fil_opn hg h1 (C k).bottom x hf
  unfold sopen
  split
  · exact ⟨_, fils_put _ e1, by rw [erases_puts4]; exact e2⟩
  · rename_i hs
    rw [opn_node (by simpa using hs)] at e1 e2
    exact ⟨ys, e1, e2⟩
end
theorem isS_of {t : Term} (h : t.kind ≠ 4) : t.isS = false := by simp [Term.isS, h]
/-- A store of terms that may be. -/
structure Sg (k : Nat) (s : St) : Prop where
  ok : s.Ok (2 ^ 20)
  gd : ∀ n u, s.at n = some u → Gd k u
def Ps (k : Nat) (ps : List (Term × Term)) : Prop := ∀ p ∈ ps, Gd k p.1 ∧ Gd k p.2
theorem walk_gd {k : Nat} {s : St} (h : Sg k s) : ∀ (n : Nat) (t : Term), Gd k t → Gd k (s.walk n t)
  | 0, t, ht => ht
  | n + 1, t, ht => by
    cases hl : s.look t with
    | none => rw [walk_stop hl]; exact ht
    | some u =>
      rw [walk_nx hl]
      have hat : s.at t.num = some u := by
        rw [look_at] at hl
        split at hl
        · exact hl
        · cases hl
      exact walk_gd h n u (h.gd _ _ hat)
theorem Sg.wk {k : Nat} {s : St} (h : Sg k s) {t : Term} (ht : Gd k t) : Gd k (s.wk t) := walk_gd h _ t ht
theorem Sg.bind {k : Nat} {s : St} (h : Sg k s) (v : Int) {t : Term} (ht : Gd k t) : Sg k (s.bind v t).1 := by
  refine ⟨h.ok.bind v t ht.bulk, fun n u hu => ?_⟩
  rcases bind_cases s v t with ⟨e, _⟩ | ⟨_, _, _, _, e, _⟩
  · rw [e] at hu; exact h.gd n u hu
  · rw [bind_at e] at hu
    split at hu
    · cases hu; exact ht
    · exact h.gd n u hu
/-- Bound as it was, and more. -/
def Ext (s s' : St) : Prop := ∀ n u, s.at n = some u → s'.at n = some u
theorem Ext.refl (s : St) : Ext s s := fun _ _ h => h
theorem Ext.trans {s s1 s2 : St} (h : Ext s s1) (h' : Ext s1 s2) : Ext s s2 := fun n u hu => h' n u (h n u hu)
theorem Ext.bind (s : St) (v : Int) (t : Term) : Ext s (s.bind v t).1 := fun n u hu => by
  rcases bind_cases s v t with ⟨e, _⟩ | ⟨_, _, hv, _, e, _⟩
  · rw [e]; exact hu
  · rw [bind_at e]
    split
    · rename_i h; subst h; rw [hv] at hu; cases hu
    · exact hu
theorem ext_wk {s s' : St} (he : Ext s s') (h' : s'.Ok (2 ^ 20)) : ∀ (n : Nat) (t : Term), s'.wk (s.walk n t) = s'.wk t
  | 0, t => rfl
  | n + 1, t => by
    cases hl : s.look t with
    | none => rw [walk_stop hl]
    | some u =>
      rw [walk_nx hl, ext_wk he h' n u]
      refine (wk_look h' ?_).symm
      rw [look_at] at hl ⊢
      split at hl
      · rename_i hk; rw [if_pos hk]; exact he _ _ hl
      · cases hl
theorem ext_fil {s s' : St} (he : Ext s s') (h' : s'.Ok (2 ^ 20)) {t x : Term} : Fil s' (s.wk t) x ↔ Fil s' t x := by
  have e : s'.wk (s.wk t) = s'.wk t := ext_wk he h' _ t
  exact ⟨fil_wk e, fil_wk e.symm⟩
section
variable {k : Nat} (hk : k < 16)
include hk
/-! One pair. -/
theorem mwk_good {s : St} {lv : Int} {a b : Term} (hs : Sg k s) (ha : Gd k a) (hb : Gd k b) : Sg k (mwk (C k) s lv a b).1 ∧ Ext s (mwk (C k) s lv a b).1 ∧ ∀ q, (mwk (C k) s lv a b).2.2 = some q → Ps k q := by
  unfold mwk
  split
  · exact ⟨hs, Ext.refl s, fun q h => by cases h; exact fun p hp => by cases hp⟩
  · split
    · refine ⟨hs.bind _ hb, Ext.bind _ _ _, fun q h => ?_⟩
      split at h
      · cases h; exact fun p hp => by cases hp
      · cases h
    · split
      · refine ⟨hs.bind _ ha, Ext.bind _ _ _, fun q h => ?_⟩
        split at h
        · cases h; exact fun p hp => by cases hp
        · cases h
      · refine ⟨hs, Ext.refl s, fun q h => ?_⟩
        have h : meetT (sopen (C k) a).1 (sopen (C k) b).1 = some q := h
        unfold meetT at h
        split at h
        · cases h; exact fun p hp => by cases hp
        · split at h
          · cases h
            intro p hp
            exact ⟨gd_sopen hk ha (List.of_mem_zip hp).1, gd_sopen hk hb (List.of_mem_zip hp).2⟩
          · cases h
theorem mone_good {s : St} {lv : Int} {a b : Term} (hs : Sg k s) (ha : Gd k a) (hb : Gd k b) : Sg k (mone (C k) s lv a b).1 ∧ Ext s (mone (C k) s lv a b).1 ∧ ∀ q, (mone (C k) s lv a b).2.2 = some q → Ps k q :=
  mwk_good hk hs (hs.wk ha) (hs.wk hb)
theorem mt_good : ∀ (m : Nat) (s : St) (lv : Int) (ps : List (Term × Term)), Sg k s → Ps k ps → Sg k (mt (C k) m s lv ps).1 ∧ Ext s (mt (C k) m s lv ps).1
  | m, s, lv, [], hs, _ => by cases m <;> exact ⟨hs, Ext.refl s⟩
  | 0, s, lv, p :: ps, hs, _ => ⟨hs, Ext.refl s⟩
  | m + 1, s, lv, (a, b) :: ps, hs, hp => by
    obtain ⟨ha, hb⟩ := hp (a, b) (by simp)
    obtain ⟨h1, h2, h3⟩ := mone_good hk (lv := lv) hs ha hb
    simp only [mt]
    rcases hq : mone (C k) s lv a b with ⟨s', lv', q⟩
    rw [hq] at h1 h2 h3
    cases q with
    | none => exact ⟨h1, h2⟩
    | some q =>
      obtain ⟨e1, e2⟩ := mt_good m s' lv' (q ++ ps) h1 (fun p hp' => by
        rcases List.mem_append.1 hp' with h | h
        · exact h3 q rfl p h
        · exact hp p (by simp [h]))
      exact ⟨e1, h2.trans e2⟩

/-! What was made one is one and the same, erased. -/
def EqA (s : St) (a b : Term) : Prop := ∀ x y, Fil s a x → Fil s b y → x.erase = y.erase
omit hk in
theorem fils_eqA {s : St} : ∀ (as bs xs ys : List Term), as.length = bs.length → (∀ p ∈ as.zip bs, EqA s p.1 p.2) → Fils s as xs → Fils s bs ys → erases xs = erases ys
  | [], [], xs, ys, _, _, h1, h2 => by cases h1; cases h2; rfl
  | a :: as, b :: bs, xs, ys, hl, h, h1, h2 => by
    cases h1 with
    | cons h1 h1' => cases h2 with
      | cons h2 h2' =>
        rw [erases, erases, h (a, b) (by simp) _ _ h1 h2, fils_eqA as bs _ _ (by simpa using hl) (fun p hp => h p (by simp [hp])) h1' h2']
theorem mwk_sound {s s' : St} {lv lv' : Int} {a b : Term} {q : List (Term × Term)} {s1 : St} (hs : Sg k s) (ha : Gd k a) (hb : Gd k b) (h : mwk (C k) s lv a b = (s1, lv', some q)) (he : Ext s1 s') (ho : s'.Ok (2 ^ 20)) (hq : ∀ p ∈ q, EqA s' p.1 p.2)
    (hla : s.look a = none) (hlb : s.look b = none) : EqA s' a b := by
  intro x y hx hy
  unfold mwk at h
  have bindcase : ∀ (v w : Term), Gd k v → v.kind = 1 → s1 = (s.bind v.num w).1 → (s.bind v.num w).2 = 0 → ∀ x, Fil s' v x → Fil s' w x := by
    intro v w hv h1 e1 e2 x hx
    have hat : s'.at v.num = some w := he _ _ (by rw [e1, bind_at e2, if_pos rfl])
    refine fil_wk ?_ hx
    exact wk_look ho (by rw [look_at, if_pos h1]; exact hat)
  split at h
  · rename_i hc
    have : a = b := by rw [ha.var hc.1, hb.var hc.2.1, hc.2.2]
    subst this
    rw [fil_det _ hx hy]
  · split at h
    · rename_i h1
      simp only [Prod.mk.injEq] at h
      obtain ⟨e1, _, e2⟩ := h
      split at e2
      · rename_i e3
        have := bindcase a b ha h1 e1.symm e3 x hx
        rw [fil_det _ this hy]
      · cases e2
    · split at h
      · rename_i h1
        simp only [Prod.mk.injEq] at h
        obtain ⟨e1, _, e2⟩ := h
        split at e2
        · rename_i e3
          have := bindcase b a hb h1 e1.symm e3 y hy
          rw [fil_det _ this hx]
        · cases e2
      · rename_i h1 h2
        simp only [Prod.mk.injEq] at h
        obtain ⟨e1, _, e2⟩ := h
        obtain ⟨xs, f1, f2⟩ := fil_open hk ha h1 hx
        obtain ⟨ys, g1, g2⟩ := fil_open hk hb h2 hy
        rw [f2, g2]
        have la := fils_len f1
        have lb := fils_len g1
        unfold meetT at e2
        rcases sopen_cases hk ha h1 with ⟨c1, c2, c3⟩ | ⟨c1, c2, _⟩
        · split at e2
          · rename_i hm
            rcases sopen_cases hk hb h2 with ⟨d1, d2, d3⟩ | ⟨d1, _⟩
            · rw [c3] at f1; rw [d3] at g1
              cases f1; cases g1
              rw [hm.1, hm.2.1, hm.2.2, c2, d2]
            · omega
          · split at e2
            · rename_i hm; omega
            · cases e2
        · split at e2
          · rename_i hm; omega
          · split at e2
            · rename_i hm
              rcases sopen_cases hk hb h2 with ⟨d1, _⟩ | ⟨d1, d2, _⟩
              · omega
              · cases e2
                rw [hm.1, hm.2.1, hm.2.2.1, c2, d2, fils_eqA _ _ _ _ hm.2.2.2 hq f1 g1]
            · cases e2
theorem mt_sound : ∀ (m : Nat) (s : St) (lv : Int) (ps : List (Term × Term)), Sg k s → Ps k ps → (mt (C k) m s lv ps).2.1 = true → ∀ p ∈ ps, EqA (mt (C k) m s lv ps).1 p.1 p.2
  | m, s, lv, [], _, _, _, p, hp => by cases hp
  | 0, s, lv, p :: ps, _, _, h, _, _ => by cases h
  | m + 1, s, lv, (a, b) :: ps, hs, hp, h, p, hpm => by
    obtain ⟨ha, hb⟩ := hp (a, b) (by simp)
    obtain ⟨h1, h2, h3⟩ := mone_good hk (lv := lv) hs ha hb
    simp only [mt] at h ⊢
    rcases hq : mone (C k) s lv a b with ⟨s', lv', q⟩
    rw [hq] at h1 h2 h3 h
    cases q with
    | none => cases h
    | some q =>
      have hps : Ps k (q ++ ps) := fun p hp' => by
        rcases List.mem_append.1 hp' with h | h
        · exact h3 q rfl p h
        · exact hp p (by simp [h])
      have ih := mt_sound m s' lv' (q ++ ps) h1 hps h
      obtain ⟨g1, g2⟩ := mt_good hk m s' lv' (q ++ ps) h1 hps
      rcases List.mem_cons.1 hpm with rfl | hpm
      · have hext : Ext s (mt (C k) m s' lv' (q ++ ps)).1 := h2.trans g2
        have := mwk_sound hk hs (hs.wk ha) (hs.wk hb) hq g2 g1.ok (fun p hp => ih p (by simp [hp])) (hs.ok.ends a) (hs.ok.ends b)
        intro x y hx hy
        exact this x y ((ext_fil hext g1.ok).2 hx) ((ext_fil hext g1.ok).2 hy)
      · exact ih p (by simp [hpm])

/-! What is one and the same, erased, is made one, and nothing is bound. -/
def EqE (s : St) (a b : Term) : Prop := ∃ x y, Fil s a x ∧ Fil s b y ∧ x.erase = y.erase
omit hk in
theorem fils_eqE {s : St} : ∀ (as bs xs ys : List Term), Fils s as xs → Fils s bs ys → erases xs = erases ys → as.length = bs.length ∧ ∀ p ∈ as.zip bs, EqE s p.1 p.2
  | _, _, _, _, .nil, .nil, _ => ⟨rfl, fun p hp => by cases hp⟩
  | _, _, _, _, .nil, .cons _ _, h => by simp [erases] at h
  | _, _, _, _, .cons _ _, .nil, h => by simp [erases] at h
  | _, _, _, _, .cons (t := t) (ts := ts) h1 h1', .cons (t := u) (ts := us) h2 h2', h => by
    simp only [erases, List.cons.injEq] at h
    obtain ⟨e1, e2⟩ := fils_eqE ts us _ _ h1' h2' h.2
    refine ⟨by simp [e1], fun p hp => ?_⟩
    rw [List.zip_cons_cons] at hp
    rcases List.mem_cons.1 hp with rfl | hp
    · exact ⟨_, _, h1, h2, h.1⟩
    · exact e2 p hp
theorem erase_kind_var {s : St} {a b x y : Term} (ha : Gd k a) (hb : Gd k b) (hka : a.kind = 1) (hkb : b.kind ≠ 1) (hwa : s.wk a = a) (hx : Fil s a x) (hy : Fil s b y) : x.erase ≠ y.erase := by
  intro e
  obtain ⟨ys, g1, g2⟩ := fil_open hk hb hkb hy
  cases hx with
  | mk hx =>
    rw [hwa] at hx e
    have hall : ∀ zs, (Term.node a.kind a.num a.name zs).erase = .node a.kind a.num a.name (erases zs) := fun zs => erase_node (t := .node a.kind a.num a.name zs) (isS_of (by show a.kind ≠ 4; omega))
    rw [hall, g2] at e
    simp only [Term.node.injEq] at e
    rcases sopen_cases hk hb hkb with ⟨d1, _⟩ | ⟨d1, _⟩ <;> omega
theorem mwk_again {s : St} {lv : Int} {a b : Term} (ha : Gd k a) (hb : Gd k b) (hwa : s.wk a = a) (hwb : s.wk b = b) (h : EqE s a b) : ∃ lv' q, mwk (C k) s lv a b = (s, lv', some q) ∧ ∀ p ∈ q, EqE s p.1 p.2 := by
  obtain ⟨x, y, hx, hy, e⟩ := h
  unfold mwk
  by_cases h1 : a.kind = 1
  · by_cases h2 : b.kind = 1
    · have e' : a.num = b.num := by
        cases hx with
        | mk hx => cases hy with
          | mk hy =>
            rw [hwa] at hx e
            rw [hwb] at hy e
            have ea := ha.var h1
            have eb := hb.var h2
            have ka : a.kids = [] := by rw [ea]; rfl
            have kb : b.kids = [] := by rw [eb]; rfl
            rw [ka] at hx; rw [kb] at hy
            cases hx; cases hy
            have i1 : (Term.node a.kind a.num a.name []).isS = false := isS_of (by show a.kind ≠ 4; omega)
            have i2 : (Term.node b.kind b.num b.name []).isS = false := isS_of (by show b.kind ≠ 4; omega)
            rw [erase_node i1, erase_node i2] at e
            simp only [Term.node.injEq, Term.num] at e
            exact e.2.1
      rw [if_pos ⟨h1, h2, e'⟩]
      exact ⟨_, _, rfl, fun p hp => by cases hp⟩
    · exact absurd e (erase_kind_var hk ha hb h1 h2 hwa hx hy)
  · by_cases h2 : b.kind = 1
    · exact absurd e.symm (erase_kind_var hk hb ha h2 h1 hwb hy hx)
    · rw [if_neg (fun hh => h1 hh.1), if_neg h1, if_neg h2]
      obtain ⟨xs, f1, f2⟩ := fil_open hk ha h1 hx
      obtain ⟨ys, g1, g2⟩ := fil_open hk hb h2 hy
      rw [f2, g2] at e
      simp only [Term.node.injEq] at e
      obtain ⟨e1, e2, e3, e4⟩ := e
      obtain ⟨l1, l2⟩ := fils_eqE _ _ _ _ f1 g1 e4
      unfold meetT
      rcases sopen_cases hk ha h1 with ⟨c1, c2, c3⟩ | ⟨c1, c2, _⟩
      · rw [if_pos ⟨c1, e1 ▸ c1, e2⟩]
        exact ⟨_, _, rfl, fun p hp => by cases hp⟩
      · rw [if_neg (fun hh => by omega), if_pos ⟨c1, e1 ▸ c1, e3, l1⟩]
        exact ⟨_, _, rfl, l2⟩
theorem mt_again : ∀ (m : Nat) (s : St) (lv : Int) (ps : List (Term × Term)), Sg k s → Ps k ps → (∀ p ∈ ps, EqE s p.1 p.2) → (mt (C k) m s lv ps).1 = s ∧ ((mt (C k) m s lv ps).2.1 = true ∨ (mt (C k) m s lv ps).2.2.2 = 3)
  | m, s, lv, [], _, _, _ => by cases m <;> exact ⟨rfl, .inl rfl⟩
  | 0, s, lv, p :: ps, _, _, _ => ⟨rfl, .inr rfl⟩
  | m + 1, s, lv, (a, b) :: ps, hs, hp, h => by
    obtain ⟨ha, hb⟩ := hp (a, b) (by simp)
    have hE : EqE s (s.wk a) (s.wk b) := by
      obtain ⟨x, y, hx, hy, e⟩ := h (a, b) (by simp)
      exact ⟨x, y, (ext_fil (Ext.refl s) hs.ok).2 hx, (ext_fil (Ext.refl s) hs.ok).2 hy, e⟩
    obtain ⟨lv', q, e1, e2⟩ := mwk_again hk (lv := lv) (hs.wk ha) (hs.wk hb) (wk_none (hs.ok.ends a)) (wk_none (hs.ok.ends b)) hE
    obtain ⟨_, _, h3⟩ := mone_good hk (lv := lv) hs ha hb
    simp only [mt, mone, e1]
    refine mt_again m s lv' (q ++ ps) hs (fun p hp' => ?_) fun p hp' => ?_
    · rcases List.mem_append.1 hp' with h' | h'
      · exact h3 q (by show (mwk _ _ _ _ _).2.2 = _; rw [e1]) p h'
      · exact hp p (by simp [h'])
    · rcases List.mem_append.1 hp' with h' | h'
      · exact e2 p h'
      · exact h p (by simp [h'])

/-! The level. -/
structure Lo (k : Nat) (J : Int) (s : St) : Prop where
  le : ∀ n u, s.at n = some u → u.sj (C k) ≤ J
def Pj (k : Nat) (J : Int) (ps : List (Term × Term)) : Prop := ∀ p ∈ ps, p.1.sj (C k) ≤ J ∧ p.2.sj (C k) ≤ J
omit hk in
theorem Lo.wk {J : Int} {s : St} (h : Lo k J s) : ∀ (n : Nat) (t : Term), t.sj (C k) ≤ J → (s.walk n t).sj (C k) ≤ J
  | 0, t, ht => ht
  | n + 1, t, ht => by
    cases hl : s.look t with
    | none => rw [walk_stop hl]; exact ht
    | some u =>
      rw [walk_nx hl]
      refine Lo.wk h n u ?_
      rw [look_at] at hl
      split at hl
      · exact h.le _ _ hl
      · cases hl
omit hk in
theorem Lo.bind {J : Int} {s : St} (h : Lo k J s) (v : Int) {t : Term} (ht : t.sj (C k) ≤ J) : Lo k J (s.bind v t).1 := ⟨fun n u hu => by
  rcases bind_cases s v t with ⟨e, _⟩ | ⟨_, _, _, _, e, _⟩
  · rw [e] at hu; exact h.le n u hu
  · rw [bind_at e] at hu
    split at hu
    · cases hu; exact ht
    · exact h.le n u hu⟩
theorem sopen_lo {t : Term} (h : Gd k t) {J : Int} (hJ : t.sj (C k) ≤ J) : (sopen (C k) t).2 ≤ J ∧ ∀ x ∈ (sopen (C k) t).1.kids, x.sj (C k) ≤ J := by
  have e := sopen_sj hk h.fine
  refine ⟨by omega, fun x hx => ?_⟩
  have := sj_kid hk hx
  omega
theorem mone_lo {s : St} {lv : Int} {a b : Term} {J : Int} (hs : Sg k s) (ha : Gd k a) (hb : Gd k b) (hl : Lo k J s) (h0 : 0 ≤ lv) (h1 : lv ≤ J) (h2 : J ≤ (k : Nat)) (hja : a.sj (C k) ≤ J) (hjb : b.sj (C k) ≤ J) :
    Lo k J (mone (C k) s lv a b).1 ∧ 0 ≤ (mone (C k) s lv a b).2.1 ∧ (mone (C k) s lv a b).2.1 ≤ J ∧ ∀ q, (mone (C k) s lv a b).2.2 = some q → Pj k J q := by
  have wa := hl.wk (s.cs.length + 1) a hja
  have wb := hl.wk (s.cs.length + 1) b hjb
  have ga := hs.wk ha
  have gb := hs.wk hb
  unfold mone mwk
  split
  · exact ⟨hl, h0, h1, fun q h => by cases h; exact fun p hp => by cases hp⟩
  · split
    · refine ⟨hl.bind _ wb, h0, h1, fun q h => ?_⟩
      split at h
      · cases h; exact fun p hp => by cases hp
      · cases h
    · split
      · refine ⟨hl.bind _ wa, h0, h1, fun q h => ?_⟩
        split at h
        · cases h; exact fun p hp => by cases hp
        · cases h
      · obtain ⟨e1, e2⟩ := sopen_lo hk ga (J := J) wa
        obtain ⟨e3, e4⟩ := sopen_lo hk gb (J := J) wb
        have r1 := sopen_rng hk (s.wk a)
        have r2 := sopen_rng hk (s.wk b)
        refine ⟨hl, ?_, ?_, fun q h => ?_⟩
        · show 0 ≤ (C k).join lv _; rw [C_join hk r1.1 r1.2 r2.1 r2.2, C_join hk h0 (by omega) (by omega) (by omega)]; omega
        · show (C k).join lv _ ≤ J; rw [C_join hk r1.1 r1.2 r2.1 r2.2, C_join hk h0 (by omega) (by omega) (by omega)]; omega
        · have h : meetT (sopen (C k) (s.wk a)).1 (sopen (C k) (s.wk b)).1 = some q := h
          unfold meetT at h
          split at h
          · cases h; exact fun p hp => by cases hp
          · split at h
            · cases h
              intro p hp
              exact ⟨e2 _ (List.of_mem_zip hp).1, e4 _ (List.of_mem_zip hp).2⟩
            · cases h
theorem mt_lo {J : Int} (h2 : J ≤ (k : Nat)) : ∀ (m : Nat) (s : St) (lv : Int) (ps : List (Term × Term)), Sg k s → Ps k ps → Lo k J s → Pj k J ps → 0 ≤ lv → lv ≤ J → 0 ≤ (mt (C k) m s lv ps).2.2.1 ∧ (mt (C k) m s lv ps).2.2.1 ≤ J
  | m, s, lv, [], _, _, _, _, h0, h1 => by cases m <;> exact ⟨h0, h1⟩
  | 0, s, lv, p :: ps, _, _, _, _, h0, h1 => ⟨h0, h1⟩
  | m + 1, s, lv, (a, b) :: ps, hs, hp, hl, hj, h0, h1 => by
    obtain ⟨ha, hb⟩ := hp (a, b) (by simp)
    obtain ⟨ja, jb⟩ := hj (a, b) (by simp)
    obtain ⟨g1, _, g3⟩ := mone_good hk (lv := lv) hs ha hb
    obtain ⟨l1, l2, l3, l4⟩ := mone_lo hk hs ha hb hl h0 h1 h2 ja jb
    simp only [mt]
    rcases hq : mone (C k) s lv a b with ⟨s', lv', q⟩
    rw [hq] at g1 g3 l1 l2 l3 l4
    cases q with
    | none => exact ⟨l2, l3⟩
    | some q =>
      refine mt_lo h2 m s' lv' (q ++ ps) g1 (fun p hp' => ?_) l1 (fun p hp' => ?_) l2 l3
      · rcases List.mem_append.1 hp' with h | h
        · exact g3 q rfl p h
        · exact hp p (by simp [h])
      · rcases List.mem_append.1 hp' with h | h
        · exact l4 q rfl p h
        · exact hj p (by simp [h])
end
end Go.Proofs.Ythpiggjclhnkcaa.AM
