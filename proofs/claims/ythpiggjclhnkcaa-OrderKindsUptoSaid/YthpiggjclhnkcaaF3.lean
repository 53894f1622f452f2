/- What seals do, over levels one below the next one. -/
import Derived.Test.YthpiggjclhnkcaaF2
namespace Go.Proofs.Ythpiggjclhnkcaa.AM
open Go
set_option linter.unusedVariables false
set_option linter.unusedSimpArgs false
set_option linter.unusedSectionVars false
theorem chain_tab : ((List.range 16).all fun k => decide ((chainL (k + 1)).bottom = 0) && decide ((chainL (k + 1)).top = (k : Nat)) && (List.range (k + 1)).all fun a => (List.range (k + 1)).all fun b =>
    ((chainL (k + 1)).leq (a : Nat) (b : Nat) == decide (a ≤ b)) && decide ((chainL (k + 1)).join (a : Nat) (b : Nat) = ((max a b : Nat) : Int)) && decide ((chainL (k + 1)).meet (a : Nat) (b : Nat) = ((min a b : Nat) : Int))) = true := by decide +kernel
/-- Levels 0 to k. -/
def C (k : Nat) : Lt := chainL (k + 1)
section
variable {k : Nat} (hk : k < 16)
include hk
theorem C_ok : (C k).Ok := chainL_ok hk
theorem C_n : ((C k).n : Int) = k + 1 := by show (((k + 1 : Nat) : Int)) = _; omega
theorem C_tab : (C k).bottom = 0 ∧ (C k).top = (k : Nat) ∧ ∀ a b, a ≤ k → b ≤ k → (C k).leq (a : Nat) (b : Nat) = decide (a ≤ b) ∧ (C k).join (a : Nat) (b : Nat) = ((max a b : Nat) : Int) ∧ (C k).meet (a : Nat) (b : Nat) = ((min a b : Nat) : Int) := by
  have h := List.all_eq_true.1 chain_tab k (by simpa using hk)
  simp only [Bool.and_eq_true, decide_eq_true_eq, List.all_eq_true, List.mem_range, beq_iff_eq] at h
  refine ⟨h.1.1, h.1.2, fun a b ha hb => ?_⟩
  have := h.2 a (by omega) b (by omega)
  exact ⟨this.1.1, this.1.2, this.2⟩
theorem C_bot : (C k).bottom = 0 := (C_tab hk).1
theorem C_top : (C k).top = (k : Nat) := (C_tab hk).2.1
omit hk in
theorem C_is (a : Int) : (C k).is a = decide (0 ≤ a ∧ a ≤ (k : Nat)) := by
  rw [Bool.eq_iff_iff, Lt.is_iff]
  have : ((C k).n : Int) = k + 1 := by show (((k + 1 : Nat) : Int)) = _; omega
  rw [this]; simp; omega
theorem C_leq (a b : Int) : (C k).leq a b = decide (0 ≤ a ∧ a ≤ b ∧ b ≤ (k : Nat)) := by
  by_cases ha : 0 ≤ a ∧ a ≤ (k : Nat)
  · by_cases hb : 0 ≤ b ∧ b ≤ (k : Nat)
    · obtain ⟨x, rfl⟩ : ∃ x : Nat, a = x := ⟨a.toNat, by omega⟩
      obtain ⟨y, rfl⟩ : ∃ y : Nat, b = y := ⟨b.toNat, by omega⟩
      rw [((C_tab hk).2.2 x y (by omega) (by omega)).1, Bool.eq_iff_iff]; simp; omega
    · unfold Lt.leq; rw [C_is b, decide_eq_false hb, Bool.and_false, Bool.false_and, eq_comm, decide_eq_false_iff_not]; omega
  · unfold Lt.leq; rw [C_is a, decide_eq_false ha, Bool.false_and, Bool.false_and, eq_comm, decide_eq_false_iff_not]; omega
theorem C_join {a b : Int} (h1 : 0 ≤ a) (h2 : a ≤ (k : Nat)) (h3 : 0 ≤ b) (h4 : b ≤ (k : Nat)) : (C k).join a b = max a b := by
  obtain ⟨x, rfl⟩ : ∃ x : Nat, a = x := ⟨a.toNat, by omega⟩
  obtain ⟨y, rfl⟩ : ∃ y : Nat, b = y := ⟨b.toNat, by omega⟩
  rw [((C_tab hk).2.2 x y (by omega) (by omega)).2.1]; omega
theorem C_meet {a b : Int} (h1 : 0 ≤ a) (h2 : a ≤ (k : Nat)) (h3 : 0 ≤ b) (h4 : b ≤ (k : Nat)) : (C k).meet a b = min a b := by
  obtain ⟨x, rfl⟩ : ∃ x : Nat, a = x := ⟨a.toNat, by omega⟩
  obtain ⟨y, rfl⟩ : ∃ y : Nat, b = y := ⟨b.toNat, by omega⟩
  rw [((C_tab hk).2.2 x y (by omega) (by omega)).2.2]; omega
theorem C_lev (n : Int) : 0 ≤ (C k).lev n ∧ (C k).lev n ≤ (k : Nat) := by
  unfold Lt.lev
  rw [C_top hk, C_n hk]
  split <;> omega
omit hk in
theorem C_lev_in {n : Int} (h1 : 0 ≤ n) (h2 : n ≤ (k : Nat)) : (C k).lev n = n := by
  unfold Lt.lev
  have : ((C k).n : Int) = k + 1 := by show (((k + 1 : Nat) : Int)) = _; omega
  rw [this, if_neg (by omega)]
mutual
theorem sj_rng : ∀ t : Term, 0 ≤ t.sj (C k) ∧ t.sj (C k) ≤ (k : Nat)
  | .node kd n s ks => by
    rw [sj_eq]
    refine sjs_rng ks _ ?_ ?_
    · split
      · exact (C_lev hk _).1
      · rw [C_bot hk]; exact Int.le_refl _
    · split
      · exact (C_lev hk _).2
      · rw [C_bot hk]; omega
theorem sjs_rng : ∀ (ts : List Term) (a : Int), 0 ≤ a → a ≤ (k : Nat) → 0 ≤ sjs (C k) ts a ∧ sjs (C k) ts a ≤ (k : Nat)
  | [], a, h1, h2 => ⟨h1, h2⟩
  | t :: ts, a, h1, h2 => by
    obtain ⟨h3, h4⟩ := sj_rng t
    rw [sjs, C_join hk h1 h2 h3 h4]
    exact sjs_rng ts _ (by omega) (by omega)
end
theorem sjs_max : ∀ (ts : List Term) (a b : Int), 0 ≤ a → a ≤ (k : Nat) → 0 ≤ b → b ≤ (k : Nat) → sjs (C k) ts (max a b) = max a (sjs (C k) ts b)
  | [], a, b, _, _, _, _ => rfl
  | t :: ts, a, b, h1, h2, h3, h4 => by
    obtain ⟨h5, h6⟩ := sj_rng hk t
    rw [sjs, sjs, C_join hk (by omega) (by omega) h5 h6, C_join hk h3 h4 h5 h6, Int.max_assoc]
    exact sjs_max ts a _ h1 h2 (by omega) (by omega)
theorem sjs_ge (ts : List Term) {a : Int} (h1 : 0 ≤ a) (h2 : a ≤ (k : Nat)) : a ≤ sjs (C k) ts a := by
  have := sjs_max hk ts a a h1 h2 h1 h2
  rw [show max a a = a by omega] at this
  omega
theorem sjs_mem : ∀ (ts : List Term) (a : Int) (t : Term), 0 ≤ a → a ≤ (k : Nat) → t ∈ ts → t.sj (C k) ≤ sjs (C k) ts a
  | x :: ts, a, t, h1, h2, h => by
    obtain ⟨h5, h6⟩ := sj_rng hk x
    rw [sjs, C_join hk h1 h2 h5 h6]
    rcases List.mem_cons.1 h with rfl | h
    · have := sjs_ge hk ts (a := max a (t.sj (C k))) (by omega) (by omega); omega
    · exact sjs_mem ts _ t (by omega) (by omega) h
theorem sj_base (t : Term) : 0 ≤ (if t.kind = 4 then (C k).lev t.num else (C k).bottom) ∧ (if t.kind = 4 then (C k).lev t.num else (C k).bottom) ≤ (k : Nat) := by
  split
  · exact C_lev hk _
  · rw [C_bot hk]; omega
theorem sj_kid {t x : Term} (h : x ∈ t.kids) : x.sj (C k) ≤ t.sj (C k) := by
  rw [sj_eq (C k) t]; exact sjs_mem hk _ _ x (sj_base hk t).1 (sj_base hk t).2 h
theorem sj_put (t : Term) {n : Int} (h1 : 0 ≤ n) (h2 : n ≤ (k : Nat)) : (putS t n).sj (C k) = max n (t.sj (C k)) := by
  obtain ⟨h5, h6⟩ := sj_rng hk t
  show (C k).join (if (4 : Int) = 4 then (C k).lev n else (C k).bottom) (t.sj (C k)) = _
  rw [if_pos rfl, C_lev_in h1 h2, C_join hk h1 h2 h5 h6]
theorem sj_pair (s : ByteArray) (a b : Term) : (Term.node 3 0 s [a, b]).sj (C k) = max (a.sj (C k)) (b.sj (C k)) := by
  obtain ⟨h1, h2⟩ := sj_rng hk a
  obtain ⟨h3, h4⟩ := sj_rng hk b
  show (C k).join ((C k).join (if (3 : Int) = 4 then (C k).lev 0 else (C k).bottom) (a.sj (C k))) (b.sj (C k)) = _
  rw [if_neg (by decide), C_bot hk, C_join hk (by omega) (by omega) h1 h2, C_join hk (by omega) (by omega) h3 h4]
  omega
end

/-! Seals that are of one part each. -/
mutual
def Term.fine (lv : Int) : Term → Bool
  | .node k n s ks => (k != 4 || (ks.length == 1 && decide (0 ≤ n) && decide (n < lv))) && fines lv ks
def fines (lv : Int) : List Term → Bool
  | [] => true
  | t :: ts => t.fine lv && fines lv ts
end
theorem alone_fine {lv : Int} {k n : Int} {s : ByteArray} {ks : List Term} (h : alone lv (.node k n s ks) = true) : (k != 4 || (ks.length == 1 && decide (0 ≤ n) && decide (n < lv))) = true := by
  by_cases h4 : k = 4
  · subst h4
    have e1 : ((4 : Int) == 1) = false := rfl
    have e2 : ((4 : Int) == 2) = false := rfl
    have e3 : ((4 : Int) == 3) = false := rfl
    have e4 : ((4 : Int) == 4) = true := rfl
    simp only [alone, Term.kind, Term.num, Term.kids, Term.name, e1, e2, e3, e4, cond_true, cond_false, Bool.and_eq_true, decide_eq_true_eq, beq_iff_eq] at h
    simp only [bne_self_eq_false, Bool.false_or, Bool.and_eq_true, beq_iff_eq, decide_eq_true_eq]
    obtain ⟨⟨⟨⟨_, h1⟩, h2⟩, h3⟩, _⟩ := h
    exact ⟨⟨by omega, of_decide_eq_true h1⟩, of_decide_eq_true h2⟩
  · simp [h4]
mutual
theorem fine_of (lv : Int) : ∀ t : Term, t.parts.all (alone lv) = true → t.fine lv = true
  | .node k n s ks, h => by
    rw [Term.parts, List.all_cons, Bool.and_eq_true] at h
    rw [Term.fine, alone_fine h.1, fines_of lv ks h.2]; rfl
theorem fines_of (lv : Int) : ∀ ts : List Term, (partss ts).all (alone lv) = true → fines lv ts = true
  | [], _ => rfl
  | t :: ts, h => by
    rw [partss, List.all_append, Bool.and_eq_true] at h
    rw [fines, fine_of lv t h.1, fines_of lv ts h.2]; rfl
end
theorem fine_check {t : Term} {lv : Int} (h : t.check lv = 0) : t.fine lv = true := fine_of lv t (check_zero.1 h).2.2
theorem fine_eq (lv : Int) (t : Term) : t.fine lv = ((t.kind != 4 || (t.kids.length == 1 && decide (0 ≤ t.num) && decide (t.num < lv))) && fines lv t.kids) := by cases t; rfl
theorem fines_mem {lv : Int} : ∀ {ts : List Term} {t : Term}, fines lv ts = true → t ∈ ts → t.fine lv = true
  | x :: ts, t, h, hm => by
    rw [fines, Bool.and_eq_true] at h
    rcases List.mem_cons.1 hm with rfl | hm
    · exact h.1
    · exact fines_mem h.2 hm
theorem fine_kid {lv : Int} {t x : Term} (h : t.fine lv = true) (hx : x ∈ t.kids) : x.fine lv = true := by
  rw [fine_eq, Bool.and_eq_true] at h; exact fines_mem h.2 hx
theorem fine_seal {lv : Int} {t : Term} (h : t.fine lv = true) (h4 : t.kind = 4) : t.isS = true ∧ 0 ≤ t.num ∧ t.num < lv := by
  rw [fine_eq, Bool.and_eq_true] at h
  simp [h4] at h
  exact ⟨isS_iff.2 ⟨h4, h.1.1.1⟩, h.1.1.2, h.1.2⟩

/-! Erased. -/
theorem isS_cases (t : Term) : (∃ n s x, t = .node 4 n s [x]) ∨ t.isS = false := by
  cases h : t.isS with
  | false => exact .inr rfl
  | true =>
    obtain ⟨h1, h2⟩ := isS_iff.1 h
    cases t with
    | node k n s ks =>
      obtain rfl : k = 4 := h1
      have h2 : ks.length = 1 := h2
      match ks, h2 with
      | [x], _ => exact .inl ⟨n, s, x, rfl⟩
theorem erase_s (n : Int) (s : ByteArray) (x : Term) : (Term.node 4 n s [x]).erase = x.erase := by simp [Term.erase, erases]
theorem erase_put (t : Term) (n : Int) : (putS t n).erase = t.erase := erase_s _ _ _
/-- By the seals that are of one part, and the kids of what is none. -/
theorem term_ind {Q : Term → Prop} (hs : ∀ n s x, Q x → Q (.node 4 n s [x])) (hn : ∀ t : Term, t.isS = false → (∀ x ∈ t.kids, Q x) → Q t) (t : Term) : Q t := by
  have key : ∀ (m : Nat) (t : Term), t.size ≤ m → Q t := by
    intro m
    induction m with
    | zero => intro t h; have := t.size_kids; omega
    | succ m ih =>
      intro t h
      have hS := t.size_kids
      rcases isS_cases t with ⟨n, s, x, rfl⟩ | hf
      · refine hs n s x (ih x ?_); simp only [Term.size, sizes] at h; omega
      · exact hn t hf fun x hx => ih x (by have := sizes_mem hx; omega)
  exact key t.size t (Nat.le_refl _)
theorem sizes_le {f : Term → Term} : ∀ l : List Term, (∀ x ∈ l, (f x).size ≤ x.size) → sizes (l.map f) ≤ sizes l
  | [], _ => Nat.le_refl _
  | x :: l, h => by
    have h1 := h x (by simp)
    have h2 := sizes_le l fun y hy => h y (by simp [hy])
    simp only [List.map_cons, sizes]; omega
theorem bulks_le {f : Term → Term} : ∀ l : List Term, (∀ x ∈ l, (f x).bulk ≤ x.bulk) → bulks (l.map f) ≤ bulks l
  | [], _ => Nat.le_refl _
  | x :: l, h => by
    have h1 := h x (by simp)
    have h2 := bulks_le l fun y hy => h y (by simp [hy])
    simp only [List.map_cons, bulks]; omega
theorem deeps_le {f : Term → Term} : ∀ l : List Term, (∀ x ∈ l, (f x).deep ≤ x.deep) → deeps (l.map f) ≤ deeps l
  | [], _ => Nat.le_refl _
  | x :: l, h => by
    have h1 := h x (by simp)
    have h2 := deeps_le l fun y hy => h y (by simp [hy])
    simp only [List.map_cons, deeps]; omega
theorem erase_size (t : Term) : t.erase.size ≤ t.size := by
  induction t using term_ind with
  | hs n s x ih => rw [erase_s]; simp only [Term.size, sizes]; omega
  | hn t hf ih => rw [erase_node hf, Term.size, t.size_kids, erases_map]; have := sizes_le t.kids ih; omega
theorem erase_bulk (t : Term) : t.erase.bulk ≤ t.bulk := by
  induction t using term_ind with
  | hs n s x ih => rw [erase_s]; simp only [Term.bulk, bulks]; omega
  | hn t hf ih => rw [erase_node hf, Term.bulk, t.bulk_kids, erases_map]; have := bulks_le t.kids ih; omega
theorem erase_deep (t : Term) : t.erase.deep ≤ t.deep := by
  induction t using term_ind with
  | hs n s x ih => rw [erase_s]; simp only [Term.deep, deeps]; omega
  | hn t hf ih => rw [erase_node hf, Term.deep, t.deep_kids, erases_map]; have := deeps_le t.kids ih; omega
theorem isS_like {t u : Term} (h1 : t.kind = u.kind) (h2 : t.kids.length = u.kids.length) : t.isS = u.isS := by simp [Term.isS, h1, h2]
theorem erase_erase (t : Term) : t.erase.erase = t.erase := by
  induction t using term_ind with
  | hs n s x ih => rw [erase_s, ih]
  | hn t hf ih =>
    have h2 : (t.erase).isS = false := by
      rw [erase_node hf]
      exact (isS_like (t := .node t.kind t.num t.name (erases t.kids)) (u := t) rfl (by exact erases_len _)).trans hf
    rw [erase_node h2, erase_node hf]
    show Term.node t.kind t.num t.name (erases (erases t.kids)) = _
    rw [erases_map, erases_map, List.map_map]
    congr 1
    exact List.map_congr_left fun x hx => ih x hx
theorem erases_erases (l : List Term) : erases (erases l) = erases l := by
  rw [erases_map, erases_map, List.map_map]
  exact List.map_congr_left fun x _ => erase_erase x
theorem erases_puts4 (n : Int) (l : List Term) : erases (puts4 n l) = erases l := by
  rw [erases_map, erases_map, puts4, List.map_map]
  exact List.map_congr_left fun x _ => erase_put x n

/-! Opened. -/
theorem opn_s (l : Lt) (n : Int) (s : ByteArray) (x : Term) (a : Int) : (Term.node 4 n s [x]).opn l a = x.opn l (l.join a (l.lev n)) := by simp [Term.opn, opnK]
theorem opn_end (l : Lt) (t : Term) : ∀ a, (t.opn l a).1.isS = false := by
  induction t using term_ind with
  | hs n s x ih => intro a; rw [opn_s]; exact ih _
  | hn t hf ih => intro a; rw [opn_node hf]; exact hf
theorem opn_fst (l : Lt) (t : Term) : ∀ a b, (t.opn l a).1 = (t.opn l b).1 := by
  induction t using term_ind with
  | hs n s x ih => intro a b; rw [opn_s, opn_s]; exact ih _ _
  | hn t hf ih => intro a b; rw [opn_node hf, opn_node hf]
theorem opn_erase (l : Lt) (t : Term) : ∀ a, (t.opn l a).1.erase = t.erase := by
  induction t using term_ind with
  | hs n s x ih => intro a; rw [opn_s, erase_s]; exact ih _
  | hn t hf ih => intro a; rw [opn_node hf]
theorem opn_fine {lv : Int} (l : Lt) (t : Term) : t.fine lv = true → ∀ a, (t.opn l a).1.fine lv = true := by
  induction t using term_ind with
  | hs n s x ih => intro h a; rw [opn_s]; exact ih (fine_kid h (by simp [Term.kids])) _
  | hn t hf ih => intro h a; rw [opn_node hf]; exact h
theorem opn_bulk (l : Lt) (t : Term) : ∀ a, (t.opn l a).1.bulk ≤ t.bulk := by
  induction t using term_ind with
  | hs n s x ih => intro a; rw [opn_s]; have := ih (l.join a (l.lev n)); simp only [Term.bulk, bulks]; omega
  | hn t hf ih => intro a; rw [opn_node hf]; exact Nat.le_refl _
theorem puts4_bulk (n : Int) : ∀ l : List Term, bulks (puts4 n l) = bulks l + l.length
  | [] => rfl
  | x :: l => by
    have h := puts4_bulk n l
    show bulks (putS x n :: puts4 n l) = _
    rw [bulks, bulks, h, List.length_cons]
    have : (putS x n).bulk = 0 + (x.bulk + 0) + 1 := rfl
    omega
theorem sopen_bulk (l : Lt) (t : Term) : (sopen l t).1.bulk ≤ 2 * t.bulk := by
  unfold sopen
  split
  · show (Term.node _ _ _ (puts4 _ _)).bulk ≤ _
    rw [Term.bulk, puts4_bulk]
    have h1 := opn_bulk l t l.bottom
    have h2 := (t.opn l l.bottom).1.bulk_kids
    have h3 := bulks_len (t.opn l l.bottom).1.kids
    omega
  · show t.bulk ≤ _; omega
theorem sopen_erase (l : Lt) (t : Term) : (sopen l t).1.erase = t.erase := by
  unfold sopen
  split
  · have h1 := opn_end l t l.bottom
    have h2 : (Term.node (t.opn l l.bottom).1.kind (t.opn l l.bottom).1.num (t.opn l l.bottom).1.name (puts4 (t.opn l l.bottom).2 (t.opn l l.bottom).1.kids)).isS = false := by
      refine (isS_like (t := .node (t.opn l l.bottom).1.kind (t.opn l l.bottom).1.num (t.opn l l.bottom).1.name (puts4 (t.opn l l.bottom).2 (t.opn l l.bottom).1.kids)) (u := (t.opn l l.bottom).1) rfl ?_).trans h1
      exact puts4_len _ _
    show Term.erase (.node _ _ _ (puts4 _ _)) = _
    rw [erase_node h2]
    show Term.node _ _ _ (erases (puts4 _ _)) = _
    rw [erases_puts4, ← opn_erase l t l.bottom, erase_node h1]; rfl
  · rfl
theorem sopen_kind {lv : Int} (l : Lt) {t : Term} (h : t.fine lv = true) : (sopen l t).1.kind ≠ 4 := by
  intro h4
  unfold sopen at h4
  split at h4
  · have h4 : (t.opn l l.bottom).1.kind = 4 := h4
    have := (fine_seal (opn_fine l t h l.bottom) h4).1
    rw [opn_end] at this; cases this
  · rename_i hs
    exact hs (fine_seal h h4).1
section
variable {k : Nat} (hk : k < 16)
include hk
theorem opn_max (t : Term) : ∀ a : Int, 0 ≤ a → a ≤ (k : Nat) → 0 ≤ (t.opn (C k) 0).2 ∧ (t.opn (C k) 0).2 ≤ (k : Nat) ∧ (t.opn (C k) a).2 = max a (t.opn (C k) 0).2 := by
  induction t using term_ind with
  | hs n s x ih =>
    intro a h1 h2
    obtain ⟨h3, h4⟩ := C_lev hk n
    rw [opn_s, opn_s, C_join hk h1 h2 h3 h4, C_join hk (Int.le_refl 0) (by omega) h3 h4]
    obtain ⟨h5, h6, h7⟩ := ih (max a ((C k).lev n)) (by omega) (by omega)
    obtain ⟨_, _, h8⟩ := ih (max 0 ((C k).lev n)) (by omega) (by omega)
    rw [h7, h8]
    omega
  | hn t hf ih => intro a h1 h2; rw [opn_node hf, opn_node hf]; exact ⟨Int.le_refl _, by show (0 : Int) ≤ _; omega, by show a = max a 0; omega⟩
theorem opn_sj {t : Term} : t.sj (C k) = max (t.opn (C k) 0).2 ((t.opn (C k) 0).1.sj (C k)) := by
  induction t using term_ind with
  | hs n s x ih =>
    obtain ⟨h3, h4⟩ := C_lev hk n
    obtain ⟨h1, h2⟩ := sj_rng hk x
    rw [opn_s, C_join hk (Int.le_refl 0) (by omega) h3 h4, (opn_max hk x _ (by omega) (by omega)).2.2, opn_fst (C k) x _ 0]
    show (C k).join (if (4 : Int) = 4 then (C k).lev n else (C k).bottom) (x.sj (C k)) = _
    rw [if_pos rfl, C_join hk h3 h4 h1 h2, ih]
    omega
  | hn t hf ih =>
    rw [opn_node hf]
    have := (sj_rng hk t).1
    show t.sj (C k) = max 0 (t.sj (C k)); omega
theorem sjs_puts4 : ∀ (ts : List Term) (n a : Int), 0 ≤ n → n ≤ (k : Nat) → 0 ≤ a → a ≤ (k : Nat) → sjs (C k) (puts4 n ts) a = if ts = [] then a else max n (sjs (C k) ts a)
  | [], n, a, _, _, _, _ => rfl
  | t :: ts, n, a, h1, h2, h3, h4 => by
    obtain ⟨h5, h6⟩ := sj_rng hk t
    rw [if_neg (by simp)]
    show sjs (C k) (puts4 n ts) ((C k).join a ((putS t n).sj (C k))) = _
    rw [sj_put hk t h1 h2, C_join hk h3 h4 (by omega) (by omega), sjs_puts4 ts n _ h1 h2 (by omega) (by omega), sjs, C_join hk h3 h4 h5 h6]
    split
    · rename_i e; subst e; simp only [sjs]; omega
    · rw [show max a (max n (t.sj (C k))) = max n (max a (t.sj (C k))) by omega, sjs_max hk ts n _ h1 h2 (by omega) (by omega)]; omega
theorem sopen_rng (t : Term) : 0 ≤ (sopen (C k) t).2 ∧ (sopen (C k) t).2 ≤ (k : Nat) := by
  unfold sopen
  split
  · show 0 ≤ (t.opn (C k) (C k).bottom).2 ∧ (t.opn (C k) (C k).bottom).2 ≤ _
    rw [C_bot hk]
    exact ⟨(opn_max hk t 0 (Int.le_refl _) (by omega)).1, (opn_max hk t 0 (Int.le_refl _) (by omega)).2.1⟩
  · show 0 ≤ (C k).bottom ∧ (C k).bottom ≤ _; rw [C_bot hk]; omega
/-- What was opened joins with what was seen to what it was. -/
theorem sopen_sj {lv : Int} {t : Term} (hf : t.fine lv = true) : max (sopen (C k) t).2 ((sopen (C k) t).1.sj (C k)) = t.sj (C k) := by
  have h0 := sopen_rng hk t
  unfold sopen at h0 ⊢
  split
  · rename_i hs
    rw [if_pos hs, C_bot hk] at h0
    have h0 : 0 ≤ (t.opn (C k) 0).2 ∧ (t.opn (C k) 0).2 ≤ (k : Nat) := h0
    rw [C_bot hk]
    show max (t.opn (C k) 0).2 ((Term.node _ _ _ (puts4 _ _)).sj (C k)) = _
    have hx : (t.opn (C k) 0).1.kind ≠ 4 := fun h4 => by have := (fine_seal (opn_fine (C k) t hf 0) h4).1; rw [opn_end] at this; cases this
    rw [sj_eq]
    show max (t.opn (C k) 0).2 (sjs (C k) (puts4 _ _) (if (t.opn (C k) 0).1.kind = 4 then _ else _)) = _
    rw [if_neg hx, C_bot hk, sjs_puts4 hk _ _ 0 h0.1 h0.2 (Int.le_refl _) (by omega), opn_sj hk, sj_eq (C k) (t.opn (C k) 0).1, if_neg hx, C_bot hk]
    split
    · rename_i e; rw [e]; simp [sjs]
    · omega
  · rename_i hs
    show max (C k).bottom (t.sj (C k)) = _
    rw [C_bot hk]; have := (sj_rng hk t).1; omega
theorem sopen_put (t : Term) {n : Int} (h1 : 0 ≤ n) (h2 : n ≤ (k : Nat)) : sopen (C k) (putS t n) = (.node (t.opn (C k) 0).1.kind (t.opn (C k) 0).1.num (t.opn (C k) 0).1.name (puts4 (max n (t.opn (C k) 0).2) (t.opn (C k) 0).1.kids), max n (t.opn (C k) 0).2) := by
  have e : (putS t n).opn (C k) (C k).bottom = ((t.opn (C k) 0).1, max n (t.opn (C k) 0).2) := by
    show (Term.node 4 n ⟨#[]⟩ [t]).opn (C k) _ = _
    rw [opn_s, C_bot hk, C_lev_in h1 h2, C_join hk (Int.le_refl _) (by omega) h1 h2]
    refine Prod.ext (opn_fst _ _ _ _) ?_
    rw [(opn_max hk t _ (by omega) (by omega)).2.2]
    show max (max 0 n) _ = max n _; omega
  unfold sopen
  rw [if_pos (by rfl), e]
theorem opn_put (t : Term) {n : Int} (h1 : 0 ≤ n) (h2 : n ≤ (k : Nat)) : (putS t n).opn (C k) 0 = ((t.opn (C k) 0).1, max n (t.opn (C k) 0).2) := by
  show (Term.node 4 n ⟨#[]⟩ [t]).opn (C k) _ = _
  rw [opn_s, C_lev_in h1 h2, C_join hk (Int.le_refl _) (by omega) h1 h2]
  refine Prod.ext (opn_fst _ _ _ _) ?_
  rw [(opn_max hk t _ (by omega) (by omega)).2.2]
  show max (max 0 n) _ = max n _; omega
theorem sopen_like (t : Term) : (sopen (C k) t).1.kind = (t.opn (C k) 0).1.kind ∧ (sopen (C k) t).1.name = (t.opn (C k) 0).1.name ∧ (sopen (C k) t).1.kids.length = (t.opn (C k) 0).1.kids.length ∧ (sopen (C k) t).2 = (t.opn (C k) 0).2 := by
  unfold sopen
  split
  · rw [C_bot hk]; exact ⟨rfl, rfl, puts4_len _ _, rfl⟩
  · rename_i h
    have h : t.isS = false := by simpa using h
    rw [opn_node h, C_bot hk]; exact ⟨rfl, rfl, rfl, rfl⟩
mutual
theorem sj_fine_zero {lv : Int} : ∀ t : Term, t.fine lv = true → t.erase.sj (C k) = 0
  | .node kd n s ks, h => by
    by_cases h4 : kd = 4
    · subst h4
      have h1 := (fine_seal h rfl).1
      have h2 : ks.length = 1 := (isS_iff.1 h1).2
      match ks, h2, h with
      | [x], _, h =>
        rw [erase_s]
        refine sj_fine_zero x (fine_kid h (by simp [Term.kids]))
    · have hf : (Term.node kd n s ks).isS = false := by simp [Term.isS, Term.kind, h4]
      rw [erase_node hf, sj_eq]
      show sjs (C k) (erases ks) (if kd = 4 then _ else _) = 0
      rw [if_neg h4, C_bot hk]
      rw [Term.fine, Bool.and_eq_true] at h
      exact sjs_fine_zero ks h.2
theorem sjs_fine_zero {lv : Int} : ∀ ts : List Term, fines lv ts = true → sjs (C k) (erases ts) 0 = 0
  | [], _ => rfl
  | t :: ts, h => by
    rw [fines, Bool.and_eq_true] at h
    rw [erases, sjs, sj_fine_zero t h.1, C_join hk (Int.le_refl _) (by omega) (Int.le_refl _) (by omega)]
    exact sjs_fine_zero ts h.2
end
end

theorem sopen_no {l : Lt} {t : Term} (h : t.kind ≠ 4) : sopen l t = (t, l.bottom) := by
  unfold sopen; rw [if_neg]; intro hs; exact h (isS_iff.1 hs).1
/-! Hidden. -/
mutual
theorem hide_bulk (l : Lt) (lv : Int) : ∀ t : Term, (t.hide l lv).bulk ≤ 5 * t.bulk
  | .node k n s ks => by
    rw [Term.hide]
    split
    · have : hole.size = 4 := rfl
      simp only [Term.bulk, bulks]; omega
    · simp only [Term.bulk]; have := hides_bulk l lv ks; omega
theorem hides_bulk (l : Lt) (lv : Int) : ∀ ts : List Term, bulks (hides l lv ts) ≤ 5 * bulks ts
  | [] => Nat.le_refl _
  | t :: ts => by rw [hides, bulks, bulks]; have := hide_bulk l lv t; have := hides_bulk l lv ts; omega
end
section
variable {k : Nat} (hk : k < 16)
include hk
theorem hide_hole {lv : Int} : (Term.node 3 0 hole []).hide (C k) lv = .node 3 0 hole [] := by
  rw [Term.hide, if_neg (by rintro ⟨h, _⟩; exact absurd h (by decide))]; rfl
mutual
theorem hide_hide {x y : Int} (h1 : 0 ≤ x) (h2 : x ≤ (k : Nat)) (h3 : 0 ≤ y) (h4 : y ≤ (k : Nat)) : ∀ t : Term, (t.hide (C k) x).hide (C k) y = t.hide (C k) (min x y)
  | .node kd n s ks => by
    obtain ⟨l1, l2⟩ := C_lev hk n
    rw [Term.hide, Term.hide]
    by_cases a : kd = 4 ∧ (C k).leq ((C k).lev n) x = false
    · rw [if_pos a, hide_hole hk, if_pos]
      refine ⟨a.1, ?_⟩
      have := a.2
      rw [C_leq hk] at this ⊢
      rw [decide_eq_false_iff_not] at this ⊢
      omega
    · rw [if_neg a, Term.hide]
      by_cases b : kd = 4 ∧ (C k).leq ((C k).lev n) y = false
      · rw [if_pos b, if_pos]
        refine ⟨b.1, ?_⟩
        have := b.2
        rw [C_leq hk] at this ⊢
        rw [decide_eq_false_iff_not] at this ⊢
        omega
      · rw [if_neg b, if_neg, hides_hides h1 h2 h3 h4 ks]
        rintro ⟨e4, e⟩
        have a' : (C k).leq ((C k).lev n) x ≠ false := fun h => a ⟨e4, h⟩
        have b' : (C k).leq ((C k).lev n) y ≠ false := fun h => b ⟨e4, h⟩
        rw [C_leq hk, Ne, decide_eq_false_iff_not] at a' b'
        rw [C_leq hk, decide_eq_false_iff_not] at e
        omega
theorem hides_hides {x y : Int} (h1 : 0 ≤ x) (h2 : x ≤ (k : Nat)) (h3 : 0 ≤ y) (h4 : y ≤ (k : Nat)) : ∀ ts : List Term, hides (C k) y (hides (C k) x ts) = hides (C k) (min x y) ts
  | [] => rfl
  | t :: ts => by rw [hides, hides, hides, hide_hide h1 h2 h3 h4 t, hides_hides h1 h2 h3 h4 ts]
end
mutual
theorem hide_top : ∀ t : Term, t.hide (C k) (k : Nat) = t
  | .node kd n s ks => by
    obtain ⟨l1, l2⟩ := C_lev hk n
    rw [Term.hide, if_neg, hides_top ks]
    rintro ⟨_, e⟩
    rw [C_leq hk, decide_eq_false_iff_not] at e
    omega
theorem hides_top : ∀ ts : List Term, hides (C k) (k : Nat) ts = ts
  | [] => rfl
  | t :: ts => by rw [hides, hide_top t, hides_top ts]
end
mutual
theorem hide_sj {x : Int} (h1 : 0 ≤ x) (h2 : x ≤ (k : Nat)) : ∀ t : Term, (t.hide (C k) x).sj (C k) ≤ x
  | .node kd n s ks => by
    obtain ⟨l1, l2⟩ := C_lev hk n
    rw [Term.hide]
    split
    · show sjs (C k) [] (if (3 : Int) = 4 then _ else _) ≤ x
      rw [if_neg (by decide), C_bot hk]; exact h1
    · rename_i a
      rw [Term.sj]
      refine hides_sj h1 h2 ks _ ?_ ?_
      · split
        · exact l1
        · rw [C_bot hk]; exact Int.le_refl _
      · split
        · rename_i e4
          have a' : (C k).leq ((C k).lev n) x ≠ false := fun h => a ⟨e4, h⟩
          rw [C_leq hk, Ne, decide_eq_false_iff_not] at a'
          omega
        · rw [C_bot hk]; exact h1
theorem hides_sj {x : Int} (h1 : 0 ≤ x) (h2 : x ≤ (k : Nat)) : ∀ (ts : List Term) (a : Int), 0 ≤ a → a ≤ x → sjs (C k) (hides (C k) x ts) a ≤ x
  | [], a, _, h => h
  | t :: ts, a, h3, h4 => by
    have := sj_rng hk (t.hide (C k) x)
    have := hide_sj h1 h2 t
    rw [hides, sjs, C_join hk h3 (by omega) (by omega) (by omega)]
    exact hides_sj h1 h2 ts _ (by omega) (by omega)
end
end
theorem name_nil {a : ByteArray} (h : (a.toList == (⟨#[]⟩ : ByteArray).toList) = true) : a = ⟨#[]⟩ := ByteArray.ext_list (beq_iff_eq.1 h)
theorem alone_cases {lv : Int} {t : Term} (h : alone lv t = true) :
    (t.kind = 1 ∧ t.name = ⟨#[]⟩ ∧ t.kids = []) ∨ (t.kind = 2 ∧ t.name = ⟨#[]⟩ ∧ t.kids = []) ∨ (t.kind = 3 ∧ t.num = 0 ∧ t.kids.length ≤ 8) ∨
    (t.kind = 4 ∧ t.name = ⟨#[]⟩ ∧ 0 ≤ t.num ∧ t.num < lv ∧ ∃ x, t.kids = [x] ∧ x.vars = []) := by
  unfold alone at h
  by_cases h1 : t.kind = 1
  · left
    have e : (t.kind == 1) = true := by rw [beq_iff_eq]; exact h1
    rw [e, cond_true] at h
    simp only [Bool.and_eq_true] at h
    obtain ⟨⟨_, h2⟩, h3⟩ := h
    exact ⟨h1, name_nil h2, List.eq_nil_of_length_eq_zero (by have := beq_iff_eq.1 h3; omega)⟩
  · have e : (t.kind == 1) = false := by rw [beq_eq_false_iff_ne]; exact h1
    rw [e, cond_false] at h
    by_cases h2 : t.kind = 2
    · right; left
      have e : (t.kind == 2) = true := by rw [beq_iff_eq]; exact h2
      rw [e, cond_true] at h
      simp only [Bool.and_eq_true] at h
      exact ⟨h2, name_nil h.1, List.eq_nil_of_length_eq_zero (by have := beq_iff_eq.1 h.2; omega)⟩
    · have e : (t.kind == 2) = false := by rw [beq_eq_false_iff_ne]; exact h2
      rw [e, cond_false] at h
      by_cases h3 : t.kind = 3
      · right; right; left
        have e : (t.kind == 3) = true := by rw [beq_iff_eq]; exact h3
        rw [e, cond_true] at h
        simp only [Bool.and_eq_true] at h
        exact ⟨h3, beq_iff_eq.1 h.1.1, by have := of_decide_eq_true h.2; omega⟩
      · have e : (t.kind == 3) = false := by rw [beq_eq_false_iff_ne]; exact h3
        rw [e, cond_false] at h
        by_cases h4 : t.kind = 4
        · right; right; right
          have e : (t.kind == 4) = true := by rw [beq_iff_eq]; exact h4
          rw [e, cond_true] at h
          simp only [Bool.and_eq_true] at h
          obtain ⟨⟨⟨⟨h5, h6⟩, h7⟩, h8⟩, h9⟩ := h
          have hl : t.kids.length = 1 := by have := beq_iff_eq.1 h8; omega
          refine ⟨h4, name_nil h5, of_decide_eq_true h6, of_decide_eq_true h7, ?_⟩
          match hk : t.kids, hl with
          | [x], _ =>
            rw [hk] at h9
            have h9 : ((x.vars.length : Int) == 0) = true := h9
            exact ⟨x, rfl, List.eq_nil_of_length_eq_zero (by have := beq_iff_eq.1 h9; omega)⟩
        · have e : (t.kind == 4) = false := by rw [beq_eq_false_iff_ne]; exact h4
          rw [e, cond_false] at h; cases h
end Go.Proofs.Ythpiggjclhnkcaa.AM
