/- What is full: no variable in it is bound; what occurs in it. -/
import Derived.Test.YthpiggjclhnkcaaS5
import Derived.Test.YthpiggjclhnkcaaP4
namespace Go.Proofs.Ythpiggjclhnkcaa.AM
open Go
set_option linter.unusedVariables false
set_option linter.unusedSimpArgs false
theorem look_same {s : St} {t u : Term} (hk : t.kind = u.kind) (hn : t.num = u.num) : s.look t = s.look u := by unfold St.look; rw [hk, hn]
mutual
theorem fil_self {s : St} (hE : ∀ t, s.look (s.wk t) = none) : ∀ (x t : Term), Fil s t x → Fil s x x
  | .node k n nm xs, t, h => by
    cases h with
    | mk h =>
      have hl : s.look (.node (s.wk t).kind (s.wk t).num (s.wk t).name xs) = none := (look_same (s := s) (t := .node (s.wk t).kind (s.wk t).num (s.wk t).name xs) (u := s.wk t) rfl rfl).trans (hE t)
      have := Fil.mk (s := s) (t := .node (s.wk t).kind (s.wk t).num (s.wk t).name xs) (xs := xs) (by rw [wk_none hl]; exact fils_self hE xs _ h)
      rw [wk_none hl] at this; exact this
theorem fils_self {s : St} (hE : ∀ t, s.look (s.wk t) = none) : ∀ (xs ts : List Term), Fils s ts xs → Fils s xs xs
  | [], ts, h => .nil
  | x :: xs, ts, h => by
    cases h with
    | cons h hs => exact .cons (fil_self hE x _ h) (fils_self hE xs _ hs)
end
mutual
theorem fil_free {s : St} (hE : ∀ t, s.look (s.wk t) = none) : ∀ (x t : Term), Fil s t x → ∀ p ∈ x.parts, s.look p = none
  | .node k n nm xs, t, h, p, hp => by
    cases h with
    | mk h =>
      rw [Term.parts] at hp
      rcases List.mem_cons.1 hp with rfl | hp
      · exact (look_same (s := s) (t := .node (s.wk t).kind (s.wk t).num (s.wk t).name xs) (u := s.wk t) rfl rfl).trans (hE t)
      · exact fils_free hE xs _ h p hp
theorem fils_free {s : St} (hE : ∀ t, s.look (s.wk t) = none) : ∀ (xs ts : List Term), Fils s ts xs → ∀ p ∈ partss xs, s.look p = none
  | [], ts, h, p, hp => by simp [partss] at hp
  | x :: xs, ts, h, p, hp => by
    cases h with
    | cons h hs =>
      rw [partss] at hp
      rcases List.mem_append.1 hp with hp | hp
      · exact fil_free hE x _ h p hp
      · exact fils_free hE xs _ hs p hp
end
theorem mem_fold (k : Int) : ∀ (ps : List Term) (l : List Int), k ∈ ps.foldl addVar l ↔ k ∈ l ∨ ∃ p ∈ ps, p.kind = 1 ∧ p.num = k
  | [], l => by simp
  | p :: ps, l => by
    rw [List.foldl_cons, mem_fold k ps]
    have h1 : k ∈ addVar l p ↔ k ∈ l ∨ (p.kind = 1 ∧ p.num = k) := by
      unfold addVar
      split
      · rename_i h; simp only [List.mem_append, List.mem_singleton, h.1, true_and]
        exact or_congr Iff.rfl ⟨fun e => e.symm, fun e => e.symm⟩
      · rename_i h
        constructor
        · exact .inl
        · rintro (h' | ⟨h1, h2⟩)
          · exact h'
          · exact Classical.byContradiction fun hn => h ⟨h1, by rw [h2]; exact hn⟩
    rw [h1]
    simp only [List.mem_cons]
    constructor
    · rintro ((h | h) | ⟨q, hq, h⟩)
      · exact .inl h
      · exact .inr ⟨p, .inl rfl, h⟩
      · exact .inr ⟨q, .inr hq, h⟩
    · rintro (h | ⟨q, rfl | hq, h⟩)
      · exact .inl (.inl h)
      · exact .inl (.inr h)
      · exact .inr ⟨q, hq, h⟩
theorem mem_vars (k : Int) (t : Term) : k ∈ t.vars ↔ ∃ p ∈ t.parts, p.kind = 1 ∧ p.num = k := by
  unfold Term.vars; rw [mem_fold]; simp
theorem vars_nil {t : Term} : t.vars = [] ↔ ∀ p ∈ t.parts, p.kind ≠ 1 := by
  constructor
  · intro h p hp hk
    have := (mem_vars p.num t).2 ⟨p, hp, hk, rfl⟩
    rw [h] at this; cases this
  · intro h
    cases hv : t.vars with
    | nil => rfl
    | cons k l =>
      obtain ⟨p, hp, hk, _⟩ := (mem_vars k t).1 (by rw [hv]; simp)
      exact absurd hk (h p hp)
/-- Variables have no arguments, seals no variables. -/
def Term.okv (t : Term) : Prop := ∀ p ∈ t.parts, (p.kind = 1 → p.kids = []) ∧ (p.kind = 4 → ∀ q ∈ partss p.kids, q.kind ≠ 1)
def okvs (l : List Term) : Prop := ∀ p ∈ partss l, (p.kind = 1 → p.kids = []) ∧ (p.kind = 4 → ∀ q ∈ partss p.kids, q.kind ≠ 1)
theorem okv_kids {t : Term} (h : t.okv) : okvs t.kids := fun p hp => h p (by rw [t.parts_kids]; exact List.mem_cons_of_mem _ hp)
theorem okvs_cons {t : Term} {l : List Term} : okvs (t :: l) ↔ t.okv ∧ okvs l := by
  unfold okvs Term.okv
  simp only [partss, List.mem_append]
  exact ⟨fun h => ⟨fun p hp => h p (.inl hp), fun p hp => h p (.inr hp)⟩, fun h p hp => hp.elim (h.1 p) (h.2 p)⟩
theorem okv_self {t : Term} (h : t.okv) : (t.kind = 1 → t.kids = []) ∧ (t.kind = 4 → ∀ q ∈ partss t.kids, q.kind ≠ 1) := h t (by rw [t.parts_kids]; simp)
theorem alone_okv {t : Term} {lv : Int} (h : t.parts.all (alone lv) = true) : t.okv := by
  intro p hp
  have ha := List.all_eq_true.1 h p hp
  constructor
  · intro hk
    simp only [alone, hk] at ha
    simp at ha
    exact ha.2
  · intro hk q hq hq1
    unfold alone at ha
    rw [hk] at ha
    simp only [show ((4 : Int) == 1) = false from rfl, show ((4 : Int) == 2) = false from rfl, show ((4 : Int) == 3) = false from rfl, show ((4 : Int) == 4) = true from rfl, cond_false, cond_true, Bool.and_eq_true] at ha
    obtain ⟨⟨_, h1⟩, h2⟩ := ha
    have hkl : p.kids.length = 1 := by have := beq_iff_eq.1 h1; omega
    match hks : p.kids, hkl with
    | [a], _ =>
      rw [hks] at h2 hq
      simp [partss] at hq
      have hv : a.vars = [] := by simpa using h2
      exact vars_nil.1 hv q hq hq1
def St.okv (s : St) : Prop := ∀ n u, s.at n = some u → u.okv
theorem walk_okv {s : St} (hs : s.okv) : ∀ (n : Nat) (t : Term), t.okv → (s.walk n t).okv
  | 0, t, h => h
  | n + 1, t, h => by
    cases hl : s.look t with
    | none => rw [walk_stop hl]; exact h
    | some u =>
      rw [walk_nx hl]
      have hk := (look_some hl).1
      rw [look_at, if_pos hk] at hl
      exact walk_okv hs n u (hs _ _ hl)
theorem bind_okv {s : St} (hs : s.okv) {v : Int} {t : Term} (ht : t.okv) : (s.bind v t).1.okv := by
  rcases bind_cases s v t with ⟨e, _⟩ | ⟨h0, h1, hv, hh, h2, e⟩
  · rw [e]; exact hs
  · intro n u hn
    rw [bind_at h2] at hn
    split at hn
    · cases hn; exact ht
    · exact hs n u hn
theorem reach_walk {s : St} {k : Int} (hk : s.at k = none) : ∀ (n : Nat) (t : Term), (∃ u ∈ t.live, Reach s k u) ↔ ∃ u ∈ (s.walk n t).live, Reach s k u
  | 0, t => Iff.rfl
  | n + 1, t => by
    cases hl : s.look t with
    | none => rw [walk_stop hl]
    | some u =>
      rw [walk_nx hl, ← reach_walk hk n u]
      have h1 := (look_some hl).1
      have hat := hl
      rw [look_at, if_pos h1] at hat
      rw [t.live_eq, if_pos h1]
      simp only [List.mem_singleton, exists_eq_left]
      exact reach_bound hk hat
mutual
theorem fil_none {s : St} : ∀ (x t : Term), Fil s t x → (∀ p ∈ t.parts, p.kind ≠ 1) → ∀ q ∈ x.parts, q.kind ≠ 1
  | .node k n nm xs, t, h, ht, q, hq => by
    have hw : s.wk t = t := wk_none (by rw [look_at, if_neg (ht t (by rw [t.parts_kids]; simp))])
    cases h with
    | mk h =>
      rw [hw] at h hq
      rw [Term.parts] at hq
      rcases List.mem_cons.1 hq with rfl | hq
      · exact ht t (by rw [t.parts_kids]; simp)
      · exact fils_none xs _ h (fun p hp => ht p (by rw [t.parts_kids]; exact List.mem_cons_of_mem _ hp)) q hq
theorem fils_none {s : St} : ∀ (xs ts : List Term), Fils s ts xs → (∀ p ∈ partss ts, p.kind ≠ 1) → ∀ q ∈ partss xs, q.kind ≠ 1
  | [], ts, h, ht, q, hq => by simp [partss] at hq
  | x :: xs, ts, h, ht, q, hq => by
    cases h with
    | @cons t _ ts _ h hs =>
      rw [partss] at hq
      simp only [partss, List.mem_append] at ht
      rcases List.mem_append.1 hq with hq | hq
      · exact fil_none x t h (fun p hp => ht p (.inl hp)) q hq
      · exact fils_none xs ts hs (fun p hp => ht p (.inr hp)) q hq
end
mutual
/-- What occurs in a term is in what it is full. -/
theorem fil_occ {s : St} {k : Int} (hk : s.at k = none) (hE : ∀ t, s.look (s.wk t) = none) (hs : s.okv) : ∀ (x t : Term), Fil s t x → t.okv → ((∃ p ∈ x.parts, p.kind = 1 ∧ p.num = k) ↔ ∃ u ∈ t.live, Reach s k u)
  | .node k' n nm xs, t, h, ht => by
    have hw : (∃ u ∈ t.live, Reach s k u) ↔ ∃ u ∈ (s.wk t).live, Reach s k u := reach_walk hk _ t
    have hwo : (s.wk t).okv := walk_okv hs _ t ht
    have hl := hE t
    rw [hw, (s.wk t).live_eq]
    cases h with
    | mk h =>
      rw [Term.parts]
      by_cases k1 : (s.wk t).kind = 1
      · rw [look_at, if_pos k1] at hl
        have hks := (okv_self hwo).1 k1
        rw [hks] at h
        cases h
        rw [if_pos k1]
        constructor
        · rintro ⟨p, hp, _, hp2⟩
          simp only [partss, List.mem_singleton] at hp
          subst hp
          exact ⟨_, List.mem_singleton.2 rfl, (reach_free hl).2 hp2⟩
        · rintro ⟨u, hu, hr⟩
          simp only [List.mem_singleton] at hu
          subst hu
          exact ⟨_, List.mem_cons_self .., k1, (reach_free hl).1 hr⟩
      · rw [if_neg k1]
        by_cases k4 : (s.wk t).kind = 4
        · rw [if_pos k4]
          have hn := fils_none xs _ h ((okv_self hwo).2 k4)
          constructor
          · rintro ⟨p, hp, hp1, _⟩
            rcases List.mem_cons.1 hp with rfl | hp
            · exact absurd hp1 k1
            · exact absurd hp1 (hn p hp)
          · rintro ⟨u, hu, _⟩; cases hu
        · rw [if_neg k4, ← fils_occ hk hE hs xs _ h (okv_kids hwo)]
          constructor
          · rintro ⟨p, hp, hp1, hp2⟩
            rcases List.mem_cons.1 hp with rfl | hp
            · exact absurd hp1 k1
            · exact ⟨p, hp, hp1, hp2⟩
          · rintro ⟨p, hp, hh⟩; exact ⟨p, List.mem_cons_of_mem _ hp, hh⟩
theorem fils_occ {s : St} {k : Int} (hk : s.at k = none) (hE : ∀ t, s.look (s.wk t) = none) (hs : s.okv) : ∀ (xs ts : List Term), Fils s ts xs → okvs ts → ((∃ p ∈ partss xs, p.kind = 1 ∧ p.num = k) ↔ ∃ u ∈ lives ts, Reach s k u)
  | [], ts, h, ht => by cases h; simp [partss, lives]
  | x :: xs, ts, h, ht => by
    cases h with
    | @cons t _ ts _ h hs' =>
      obtain ⟨ht1, ht2⟩ := okvs_cons.1 ht
      have e1 := fil_occ hk hE hs x t h ht1
      have e2 := fils_occ hk hE hs xs ts hs' ht2
      simp only [partss, lives, List.mem_append]
      constructor
      · rintro ⟨p, hp | hp, hh⟩
        · obtain ⟨u, hu, hr⟩ := e1.1 ⟨p, hp, hh⟩; exact ⟨u, .inl hu, hr⟩
        · obtain ⟨u, hu, hr⟩ := e2.1 ⟨p, hp, hh⟩; exact ⟨u, .inr hu, hr⟩
      · rintro ⟨u, hu | hu, hr⟩
        · obtain ⟨p, hp, hh⟩ := e1.2 ⟨u, hu, hr⟩; exact ⟨p, .inl hp, hh⟩
        · obtain ⟨p, hp, hh⟩ := e2.2 ⟨u, hu, hr⟩; exact ⟨p, .inr hp, hh⟩
end
theorem occ_has {s : St} {B : Nat} (hs : s.Ok B) (ho : s.okv) {k : Int} (hk : s.at k = none) {t x : Term} (ht : t.okv) (h : Fil s t x) : s.has k t = decide (k ∈ x.vars) := by
  obtain ⟨r, hr⟩ := hs.ranked
  have h1 := has_spec hr hk t
  have h2 := fil_occ hk hs.ends ho x t h ht
  have h3 := mem_vars k x
  rw [Bool.eq_iff_iff, h1, ← h2, ← h3]; simp
end Go.Proofs.Ythpiggjclhnkcaa.AM
