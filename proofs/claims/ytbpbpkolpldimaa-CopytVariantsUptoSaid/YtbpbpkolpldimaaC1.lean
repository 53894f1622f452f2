/- Plain laws of copies. -/
import Derived.Test.YtbpbpkolpldimaaC0
import Derived.Test.YtbpbpkolpldimaaP1
namespace Go.Proofs.Ytbpbpkolpldimaa.AM
open Go
set_option linter.unusedVariables false
set_option linter.unusedSimpArgs false
theorem shift_zero {t : Term} (h : t.fits) : t.shift 0 = t := by
  rw [put_shift]
  refine put_id t fun p hp hk => ?_
  have := fit_num (fits_parts t h p hp)
  show IntKind.i64.wrap (p.num + 0) = p.num
  rw [Int.add_zero]; exact wrap64 this.1 this.2
theorem shift_novar {t : Term} (h : ∀ p ∈ t.parts, p.kind ≠ 1) (d : Int) : t.shift d = t := by
  rw [put_shift]; exact put_id t fun p hp hk => absurd hk (h p hp)
theorem norm_novar {t : Term} (h : ∀ p ∈ t.parts, p.kind ≠ 1) : t.norm = t := put_id t fun p hp hk => absurd hk (h p hp)
/-- All variables are below 12. -/
def Term.lowB (t : Term) : Bool := t.vars.all fun n => decide (n < 12)
theorem low_no {t : Term} {i : Nat} (hi : i < t.vars.length) (h : 12 ≤ t.vars[i]) : t.lowB = false := by
  cases hb : t.lowB with
  | false => rfl
  | true => have := List.all_eq_true.1 hb _ (List.getElem_mem hi); simp at this; omega
def lowP (t : Term) : Prop := ∀ p ∈ t.parts, p.kind = 1 → p.num < 12
theorem low_iff {t : Term} : t.lowB = true ↔ lowP t := by
  unfold Term.lowB lowP
  rw [List.all_eq_true]
  constructor
  · intro h p hp hk; have := h p.num ((mem_vars _ _).2 ⟨p, hp, hk, rfl⟩); simpa using this
  · intro h x hx; obtain ⟨p, hp, hk, rfl⟩ := (mem_vars x t).1 hx; simpa using h p hp hk
theorem alone_pos {t : Term} {lv : Int} (h : t.parts.all (alone lv) = true) : ∀ p ∈ t.parts, p.kind = 1 → 0 ≤ p.num := by
  intro p hp hk
  have ha := List.all_eq_true.1 h p hp
  simp only [alone, hk] at ha
  simp at ha
  omega
theorem cfresh_ok {s : St} {t : Term} {n : Int} (h0 : 0 ≤ n) (h1 : (s.cs.length : Int) + n ≤ 4096) : cfreshT s t n = (t.shift (s.cs.length : Int), 0) := by
  unfold cfreshT; rw [fresh_ok h0 h1]; rfl
theorem fresh_cs0 (s : St) (h : s.cs.length ≤ 4096) : (s.fresh 0).1.cs = s.cs := by
  rw [fresh_ok (by omega) (by omega)]; simp
theorem e0_len (v : Int) (h0 : 0 ≤ v) (h1 : v ≤ 4096) : ((e0.fresh v).1.cs.length : Int) = v := by
  rw [fresh_len h0 (by show ((0 : Nat) : Int) + v ≤ 4096; omega)]; simp [e0]

/-! All bound to a number. -/
def nums (n : Int) : Term := .node 2 n ⟨#[]⟩ []
mutual
theorem fil_nums {s : St} {B : Nat} (hs : s.Ok B) {n : Int} (hn : ∀ j : Int, 0 ≤ j → j < 12 → s.at j = some (nums n)) : ∀ (t : Term), t.okv → (∀ p ∈ t.parts, p.kind = 1 → 0 ≤ p.num ∧ p.num < 12) →
    ∃ x, Fil s t x ∧ x.size = t.size ∧ x.deep = t.deep ∧ ∀ p ∈ x.parts, p.kind ≠ 1
  | .node k m nm ks, ho, hv => by
    by_cases hk : k = 1
    · subst hk
      have hks : ks = [] := (okv_self ho).1 rfl
      subst hks
      have h1 := hv (.node 1 m nm []) (by simp [Term.parts]) rfl
      have hl : s.look (.node 1 m nm []) = some (nums n) := by rw [look_at]; exact hn m h1.1 h1.2
      have hw : s.wk (.node 1 m nm []) = nums n := by rw [wk_look hs hl]; exact wk_none (by rw [look_at]; rfl)
      have := Fil.mk (s := s) (t := .node 1 m nm []) (xs := []) (by rw [hw]; exact .nil)
      rw [hw] at this
      exact ⟨_, this, rfl, rfl, fun p hp => by simp [Term.parts, partss] at hp; subst hp; simp [nums, Term.kind]⟩
    · have hw : s.wk (.node k m nm ks) = .node k m nm ks := wk_none (by rw [look_at, if_neg (show ¬ (Term.node k m nm ks).kind = 1 from hk)])
      obtain ⟨xs, h1, h2, h3, h4⟩ := fils_nums hs hn ks (okv_kids ho) (fun p hp => hv p (by rw [Term.parts]; exact List.mem_cons_of_mem _ hp))
      have := Fil.mk (s := s) (t := .node k m nm ks) (xs := xs) (by rw [hw]; exact h1)
      rw [hw] at this
      refine ⟨_, this, by simp only [Term.size, h2], by simp only [Term.deep, h3], fun p hp => ?_⟩
      rw [Term.parts] at hp
      rcases List.mem_cons.1 hp with rfl | hp
      · exact hk
      · exact h4 p hp
theorem fils_nums {s : St} {B : Nat} (hs : s.Ok B) {n : Int} (hn : ∀ j : Int, 0 ≤ j → j < 12 → s.at j = some (nums n)) : ∀ (ts : List Term), okvs ts → (∀ p ∈ partss ts, p.kind = 1 → 0 ≤ p.num ∧ p.num < 12) →
    ∃ xs, Fils s ts xs ∧ sizes xs = sizes ts ∧ deeps xs = deeps ts ∧ ∀ p ∈ partss xs, p.kind ≠ 1
  | [], _, _ => ⟨[], .nil, rfl, rfl, fun p hp => by simp [partss] at hp⟩
  | t :: ts, ho, hv => by
    obtain ⟨o1, o2⟩ := okvs_cons.1 ho
    simp only [partss, List.mem_append] at hv
    obtain ⟨x, h1, h2, h3, h4⟩ := fil_nums hs hn t o1 (fun p hp => hv p (.inl hp))
    obtain ⟨xs, g1, g2, g3, g4⟩ := fils_nums hs hn ts o2 (fun p hp => hv p (.inr hp))
    refine ⟨x :: xs, .cons h1 g1, by simp only [sizes, h2, g2], by simp only [deeps, h3, g3], fun p hp => ?_⟩
    rw [partss] at hp
    rcases List.mem_append.1 hp with hp | hp
    · exact h4 p hp
    · exact g4 p hp
end
theorem copy_nums {s : St} {B : Nat} (hs : s.Ok B) {n : Int} (hn : ∀ j : Int, 0 ≤ j → j < 12 → s.at j = some (nums n)) (hl : s.cs.length = 12) {t : Term} (hc : t.check 16 = 0) (hlow : t.lowB = true) :
    ∃ x, s.full t = (x, 0) ∧ copyT s t = (x, 0) ∧ copyS s t = (s.fresh 0).1 ∧ x.vars = [] := by
  obtain ⟨c1, c2, c3⟩ := check_zero.1 hc
  have hlp := low_iff.1 hlow
  have hpos := alone_pos c3
  obtain ⟨x, h1, h2, h3, h4⟩ := fil_nums hs hn t (alone_okv c3) (fun p hp hk => ⟨hpos p hp hk, hlp p hp hk⟩)
  have hf := full_of h1 (by omega) (by omega)
  have hv := vars_nil.2 h4
  refine ⟨x, hf, ?_, ?_, hv⟩
  · unfold copyT
    rw [hf]
    simp only [if_true, hv, List.length_nil, norm_novar h4]
    rw [cfresh_ok (by omega) (by omega), shift_novar h4]
  · unfold copyS
    rw [hf]
    simp only [if_true, hv, List.length_nil]
    rfl

/-! What stands behind all that there was changes nothing. -/
def St.lowS (s : St) : Prop := ∀ n u, s.at n = some u → lowP u
theorem bind_lowS {s : St} (hs : s.lowS) {v : Int} {t : Term} (ht : lowP t) : (s.bind v t).1.lowS := by
  rcases bind_cases s v t with ⟨e, _⟩ | ⟨h0, h1, hv, hh, h2, e⟩
  · rw [e]; exact hs
  · intro n u hn
    rw [bind_at h2] at hn
    split at hn
    · cases hn; exact ht
    · exact hs n u hn
theorem lowP_self {t : Term} (h : lowP t) (hk : t.kind = 1) : t.num < 12 := h t (by rw [t.parts_kids]; simp) hk
theorem walk_low {s s' : St} (hs : s.lowS) (ha : ∀ j : Int, j < 12 → s'.at j = s.at j) : ∀ (n : Nat) (t : Term), lowP t → s'.walk n t = s.walk n t ∧ lowP (s.walk n t)
  | 0, t, h => ⟨rfl, h⟩
  | n + 1, t, h => by
    have e : s'.look t = s.look t := by
      rw [look_at, look_at]
      by_cases hk : t.kind = 1
      · rw [if_pos hk, if_pos hk, ha _ (lowP_self h hk)]
      · rw [if_neg hk, if_neg hk]
    cases hl : s.look t with
    | none => rw [walk_stop hl, walk_stop (by rw [e, hl])]; exact ⟨rfl, h⟩
    | some u =>
      rw [walk_nx hl, walk_nx (by rw [e, hl])]
      refine walk_low hs ha n u ?_
      have hk := (look_some hl).1
      rw [look_at, if_pos hk] at hl
      exact hs _ _ hl
theorem wk_low {s s' : St} {B B' : Nat} (ho : s.Ok B) (ho' : s'.Ok B') (hs : s.lowS) (ha : ∀ j : Int, j < 12 → s'.at j = s.at j) {t : Term} (h : lowP t) : s'.wk t = s.wk t ∧ lowP (s.wk t) := by
  obtain ⟨h1, h2⟩ := walk_low hs ha (s.cs.length + 1) t h
  refine ⟨?_, h2⟩
  have hend : s'.look (s'.walk (s.cs.length + 1) t) = none := by
    rw [h1]
    have := ho.ends t
    show s'.look (s.wk t) = none
    rw [← this, look_at, look_at]
    by_cases hk : (s.wk t).kind = 1
    · rw [if_pos hk, if_pos hk]; exact ha _ (lowP_self h2 hk)
    · rw [if_neg hk, if_neg hk]
  rw [wk_eq ho' hend, h1]; rfl
mutual
theorem fil_low {s s' : St} {B B' : Nat} (ho : s.Ok B) (ho' : s'.Ok B') (hs : s.lowS) (ha : ∀ j : Int, j < 12 → s'.at j = s.at j) : ∀ (x t : Term), Fil s t x → lowP t → Fil s' t x
  | .node k n nm xs, t, h, hl => by
    obtain ⟨e1, e2⟩ := wk_low ho ho' hs ha hl
    cases h with
    | mk h =>
      have := Fil.mk (s := s') (t := t) (xs := xs) (by rw [e1]; exact fils_low ho ho' hs ha xs _ h (fun p hp => e2 p (by rw [(s.wk t).parts_kids]; exact List.mem_cons_of_mem _ hp)))
      rw [e1] at this; exact this
theorem fils_low {s s' : St} {B B' : Nat} (ho : s.Ok B) (ho' : s'.Ok B') (hs : s.lowS) (ha : ∀ j : Int, j < 12 → s'.at j = s.at j) : ∀ (xs ts : List Term), Fils s ts xs → (∀ p ∈ partss ts, p.kind = 1 → p.num < 12) → Fils s' ts xs
  | [], ts, h, hl => by cases h; exact .nil
  | x :: xs, ts, h, hl => by
    cases h with
    | @cons t _ ts _ h hs' =>
      simp only [partss, List.mem_append] at hl
      exact .cons (fil_low ho ho' hs ha x t h (fun p hp => hl p (.inl hp))) (fils_low ho ho' hs ha xs ts hs' (fun p hp => hl p (.inr hp)))
end
/-- A copy of what is full. -/
theorem copy_ok {s : St} {t : Term} (hl : s.cs.length = 12) (h : (s.full t).2 = 0) (hz : (s.full t).1.size ≤ 1000) :
    copyT s t = ((s.full t).1.norm.shift 12, 0) ∧ copyS s t = (s.fresh ((s.full t).1.vars.length : Nat)).1 := by
  have hv := vars_size (s.full t).1
  unfold copyT copyS
  rw [if_pos h, if_pos h, cfresh_ok (by omega) (by omega), hl]
  exact ⟨rfl, rfl⟩
theorem copy_bad {s : St} {t : Term} (h : (s.full t).2 ≠ 0) : (copyT s t).2 = (s.full t).2 := by unfold copyT; rw [if_neg h]
theorem copy_vars {x : Term} (hs : x.size ≤ 1000) : (x.norm.shift 12).vars = (ups x.vars.length).map (fun n => n + 12) := by
  have hv := vars_size x
  have hw : ∀ z ∈ x.norm.vars, IntKind.i64.wrap (z + 12) = z + 12 := fun z hz => by
    rw [norm_vars] at hz
    obtain ⟨i, hi, rfl⟩ := List.getElem_of_mem hz
    rw [ups_get]
    rw [ups_len] at hi
    exact wrap64 (by omega) (by omega)
  rw [put_shift, vars_put, norm_vars]
  · rw [norm_vars] at hw
    exact List.map_congr_left hw
  · intro a ha b hb e
    simp only [hw a ha, hw b hb] at e
    omega
end Go.Proofs.Ytbpbpkolpldimaa.AM
