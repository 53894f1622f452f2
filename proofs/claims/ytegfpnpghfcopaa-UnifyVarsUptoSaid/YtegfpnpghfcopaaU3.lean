/- Terms made one: what the laws ask. -/
import Derived.Test.YtegfpnpghfcopaaU1
import Derived.Test.YtegfpnpghfcopaaU2
namespace Go.Proofs.Ytegfpnpghfcopaa.AM
open Go
set_option linter.unusedVariables false
set_option linter.unusedSimpArgs false
set_option linter.unusedSectionVars false
def sv : St := (e0.fresh 12).1
theorem sv_at (n : Int) : sv.at n = none := by
  show (e0.fresh 12).1.at n = none
  rw [fresh_at]; simp [St.at, e0]
theorem sv_ok : sv.Ok (2 ^ 20) := e0_ok.fresh 12
theorem sv_sg (k : Nat) : Sg k sv := ⟨sv_ok, fun n u h => by rw [sv_at] at h; cases h⟩
theorem sv_tr : sv.tr.length = 0 := by decide +kernel
theorem sv_len : sv.cs.length = 12 := by decide +kernel
def mayB (t : Term) : Bool := t.vars.all (fun v => decide (v < 12)) && (decide ((t.size : Int) ≤ 200) && (t.check 9 == 0))
theorem may_gd {t : Term} (h : mayB t = true) (hb : t.bulk ≤ 2 ^ 20) : Gd 8 t := by
  unfold mayB at h
  simp only [Bool.and_eq_true, beq_iff_eq] at h
  exact ⟨(check_zero.1 h.2.2).2.2, hb⟩
theorem may_no {t : Term} {i : Nat} (h : i < t.vars.length) (hv : 12 ≤ t.vars[i]) : mayB t = false := by
  unfold mayB
  rw [Bool.and_eq_false_iff]; left
  rw [List.all_eq_false]
  exact ⟨t.vars[i], List.getElem_mem h, by simp; omega⟩
theorem un_eq (l : Lt) (s : St) (a b : Term) : matchS l s [a] [b] = mt l 2000 s l.bottom [(a, b)] := by unfold matchS; rw [if_pos (by rfl)]; rfl
theorem un2_eq (l : Lt) (s : St) (a b c d : Term) : matchS l s [a, b] [c, d] = mt l 2000 s l.bottom [(a, c), (b, d)] := by unfold matchS; rw [if_pos (by rfl)]; rfl
theorem mt_err {l : Lt} : ∀ (m : Nat) (s : St) (lv : Int) (ps : List (Term × Term)), ((mt l m s lv ps).2.1 = true → (mt l m s lv ps).2.2.2 = 0) ∧ ((mt l m s lv ps).2.2.2 = 0 ∨ (mt l m s lv ps).2.2.2 = 3)
  | m, s, lv, [] => by rw [mt_nil]; exact ⟨fun _ => rfl, .inl rfl⟩
  | 0, s, lv, p :: ps => ⟨fun h => (by cases h), .inr rfl⟩
  | m + 1, s, lv, (a, b) :: ps => by
    simp only [mt]
    rcases hq : mone l s lv a b with ⟨s', lv', q⟩
    cases q with
    | none => exact ⟨fun h => (by cases h), .inl rfl⟩
    | some q => exact mt_err m s' lv' (q ++ ps)
theorem mt_mono {l : Lt} : ∀ (m : Nat) (s : St) (lv : Int) (ps : List (Term × Term)), (mt l m s lv ps).2.2.2 ≠ 3 → mt l (m + 1) s lv ps = mt l m s lv ps
  | m, s, lv, [], _ => by rw [mt_nil, mt_nil]
  | 0, s, lv, p :: ps, h => absurd rfl h
  | m + 1, s, lv, (a, b) :: ps, h => by
    rcases hq : mone l s lv a b with ⟨s', lv', q⟩
    cases q with
    | none => simp only [mt, hq]
    | some q =>
      have e : ∀ m, mt l (m + 1) s lv ((a, b) :: ps) = mt l m s' lv' (q ++ ps) := fun m => by simp only [mt, hq]
      rw [e] at h
      rw [e (m + 1), e m]
      exact mt_mono m s' lv' (q ++ ps) h
section
variable {k : Nat} (hk : k < 16)
include hk
omit hk in
theorem ps_one {a b : Term} (ga : Gd k a) (gb : Gd k b) : Ps k [(a, b)] := fun p hp => by
  simp at hp; rw [hp]; exact ⟨ga, gb⟩
theorem un_good {s : St} {a b : Term} (hs : Sg k s) (ga : Gd k a) (gb : Gd k b) : Sg k (matchS (C k) s [a] [b]).1 ∧ Ext s (matchS (C k) s [a] [b]).1 := by
  rw [un_eq]; exact mt_good hk _ _ _ _ hs (ps_one ga gb)
theorem un_same {s : St} {a b : Term} (hs : Sg k s) (ga : Gd k a) (gb : Gd k b) (h : (matchS (C k) s [a] [b]).2.1 = true) : EqA (matchS (C k) s [a] [b]).1 a b := by
  rw [un_eq] at h ⊢; exact mt_sound hk _ _ _ _ hs (ps_one ga gb) h (a, b) (by simp)
theorem un_again {s : St} {a b : Term} (hs : Sg k s) (ga : Gd k a) (gb : Gd k b) (h : EqE s a b) : (matchS (C k) s [a] [b]).1 = s ∧ ((matchS (C k) s [a] [b]).2.1 = true ∨ (matchS (C k) s [a] [b]).2.2.2 = 3) := by
  rw [un_eq]; exact mt_again hk _ _ _ _ hs (ps_one ga gb) fun p hp => by simp at hp; rw [hp]; exact h
omit hk in
theorem un_err {s : St} {a b : Term} : ((matchS (C k) s [a] [b]).2.1 = true → (matchS (C k) s [a] [b]).2.2.2 = 0) ∧ ((matchS (C k) s [a] [b]).2.2.2 = 0 ∨ (matchS (C k) s [a] [b]).2.2.2 = 3) := by
  rw [un_eq]; exact mt_err _ _ _ _
theorem un_lo {a b : Term} (ga : Gd k a) (gb : Gd k b) : (C k).leq (matchS (C k) sv [a] [b]).2.2.1 ((C k).join (a.sj (C k)) (b.sj (C k))) = true := by
  have ra := sj_rng hk a
  have rb := sj_rng hk b
  rw [C_join hk ra.1 ra.2 rb.1 rb.2, C_leq hk, decide_eq_true_eq, un_eq, C_bot hk]
  have := mt_lo hk (J := max (a.sj (C k)) (b.sj (C k))) (by omega) 2000 sv 0 [(a, b)] (sv_sg k) (ps_one ga gb) ⟨fun n u h => by rw [sv_at] at h; cases h⟩
    (fun p hp => by simp at hp; rw [hp]; exact ⟨by show a.sj (C k) ≤ _; omega, by show b.sj (C k) ≤ _; omega⟩) (Int.le_refl _) (by omega)
  exact ⟨this.1, this.2, by omega⟩
/-- Made one and full: one and the same, erased; made one again nothing is bound. -/
theorem un_full {s : St} {a b : Term} (hs : Sg k s) (ga : Gd k a) (gb : Gd k b) (h : (matchS (C k) s [a] [b]).2.1 = true) (hx : ((matchS (C k) s [a] [b]).1.full a).2 = 0) (hy : ((matchS (C k) s [a] [b]).1.full b).2 = 0) :
    ((matchS (C k) s [a] [b]).1.full a).1.erase = ((matchS (C k) s [a] [b]).1.full b).1.erase ∧ EqE (matchS (C k) s [a] [b]).1 a b := by
  obtain ⟨g, _⟩ := un_good hk hs ga gb
  have fx := (full_spec g.ok.small ga.bulk hx).1
  have fy := (full_spec g.ok.small gb.bulk hy).1
  have e := un_same hk hs ga gb h _ _ fx fy
  exact ⟨e, _, _, fx, fy, e⟩

/-! A variable and a term. -/
omit hk in
theorem wk_sv (t : Term) : sv.wk t = t := wk_none (by rw [look_at]; split <;> first | exact sv_at _ | rfl)
theorem un_var {v : Int} {t : Term} (h0 : 0 ≤ v) (h1 : v < 12) (gt : Gd k t) :
    matchS (C k) sv [lets v] [t] = if t.kind = 1 ∧ t.num = v then (sv, true, 0, 0) else if sv.has v t = true then (sv, false, 0, 0) else ((sv.bind v t).1, true, 0, 0) := by
  rw [un_eq, C_bot hk]
  have e : mone (C k) sv 0 (lets v) t = if t.kind = 1 ∧ t.num = v then (sv, 0, some []) else ((sv.bind v t).1, 0, if (sv.bind v t).2 = 0 then some [] else none) := by
    unfold mone
    rw [wk_sv, wk_sv]
    unfold mwk
    have k1 : (lets v).kind = 1 := rfl
    have n1 : (lets v).num = v := rfl
    rw [k1, n1]
    by_cases hc : t.kind = 1 ∧ t.num = v
    · rw [if_pos ⟨rfl, hc.1, hc.2.symm⟩, if_pos hc]
    · rw [if_neg (fun hh => hc ⟨hh.2.1, hh.2.2.symm⟩), if_neg hc, if_pos rfl]
  rw [show (2000 : Nat) = 1999 + 1 from rfl]
  simp only [mt, e]
  by_cases hc : t.kind = 1 ∧ t.num = v
  · rw [if_pos hc, if_pos hc]; simp only [List.nil_append, mt_nil]
  · rw [if_neg hc, if_neg hc]
    by_cases hh : sv.has v t = true
    · rw [if_pos hh]
      rcases bind_cases sv v t with ⟨e1, e2⟩ | ⟨_, _, _, e3, _⟩
      · simp only [if_neg e2, e1]
      · rw [hh] at e3; cases e3
    · rw [if_neg hh]
      obtain ⟨e1, _⟩ := bind_free (s := sv) h0 (by rw [sv_len]; exact h1) (sv_at v) (by simpa using hh)
      simp only [if_pos e1, List.nil_append, mt_nil]
omit hk in
theorem bind_mark {v : Int} {t : Term} (h0 : 0 ≤ v) (h1 : v < 12) (hh : sv.has v t = false) : (sv.bind v t).1.tr.length = 1 := by
  obtain ⟨_, e⟩ := bind_free (s := sv) h0 (by rw [sv_len]; exact h1) (sv_at v) hh
  rw [e]
  show (sv.tr ++ [v]).length = 1
  rw [List.length_append, sv_tr]; rfl

/-! Lists, and names of them. -/
theorem un_names {s : St} {a b c d : Term} {nm : ByteArray} (h : (matchS (C k) s [.node 3 0 nm [a, b]] [.node 3 0 nm [c, d]]).2.2.2 = 0) :
    matchS (C k) s [.node 3 0 nm [a, b]] [.node 3 0 nm [c, d]] = matchS (C k) s [a, b] [c, d] := by
  rw [un_eq] at h ⊢
  rw [un2_eq]
  have e : mone (C k) s (C k).bottom (.node 3 0 nm [a, b]) (.node 3 0 nm [c, d]) = (s, (C k).bottom, some [(a, c), (b, d)]) := by
    unfold mone
    rw [wk_kind (t := .node 3 0 nm [a, b]) (by show (3 : Int) ≠ 1; decide), wk_kind (t := .node 3 0 nm [c, d]) (by show (3 : Int) ≠ 1; decide)]
    unfold mwk
    have k1 : ∀ xs, (Term.node 3 0 nm xs).kind = 3 := fun _ => rfl
    rw [k1, k1, if_neg (fun hh => absurd hh.1 (by decide)), if_neg (by decide), if_neg (by decide), sopen_no (by rw [k1]; decide), sopen_no (by rw [k1]; decide)]
    have : (C k).join (C k).bottom ((C k).join (C k).bottom (C k).bottom) = (C k).bottom := by
      rw [C_bot hk, C_join hk (Int.le_refl _) (by omega) (Int.le_refl _) (by omega), show max (0 : Int) 0 = 0 from rfl, C_join hk (Int.le_refl _) (by omega) (Int.le_refl _) (by omega)]; rfl
    show (s, (C k).join (C k).bottom ((C k).join (C k).bottom (C k).bottom), meetT (.node 3 0 nm [a, b]) (.node 3 0 nm [c, d])) = _
    rw [this]
    have : meetT (.node 3 0 nm [a, b]) (.node 3 0 nm [c, d]) = some [(a, c), (b, d)] := by
      unfold meetT
      rw [k1, k1, if_neg (fun hh => absurd hh.1 (by decide)), if_pos ⟨rfl, rfl, rfl, rfl⟩]; rfl
    rw [this]
  have e2 : mt (C k) 2000 s (C k).bottom [(.node 3 0 nm [a, b], .node 3 0 nm [c, d])] = mt (C k) 1999 s (C k).bottom [(a, c), (b, d)] := by
    rw [show (2000 : Nat) = 1999 + 1 from rfl]
    simp only [mt, e]; rfl
  rw [e2] at h ⊢
  exact (mt_mono 1999 s _ _ (by rw [h]; decide)).symm

/-! The one in the other's place. -/
omit hk in
theorem zip_swap' {α : Type} : ∀ l m : List α, (l.zip m).map Prod.swap = m.zip l
  | [], m => by simp
  | _ :: _, [] => by simp
  | x :: l, y :: m => by rw [List.zip_cons_cons, List.zip_cons_cons, List.map_cons, zip_swap' l m]; rfl
omit hk in
theorem meet_swap (x y : Term) : meetT y x = (meetT x y).map fun q => q.map Prod.swap := by
  unfold meetT
  by_cases h1 : x.kind = 2 ∧ y.kind = 2 ∧ x.num = y.num
  · rw [if_pos h1, if_pos ⟨h1.2.1, h1.1, h1.2.2.symm⟩]; rfl
  · rw [if_neg h1, if_neg (fun hh => h1 ⟨hh.2.1, hh.1, hh.2.2.symm⟩)]
    by_cases h2 : x.kind = 3 ∧ y.kind = 3 ∧ x.name = y.name ∧ x.kids.length = y.kids.length
    · rw [if_pos h2, if_pos ⟨h2.2.1, h2.1, h2.2.2.1.symm, h2.2.2.2.symm⟩]
      rw [Option.map_some]
      congr 1
      exact (zip_swap' _ _).symm
    · rw [if_neg h2, if_neg (fun hh => h2 ⟨hh.2.1, hh.1, hh.2.2.1.symm, hh.2.2.2.symm⟩)]; rfl
def Gp (k : Nat) (ps : List (Term × Term)) : Prop := ∀ p ∈ ps, Gd k p.1 ∧ Gd k p.2 ∧ Gr p.1 ∧ Gr p.2
theorem gr_sopen {t x : Term} (h : Gd k t) (hg : Gr t) (hx : x ∈ (sopen (C k) t).1.kids) : Gr x := by
  unfold sopen at hx
  split at hx
  · obtain ⟨y, hy, rfl⟩ := puts4_mem (show x ∈ puts4 _ _ from hx)
    have := (gr_opn (k := k) hg (C k).bottom).kid hy
    intro p hp
    unfold putS at hp
    simp only [Term.parts, partss, List.append_nil, List.mem_cons] at hp
    rcases hp with rfl | hp
    · show (4 : Int) ≠ 1; decide
    · exact this p hp
  · exact hg.kid hx
theorem mt_swap : ∀ (m : Nat) (s : St) (lv : Int) (ps : List (Term × Term)), 0 ≤ lv → lv ≤ (k : Nat) → Gp k ps → mt (C k) m s lv (ps.map Prod.swap) = mt (C k) m s lv ps ∧ (mt (C k) m s lv ps).1 = s
  | m, s, lv, [], _, _, _ => by rw [List.map_nil, mt_nil]; exact ⟨rfl, rfl⟩
  | 0, s, lv, p :: ps, _, _, _ => ⟨rfl, rfl⟩
  | m + 1, s, lv, (a, b) :: ps, h0, h1, hp => by
    obtain ⟨ga, gb, ra, rb⟩ := hp (a, b) (by simp)
    have wa : s.wk a = a := wk_kind ra.self
    have wb : s.wk b = b := wk_kind rb.self
    have na := sopen_rng hk a
    have nb := sopen_rng hk b
    have ej : (C k).join lv ((C k).join (sopen (C k) b).2 (sopen (C k) a).2) = (C k).join lv ((C k).join (sopen (C k) a).2 (sopen (C k) b).2) := by
      rw [C_join hk na.1 na.2 nb.1 nb.2, C_join hk nb.1 nb.2 na.1 na.2, Int.max_comm]
    have er : 0 ≤ (C k).join lv ((C k).join (sopen (C k) a).2 (sopen (C k) b).2) ∧ (C k).join lv ((C k).join (sopen (C k) a).2 (sopen (C k) b).2) ≤ (k : Nat) := by
      rw [C_join hk na.1 na.2 nb.1 nb.2, C_join hk h0 h1 (by omega) (by omega)]; omega
    have e1 : mone (C k) s lv a b = (s, (C k).join lv ((C k).join (sopen (C k) a).2 (sopen (C k) b).2), meetT (sopen (C k) a).1 (sopen (C k) b).1) := by
      unfold mone mwk
      rw [wa, wb, if_neg (fun hh => ra.self hh.1), if_neg ra.self, if_neg rb.self]
    have e2 : mone (C k) s lv b a = (s, (C k).join lv ((C k).join (sopen (C k) a).2 (sopen (C k) b).2), (meetT (sopen (C k) a).1 (sopen (C k) b).1).map fun q => q.map Prod.swap) := by
      unfold mone mwk
      rw [wa, wb, if_neg (fun hh => ra.self hh.2.1), if_neg rb.self, if_neg ra.self, ej, meet_swap]
    rw [List.map_cons]
    show mt (C k) (m + 1) s lv ((b, a) :: _) = _ ∧ _
    simp only [mt, e1, e2]
    cases hq : meetT (sopen (C k) a).1 (sopen (C k) b).1 with
    | none => exact ⟨rfl, rfl⟩
    | some q =>
      simp only [Option.map_some]
      rw [← List.map_append]
      refine mt_swap m s _ (q ++ ps) er.1 er.2 fun p hp' => ?_
      rcases List.mem_append.1 hp' with h | h
      · unfold meetT at hq
        split at hq
        · cases hq; cases h
        · split at hq
          · cases hq
            exact ⟨gd_sopen hk ga (List.of_mem_zip h).1, gd_sopen hk gb (List.of_mem_zip h).2, gr_sopen hk ga ra (List.of_mem_zip h).1, gr_sopen hk gb rb (List.of_mem_zip h).2⟩
          · cases hq
      · exact hp p (by simp [h])
theorem un_swap {s : St} {a b : Term} (ga : Gd k a) (gb : Gd k b) (ra : Gr a) (rb : Gr b) : matchS (C k) s [b] [a] = matchS (C k) s [a] [b] ∧ (matchS (C k) s [a] [b]).1 = s := by
  rw [un_eq, un_eq, C_bot hk]
  exact mt_swap hk 2000 s 0 [(a, b)] (Int.le_refl _) (by omega) fun p hp => by simp at hp; rw [hp]; exact ⟨ga, gb, ra, rb⟩
end
mutual
theorem fil_refl {s : St} (h : ∀ n, s.at n = none) : ∀ t : Term, Fil s t t
  | .node kd n nm ks => by
    have e : s.wk (.node kd n nm ks) = .node kd n nm ks := wk_none (by rw [look_at]; split <;> first | exact h _ | rfl)
    have := Fil.mk (s := s) (t := .node kd n nm ks) (xs := ks) (by rw [e]; exact fils_refl h ks)
    rw [e] at this
    exact this
theorem fils_refl {s : St} (h : ∀ n, s.at n = none) : ∀ ts : List Term, Fils s ts ts
  | [] => .nil
  | t :: ts => .cons (fil_refl h t) (fils_refl h ts)
end
section
variable {k : Nat} (hk : k < 16)
include hk
theorem un_self {a : Term} (ga : Gd k a) : (matchS (C k) sv [a] [a]).1 = sv ∧ ((matchS (C k) sv [a] [a]).2.1 = true ∨ (matchS (C k) sv [a] [a]).2.2.2 = 3) :=
  un_again hk (sv_sg k) ga ga ⟨a, a, fil_refl sv_at a, fil_refl sv_at a, rfl⟩
theorem un_ground {a b : Term} (ga : Gd k a) (gb : Gd k b) (ra : Gr a) (rb : Gr b) (h : (matchS (C k) sv [a] [b]).2.2.2 = 0) : (matchS (C k) sv [a] [b]).2.1 = same a.erase b.erase := by
  have e := (un_swap hk (s := sv) ga gb ra rb).2
  rw [Bool.eq_iff_iff, same_iff]
  constructor
  · intro hi
    have := un_same hk (sv_sg k) ga gb hi
    rw [e] at this
    exact this a b (fil_refl sv_at a) (fil_refl sv_at b)
  · intro he
    rcases (un_again hk (sv_sg k) ga gb ⟨a, b, fil_refl sv_at a, fil_refl sv_at b, he⟩).2 with h1 | h1
    · exact h1
    · rw [h] at h1; cases h1
omit hk in
theorem term_ind0 {Q : Term → Prop} (hn : ∀ t : Term, (∀ x ∈ t.kids, Q x) → Q t) (t : Term) : Q t := by
  have key : ∀ (m : Nat) (t : Term), t.size ≤ m → Q t := by
    intro m
    induction m with
    | zero => intro t h; have := t.size_kids; omega
    | succ m ih => intro t h; have hS := t.size_kids; exact hn t fun x hx => ih x (by have := sizes_mem hx; omega)
  exact key t.size t (Nat.le_refl _)
omit hk in
theorem live_mem {x : Term} {l : List Term} {u : Int} (hx : x ∈ l) (hu : u ∈ x.live) : u ∈ lives l := by
  induction l with
  | nil => cases hx
  | cons y l ih =>
    rw [lives, List.mem_append]
    rcases List.mem_cons.1 hx with rfl | hx
    · exact .inl hu
    · exact .inr (ih hx)
omit hk in
theorem gr_live {t : Term} (h : Gr t) : t.live = [] := by
  have key : ∀ t : Term, Gr t → t.live = [] := by
    intro t
    induction t using term_ind0 with
    | hn t ih =>
      intro h
      rw [t.live_eq, if_neg h.self]
      split
      · rfl
      · have : ∀ l : List Term, (∀ x ∈ l, x ∈ t.kids) → lives l = [] := by
          intro l
          induction l with
          | nil => intro _; rfl
          | cons y l ih2 => intro hl; rw [lives, ih y (hl y (by simp)) (h.kid (hl y (by simp))), ih2 fun x hx => hl x (by simp [hx])]; rfl
        exact this t.kids fun x hx => hx
  exact key t h
omit hk in
theorem fil_kids {s : St} {r : Int → Nat} {n : Nat} {t : Term} (ho : s.Ok (2 ^ 20)) (ih : ∀ x ∈ t.kids, Gd k x → (∀ u ∈ x.live, r u < n) → ∃ y, Fil s x y) (gt : Gd k t) (hl : ∀ u ∈ t.live, r u < n) (h1 : t.kind ≠ 1) : ∃ x, Fil s t x := by
  have hk' : ∀ x ∈ t.kids, ∀ u ∈ x.live, r u < n := by
    intro x hx u hu
    by_cases h4 : t.kind = 4
    · obtain ⟨m, y, rfl, _, _, gy⟩ := gt.slt h4
      have : x = y := by simpa [Term.kids] using hx
      subst this
      rw [gr_live gy] at hu; cases hu
    · exact hl u (by rw [t.live_eq, if_neg h1, if_neg h4]; exact live_mem hx hu)
  have key : ∀ l : List Term, (∀ x ∈ l, x ∈ t.kids) → ∃ xs, Fils s l xs := by
    intro l
    induction l with
    | nil => intro _; exact ⟨[], .nil⟩
    | cons y l ih2 =>
      intro hy
      obtain ⟨x, hx⟩ := ih y (hy y (by simp)) (gt.kid (hy y (by simp))) (hk' y (hy y (by simp)))
      obtain ⟨xs, hxs⟩ := ih2 fun x hx => hy x (by simp [hx])
      exact ⟨x :: xs, .cons hx hxs⟩
  obtain ⟨xs, hxs⟩ := key t.kids fun x hx => hx
  have e : s.wk t = t := wk_kind h1
  have := Fil.mk (s := s) (t := t) (xs := xs) (by rw [e]; exact hxs)
  exact ⟨_, this⟩
/-- Each term is full, without bounds. -/
theorem fil_total {s : St} (hs : Sg k s) {r : Int → Nat} (hr : s.Ranked r) : ∀ (n : Nat) (t : Term), Gd k t → (∀ u ∈ t.live, r u < n) → ∃ x, Fil s t x := by
  intro n
  induction n with
  | zero =>
    -- no variables, but in seals
    intro t
    induction t using term_ind0 with
    | hn t ih =>
      intro gt hl
      exact fil_kids hs.ok ih gt hl (fun h1 => by have := hl t.num (by rw [t.live_eq, if_pos h1]; simp); omega)
  | succ n ihn =>
    intro t
    induction t using term_ind0 with
    | hn t ih =>
      intro gt hl
      by_cases h1 : t.kind = 1
      · cases ha : s.at t.num with
        | none =>
          have e : s.wk t = t := wk_none (by rw [look_at, if_pos h1]; exact ha)
          have kn : t.kids = [] := by rw [gt.var h1]; rfl
          have := Fil.mk (s := s) (t := t) (xs := []) (by rw [e, kn]; exact .nil)
          exact ⟨_, this⟩
        | some u =>
          obtain ⟨x, hx⟩ := ihn u (hs.gd _ _ ha) fun w hw => by
            have h2 := hr _ _ ha w hw
            have h3 := hl t.num (by rw [t.live_eq, if_pos h1]; simp)
            omega
          exact ⟨x, fil_wk (wk_look hs.ok (by rw [look_at, if_pos h1]; exact ha)).symm hx⟩
      · exact fil_kids hs.ok ih gt hl h1
end
section
variable {k : Nat} (hk : k < 16)
include hk
theorem mt_sound2 {t : St} (ht : t.Ok (2 ^ 20)) : ∀ (m : Nat) (s : St) (lv : Int) (ps : List (Term × Term)), Sg k s → Ps k ps → (mt (C k) m s lv ps).2.1 = true → Ext (mt (C k) m s lv ps).1 t → ∀ p ∈ ps, EqA t p.1 p.2
  | m, s, lv, [], _, _, _, _, p, hp => by cases hp
  | 0, s, lv, p :: ps, _, _, h, _, _, _ => by cases h
  | m + 1, s, lv, (a, b) :: ps, hs, hp, h, he, p, hpm => by
    obtain ⟨ha, hb⟩ := hp (a, b) (by simp)
    obtain ⟨h1, h2, h3⟩ := mone_good hk (lv := lv) hs ha hb
    simp only [mt] at h he
    rcases hq : mone (C k) s lv a b with ⟨s', lv', q⟩
    rw [hq] at h1 h2 h3 h he
    cases q with
    | none => cases h
    | some q =>
      have hps : Ps k (q ++ ps) := fun p hp' => by
        rcases List.mem_append.1 hp' with h | h
        · exact h3 q rfl p h
        · exact hp p (by simp [h])
      have ih := mt_sound2 ht m s' lv' (q ++ ps) h1 hps h he
      obtain ⟨g1, g2⟩ := mt_good hk m s' lv' (q ++ ps) h1 hps
      rcases List.mem_cons.1 hpm with rfl | hpm
      · have hext : Ext s t := (h2.trans g2).trans he
        have := mwk_sound hk hs (hs.wk ha) (hs.wk hb) hq (g2.trans he) ht (fun p hp => ih p (by simp [hp])) (hs.ok.ends a) (hs.ok.ends b)
        intro x y hx hy
        exact this x y ((ext_fil hext ht).2 hx) ((ext_fil hext ht).2 hy)
      · exact ih p (by simp [hpm])
theorem fil_all {s : St} (hs : Sg k s) {t : Term} (gt : Gd k t) : ∃ x, Fil s t x := by
  obtain ⟨r, hr⟩ := hs.ok.ranked
  exact fil_total hk hs hr (maxR r t.live + 1) t gt fun u hu => Nat.lt_succ_of_le (maxR_le hu)
theorem un_twice {s : St} {a b c : Term} (hs : Sg k s) (ga : Gd k a) (gb : Gd k b) (gc : Gd k c) (h1 : (matchS (C k) s [a] [b]).2.1 = true) (h2 : (matchS (C k) (matchS (C k) s [a] [b]).1 [b] [c]).2.1 = true) :
    EqE (matchS (C k) (matchS (C k) s [a] [b]).1 [b] [c]).1 a c := by
  obtain ⟨g1, _⟩ := un_good hk hs ga gb
  obtain ⟨g2, x2⟩ := un_good hk g1 gb gc
  have q2 := un_same hk g1 gb gc h2
  have q1 : EqA (matchS (C k) (matchS (C k) s [a] [b]).1 [b] [c]).1 a b := by
    rw [un_eq (C k) s a b] at h1 x2
    rw [un_eq (C k) s a b] at g2 ⊢
    exact mt_sound2 hk g2.ok _ _ _ _ hs (ps_one ga gb) h1 x2 (a, b) (by simp)
  obtain ⟨x, hx⟩ := fil_all hk g2 ga
  obtain ⟨y, hy⟩ := fil_all hk g2 gb
  obtain ⟨z, hz⟩ := fil_all hk g2 gc
  exact ⟨x, z, hx, hz, (q1 x y hx hy).trans (q2 y z hy hz)⟩
omit hk in
theorem lets_gd {v : Int} (h0 : 0 ≤ v) (h1 : v < 12) : Gd k (lets v) := by
  refine ⟨?_, by show 0 + 0 + 1 ≤ _; exact Nat.le_of_ble_eq_true rfl⟩
  show (alone _ (lets v) && true) = true
  have d1 : decide (v ≥ 0) = true := decide_eq_true h0
  have d2 : decide (v < 4096) = true := decide_eq_true (by omega)
  have e : (((⟨#[]⟩ : ByteArray).toList) == (⟨#[]⟩ : ByteArray).toList) = true := by simp
  show ((bif (1 : Int) == 1 then decide (v ≥ 0) && decide (v < 4096) && (((⟨#[]⟩ : ByteArray).toList) == (⟨#[]⟩ : ByteArray).toList) && ((([] : List Term).length : Int) == 0) else _) && true) = true
  rw [d1, d2, e]; rfl
omit hk in
theorem pair_gd {a b : Term} (ga : Gd k a) (gb : Gd k b) (hb : a.bulk + b.bulk + 2 ≤ 2 ^ 20) : Gd k (.node 3 0 ⟨#[102]⟩ [a, b]) := by
  refine ⟨?_, by show 1 + (a.bulk + (b.bulk + 0)) + 1 ≤ _; omega⟩
  rw [Term.parts, List.all_cons, partss, partss, partss, List.append_nil, List.all_append, ga.all, gb.all]; rfl
end
end Go.Proofs.Ytegfpnpghfcopaa.AM
