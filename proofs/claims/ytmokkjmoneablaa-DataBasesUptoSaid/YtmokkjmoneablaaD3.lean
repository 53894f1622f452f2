/- Plain laws of clauses. -/
import Derived.Test.YtmokkjmoneablaaD1
import Derived.Test.YtmokkjmoneablaaF3
namespace Go.Proofs.Ytmokkjmoneablaa.AM
open Go
set_option linter.unusedVariables false
set_option linter.unusedSimpArgs false
theorem neck_ncol : (neck.toList == ncol.toList) = false := by decide +kernel
theorem ncol_neck : (ncol.toList == neck.toList) = false := by decide +kernel
theorem two_node (s : ByteArray) (n : Int) (ks : List Term) (x : ByteArray) : (Term.node 3 n s ks).two x = ((s.toList == x.toList) && decide ((ks.length : Int) = 2)) := by
  unfold Term.two
  rw [show decide ((Term.node 3 n s ks).kind = 3) = true from rfl, Bool.true_and]
  rfl
theorem rule_two (h b : Term) : (Term.node 3 0 neck [h, b]).two neck = true := two_iff.2 ⟨rfl, rfl, rfl⟩
theorem rule_not (h b : Term) : (Term.node 3 0 neck [h, b]).two ncol = false := by rw [two_node, neck_ncol]; rfl
theorem parse_rule (l : Lt) (h b : Term) : parseL l (.node 3 0 neck [h, b]) = parse1 l.bottom (.node 3 0 neck [h, b]) := by
  rw [parse_out (rule_not h b), asRule_yes (rule_two h b)]
/-- How a rule's variables are counted. -/
def plc (h b : Term) : Int → Int := fun n => placeOf (Term.node 3 0 neck [h, b]).vars n 0
theorem rule_norm (h b : Term) : (Term.node 3 0 neck [h, b]).norm = .node 3 0 neck [h.put (plc h b), b.put (plc h b)] := by
  unfold Term.norm
  rw [put_eq]
  rfl
def condB (h : Term) : Bool := knownB h.name (h.kids.length : Int) || h.two neck || h.two ncol
theorem parse1_eq (lv : Int) (h b : Term) : parse1 lv (.node 3 0 neck [h, b]) = if h.kind ≠ 3 then (zeroCl, 9) else if condB h = true then (zeroCl, 6) else (⟨lv, h.put (plc h b), b.put (plc h b), ((Term.node 3 0 neck [h, b]).vars.length : Nat)⟩, 0) := by
  unfold parse1 parse2
  rw [rule_norm]
  rfl
theorem parse1_cases (lv : Int) (h b : Term) : ((parse1 lv (.node 3 0 neck [h, b])).2 ≠ 0 ∧ (parse1 lv (.node 3 0 neck [h, b])).1 = zeroCl) ∨
    (h.kind = 3 ∧ condB h = false ∧ parse1 lv (.node 3 0 neck [h, b]) = (⟨lv, h.put (plc h b), b.put (plc h b), ((Term.node 3 0 neck [h, b]).vars.length : Nat)⟩, 0)) := by
  rw [parse1_eq]
  by_cases hk : h.kind = 3
  · rw [if_neg (by simp [hk])]
    cases hc : condB h with
    | true => left; exact ⟨by simp, by simp⟩
    | false => right; exact ⟨hk, rfl, by simp⟩
  · rw [if_pos hk]; left; exact ⟨by simp, rfl⟩
theorem parse1_err (lv lv' : Int) (h b : Term) : (parse1 lv (.node 3 0 neck [h, b])).2 = (parse1 lv' (.node 3 0 neck [h, b])).2 := by
  rw [parse1_eq, parse1_eq]
  split
  · rfl
  · split <;> rfl
theorem parse_name (l : Lt) (s : ByteArray) (ks : List Term) : ((knownB s (ks.length : Int) || ((s.toList == neck.toList) && decide ((ks.length : Int) = 2)) || ((s.toList == ncol.toList) && decide ((ks.length : Int) = 2))) = true ∧ (parseL l (.node 3 0 neck [.node 3 0 s ks, trueT])).2 = 6) ∨
    ((knownB s (ks.length : Int) || ((s.toList == neck.toList) && decide ((ks.length : Int) = 2)) || ((s.toList == ncol.toList) && decide ((ks.length : Int) = 2))) = false ∧ (parseL l (.node 3 0 neck [.node 3 0 s ks, trueT])).2 = 0 ∧ (parseL l (.node 3 0 neck [.node 3 0 s ks, trueT])).1.head.name = s ∧ (parseL l (.node 3 0 neck [.node 3 0 s ks, trueT])).1.head.kids.length = ks.length) := by
  rw [parse_rule, parse1_eq, if_neg (show ¬ (Term.node 3 0 s ks).kind ≠ 3 from fun h => h rfl)]
  have hc : condB (.node 3 0 s ks) = (knownB s (ks.length : Int) || ((s.toList == neck.toList) && decide ((ks.length : Int) = 2)) || ((s.toList == ncol.toList) && decide ((ks.length : Int) = 2))) := by
    unfold condB; rw [two_node, two_node]; rfl
  rw [← hc]
  cases h : condB (.node 3 0 s ks) with
  | true => left; exact ⟨rfl, by simp⟩
  | false => right; exact ⟨rfl, by simp, by simp [Term.put, Term.name], by simp [Term.put, Term.kids, puts_len]⟩
theorem parse_level {k : Nat} (hk : k < 16) {n : Int} (h0 : 0 ≤ n) (h1 : n ≤ (k : Nat)) (h b : Term) : parseL (C k) (.node 3 0 ncol [.node 2 n ⟨#[]⟩ [], .node 3 0 neck [h, b]]) = parse1 n (.node 3 0 neck [h, b]) := by
  have hn := C_n hk
  have h2 : (Term.node 3 0 ncol [.node 2 n ⟨#[]⟩ [], .node 3 0 neck [h, b]]).two ncol = true := two_iff.2 ⟨rfl, rfl, rfl⟩
  have e := parse_in (l := C k) h2 (show 0 < 2 by decide) (show 1 < 2 by decide) rfl h0 (show n < _ by omega)
  rw [e]
  show parse1 n (asRule (.node 3 0 neck [h, b])) = _
  rw [asRule_yes (rule_two h b)]
/-- A fact. -/
theorem parse_fact (l : Lt) {h : Term} (hk : h.kind = 3) (hc : condB h = false) : (parseL l h).2 = 0 ∧ (parseL l h).1.body = trueT := by
  unfold condB at hc
  simp only [Bool.or_eq_false_iff] at hc
  rw [parse_out hc.2, asRule_no (by rw [hc.1.2]; simp), parse1_eq, if_neg (by simp [hk]), if_neg (by unfold condB; simp [hc])]
  refine ⟨rfl, ?_⟩
  show trueT.put _ = trueT
  simp [trueT, Term.put, puts]
theorem clause_norm (h b : Term) : (Term.node 3 0 neck [h.put (plc h b), b.put (plc h b)]).norm = (Term.node 3 0 neck [h, b]).norm := by
  have := norm_norm (.node 3 0 neck [h, b])
  rw [rule_norm h b] at this ⊢
  exact this

/-! Bases. -/
theorem newsF_cases (l : Lt) : ∀ (ts : List Term) (i : Nat) (acc : List Cl), ((∀ t ∈ ts, (parseL l t).2 = 0) ∧ newsF l ts i acc = (some (acc ++ parsesT l ts), 0, 0)) ∨ ((∃ t ∈ ts, (parseL l t).2 ≠ 0) ∧ (newsF l ts i acc).1 = none ∧ (newsF l ts i acc).2.2 ≠ 0)
  | [], i, acc => .inl ⟨fun t h => (by cases h), by simp [newsF, parsesT]⟩
  | t :: ts, i, acc => by
    by_cases h0 : (parseL l t).2 = 0
    · simp only [newsF, if_pos h0]
      rcases newsF_cases l ts (i + 1) (acc ++ [(parseL l t).1]) with ⟨h1, h2⟩ | ⟨⟨u, hu, h1⟩, h2⟩
      · left
        refine ⟨fun u hu => ?_, ?_⟩
        · rcases List.mem_cons.1 hu with rfl | hu
          · exact h0
          · exact h1 u hu
        · rw [h2]; simp [parsesT]
      · right; exact ⟨⟨u, by simp [hu], h1⟩, h2⟩
    · right; refine ⟨⟨t, by simp, h0⟩, ?_, ?_⟩ <;> simp [newsF, h0]
theorem newB_cases (l : Lt) (ts : List Term) : (ts.length ≤ 200 ∧ (∀ t ∈ ts, (parseL l t).2 = 0) ∧ (newB l ts).1 = some (parsesT l ts) ∧ (newB l ts).2.2 = 0) ∨ ((200 < ts.length ∨ ∃ t ∈ ts, (parseL l t).2 ≠ 0) ∧ (newB l ts).1 = none ∧ (newB l ts).2.2 ≠ 0) := by
  by_cases hl : 200 < ts.length
  · right; rw [newB_big hl]; exact ⟨.inl hl, rfl, by simp⟩
  · unfold newB
    rw [if_neg hl]
    rcases newsF_cases l ts 0 [] with ⟨h1, h2⟩ | ⟨h1, h2⟩
    · left; rw [h2]; exact ⟨by omega, h1, by rw [List.nil_append], rfl⟩
    · right; exact ⟨.inr h1, h2⟩
theorem newB_all_len (l : Lt) (ts : List Term) : (allB (newB l ts).1).length ≤ 2 ^ 20 := by
  rcases newB_cases l ts with ⟨h1, _, h2, _⟩ | ⟨_, h2, _⟩
  · rw [h2]; show (parsesT l ts).length ≤ _; rw [parsesT_len]; omega
  · rw [h2]; exact Nat.zero_le _
theorem parsesT_small {l : Lt} {ts : List Term} {B : Nat} (hb : bulks ts + 8 ≤ B) : ∀ c ∈ parsesT l ts, c.small B := by
  intro c hc
  obtain ⟨t, ht, rfl⟩ := List.mem_map.1 hc
  have h1 := parseL_small l t
  have h2 := bulks_mem ht
  exact ⟨Nat.le_trans h1.1 (by omega), Nat.le_trans h1.2 (by omega)⟩
theorem newB_small {l : Lt} {ts : List Term} (hb : bulks ts ≤ 2 ^ 28) : ∀ c ∈ allB (newB l ts).1, c.small (2 ^ 30) := by
  rcases newB_cases l ts with ⟨_, _, h2, _⟩ | ⟨_, h2, _⟩
  · rw [h2]; exact parsesT_small (by omega)
  · rw [h2]; intro c hc; cases hc
theorem parsesT_app (l : Lt) (a b : List Term) : parsesT l (a ++ b) = parsesT l a ++ parsesT l b := by simp [parsesT]
theorem newB_app {l : Lt} {a b : List Term} (hl : a.length + b.length ≤ 200) : ((newB l a).2.2 = 0 ∧ (newB l b).2.2 = 0 ∧ (newB l (a ++ b)).2.2 = 0 ∧ (newB l (a ++ b)).1 = some (parsesT l a ++ parsesT l b)) ∨ (((newB l a).2.2 ≠ 0 ∨ (newB l b).2.2 ≠ 0) ∧ (newB l (a ++ b)).2.2 ≠ 0) := by
  rcases newB_cases l a with ⟨_, a1, _, a2⟩ | ⟨a1, _, a2⟩
  · rcases newB_cases l b with ⟨_, b1, _, b2⟩ | ⟨b1, _, b2⟩
    · left
      rcases newB_cases l (a ++ b) with ⟨_, c1, c2, c3⟩ | ⟨c1, _, _⟩
      · rw [parsesT_app] at c2; exact ⟨a2, b2, c3, c2⟩
      · exfalso
        rcases c1 with c1 | ⟨t, ht, c1⟩
        · simp at c1; omega
        · rcases List.mem_append.1 ht with ht | ht
          · exact c1 (a1 t ht)
          · exact c1 (b1 t ht)
    · right
      refine ⟨.inr b2, ?_⟩
      rcases newB_cases l (a ++ b) with ⟨_, c1, _, _⟩ | ⟨_, _, c3⟩
      · exfalso
        rcases b1 with b1 | ⟨t, ht, b1⟩
        · omega
        · exact b1 (c1 t (by simp [ht]))
      · exact c3
  · right
    refine ⟨.inl a2, ?_⟩
    rcases newB_cases l (a ++ b) with ⟨_, c1, _, _⟩ | ⟨_, _, c3⟩
    · exfalso
      rcases a1 with a1 | ⟨t, ht, a1⟩
      · omega
      · exact a1 (c1 t (by simp [ht]))
    · exact c3
theorem newB_one (l : Lt) (t : Term) : ((parseL l t).2 = 0 ∧ (newB l [t]).2.2 = 0 ∧ (newB l [t]).1 = some [(parseL l t).1]) ∨ ((parseL l t).2 ≠ 0 ∧ (newB l [t]).2.2 ≠ 0) := by
  rcases newB_cases l [t] with ⟨_, h1, h2, h3⟩ | ⟨h1, _, h3⟩
  · left; exact ⟨h1 t (by simp), h3, h2⟩
  · right
    refine ⟨?_, h3⟩
    rcases h1 with h1 | ⟨u, hu, h1⟩
    · simp at h1
    · simp at hu; rw [hu] at h1; exact h1
theorem getB_app (a b : List Cl) (s : ByteArray) (n : Int) : getB (a ++ b) s n = getB a s n ++ getB b s n := by simp [getB]
theorem hasKey_self (c : Cl) : hasKey c.head.name (c.head.kids.length : Int) c = true := by simp [hasKey]
theorem getB_len_le (cs : List Cl) (s : ByteArray) (n : Int) : (getB cs s n).length ≤ cs.length := List.length_filter_le ..
theorem getB_sub {cs : List Cl} {s : ByteArray} {n : Int} {c : Cl} (h : c ∈ getB cs s n) : c ∈ cs := (List.mem_filter.1 h).1
/-- One of a name stands where so many of it stand ahead. -/
theorem getB_at {cs : List Cl} {s : ByteArray} {n : Int} {k : Nat} (hk : k < cs.length) (hh : hasKey s n cs[k] = true) : ∃ h : (getB (cs.take k) s n).length < (getB cs s n).length, (getB cs s n)[(getB (cs.take k) s n).length] = cs[k] := by
  have e : getB cs s n = getB (cs.take k) s n ++ (cs[k] :: getB (cs.drop (k + 1)) s n) := by
    conv => lhs; rw [← List.take_append_drop k cs]
    rw [getB_app, getB_drop hk, if_pos hh]
  have hl : (getB (cs.take k) s n).length < (getB cs s n).length := by rw [e]; simp
  refine ⟨hl, ?_⟩
  have : (getB cs s n)[(getB (cs.take k) s n).length]? = some cs[k] := by rw [e]; simp
  rw [List.getElem?_eq_getElem hl] at this
  exact Option.some.inj this
theorem getB_step {cs : List Cl} {s : ByteArray} {n : Int} {k : Nat} (hk : k < cs.length) : (getB (cs.take (k + 1)) s n).length = (getB (cs.take k) s n).length + (if hasKey s n cs[k] = true then 1 else 0) := by
  rw [List.take_succ_eq_append_getElem hk, getB_app, List.length_append]
  congr 1
  by_cases h : hasKey s n cs[k] = true <;> simp [getB, h]
theorem parse_not_known {l : Lt} {t : Term} (h : (parseL l t).2 = 0) : knownB (parseL l t).1.head.name ((parseL l t).1.head.kids.length : Int) = false := by
  have key : ∀ (lv : Int) (u : Term), (parse1 lv (asRule u)).2 = 0 → knownB (parse1 lv (asRule u)).1.head.name ((parse1 lv (asRule u)).1.head.kids.length : Int) = false := by
    intro lv u hu
    obtain ⟨x, y, hr⟩ : ∃ x y, (asRule u).kids = [x, y] := by
      have hl := asRule_len u
      match hq : (asRule u).kids, hl with
      | [x, y], _ => exact ⟨x, y, rfl⟩
    have hn : (asRule u).norm.kids = [x.put (fun n => placeOf (asRule u).vars n 0), y.put (fun n => placeOf (asRule u).vars n 0)] := by
      unfold Term.norm; rw [put_eq]; show puts _ _ = _; rw [hr]; rfl
    unfold parse1 parse2 kid at hu ⊢
    rw [hr, hn] at hu ⊢
    simp only [List.getD_cons_zero, List.getD_cons_succ] at hu ⊢
    split at hu
    · cases hu
    · rename_i hk
      split at hu
      · cases hu
      · rename_i hc
        rw [if_neg hk, if_neg hc]
        simp only [Bool.not_eq_true, Bool.or_eq_false_iff] at hc
        show knownB (x.put _).name ((x.put _).kids.length : Int) = false
        have e : (x.put (fun n => placeOf (asRule u).vars n 0)).kids.length = x.kids.length := by rw [put_eq]; exact puts_len _ _
        rw [put_name, e]; exact hc.1.1
  unfold parseL at h ⊢
  split at h
  · split at h
    · rename_i h1 h2; rw [if_pos h1, if_pos h2]; exact key _ _ h
    · cases h
  · rename_i h1; rw [if_neg h1]; exact key _ _ h

theorem newB_more {l : Lt} {ts : List Term} {more : Term} (hl : ts.length ≤ 150) : ((newB l ts).2.2 = 0 ∧ (parseL l more).2 = 0 ∧ (newB l ts).1 = some (parsesT l ts) ∧ (newB l (ts ++ [more])).2.2 = 0 ∧ (newB l (ts ++ [more])).1 = some (parsesT l ts ++ [(parseL l more).1])) ∨
    (((newB l ts).2.2 ≠ 0 ∨ (parseL l more).2 ≠ 0) ∧ (newB l (ts ++ [more])).2.2 ≠ 0) := by
  have h1 := newB_app (l := l) (a := ts) (b := [more]) (by simp; omega)
  have h2 := newB_one l more
  rcases h1 with ⟨a1, b1, c1, d1⟩ | ⟨h1, c1⟩
  · left
    rcases h2 with ⟨p0, _, _⟩ | ⟨_, q⟩
    · rcases newB_cases l ts with ⟨_, _, e1, _⟩ | ⟨_, _, e1⟩
      · exact ⟨a1, p0, e1, c1, d1⟩
      · exact absurd a1 e1
    · exact absurd b1 q
  · right
    refine ⟨?_, c1⟩
    rcases h1 with h1 | h1
    · exact .inl h1
    · rcases h2 with ⟨_, q, _⟩ | ⟨q, _⟩
      · exact absurd q h1
      · exact .inr q
theorem getB_more_yes {cs : List Cl} {c : Cl} {s : ByteArray} {n : Int} (h : hasKey s n c = true) : getB (cs ++ [c]) s n = getB cs s n ++ [c] := by rw [getB_app]; simp [getB, h]
theorem getB_more_no {cs : List Cl} {c : Cl} {s : ByteArray} {n : Int} (h : hasKey s n c = false) : getB (cs ++ [c]) s n = getB cs s n := by rw [getB_app]; simp [getB, h]
theorem last_get {q r : List Cl} {c : Cl} (h : q = r ++ [c]) (hl : q.length - 1 < q.length) : q[q.length - 1] = c := by subst h; simp
theorem newB_nil (l : Lt) : newB l [] = (some [], 0, 0) := rfl
theorem hasKey_iff {s : ByteArray} {n : Int} {c : Cl} : hasKey s n c = true ↔ c.head.name.toList = s.toList ∧ (c.head.kids.length : Int) = n := by
  unfold hasKey
  rw [Bool.and_eq_true, beq_iff_eq, beq_iff_eq]
  exact ⟨fun h => ⟨h.1.symm, h.2.symm⟩, fun h => ⟨h.1.symm, h.2.symm⟩⟩

/-! Levels. -/
section
variable {k : Nat} (hk : k < 16)
include hk
theorem parseL_level (t : Term) : 0 ≤ (parseL (C k) t).1.level ∧ (parseL (C k) t).1.level ≤ (k : Nat) := by
  have hn := C_n hk
  have key : ∀ (lv : Int) (u : Term), 0 ≤ lv → lv ≤ (k : Nat) → 0 ≤ (parse1 lv u).1.level ∧ (parse1 lv u).1.level ≤ (k : Nat) := by
    intro lv u h0 h1
    unfold parse1 parse2
    split
    · exact ⟨Int.le_refl _, by show (0 : Int) ≤ _; omega⟩
    · split
      · exact ⟨Int.le_refl _, by show (0 : Int) ≤ _; omega⟩
      · exact ⟨h0, h1⟩
  unfold parseL
  split
  · split
    · rename_i h; exact key _ _ h.2.1 (by omega)
    · exact ⟨Int.le_refl _, by show (0 : Int) ≤ _; omega⟩
  · exact key _ _ (by rw [C_bot hk]; exact Int.le_refl _) (by rw [C_bot hk]; omega)
def Cl.top (k : Nat) (c : Cl) : Int := max c.level (max (c.head.sj (C k)) (c.body.sj (C k)))
omit hk in
def tops (k : Nat) : List Cl → Int
  | [] => 0
  | c :: cs => max (c.top k) (tops k cs)
theorem top_rng {c : Cl} (h0 : 0 ≤ c.level) (h1 : c.level ≤ (k : Nat)) : 0 ≤ c.top k ∧ c.top k ≤ (k : Nat) := by
  have a := sj_rng hk c.head
  have b := sj_rng hk c.body
  unfold Cl.top; omega
theorem tops_rng : ∀ (cs : List Cl), (∀ c ∈ cs, 0 ≤ c.level ∧ c.level ≤ (k : Nat)) → 0 ≤ tops k cs ∧ tops k cs ≤ (k : Nat)
  | [], _ => ⟨Int.le_refl _, by show (0 : Int) ≤ _; omega⟩
  | c :: cs, h => by
    have h1 := tops_rng cs (fun c hc => h c (by simp [hc]))
    have h2 := top_rng hk (h c (by simp)).1 (h c (by simp)).2
    unfold tops; omega
omit hk in
theorem tops_app (a b : List Cl) (h : ∀ c ∈ b, True) (hb : 0 ≤ tops k b) : tops k (a ++ b) = max (tops k a) (tops k b) := by
  induction a with
  | nil => simp only [List.nil_append, tops]; omega
  | cons c a ih => simp only [List.cons_append, tops, ih]; omega
theorem topStep_eq {n : Int} {c : Cl} (h0 : 0 ≤ c.level) (h1 : c.level ≤ (k : Nat)) (n0 : 0 ≤ n) (n1 : n ≤ (k : Nat)) : topStep (C k) n c = max n (c.top k) := by
  have a := sj_rng hk c.head
  have b := sj_rng hk c.body
  unfold topStep Cl.top
  rw [C_join hk a.1 a.2 b.1 b.2, C_join hk h0 h1 (by omega) (by omega), C_join hk n0 n1 (by omega) (by omega)]
theorem topB_eq : ∀ (cs : List Cl) (n : Int), 0 ≤ n → n ≤ (k : Nat) → (∀ c ∈ cs, 0 ≤ c.level ∧ c.level ≤ (k : Nat)) → cs.foldl (topStep (C k)) n = max n (tops k cs)
  | [], n, h0, _, _ => by simp only [List.foldl_nil, tops]; omega
  | c :: cs, n, h0, h1, h => by
    have hc := h c (by simp)
    have hr := top_rng hk hc.1 hc.2
    rw [List.foldl_cons, topStep_eq hk hc.1 hc.2 h0 h1, topB_eq cs _ (by omega) (by omega) (fun c hc => h c (by simp [hc]))]
    simp only [tops]; omega
theorem topO_eq {cs : List Cl} (h : ∀ c ∈ cs, 0 ≤ c.level ∧ c.level ≤ (k : Nat)) : topO (C k) (some cs) = tops k cs := by
  have := tops_rng hk cs h
  show cs.foldl (topStep (C k)) (C k).bottom = _
  rw [C_bot hk, topB_eq hk cs 0 (Int.le_refl _) (by omega) h]
  omega
theorem newB_top {ts : List Term} {cs : List Cl} (h : (newB (C k) ts).1 = some cs) : topO (C k) (newB (C k) ts).1 = tops k cs ∧ 0 ≤ tops k cs ∧ tops k cs ≤ (k : Nat) := by
  rcases newB_cases (C k) ts with ⟨_, _, h1, _⟩ | ⟨_, h1, _⟩
  · rw [h] at h1
    obtain rfl := Option.some.inj h1
    have hl : ∀ c ∈ parsesT (C k) ts, 0 ≤ c.level ∧ c.level ≤ (k : Nat) := by
      intro c hc
      obtain ⟨t, _, rfl⟩ := List.mem_map.1 hc
      exact parseL_level hk t
    rw [h]
    exact ⟨topO_eq hk hl, tops_rng hk _ hl⟩
  · rw [h] at h1; cases h1
/-- One fact at a level. -/
theorem newB_atom {n : Int} (h0 : 0 ≤ n) (h1 : n ≤ (k : Nat)) : (newB (C k) [.node 3 0 ncol [.node 2 n ⟨#[]⟩ [], .node 3 0 ⟨#[112]⟩ []]]).2.2 = 0 ∧ topO (C k) (newB (C k) [.node 3 0 ncol [.node 2 n ⟨#[]⟩ [], .node 3 0 ⟨#[112]⟩ []]]).1 = n := by
  have hn := C_n hk
  have h2 : (Term.node 3 0 ncol [.node 2 n ⟨#[]⟩ [], .node 3 0 ⟨#[112]⟩ []]).two ncol = true := two_iff.2 ⟨rfl, rfl, rfl⟩
  have e := parse_in (l := C k) h2 (show 0 < 2 by decide) (show 1 < 2 by decide) rfl h0 (show n < _ by omega)
  have hp : parseL (C k) (.node 3 0 ncol [.node 2 n ⟨#[]⟩ [], .node 3 0 ⟨#[112]⟩ []]) = (⟨n, .node 3 0 ⟨#[112]⟩ [], trueT, 0⟩, 0) := by
    rw [e]
    show parse1 n (asRule (.node 3 0 ⟨#[112]⟩ [])) = _
    rw [asRule_no (by rw [two_node]; simp), parse1_eq, if_neg (show ¬ (Term.node 3 0 ⟨#[112]⟩ []).kind ≠ 3 from fun h => h rfl), if_neg (by decide +kernel)]
    rfl
  rcases newB_one (C k) (.node 3 0 ncol [.node 2 n ⟨#[]⟩ [], .node 3 0 ⟨#[112]⟩ []]) with ⟨_, q1, q2⟩ | ⟨q, _⟩
  · refine ⟨q1, ?_⟩
    rw [q2, hp]
    rw [topO_eq hk (fun c hc => by simp at hc; rw [hc]; exact ⟨h0, h1⟩)]
    show max (max n (max ((Term.node 3 0 ⟨#[112]⟩ []).sj (C k)) (trueT.sj (C k)))) 0 = n
    have s1 : (Term.node 3 0 ⟨#[112]⟩ []).sj (C k) = 0 := by rw [sj_eq]; exact C_bot hk
    have s2 : trueT.sj (C k) = 0 := by rw [sj_eq]; exact C_bot hk
    rw [s1, s2]; omega
  · rw [hp] at q; exact absurd rfl q
theorem parsesT_level (ts : List Term) : ∀ c ∈ parsesT (C k) ts, 0 ≤ c.level ∧ c.level ≤ (k : Nat) := by
  intro c hc
  obtain ⟨t, _, rfl⟩ := List.mem_map.1 hc
  exact parseL_level hk t
end

/-! Names and clauses, as the document has them. -/
theorem place_hit : ∀ (l : List Int) (n : Int) (k i : Nat) (h : i < l.length), l[i] = n → (∀ j (hj : j < l.length), j < i → ¬ l[j] = n) → placeOf l n k = ((k + i : Nat) : Int)
  | [], n, k, i, h, _, _ => absurd h (Nat.not_lt_zero _)
  | v :: l, n, k, 0, h, e, _ => by simp only [List.getElem_cons_zero] at e; simp [placeOf, e]
  | v :: l, n, k, i + 1, h, e, hn => by
    have h0 := hn 0 (Nat.zero_lt_succ _) (Nat.zero_lt_succ _)
    have hv : ¬ n = v := fun e' => h0 e'.symm
    rw [placeOf, if_neg hv, place_hit l n (k + 1) i (by simpa using h) (by simpa using e) (fun j hj hji => by have := hn (j + 1) (by simpa using hj) (by omega); simpa using this)]
    congr 1; omega
theorem place_miss : ∀ (l : List Int) (n : Int) (k : Nat), (∀ j (hj : j < l.length), ¬ l[j] = n) → placeOf l n k = 0
  | [], n, k, _ => rfl
  | v :: l, n, k, hn => by
    have h0 := hn 0 (Nat.zero_lt_succ _)
    have hv : ¬ n = v := fun e' => h0 e'.symm
    rw [placeOf, if_neg hv]
    exact place_miss l n (k + 1) fun j hj => by have := hn (j + 1) (by simpa using hj); simpa using this
def strsD (l : List ByteArray) : List D := l.map .str
theorem strsD_len (l : List ByteArray) : (strsD l).length = l.length := by simp [strsD]
def inL (s : ByteArray) (l : List ByteArray) : Bool := l.any fun k => k.toList == s.toList
theorem in_hit {s : ByteArray} {l : List ByteArray} {i : Nat} (h : i < l.length) (e : (l[i].toList == s.toList) = true) : inL s l = true := List.any_eq_true.2 ⟨_, List.getElem_mem h, e⟩
theorem in_not {s : ByteArray} {l : List ByteArray} (h : ∀ j (hj : j < l.length), (l[j].toList == s.toList) = false) : inL s l = false := by
  unfold inL
  rw [List.any_eq_false]
  intro x hx
  obtain ⟨j, hj, rfl⟩ := List.getElem_of_mem hx
  rw [h j hj]; simp
def K0 : List ByteArray := [⟨#[33]⟩, ⟨#[116, 114, 117, 101]⟩, ⟨#[102, 97, 105, 108]⟩]
def K1 : List ByteArray := [⟨#[92, 43]⟩, ⟨#[99, 97, 108, 108]⟩, ⟨#[118, 97, 114]⟩, ⟨#[110, 111, 110, 118, 97, 114]⟩, ⟨#[97, 116, 111, 109]⟩, ⟨#[105, 110, 116, 101, 103, 101, 114]⟩]
def K2 : List ByteArray := [⟨#[44]⟩, ⟨#[59]⟩, ⟨#[45, 62]⟩, ⟨#[61]⟩, ⟨#[92, 61]⟩, ⟨#[61, 61]⟩, ⟨#[92, 61, 61]⟩, ⟨#[64, 60]⟩, ⟨#[105, 115]⟩, ⟨#[60]⟩, ⟨#[62]⟩, ⟨#[61, 60]⟩, ⟨#[62, 61]⟩, ⟨#[61, 58, 61]⟩, ⟨#[61, 92, 61]⟩, ⟨#[99, 111, 112, 121, 95, 116, 101, 114, 109]⟩, ⟨#[119, 114, 105, 116, 101]⟩]
def kDecl : ByteArray := ⟨#[100, 101, 99, 108, 97, 115, 115, 105, 102, 121]⟩
theorem known_0 (s : ByteArray) : knownB s 0 = inL s K0 := by
  simp only [knownB, keys, inL, K0, List.any_cons, List.any_nil, keyHit, show ((2 : Int) == 0) = false from rfl, show ((1 : Int) == 0) = false from rfl, show ((4 : Int) == 0) = false from rfl, show ((0 : Int) == 0) = true from rfl, Bool.and_false, Bool.and_true, Bool.false_or, Bool.or_false]
theorem known_1 (s : ByteArray) : knownB s 1 = inL s K1 := by
  simp only [knownB, keys, inL, K1, List.any_cons, List.any_nil, keyHit, show ((2 : Int) == 1) = false from rfl, show ((1 : Int) == 1) = true from rfl, show ((4 : Int) == 1) = false from rfl, show ((0 : Int) == 1) = false from rfl, Bool.and_false, Bool.and_true, Bool.false_or, Bool.or_false]
theorem known_2 (s : ByteArray) : knownB s 2 = inL s K2 := by
  simp only [knownB, keys, inL, K2, List.any_cons, List.any_nil, keyHit, show ((2 : Int) == 2) = true from rfl, show ((1 : Int) == 2) = false from rfl, show ((4 : Int) == 2) = false from rfl, show ((0 : Int) == 2) = false from rfl, Bool.and_false, Bool.and_true, Bool.false_or, Bool.or_false]
theorem known_4 (s : ByteArray) : knownB s 4 = (s.toList == kDecl.toList) := by
  simp only [knownB, keys, List.any_cons, List.any_nil, keyHit, show ((2 : Int) == 4) = false from rfl, show ((1 : Int) == 4) = false from rfl, show ((4 : Int) == 4) = true from rfl, show ((0 : Int) == 4) = false from rfl, Bool.and_false, Bool.and_true, Bool.false_or, Bool.or_false]
  rw [Bool.eq_iff_iff, beq_iff_eq, beq_iff_eq]
  exact ⟨fun e => e.symm, fun e => e.symm⟩
theorem known_else {s : ByteArray} {n : Int} (h0 : ¬ n = 0) (h1 : ¬ n = 1) (h2 : ¬ n = 2) (h4 : ¬ n = 4) : knownB s n = false := by
  unfold knownB
  rw [List.any_eq_false]
  intro k hk
  have key : k.2 = 0 ∨ k.2 = 1 ∨ k.2 = 2 ∨ k.2 = 4 := by
    have : (keys.all fun k => k.2 == 0 || k.2 == 1 || k.2 == 2 || k.2 == 4) = true := by decide +kernel
    have := List.all_eq_true.1 this k hk
    simp only [Bool.or_eq_true, beq_iff_eq] at this
    omega
  unfold keyHit
  intro e
  simp only [Bool.and_eq_true, beq_iff_eq] at e
  omega
section
variable {P : Program} {ro : Option Nat} {T : Nat → AV} {O : List AObj} {dst : Option Tmp} {ty : TypeId} {pos : String} {af : Array Edge} {g : Option (Nat × Bool)}
theorem opv_len_strs {x : Operand} {t e : TypeId} {l : List ByteArray} [S : Und P t (.slice e)] (hx : evT T x = .d (.list (strsD l))) :
    OpV P ro ⟨dst, .call { callee := .builtin .len, args := #[x], argTypes := #[t] }, ty, pos, af, g⟩ T O (.d (.int .i64 l.length)) O := by
  have := opv_len (P := P) (ro := ro) (dst := dst) (ty := ty) (pos := pos) (af := af) (g := g) (O := O) (t := t) hx rfl rfl
  rwa [strsD_len] at this
theorem opv_index_strs {x ix : Operand} {t e : Nat} {i : Nat} {l : List ByteArray} [S : Slc P t e 1] (hx : evT T x = .d (.list (strsD l))) (hi : evT T ix = .d (.int .i64 (i : Nat))) (hl : i < l.length) :
    OpV P ro ⟨dst, .indexAddr t x ix, ty, pos, af, g⟩ T O (.d (.ptr [.str l[i]])) O := opv_index_list (y := .str l[i]) hx hi (Int.natCast_nonneg _) (by simp [strsD, hl]) rfl
end

/-! A clause out of its two parts. -/
theorem parse1_two {lv : Int} {t : Term} (h : t.two neck = true) (h0 : 0 < t.kids.length) (h1 : 1 < t.kids.length) : parse1 lv (.node 3 0 neck [t.kids[0], t.kids[1]]) = parse1 lv t := by
  obtain ⟨k1, k2, k3⟩ := two_iff.1 h
  cases t with
  | node k n s ks =>
    match ks, k3 with
    | [a, b], _ =>
      have e : k = 3 := k1
      subst e
      rfl
def rtopStep (l : Lt) (n : Int) (c : Cl) : Int := l.join (l.join (l.join n c.level) (c.head.sj l)) (c.body.sj l)
def rtop (l : Lt) (cs : List Cl) : Int := cs.foldl (rtopStep l) l.bottom
theorem rtop_take (l : Lt) {cs : List Cl} {i : Nat} (h : i < cs.length) : (cs.take (i + 1)).foldl (rtopStep l) l.bottom = rtopStep l ((cs.take i).foldl (rtopStep l) l.bottom) cs[i] := by
  rw [List.take_succ_eq_append_getElem h, List.foldl_append]; rfl
section
variable {k : Nat} (hk : k < 16)
include hk
theorem rtop_go : ∀ (cs : List Cl) (n : Int), (∀ c ∈ cs, 0 ≤ c.level ∧ c.level ≤ (k : Nat)) → 0 ≤ n → n ≤ (k : Nat) → cs.foldl (rtopStep (C k)) n = cs.foldl (topStep (C k)) n
  | [], n, _, _, _ => rfl
  | c :: cs, n, h, h1, h2 => by
    obtain ⟨l1, l2⟩ := h c (by simp)
    obtain ⟨a1, a2⟩ := sj_rng hk c.head
    obtain ⟨b1, b2⟩ := sj_rng hk c.body
    have e1 : rtopStep (C k) n c = max (max (max n c.level) (c.head.sj (C k))) (c.body.sj (C k)) := by
      unfold rtopStep
      rw [C_join hk h1 h2 l1 l2, C_join hk (by omega) (by omega) a1 a2, C_join hk (by omega) (by omega) b1 b2]
    have e2 : topStep (C k) n c = max n (max c.level (max (c.head.sj (C k)) (c.body.sj (C k)))) := by
      unfold topStep
      rw [C_join hk a1 a2 b1 b2, C_join hk l1 l2 (by omega) (by omega), C_join hk h1 h2 (by omega) (by omega)]
    rw [List.foldl_cons, List.foldl_cons, e1, e2, show max (max (max n c.level) (c.head.sj (C k))) (c.body.sj (C k)) = max n (max c.level (max (c.head.sj (C k)) (c.body.sj (C k)))) by omega]
    exact rtop_go cs _ (fun x hx => h x (by simp [hx])) (by omega) (by omega)
theorem rtop_eq {cs : List Cl} (h : ∀ c ∈ cs, 0 ≤ c.level ∧ c.level ≤ (k : Nat)) : rtop (C k) cs = topB (C k) cs := by
  unfold rtop topB
  rw [C_bot hk]
  exact rtop_go hk cs 0 h (by omega) (by omega)
end
theorem getB_take {cs : List Cl} {i : Nat} (s : ByteArray) (n : Int) (h : i < cs.length) : getB (cs.take (i + 1)) s n = if hasKey s n cs[i] = true then getB (cs.take i) s n ++ [cs[i]] else getB (cs.take i) s n := by
  unfold getB
  rw [List.take_succ_eq_append_getElem h, List.filter_append]
  cases hk : hasKey s n cs[i] with
  | true => simp [hk]
  | false => simp [hk]
theorem parse1_lev (lv : Int) (r : Term) : (parse1 lv r).1.level = lv ∨ (parse1 lv r).1.level = 0 := by
  unfold parse1 parse2
  split
  · exact .inr rfl
  · split
    · exact .inr rfl
    · exact .inl rfl
theorem parseL_lev {k : Nat} (hk : k < 16) (t : Term) : 0 ≤ (parseL (C k) t).1.level ∧ (parseL (C k) t).1.level ≤ (k : Nat) := by
  have hn := C_n (k := k) hk
  unfold parseL
  split
  · split
    · rename_i h
      rcases parse1_lev (kid t 0).num (asRule (kid t 1)) with e | e <;> rw [e] <;> omega
    · exact ⟨Int.le_refl 0, Int.natCast_nonneg _⟩
  · rcases parse1_lev (C k).bottom (asRule t) with e | e <;> rw [e] <;> first | omega | (rw [C_bot hk]; omega)
theorem rtop_new {k : Nat} (hk : k < 16) (ts : List Term) {cs : List Cl} (h : (newB (C k) ts).1 = some cs) : rtop (C k) cs = topB (C k) cs := by
  refine rtop_eq hk fun c hc => ?_
  rcases newB_cases (C k) ts with ⟨_, _, h2, _⟩ | ⟨_, h2, _⟩
  · rw [h] at h2
    cases h2
    obtain ⟨t, _, rfl⟩ := List.mem_map.1 hc
    exact parseL_lev hk t
  · rw [h] at h2; cases h2
end Go.Proofs.Ytmokkjmoneablaa.AM
