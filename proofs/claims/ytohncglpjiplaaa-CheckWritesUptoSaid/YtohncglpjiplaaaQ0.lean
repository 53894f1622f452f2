/- Whether a program is accepted. -/
import Derived.Test.YtohncglpjiplaaaD2
namespace Go.Proofs.Ytohncglpjiplaaa.AM
open Go
set_option linter.unusedVariables false
set_option linter.unusedSimpArgs false
def bGoal : ByteArray := ⟨#[103, 111, 97, 108]⟩
def bCall : ByteArray := ⟨#[99, 97, 108, 108]⟩
def bDecl : ByteArray := ⟨#[100, 101, 99, 108, 97, 115, 115, 105, 102, 121]⟩
def bWrite : ByteArray := ⟨#[119, 114, 105, 116, 101]⟩
def bNone : ByteArray := ⟨#[]⟩
def bComma : ByteArray := ⟨#[44]⟩
def bSemi : ByteArray := ⟨#[59]⟩
def bArrow : ByteArray := ⟨#[45, 62]⟩
def bNot : ByteArray := ⟨#[92, 43]⟩
def Term.isN (t : Term) (s : ByteArray) (n : Int) : Bool := decide (t.kind = 3) && (t.name.toList == s.toList) && ((t.kids.length : Int) == n)
theorem isN_iff {t : Term} {s : ByteArray} {n : Int} : t.isN s n = true ↔ t.kind = 3 ∧ t.name = s ∧ (t.kids.length : Int) = n := by
  unfold Term.isN
  simp only [Bool.and_eq_true, decide_eq_true_eq, beq_iff_eq]
  exact ⟨fun ⟨⟨h1, h2⟩, h3⟩ => ⟨h1, ByteArray.ext_list h2, h3⟩, fun ⟨h1, h2, h3⟩ => ⟨⟨h1, by rw [h2]⟩, h3⟩⟩
/-- A goal that is made of goals. -/
def Term.ctl (t : Term) : Bool := t.isN bComma 2 || t.isN bSemi 2 || t.isN bArrow 2 || t.isN bNot 1
mutual
def Term.opens : Term → Bool
  | .node k n s ks => bif (Term.node k n s ks).ctl then openss ks else decide (k = 1)
def openss : List Term → Bool
  | [] => false
  | t :: ts => t.opens || openss ts
end
theorem opens_eq (t : Term) : t.opens = bif t.ctl then openss t.kids else decide (t.kind = 1) := by cases t; rfl
theorem openss_any : ∀ l : List Term, openss l = l.any Term.opens
  | [] => rfl
  | t :: l => by rw [openss, openss_any l]; rfl
theorem openss_no {l : List Term} (h : ∀ (i : Nat) (hi : i < l.length), l[i].opens = false) : openss l = false := by
  rw [openss_any, List.any_eq_false]
  intro x hx
  obtain ⟨i, hi, rfl⟩ := List.getElem_of_mem hx
  rw [h i hi]; simp
theorem openss_yes {l : List Term} {i : Nat} (hi : i < l.length) (h : l[i].opens = true) : openss l = true := by
  rw [openss_any, List.any_eq_true]; exact ⟨_, List.getElem_mem hi, h⟩
def lowP (l : Lt) (b : Int) (p : Term) : Bool := p.isN bWrite 2 && (decide (¬ (kid p 0).kind = 2) || !l.leq b (l.lev (kid p 0).num))
def reasonB (l : Lt) (t : Term) (b : Int) : ByteArray :=
  if (decide (¬ b = l.bottom) && t.opens) = true then bGoal
  else if (decide (¬ b = l.bottom) && t.parts.any (fun p => p.isN bCall 1)) = true then bCall
  else if t.parts.any (fun p => p.isN bDecl 4) = true then bDecl
  else if (decide (¬ b = l.bottom) && t.parts.any (lowP l b)) = true then bWrite
  else bNone
mutual
/-- What is asked of each part holds of each part. -/
theorem walk_q (q : Term → Bool) : ∀ t : Term, walkF (fun (_ : Bool) p => (q p, q p)) t true = (t.parts.all q, t.parts.all q)
  | .node k m s ks => by
    cases hb : q (.node k m s ks) with
    | true => rw [walkF_true hb, Term.parts, List.all_cons, hb, Bool.true_and]; exact walks_q q ks
    | false => rw [walkF_false hb, Term.parts, List.all_cons, hb, Bool.false_and]
theorem walks_q (q : Term → Bool) : ∀ ts : List Term, walksF (fun (_ : Bool) p => (q p, q p)) ts true = ((partss ts).all q, (partss ts).all q)
  | [] => rfl
  | t :: ts => by
    have h1 := walk_q q t
    cases hb : t.parts.all q with
    | true => rw [walksF_true (by rw [h1]; exact hb), h1, hb, partss, List.all_append, hb, Bool.true_and]; exact walks_q q ts
    | false => rw [walksF_false (by rw [h1]; exact hb), h1, hb, partss, List.all_append, hb, Bool.false_and]
end
theorem any_not (l : List Term) (g : Term → Bool) : l.any g = !(l.all fun p => !g p) := by
  induction l with
  | nil => rfl
  | cons x l ih => rw [List.any_cons, List.all_cons, ih]; cases g x <;> simp

/-! Programs. -/
def textsC : List Cl → List Term
  | [] => []
  | c :: cs => c.head :: c.body :: textsC cs
theorem textsC_app : ∀ (a b : List Cl), textsC (a ++ b) = textsC a ++ textsC b
  | [], b => rfl
  | c :: a, b => by simp only [List.cons_append, textsC, textsC_app a b]
theorem textsC_take {cs : List Cl} {i : Nat} (h : i < cs.length) : textsC (cs.take (i + 1)) = textsC (cs.take i) ++ [cs[i].head, cs[i].body] := by
  rw [List.take_succ_eq_append_getElem h, textsC_app]; rfl
theorem textsC_len : ∀ (cs : List Cl), (textsC cs).length = 2 * cs.length
  | [] => rfl
  | c :: cs => by simp only [textsC, List.length_cons, textsC_len cs]; omega
theorem textsC_mem {cs : List Cl} {t : Term} : t ∈ textsC cs ↔ ∃ c ∈ cs, t = c.head ∨ t = c.body := by
  induction cs with
  | nil => simp [textsC]
  | cons c cs ih =>
    simp only [textsC, List.mem_cons, ih]
    constructor
    · rintro (rfl | rfl | ⟨d, hd, h⟩)
      · exact ⟨c, .inl rfl, .inl rfl⟩
      · exact ⟨c, .inl rfl, .inr rfl⟩
      · exact ⟨d, .inr hd, h⟩
    · rintro ⟨d, rfl | hd, h⟩
      · rcases h with rfl | rfl
        · exact .inl rfl
        · exact .inr (.inl rfl)
      · exact .inr (.inr ⟨d, hd, h⟩)
def bound0 (l : Lt) (o : Option (List Cl)) (lv : Int) : Int := bif o.isNone then l.lev lv else l.join (l.lev lv) (topO l o)
def boundG (l : Lt) (b : Int) (gs : List Term) : Int := gs.foldl (fun n g => l.join n (g.sj l)) b
theorem boundG_take {l : Lt} {b : Int} {gs : List Term} {i : Nat} (h : i < gs.length) : boundG l b (gs.take (i + 1)) = l.join (boundG l b (gs.take i)) (gs[i].sj l) := by
  unfold boundG; rw [List.take_succ_eq_append_getElem h, List.foldl_append]; rfl
def judge (l : Lt) (b : Int) : List Term → Bool × ByteArray
  | [] => (true, bNone)
  | t :: ts => if reasonB l t.erase b = bNone then judge l b ts else (false, reasonB l t.erase b)
def acceptB (l : Lt) (o : Option (List Cl)) (gs : List Term) (lv : Int) : Bool × ByteArray :=
  if l.n = 0 then (false, bGoal) else if l.n = 1 then (true, bNone) else judge l (boundG l (bound0 l o lv) gs) (textsC (allB o) ++ gs)
theorem judge_pre {l : Lt} {b : Int} : ∀ (ts : List Term) (i : Nat), i ≤ ts.length → (∀ t ∈ ts.take i, reasonB l t.erase b = bNone) → judge l b ts = judge l b (ts.drop i)
  | ts, 0, _, _ => by simp
  | [], i + 1, h, _ => by simp at h
  | t :: ts, i + 1, h, hok => by
    rw [judge, if_pos (hok t (by simp)), List.drop_succ_cons]
    exact judge_pre ts i (by simp at h; omega) fun u hu => hok u (by simp [hu])
theorem judge_bad {l : Lt} {b : Int} {ts : List Term} {i : Nat} (h : i < ts.length) (hok : ∀ t ∈ ts.take i, reasonB l t.erase b = bNone) (hb : ¬ reasonB l ts[i].erase b = bNone) : judge l b ts = (false, reasonB l ts[i].erase b) := by
  rw [judge_pre ts i (by omega) hok, List.drop_eq_getElem_cons h, judge, if_neg hb]
theorem judge_ok {l : Lt} {b : Int} {ts : List Term} (hok : ∀ t ∈ ts, reasonB l t.erase b = bNone) : judge l b ts = (true, bNone) := by
  rw [judge_pre ts ts.length (Nat.le_refl _) (by rw [List.take_length]; exact hok)]; simp [judge]
theorem judge_iff {l : Lt} {b : Int} {ts : List Term} : (judge l b ts).1 = true ↔ ∀ t ∈ ts, reasonB l t.erase b = bNone := by
  induction ts with
  | nil => simp [judge]
  | cons t ts ih =>
    rw [judge]
    by_cases h : reasonB l t.erase b = bNone
    · rw [if_pos h, ih]; simp [h]
    · rw [if_neg h]; simp [h]
theorem ok_next {l : Lt} {b : Int} {ts : List Term} {i : Nat} (h : i < ts.length) (hok : ∀ t ∈ ts.take i, reasonB l t.erase b = bNone) (hb : reasonB l ts[i].erase b = bNone) : ∀ t ∈ ts.take (i + 1), reasonB l t.erase b = bNone := by
  rw [List.take_succ_eq_append_getElem h]
  intro t ht
  rcases List.mem_append.1 ht with ht | ht
  · exact hok t ht
  · simp at ht; rw [ht]; exact hb
theorem texts_small {o : Option (List Cl)} {gs : List Term} (hs : ∀ c ∈ allB o, c.small (2 ^ 30)) (hg : bulks gs ≤ 2 ^ 28) {t : Term} (ht : t ∈ textsC (allB o) ++ gs) : t.bulk ≤ 2 ^ 30 := by
  rcases List.mem_append.1 ht with ht | ht
  · obtain ⟨c, hc, h⟩ := textsC_mem.1 ht
    have := hs c hc
    rcases h with rfl | rfl
    · exact this.1
    · exact this.2
  · have := bulks_mem ht; omega
theorem name_none {a : ByteArray} (h : (a.toList == bNone.toList) = true) : a = bNone := ByteArray.ext_list (beq_iff_eq.1 h)
end Go.Proofs.Ytohncglpjiplaaa.AM
