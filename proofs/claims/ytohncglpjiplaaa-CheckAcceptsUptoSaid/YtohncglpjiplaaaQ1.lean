/- Whether a program is accepted. -/
import Derived.Test.YtohncglpjiplaaaD3
namespace Go.Proofs.Ytohncglpjiplaaa.AM
open Go
set_option linter.unusedVariables false
set_option linter.unusedSimpArgs false
def bGoal : ByteArray := ⟨#[103, 111, 97, 108]⟩
def bCall : ByteArray := ⟨#[99, 97, 108, 108]⟩
def bDecl : ByteArray := ⟨#[100, 101, 99, 108, 97, 115, 115, 105, 102, 121]⟩
def bWrite : ByteArray := ⟨#[119, 114, 105, 116, 101]⟩
def bNone : ByteArray := ⟨#[]⟩
def bComma : ByteArray := ⟨#[44]⟩
def bSemi : ByteArray := ⟨#[59]⟩
def bArrow : ByteArray := ⟨#[45, 62]⟩
def bNot : ByteArray := ⟨#[92, 43]⟩
def Term.isN (t : Term) (s : ByteArray) (n : Int) : Bool := decide (t.kind = 3) && (t.name.toList == s.toList) && ((t.kids.length : Int) == n)
theorem isN_iff {t : Term} {s : ByteArray} {n : Int} : t.isN s n = true ↔ t.kind = 3 ∧ t.name = s ∧ (t.kids.length : Int) = n := by
  unfold Term.isN
  simp only [Bool.and_eq_true, decide_eq_true_eq, beq_iff_eq]
  exact ⟨fun ⟨⟨h1, h2⟩, h3⟩ => ⟨h1, ByteArray.ext_list h2, h3⟩, fun ⟨h1, h2, h3⟩ => ⟨⟨h1, by rw [h2]⟩, h3⟩⟩
/-- A goal that is made of goals. -/
def Term.ctl (t : Term) : Bool := t.isN bComma 2 || t.isN bSemi 2 || t.isN bArrow 2 || t.isN bNot 1
mutual
def Term.opens : Term → Bool
  | .node k n s ks => bif (Term.node k n s ks).ctl then openss ks else decide (k = 1)
def openss : List Term → Bool
  | [] => false
  | t :: ts => t.opens || openss ts
end
theorem opens_eq (t : Term) : t.opens = bif t.ctl then openss t.kids else decide (t.kind = 1) := by cases t; rfl
theorem openss_any : ∀ l : List Term, openss l = l.any Term.opens
  | [] => rfl
  | t :: l => by rw [openss, openss_any l]; rfl
theorem openss_no {l : List Term} (h : ∀ (i : Nat) (hi : i < l.length), l[i].opens = false) : openss l = false := by
  rw [openss_any, List.any_eq_false]
  intro x hx
  obtain ⟨i, hi, rfl⟩ := List.getElem_of_mem hx
  rw [h i hi]; simp
theorem openss_yes {l : List Term} {i : Nat} (hi : i < l.length) (h : l[i].opens = true) : openss l = true := by
  rw [openss_any, List.any_eq_true]; exact ⟨_, List.getElem_mem hi, h⟩
def lowP (l : Lt) (b : Int) (p : Term) : Bool := p.isN bWrite 2 && (decide (¬ (kid p 0).kind = 2) || !l.leq b (l.lev (kid p 0).num))
def reasonB (l : Lt) (t : Term) (b : Int) : ByteArray :=
  if (decide (¬ b = l.bottom) && t.opens) = true then bGoal
  else if (decide (¬ b = l.bottom) && t.parts.any (fun p => p.isN bCall 1)) = true then bCall
  else if t.parts.any (fun p => p.isN bDecl 4) = true then bDecl
  else if (decide (¬ b = l.bottom) && t.parts.any (lowP l b)) = true then bWrite
  else bNone
mutual
/-- What is asked of each part holds of each part. -/
theorem walk_q (q : Term → Bool) : ∀ t : Term, walkF (fun (_ : Bool) p => (q p, q p)) t true = (t.parts.all q, t.parts.all q)
  | .node k m s ks => by
    cases hb : q (.node k m s ks) with
    | true => rw [walkF_true hb, Term.parts, List.all_cons, hb, Bool.true_and]; exact walks_q q ks
    | false => rw [walkF_false hb, Term.parts, List.all_cons, hb, Bool.false_and]
theorem walks_q (q : Term → Bool) : ∀ ts : List Term, walksF (fun (_ : Bool) p => (q p, q p)) ts true = ((partss ts).all q, (partss ts).all q)
  | [] => rfl
  | t :: ts => by
    have h1 := walk_q q t
    cases hb : t.parts.all q with
    | true => rw [walksF_true (by rw [h1]; exact hb), h1, hb, partss, List.all_append, hb, Bool.true_and]; exact walks_q q ts
    | false => rw [walksF_false (by rw [h1]; exact hb), h1, hb, partss, List.all_append, hb, Bool.false_and]
end
theorem any_not (l : List Term) (g : Term → Bool) : l.any g = !(l.all fun p => !g p) := by
  induction l with
  | nil => rfl
  | cons x l ih => rw [List.any_cons, List.all_cons, ih]; cases g x <;> simp

/-! Programs. -/
def textsC : List Cl → List Term
  | [] => []
  | c :: cs => c.head :: c.body :: textsC cs
theorem textsC_app : ∀ (a b : List Cl), textsC (a ++ b) = textsC a ++ textsC b
  | [], b => rfl
  | c :: a, b => by simp only [List.cons_append, textsC, textsC_app a b]
theorem textsC_take {cs : List Cl} {i : Nat} (h : i < cs.length) : textsC (cs.take (i + 1)) = textsC (cs.take i) ++ [cs[i].head, cs[i].body] := by
  rw [List.take_succ_eq_append_getElem h, textsC_app]; rfl
theorem textsC_len : ∀ (cs : List Cl), (textsC cs).length = 2 * cs.length
  | [] => rfl
  | c :: cs => by simp only [textsC, List.length_cons, textsC_len cs]; omega
theorem textsC_mem {cs : List Cl} {t : Term} : t ∈ textsC cs ↔ ∃ c ∈ cs, t = c.head ∨ t = c.body := by
  induction cs with
  | nil => simp [textsC]
  | cons c cs ih =>
    simp only [textsC, List.mem_cons, ih]
    constructor
    · rintro (rfl | rfl | ⟨d, hd, h⟩)
      · exact ⟨c, .inl rfl, .inl rfl⟩
      · exact ⟨c, .inl rfl, .inr rfl⟩
      · exact ⟨d, .inr hd, h⟩
    · rintro ⟨d, rfl | hd, h⟩
      · rcases h with rfl | rfl
        · exact .inl rfl
        · exact .inr (.inl rfl)
      · exact .inr (.inr ⟨d, hd, h⟩)
def bound0 (l : Lt) (o : Option (List Cl)) (lv : Int) : Int := bif o.isNone then l.lev lv else l.join (l.lev lv) (topO l o)
def boundG (l : Lt) (b : Int) (gs : List Term) : Int := gs.foldl (fun n g => l.join n (g.sj l)) b
theorem boundG_take {l : Lt} {b : Int} {gs : List Term} {i : Nat} (h : i < gs.length) : boundG l b (gs.take (i + 1)) = l.join (boundG l b (gs.take i)) (gs[i].sj l) := by
  unfold boundG; rw [List.take_succ_eq_append_getElem h, List.foldl_append]; rfl
def judge (l : Lt) (b : Int) : List Term → Bool × ByteArray
  | [] => (true, bNone)
  | t :: ts => if reasonB l t.erase b = bNone then judge l b ts else (false, reasonB l t.erase b)
def acceptB (l : Lt) (o : Option (List Cl)) (gs : List Term) (lv : Int) : Bool × ByteArray :=
  if l.n = 0 then (false, bGoal) else if l.n = 1 then (true, bNone) else judge l (boundG l (bound0 l o lv) gs) (textsC (allB o) ++ gs)
theorem judge_pre {l : Lt} {b : Int} : ∀ (ts : List Term) (i : Nat), i ≤ ts.length → (∀ t ∈ ts.take i, reasonB l t.erase b = bNone) → judge l b ts = judge l b (ts.drop i)
  | ts, 0, _, _ => by simp
  | [], i + 1, h, _ => by simp at h
  | t :: ts, i + 1, h, hok => by
    rw [judge, if_pos (hok t (by simp)), List.drop_succ_cons]
    exact judge_pre ts i (by simp at h; omega) fun u hu => hok u (by simp [hu])
theorem judge_bad {l : Lt} {b : Int} {ts : List Term} {i : Nat} (h : i < ts.length) (hok : ∀ t ∈ ts.take i, reasonB l t.erase b = bNone) (hb : ¬ reasonB l ts[i].erase b = bNone) : judge l b ts = (false, reasonB l ts[i].erase b) := by
  rw [judge_pre ts i (by omega) hok, List.drop_eq_getElem_cons h, judge, if_neg hb]
theorem judge_ok {l : Lt} {b : Int} {ts : List Term} (hok : ∀ t ∈ ts, reasonB l t.erase b = bNone) : judge l b ts = (true, bNone) := by
  rw [judge_pre ts ts.length (Nat.le_refl _) (by rw [List.take_length]; exact hok)]; simp [judge]
theorem ok_next {l : Lt} {b : Int} {ts : List Term} {i : Nat} (h : i < ts.length) (hok : ∀ t ∈ ts.take i, reasonB l t.erase b = bNone) (hb : reasonB l ts[i].erase b = bNone) : ∀ t ∈ ts.take (i + 1), reasonB l t.erase b = bNone := by
  rw [List.take_succ_eq_append_getElem h]
  intro t ht
  rcases List.mem_append.1 ht with ht | ht
  · exact hok t ht
  · simp at ht; rw [ht]; exact hb
theorem texts_small {o : Option (List Cl)} {gs : List Term} (hs : ∀ c ∈ allB o, c.small (2 ^ 30)) (hg : bulks gs ≤ 2 ^ 28) {t : Term} (ht : t ∈ textsC (allB o) ++ gs) : t.bulk ≤ 2 ^ 30 := by
  rcases List.mem_append.1 ht with ht | ht
  · obtain ⟨c, hc, h⟩ := textsC_mem.1 ht
    have := hs c hc
    rcases h with rfl | rfl
    · exact this.1
    · exact this.2
  · have := bulks_mem ht; omega
/-! Plain laws of what is accepted. -/
theorem reason_none {l : Lt} {t : Term} {b : Int} : reasonB l t b = bNone ↔ (decide (¬ b = l.bottom) && t.opens) = false ∧ (decide (¬ b = l.bottom) && t.parts.any (fun p => p.isN bCall 1)) = false ∧ t.parts.any (fun p => p.isN bDecl 4) = false ∧ (decide (¬ b = l.bottom) && t.parts.any (lowP l b)) = false := by
  have n1 : ¬ bGoal = bNone := by decide +kernel
  have n2 : ¬ bCall = bNone := by decide +kernel
  have n3 : ¬ bDecl = bNone := by decide +kernel
  have n4 : ¬ bWrite = bNone := by decide +kernel
  unfold reasonB
  cases h1 : (decide (¬ b = l.bottom) && t.opens) with
  | true => simp [n1]
  | false =>
    cases h2 : (decide (¬ b = l.bottom) && t.parts.any (fun p => p.isN bCall 1)) with
    | true => simp [n2]
    | false =>
      cases h3 : t.parts.any (fun p => p.isN bDecl 4) with
      | true => simp [n3]
      | false =>
        cases h4 : (decide (¬ b = l.bottom) && t.parts.any (lowP l b)) with
        | true => simp [n4]
        | false => simp
section
variable {k : Nat} (hk : k < 16)
include hk
end

/-! What has no part of a kind. -/
def Term.hasB (t : Term) (s : ByteArray) (n : Int) : Bool := t.parts.any fun p => p.isN s n
theorem partss_any (q : Term → Bool) : ∀ l : List Term, (partss l).any q = l.any fun t => t.parts.any q
  | [] => rfl
  | t :: l => by rw [partss, List.any_append, partss_any q l]; rfl
theorem hasB_eq (t : Term) (s : ByteArray) (n : Int) : t.hasB s n = (t.isN s n || t.kids.any fun x => x.hasB s n) := by
  unfold Term.hasB
  rw [Term.parts_kids, List.any_cons, partss_any]
theorem hasB_no {t : Term} {s : ByteArray} {n : Int} (h : t.isN s n = false) (hks : ∀ (i : Nat) (hi : i < t.kids.length), t.kids[i].hasB s n = false) : t.hasB s n = false := by
  rw [hasB_eq, h, Bool.false_or, List.any_eq_false]
  intro x hx
  obtain ⟨i, hi, rfl⟩ := List.getElem_of_mem hx
  rw [hks i hi]; simp
theorem hasB_yes {t : Term} {s : ByteArray} {n : Int} {i : Nat} (hi : i < t.kids.length) (h : t.kids[i].hasB s n = true) : t.hasB s n = true := by
  rw [hasB_eq, Bool.or_eq_true, List.any_eq_true]; exact .inr ⟨_, List.getElem_mem hi, h⟩
/-- What a program's text may be without being asked. -/
def cleanE (t : Term) : Prop := (∀ p ∈ t.parts, p.kind ≠ 1) ∧ t.hasB bWrite 2 = false ∧ t.hasB bCall 1 = false ∧ t.hasB bDecl 4 = false
/-- What CheckWrites asks of a text. -/
def plainS (t : Term) : Bool := decide (¬ t.check 16 = 0) || t.erase.hasB bWrite 2 || t.erase.hasB bCall 1 || t.erase.hasB bDecl 4
def cleanT (t : Term) : Bool := !(t.hasB bWrite 2 || t.hasB bCall 1 || t.hasB bDecl 4 || decide (0 < t.vars.length) || plainS t)
/-! One fact, and a write. -/
def factT (c s : Int) : Term := .node 3 0 ncol [.node 2 c ⟨#[]⟩ [], .node 3 0 ⟨#[112]⟩ [putS (.node 3 0 ⟨#[97]⟩ []) s]]
def writeT (w : Int) : Term := .node 3 0 bWrite [.node 2 w ⟨#[]⟩ [], .node 3 0 ⟨#[120]⟩ []]
def boundsOk (k c s w : Nat) : Bool :=
  decide ((newB (C k) [factT c s]).2.2 = 0) && ((acceptB (C k) (newB (C k) [factT c s]).1 [writeT w] 0).1 == decide ((max (c : Int) (s : Int)) ≤ (w : Int))) && ((acceptB (C k) (newB (C k) [factT c s]).1 [writeT w] 0).1 || ((acceptB (C k) (newB (C k) [factT c s]).1 [writeT w] 0).2.toList == bWrite.toList))
/-! As the document has it. -/
theorem reason_1 {l : Lt} {t : Term} {b : Int} (h1 : decide (¬ b = l.bottom) = true) (h2 : t.opens = true) : reasonB l t b = bGoal := by
  unfold reasonB; rw [if_pos (by rw [h1, h2]; rfl)]
theorem reason_2 {l : Lt} {t : Term} {b : Int} (h1 : decide (¬ b = l.bottom) = true) (h2 : t.opens = false) (h3 : t.hasB bCall 1 = true) : reasonB l t b = bCall := by
  unfold reasonB; rw [if_neg (by rw [h1, h2]; simp), if_pos (by rw [h1, Bool.true_and]; exact h3)]
theorem reason_3 {l : Lt} {t : Term} {b : Int} (h1 : decide (¬ b = l.bottom) = true) (h2 : t.opens = false) (h3 : t.hasB bCall 1 = false) (h4 : t.hasB bDecl 4 = true) : reasonB l t b = bDecl := by
  unfold reasonB; rw [if_neg (by rw [h1, h2]; simp), if_neg (by rw [h1, Bool.true_and]; exact fun e => absurd (h3.symm.trans e) (by decide)), if_pos (show (t.parts.any fun p => p.isN bDecl 4) = true from h4)]
theorem reason_4 {l : Lt} {t : Term} {b : Int} (h1 : decide (¬ b = l.bottom) = true) (h2 : t.opens = false) (h3 : t.hasB bCall 1 = false) (h4 : t.hasB bDecl 4 = false) (h5 : t.parts.any (lowP l b) = true) : reasonB l t b = bWrite := by
  unfold reasonB; rw [if_neg (by rw [h1, h2]; simp), if_neg (by rw [h1, Bool.true_and]; exact fun e => absurd (h3.symm.trans e) (by decide)), if_neg (show ¬ (t.parts.any fun p => p.isN bDecl 4) = true from fun e => absurd (h4.symm.trans e) (by decide)), if_pos (by rw [h1, h5]; rfl)]
theorem reason_5 {l : Lt} {t : Term} {b : Int} (h2 : t.opens = false) (h3 : t.hasB bCall 1 = false) (h4 : t.hasB bDecl 4 = false) (h5 : t.parts.any (lowP l b) = false) : reasonB l t b = bNone :=
  reason_none.2 ⟨by rw [h2, Bool.and_false], by show (_ && t.hasB bCall 1) = false; rw [h3, Bool.and_false], h4, by rw [h5, Bool.and_false]⟩
theorem reason_6 {l : Lt} {t : Term} {b : Int} (h1 : decide (¬ b = l.bottom) = false) (h4 : t.hasB bDecl 4 = true) : reasonB l t b = bDecl := by
  unfold reasonB; rw [if_neg (by rw [h1]; simp), if_neg (by rw [h1]; simp), if_pos (show (t.parts.any fun p => p.isN bDecl 4) = true from h4)]
theorem reason_7 {l : Lt} {t : Term} {b : Int} (h1 : decide (¬ b = l.bottom) = false) (h4 : t.hasB bDecl 4 = false) : reasonB l t b = bNone :=
  reason_none.2 ⟨by rw [h1]; rfl, by rw [h1]; rfl, h4, by rw [h1]; rfl⟩
theorem judge_stop {l : Lt} {b : Int} {ts : List Term} {i : Nat} {w : ByteArray} (h : i < ts.length) (hok : ∀ t ∈ ts.take i, reasonB l t.erase b = bNone) (hw : reasonB l ts[i].erase b = w) (hn : ¬ w = bNone) : judge l b ts = (false, w) := by
  rw [judge_bad h hok (by rw [hw]; exact hn), hw]
theorem judge_step {l : Lt} {b : Int} {ts : List Term} {i : Nat} (h : i < ts.length) (hok : ∀ t ∈ ts.take i, reasonB l t.erase b = bNone) (hw : reasonB l ts[i].erase b = bNone) : ∀ t ∈ ts.take (i + 1), reasonB l t.erase b = bNone := fun t ht => by
  rw [List.take_succ_eq_append_getElem h] at ht
  rcases List.mem_append.1 ht with ht | ht
  · exact hok t ht
  · simp at ht; subst ht; exact hw
def lowsB (l : Lt) (b : Int) (t : Term) : Bool := t.parts.any (lowP l b)
theorem lowsB_eq (l : Lt) (b : Int) (t : Term) : lowsB l b t = (lowP l b t || t.kids.any (lowsB l b)) := by
  unfold lowsB
  cases t with
  | node k n s ks =>
    rw [Term.parts, List.any_cons]
    congr 1
    show (partss ks).any (lowP l b) = ks.any fun x => x.parts.any (lowP l b)
    induction ks with
    | nil => rfl
    | cons x ks ih => rw [partss, List.any_append, List.any_cons, ih]
theorem lowsB_no {l : Lt} {b : Int} {t : Term} (h : lowP l b t = false) (hks : ∀ (i : Nat) (hi : i < t.kids.length), lowsB l b t.kids[i] = false) : lowsB l b t = false := by
  rw [lowsB_eq, h, Bool.false_or, List.any_eq_false]
  intro x hx
  obtain ⟨i, hi, rfl⟩ := List.getElem_of_mem hx
  rw [hks i hi]; simp
theorem lowsB_yes {l : Lt} {b : Int} {t : Term} {i : Nat} (hi : i < t.kids.length) (h : lowsB l b t.kids[i] = true) : lowsB l b t = true := by
  rw [lowsB_eq, Bool.or_eq_true, List.any_eq_true]; exact .inr ⟨_, List.getElem_mem hi, h⟩
theorem lowsB_at {l : Lt} {b : Int} {t : Term} (h : lowP l b t = true) : lowsB l b t = true := by rw [lowsB_eq, h]; rfl
theorem isN_not_var {t : Term} {s : ByteArray} {n : Int} (h : t.kind = 1) : t.isN s n = false := by
  unfold Term.isN; rw [h]; rfl
theorem opens_isv {t : Term} (h : t.kind = 1) : t.opens = true := by
  rw [opens_eq]
  have : t.ctl = false := by unfold Term.ctl; rw [isN_not_var h, isN_not_var h, isN_not_var h, isN_not_var h]; rfl
  rw [this, h]; rfl
theorem openss_2 {ks : List Term} (h0 : 0 < ks.length) (h1 : 1 < ks.length) (h2 : ks.length = 2) : openss ks = (ks[0].opens || ks[1].opens) := by
  match ks, h2 with
  | [a, b], _ => simp [openss]
theorem openss_1 {ks : List Term} (h0 : 0 < ks.length) (h2 : ks.length = 1) : openss ks = ks[0].opens := by
  match ks, h2 with
  | [a], _ => simp [openss]
theorem opens_two {t : Term} (h : (t.isN bComma 2 || t.isN bSemi 2 || t.isN bArrow 2) = true) (h0 : 0 < t.kids.length) (h1 : 1 < t.kids.length) (h2 : t.kids.length = 2) : t.opens = (t.kids[0].opens || t.kids[1].opens) := by
  rw [opens_eq]
  have : t.ctl = true := by unfold Term.ctl; rw [h]; rfl
  rw [this]; exact openss_2 h0 h1 h2
theorem opens_not {t : Term} (h : t.isN bNot 1 = true) (h0 : 0 < t.kids.length) : t.opens = t.kids[0].opens := by
  rw [opens_eq]
  have : t.ctl = true := by unfold Term.ctl; rw [h, Bool.or_true]
  rw [this]; exact openss_1 h0 (by have := (isN_iff.1 h).2.2; omega)
theorem opens_none {t : Term} (hv : ¬ t.kind = 1) (h : (t.isN bComma 2 || t.isN bSemi 2 || t.isN bArrow 2) = false) (h' : t.isN bNot 1 = false) : t.opens = false := by
  rw [opens_eq]
  have : t.ctl = false := by unfold Term.ctl; rw [h, h']; rfl
  rw [this]; exact decide_eq_false hv
theorem isN_len {t : Term} {s : ByteArray} {n : Nat} (h : t.isN s (n : Nat) = true) : t.kids.length = n := by have := (isN_iff.1 h).2.2; omega
theorem accept_one {l : Lt} {o : Option (List Cl)} {gs : List Term} {lv : Int} (h : l.n = 1) : acceptB l o gs lv = (true, bNone) := by
  unfold acceptB; rw [if_neg (by omega), if_pos h]
theorem accept_some {l : Lt} {cs : List Cl} {gs : List Term} {lv b0 : Int} (h0 : ¬ l.n = 0) (h1 : ¬ l.n = 1) (hb : b0 = l.join (l.lev lv) (topB l cs)) : acceptB l (some cs) gs lv = judge l (boundG l b0 gs) (textsC cs ++ gs) := by
  unfold acceptB; rw [if_neg h0, if_neg h1, hb]; rfl
end Go.Proofs.Ytohncglpjiplaaa.AM
