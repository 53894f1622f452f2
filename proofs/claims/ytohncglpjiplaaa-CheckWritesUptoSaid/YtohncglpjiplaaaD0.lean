/- Clauses, and bases of clauses: what they are as data, what is computed. -/
import Derived.Test.YtohncglpjiplaaaC0
import Derived.Test.YtohncglpjiplaaaF2
namespace Go.Proofs.Ytohncglpjiplaaa.AM
open Go
set_option linter.unusedVariables false
set_option linter.unusedSimpArgs false
structure Cl where
  level : Int
  head : Term
  body : Term
  vars : Int
abbrev clcells (c : Cl) : List D := [.int .i64 c.level, .int .i64 c.head.kind, .int .i64 c.head.num, .str c.head.name, .list (encs c.head.kids), .int .i64 c.body.kind, .int .i64 c.body.num, .str c.body.name, .list (encs c.body.kids), .int .i64 c.vars]
def encCl (c : Cl) : D := .agg (clcells c)
def clC (c : Cl) : List AV := (clcells c).map .d
def encCls (l : List Cl) : List D := l.map encCl
theorem encCls_len (l : List Cl) : (encCls l).length = l.length := by simp [encCls]
theorem encCls_app (l m : List Cl) : encCls (l ++ m) = encCls l ++ encCls m := by simp [encCls]
theorem encCl_cells (c : Cl) : (encCl c).cells.length = 10 := rfl
theorem cls_eq {a b : List Cl} (h : a = b) : AV.d (.list (encCls a)) = AV.d (.list (encCls b)) := by rw [h]
def zeroCl : Cl := ⟨0, zeroT, zeroT, 0⟩
def encOB (l : Lt) : Option (List Cl) → D
  | none => .nilp
  | some cs => .ptr [encL l, .list (encCls cs)]

/-! Names. -/
def neck : ByteArray := ⟨#[58, 45]⟩
def ncol : ByteArray := ⟨#[58, 58]⟩
def ntrue : ByteArray := ⟨#[116, 114, 117, 101]⟩
def trueT : Term := .node 3 0 ntrue []
def keys : List (ByteArray × Int) := [(⟨#[44]⟩, 2), (⟨#[59]⟩, 2), (⟨#[45, 62]⟩, 2), (⟨#[92, 43]⟩, 1), (⟨#[33]⟩, 0), (⟨#[99, 97, 108, 108]⟩, 1), (⟨#[116, 114, 117, 101]⟩, 0), (⟨#[102, 97, 105, 108]⟩, 0), (⟨#[61]⟩, 2), (⟨#[92, 61]⟩, 2), (⟨#[61, 61]⟩, 2), (⟨#[92, 61, 61]⟩, 2), (⟨#[64, 60]⟩, 2), (⟨#[105, 115]⟩, 2), (⟨#[60]⟩, 2), (⟨#[62]⟩, 2), (⟨#[61, 60]⟩, 2), (⟨#[62, 61]⟩, 2), (⟨#[61, 58, 61]⟩, 2), (⟨#[61, 92, 61]⟩, 2), (⟨#[118, 97, 114]⟩, 1), (⟨#[110, 111, 110, 118, 97, 114]⟩, 1), (⟨#[97, 116, 111, 109]⟩, 1), (⟨#[105, 110, 116, 101, 103, 101, 114]⟩, 1), (⟨#[99, 111, 112, 121, 95, 116, 101, 114, 109]⟩, 2), (⟨#[119, 114, 105, 116, 101]⟩, 2), (⟨#[100, 101, 99, 108, 97, 115, 115, 105, 102, 121]⟩, 4)]
def keysD : List (ByteArray × Int) → List D
  | [] => []
  | k :: l => .str k.1 :: .int .i64 k.2 :: keysD l
def keyHit (s : ByteArray) (n : Int) (k : ByteArray × Int) : Bool := (k.1.toList == s.toList) && (k.2 == n)
def knownB (s : ByteArray) (n : Int) : Bool := keys.any (keyHit s n)
def Term.two (t : Term) (s : ByteArray) : Bool := decide (t.kind = 3) && (t.name.toList == s.toList) && decide ((t.kids.length : Int) = 2)
theorem two_iff {t : Term} {s : ByteArray} : t.two s = true ↔ t.kind = 3 ∧ t.name = s ∧ t.kids.length = 2 := by
  unfold Term.two
  simp only [Bool.and_eq_true, decide_eq_true_eq, beq_iff_eq]
  constructor
  · rintro ⟨⟨h1, h2⟩, h3⟩; exact ⟨h1, ByteArray.ext_list h2, by omega⟩
  · rintro ⟨h1, h2, h3⟩; exact ⟨⟨h1, by rw [h2]⟩, by omega⟩
def kid (t : Term) (i : Nat) : Term := t.kids.getD i zeroT
theorem kid_eq {t : Term} {i : Nat} (h : i < t.kids.length) : t.kids[i] = kid t i := by simp [kid, h]

/-! Clauses out of terms. -/
def asRule (t : Term) : Term := if t.two neck = true then t else .node 3 0 neck [t, trueT]
def parse2 (level : Int) (h x y : Term) (n : Int) : Cl × Int :=
  if h.kind ≠ 3 then (zeroCl, 9) else if (knownB h.name (h.kids.length : Int) || h.two neck || h.two ncol) = true then (zeroCl, 6) else (⟨level, x, y, n⟩, 0)
def parse1 (level : Int) (r : Term) : Cl × Int := parse2 level (kid r 0) (kid r.norm 0) (kid r.norm 1) (r.vars.length : Nat)
def parseL (l : Lt) (t : Term) : Cl × Int :=
  if t.two ncol = true then (if (kid t 0).kind = 2 ∧ 0 ≤ (kid t 0).num ∧ (kid t 0).num < ((l.n : Nat) : Int) then parse1 (kid t 0).num (asRule (kid t 1)) else (zeroCl, 2)) else parse1 l.bottom (asRule t)
def newsF (l : Lt) : List Term → Nat → List Cl → Option (List Cl) × Int × Int
  | [], _, acc => (some acc, 0, 0)
  | t :: ts, i, acc => if (parseL l t).2 = 0 then newsF l ts (i + 1) (acc ++ [(parseL l t).1]) else (none, (i : Int), (parseL l t).2)
def newB (l : Lt) (ts : List Term) : Option (List Cl) × Int × Int := if 200 < ts.length then (none, 0, 3) else newsF l ts 0 []
def allB (o : Option (List Cl)) : List Cl := o.getD []
def hasKey (s : ByteArray) (n : Int) (c : Cl) : Bool := (s.toList == c.head.name.toList) && (n == (c.head.kids.length : Int))
def getB (cs : List Cl) (s : ByteArray) (n : Int) : List Cl := cs.filter (hasKey s n)
def topStep (l : Lt) (n : Int) (c : Cl) : Int := l.join n (l.join c.level (l.join (c.head.sj l) (c.body.sj l)))
def topB (l : Lt) (cs : List Cl) : Int := cs.foldl (topStep l) l.bottom
def topO (l : Lt) : Option (List Cl) → Int
  | none => 0
  | some cs => topB l cs

theorem norm_len (r : Term) : r.norm.kids.length = r.kids.length := by
  have : r.norm.kids = puts (fun n => placeOf r.vars n 0) r.kids := by unfold Term.norm; rw [put_eq]; rfl
  rw [this, puts_len]
theorem asRule_two (t : Term) : (asRule t).two neck = true := by
  unfold asRule
  split
  · assumption
  · exact two_iff.2 ⟨rfl, rfl, rfl⟩
theorem asRule_len (t : Term) : (asRule t).kids.length = 2 := (two_iff.1 (asRule_two t)).2.2
theorem asRule_yes {t : Term} (h : t.two neck = true) : asRule t = t := if_pos h
theorem asRule_no {t : Term} (h : ¬ t.two neck = true) : asRule t = .node 3 0 neck [t, trueT] := if_neg h
theorem asRule_bulk (t : Term) : (asRule t).bulk ≤ t.bulk + 8 := by
  unfold asRule
  split
  · omega
  · show neck.size + (t.bulk + (trueT.bulk + 0)) + 1 ≤ _
    have h1 : neck.size = 2 := rfl
    have h2 : trueT.bulk = 5 := rfl
    omega
theorem kid_bulk (t : Term) (i : Nat) : (kid t i).bulk ≤ max 1 t.bulk := by
  unfold kid
  by_cases h : i < t.kids.length
  · have := bulks_mem (List.getElem_mem h); have := t.bulk_kids; simp [h]; omega
  · rw [List.getD_eq_getElem?_getD, List.getElem?_eq_none (by omega)]; exact Nat.le_max_left ..
theorem bulk_pos (t : Term) : 1 ≤ t.bulk := by have := t.bulk_kids; omega
theorem kid_le (t : Term) (i : Nat) : (kid t i).bulk ≤ t.bulk := by have := kid_bulk t i; have := bulk_pos t; omega
/-- A clause is not greater than what it was read from. -/
def Cl.small (B : Nat) (c : Cl) : Prop := c.head.bulk ≤ B ∧ c.body.bulk ≤ B
theorem parse1_small (lv : Int) (r : Term) : (parse1 lv r).1.small r.bulk := by
  have h0 := kid_le r.norm 0
  have h1 := kid_le r.norm 1
  rw [norm_bulk] at h0 h1
  have := bulk_pos r
  unfold parse1 parse2 Cl.small
  split
  · exact ⟨this, this⟩
  · split
    · exact ⟨this, this⟩
    · exact ⟨h0, h1⟩
theorem parseL_small (l : Lt) (t : Term) : (parseL l t).1.small (t.bulk + 8) := by
  unfold parseL
  have key : ∀ (lv : Int) (u : Term), u.bulk ≤ t.bulk → (parse1 lv (asRule u)).1.small (t.bulk + 8) := fun lv u h => by
    have h1 := parse1_small lv (asRule u)
    have h2 := asRule_bulk u
    exact ⟨Nat.le_trans h1.1 (by omega), Nat.le_trans h1.2 (by omega)⟩
  split
  · split
    · exact key _ _ (kid_le t 1)
    · exact ⟨by show 1 ≤ _; omega, by show 1 ≤ _; omega⟩
  · exact key _ _ (Nat.le_refl _)

theorem rule_bulk (t : Term) : (Term.node 3 0 neck [t, trueT]).bulk = t.bulk + 8 := by
  show neck.size + (t.bulk + (trueT.bulk + 0)) + 1 = _
  have h1 : neck.size = 2 := rfl
  have h2 : trueT.bulk = 5 := rfl
  omega
theorem parse_range {l : Lt} {t : Term} (h : t.two ncol = true) (h0 : 0 < t.kids.length) (hn : ¬ (t.kids[0].kind = 2 ∧ (0 : Int) ≤ t.kids[0].num ∧ t.kids[0].num < ((l.n : Nat) : Int))) : parseL l t = (zeroCl, 2) := by
  unfold parseL; rw [if_pos h, ← kid_eq h0, if_neg hn]
theorem parse_in {l : Lt} {t : Term} (h : t.two ncol = true) (h0 : 0 < t.kids.length) (h1 : 1 < t.kids.length) (k1 : t.kids[0].kind = 2) (k2 : (0 : Int) ≤ t.kids[0].num) (k3 : t.kids[0].num < ((l.n : Nat) : Int)) : parseL l t = parse1 t.kids[0].num (asRule t.kids[1]) := by
  unfold parseL; rw [if_pos h, ← kid_eq h0, if_pos ⟨k1, k2, k3⟩, ← kid_eq h1]
theorem parse_out {l : Lt} {t : Term} (h : t.two ncol = false) : parseL l t = parse1 l.bottom (asRule t) := by
  unfold parseL; rw [if_neg (by rw [h]; simp)]
theorem or3a {a b c : Bool} (h : a = true) : (a || b || c) = true := by rw [h]; rfl
theorem or3b {a b c : Bool} (h : b = true) : (a || b || c) = true := by rw [h]; cases a <;> rfl
theorem or3c {a b c : Bool} (h : c = true) : (a || b || c) = true := by rw [h]; cases a <;> cases b <;> rfl
theorem or3n {a b c : Bool} (h1 : a = false) (h2 : b = false) (h3 : c = false) : (a || b || c) = false := by rw [h1, h2, h3]; rfl
theorem p1_type {lv : Int} {r : Term} (h0 : 0 < r.kids.length) (h : ¬ r.kids[0].kind = 3) : parse1 lv r = (zeroCl, 9) := by
  unfold parse1 parse2; rw [← kid_eq h0, if_pos h]
theorem p1_there {lv : Int} {r : Term} (h0 : 0 < r.kids.length) (hk : r.kids[0].kind = 3) (h : (knownB r.kids[0].name (r.kids[0].kids.length : Int) || r.kids[0].two neck || r.kids[0].two ncol) = true) : parse1 lv r = (zeroCl, 6) := by
  unfold parse1 parse2; rw [← kid_eq h0, if_neg (by simp [hk]), if_pos h]
theorem p1_ok {lv : Int} {r : Term} (h0 : 0 < r.kids.length) (hk : r.kids[0].kind = 3) (h : (knownB r.kids[0].name (r.kids[0].kids.length : Int) || r.kids[0].two neck || r.kids[0].two ncol) = false) (n0 : 0 < r.norm.kids.length) (n1 : 1 < r.norm.kids.length) :
    parse1 lv r = (⟨lv, r.norm.kids[0], r.norm.kids[1], (r.vars.length : Nat)⟩, 0) := by
  unfold parse1 parse2; rw [← kid_eq h0, if_neg (by simp [hk]), if_neg (by rw [h]; simp), ← kid_eq n0, ← kid_eq n1]
theorem newsF_pre (l : Lt) : ∀ (ts : List Term) (x i : Nat) (acc : List Cl), x ≤ ts.length → (∀ t ∈ ts.take x, (parseL l t).2 = 0) → newsF l ts i acc = newsF l (ts.drop x) (i + x) (acc ++ (ts.take x).map fun t => (parseL l t).1)
  | ts, 0, i, acc, _, _ => by simp
  | [], x + 1, i, acc, h, _ => by simp at h
  | t :: ts, x + 1, i, acc, h, hok => by
    have h0 := hok t (by simp)
    simp only [newsF, if_pos h0, List.take_succ_cons, List.drop_succ_cons, List.map_cons]
    rw [newsF_pre l ts x (i + 1) _ (by simp at h; omega) (fun u hu => hok u (by simp [hu]))]
    rw [show i + 1 + x = i + (x + 1) by omega]
    simp
theorem newB_big {l : Lt} {ts : List Term} (h : 200 < ts.length) : newB l ts = (none, 0, 3) := if_pos h
theorem newB_ok {l : Lt} {ts : List Term} (h : ts.length ≤ 200) (hok : ∀ t ∈ ts, (parseL l t).2 = 0) : newB l ts = (some (ts.map fun t => (parseL l t).1), 0, 0) := by
  unfold newB
  rw [if_neg (by omega), newsF_pre l ts ts.length 0 [] (Nat.le_refl _) (by rw [List.take_length]; exact hok)]
  simp [newsF]
theorem newB_bad {l : Lt} {ts : List Term} (h : ts.length ≤ 200) {i : Nat} (hi : i < ts.length) (hok : ∀ t ∈ ts.take i, (parseL l t).2 = 0) (hb : (parseL l ts[i]).2 ≠ 0) : newB l ts = (none, (i : Int), (parseL l ts[i]).2) := by
  unfold newB
  rw [if_neg (by omega), newsF_pre l ts i 0 [] (by omega) hok, List.drop_eq_getElem_cons hi]
  simp [newsF, hb]
theorem ok_snoc {l : Lt} {ts : List Term} {i : Nat} (hi : i < ts.length) (h : ∀ t ∈ ts.take i, (parseL l t).2 = 0) (h2 : (parseL l ts[i]).2 = 0) : ∀ t ∈ ts.take (i + 1), (parseL l t).2 = 0 := by
  rw [List.take_succ_eq_append_getElem hi]
  intro t ht
  rcases List.mem_append.1 ht with ht | ht
  · exact h t ht
  · simp at ht; rw [ht]; exact h2
def parsesT (l : Lt) (ts : List Term) : List Cl := ts.map fun t => (parseL l t).1
theorem parsesT_take {l : Lt} {ts : List Term} {i : Nat} (h : i < ts.length) : parsesT l (ts.take (i + 1)) = parsesT l (ts.take i) ++ [(parseL l ts[i]).1] := by
  unfold parsesT; rw [List.take_succ_eq_append_getElem h, List.map_append]; rfl
theorem parsesT_len (l : Lt) (ts : List Term) : (parsesT l ts).length = ts.length := by simp [parsesT]
theorem topB_take {l : Lt} {cs : List Cl} {i : Nat} (h : i < cs.length) : topB l (cs.take (i + 1)) = topStep l (topB l (cs.take i)) cs[i] := by
  unfold topB; rw [List.take_succ_eq_append_getElem h, List.foldl_append]; rfl
theorem fold_snoc : ∀ (l acc : List Cl), l.foldl (fun σ c => σ ++ [c]) acc = acc ++ l
  | [], acc => by simp
  | c :: l, acc => by rw [List.foldl_cons, fold_snoc l]; simp
theorem getB_drop {cs : List Cl} {s : ByteArray} {n : Int} {i : Nat} (h : i < cs.length) : getB (cs.drop i) s n = if hasKey s n cs[i] = true then cs[i] :: getB (cs.drop (i + 1)) s n else getB (cs.drop (i + 1)) s n := by
  unfold getB; rw [List.drop_eq_getElem_cons h, List.filter_cons]
theorem mem_all {cs : List Cl} {B : Nat} (h : ∀ c ∈ allB (some cs), c.small B) {i : Nat} (hi : i < cs.length) : cs[i].small B := h _ (List.getElem_mem hi)
def oneB (a b : Cl) : Bool := (a.level == b.level) && (a.vars == b.vars) && same a.head b.head && same a.body b.body
theorem oneB_iff (a b : Cl) : oneB a b = true ↔ a = b := by
  unfold oneB
  simp only [Bool.and_eq_true, beq_iff_eq, same_iff]
  constructor
  · rintro ⟨⟨⟨h1, h2⟩, h3⟩, h4⟩; cases a; cases b; simp only at h1 h2 h3 h4; subst h1; subst h2; subst h3; subst h4; rfl
  · rintro rfl; exact ⟨⟨⟨rfl, rfl⟩, rfl⟩, rfl⟩
def sameCls (a b : List Cl) : Bool := decide (a.length = b.length) && (List.zipWith oneB a b).all id
theorem sameCls_refl (a : List Cl) : sameCls a a = true := by
  unfold sameCls
  simp only [decide_true, Bool.true_and]
  induction a with
  | nil => rfl
  | cons x a ih => rw [List.zipWith_cons_cons, List.all_cons, ih, (oneB_iff x x).2 rfl]; rfl
theorem sameCls_len {a b : List Cl} (h : ¬ (a.length : Int) = (b.length : Int)) : sameCls a b = false := by
  unfold sameCls; rw [decide_eq_false (by omega)]; rfl
theorem sameCls_no {a b : List Cl} {i : Nat} (ha : i < a.length) (hb : i < b.length) (h : oneB a[i] b[i] = false) : sameCls a b = false := by
  unfold sameCls
  rw [Bool.and_eq_false_iff]; right
  rw [List.all_eq_false]
  exact ⟨oneB a[i] b[i], List.mem_iff_getElem.2 ⟨i, by simp; omega, by simp⟩, by rw [h]; simp⟩
theorem sameCls_yes {a b : List Cl} (hl : a.length = b.length) (h : ∀ (i : Nat) (ha : i < a.length) (hb : i < b.length), oneB a[i] b[i] = true) : sameCls a b = true := by
  have : a = b := List.ext_getElem hl fun i ha hb => (oneB_iff _ _).1 (h i ha hb)
  rw [this]; exact sameCls_refl b
theorem known_hit {s : ByteArray} {n : Int} {i : Nat} (h : i < keys.length) (hh : keyHit s n keys[i] = true) : knownB s n = true := List.any_eq_true.2 ⟨_, List.getElem_mem h, hh⟩
theorem known_not {s : ByteArray} {n : Int} (h : ∀ (i : Nat) (hi : i < keys.length), keyHit s n keys[i] = false) : knownB s n = false := by
  unfold knownB
  rw [List.any_eq_false]
  intro k hk
  obtain ⟨i, hi, rfl⟩ := List.getElem_of_mem hk
  rw [h i hi]; simp
end Go.Proofs.Ytohncglpjiplaaa.AM
