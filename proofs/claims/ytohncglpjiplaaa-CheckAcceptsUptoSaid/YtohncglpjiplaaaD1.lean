/- Clauses, and bases of clauses: what they are as data, what is computed. -/
import Derived.Test.YtohncglpjiplaaaC0
import Derived.Test.YtohncglpjiplaaaF2
import Derived.Test.YtohncglpjiplaaaF1
import Derived.Test.YtohncglpjiplaaaS3
import Derived.Laws.StructEq
namespace Go.Proofs.Ytohncglpjiplaaa.AM
open Go
set_option linter.unusedVariables false
set_option linter.unusedSimpArgs false
structure Cl where
  level : Int
  head : Term
  body : Term
  vars : Int
abbrev clcells (c : Cl) : List D := [.int .i64 c.level, .int .i64 c.head.kind, .int .i64 c.head.num, .str c.head.name, .list (encs c.head.kids), .int .i64 c.body.kind, .int .i64 c.body.num, .str c.body.name, .list (encs c.body.kids), .int .i64 c.vars]
def encCl (c : Cl) : D := .agg (clcells c)
def clC (c : Cl) : List AV := (clcells c).map .d
def encCls (l : List Cl) : List D := l.map encCl
theorem encCls_len (l : List Cl) : (encCls l).length = l.length := by simp [encCls]
theorem encCls_app (l m : List Cl) : encCls (l ++ m) = encCls l ++ encCls m := by simp [encCls]
theorem encCl_cells (c : Cl) : (encCl c).cells.length = 10 := rfl
def zeroCl : Cl := ⟨0, zeroT, zeroT, 0⟩
def encOB (l : Lt) : Option (List Cl) → D
  | none => .nilp
  | some cs => .ptr [encL l, .list (encCls cs)]

/-! Names. -/
def neck : ByteArray := ⟨#[58, 45]⟩
def ncol : ByteArray := ⟨#[58, 58]⟩
def ntrue : ByteArray := ⟨#[116, 114, 117, 101]⟩
def trueT : Term := .node 3 0 ntrue []
def keys : List (ByteArray × Int) := [(⟨#[44]⟩, 2), (⟨#[59]⟩, 2), (⟨#[45, 62]⟩, 2), (⟨#[92, 43]⟩, 1), (⟨#[33]⟩, 0), (⟨#[99, 97, 108, 108]⟩, 1), (⟨#[116, 114, 117, 101]⟩, 0), (⟨#[102, 97, 105, 108]⟩, 0), (⟨#[61]⟩, 2), (⟨#[92, 61]⟩, 2), (⟨#[61, 61]⟩, 2), (⟨#[92, 61, 61]⟩, 2), (⟨#[64, 60]⟩, 2), (⟨#[105, 115]⟩, 2), (⟨#[60]⟩, 2), (⟨#[62]⟩, 2), (⟨#[61, 60]⟩, 2), (⟨#[62, 61]⟩, 2), (⟨#[61, 58, 61]⟩, 2), (⟨#[61, 92, 61]⟩, 2), (⟨#[118, 97, 114]⟩, 1), (⟨#[110, 111, 110, 118, 97, 114]⟩, 1), (⟨#[97, 116, 111, 109]⟩, 1), (⟨#[105, 110, 116, 101, 103, 101, 114]⟩, 1), (⟨#[99, 111, 112, 121, 95, 116, 101, 114, 109]⟩, 2), (⟨#[119, 114, 105, 116, 101]⟩, 2), (⟨#[100, 101, 99, 108, 97, 115, 115, 105, 102, 121]⟩, 4)]
def keysD : List (ByteArray × Int) → List D
  | [] => []
  | k :: l => .str k.1 :: .int .i64 k.2 :: keysD l
def keyHit (s : ByteArray) (n : Int) (k : ByteArray × Int) : Bool := (k.1.toList == s.toList) && (k.2 == n)
def knownB (s : ByteArray) (n : Int) : Bool := keys.any (keyHit s n)
def Term.two (t : Term) (s : ByteArray) : Bool := decide (t.kind = 3) && (t.name.toList == s.toList) && decide ((t.kids.length : Int) = 2)
theorem two_iff {t : Term} {s : ByteArray} : t.two s = true ↔ t.kind = 3 ∧ t.name = s ∧ t.kids.length = 2 := by
  unfold Term.two
  simp only [Bool.and_eq_true, decide_eq_true_eq, beq_iff_eq]
  constructor
  · rintro ⟨⟨h1, h2⟩, h3⟩; exact ⟨h1, ByteArray.ext_list h2, by omega⟩
  · rintro ⟨h1, h2, h3⟩; exact ⟨⟨h1, by rw [h2]⟩, by omega⟩
def kid (t : Term) (i : Nat) : Term := t.kids.getD i zeroT
theorem kid_eq {t : Term} {i : Nat} (h : i < t.kids.length) : t.kids[i] = kid t i := by simp [kid, h]

/-! Clauses out of terms. -/
def asRule (t : Term) : Term := if t.two neck = true then t else .node 3 0 neck [t, trueT]
def parse2 (level : Int) (h x y : Term) (n : Int) : Cl × Int :=
  if h.kind ≠ 3 then (zeroCl, 9) else if (knownB h.name (h.kids.length : Int) || h.two neck || h.two ncol) = true then (zeroCl, 6) else (⟨level, x, y, n⟩, 0)
def parse1 (level : Int) (r : Term) : Cl × Int := parse2 level (kid r 0) (kid r.norm 0) (kid r.norm 1) (r.vars.length : Nat)
def parseL (l : Lt) (t : Term) : Cl × Int :=
  if t.two ncol = true then (if (kid t 0).kind = 2 ∧ 0 ≤ (kid t 0).num ∧ (kid t 0).num < ((l.n : Nat) : Int) then parse1 (kid t 0).num (asRule (kid t 1)) else (zeroCl, 2)) else parse1 l.bottom (asRule t)
def newsF (l : Lt) : List Term → Nat → List Cl → Option (List Cl) × Int × Int
  | [], _, acc => (some acc, 0, 0)
  | t :: ts, i, acc => if (parseL l t).2 = 0 then newsF l ts (i + 1) (acc ++ [(parseL l t).1]) else (none, (i : Int), (parseL l t).2)
def newB (l : Lt) (ts : List Term) : Option (List Cl) × Int × Int := if 200 < ts.length then (none, 0, 3) else newsF l ts 0 []
def allB (o : Option (List Cl)) : List Cl := o.getD []
def hasKey (s : ByteArray) (n : Int) (c : Cl) : Bool := (s.toList == c.head.name.toList) && (n == (c.head.kids.length : Int))
def getB (cs : List Cl) (s : ByteArray) (n : Int) : List Cl := cs.filter (hasKey s n)
def topStep (l : Lt) (n : Int) (c : Cl) : Int := l.join n (l.join c.level (l.join (c.head.sj l) (c.body.sj l)))
def topB (l : Lt) (cs : List Cl) : Int := cs.foldl (topStep l) l.bottom
def topO (l : Lt) : Option (List Cl) → Int
  | none => 0
  | some cs => topB l cs

theorem norm_len (r : Term) : r.norm.kids.length = r.kids.length := by
  have : r.norm.kids = puts (fun n => placeOf r.vars n 0) r.kids := by unfold Term.norm; rw [put_eq]; rfl
  rw [this, puts_len]
theorem asRule_yes {t : Term} (h : t.two neck = true) : asRule t = t := if_pos h
theorem asRule_no {t : Term} (h : ¬ t.two neck = true) : asRule t = .node 3 0 neck [t, trueT] := if_neg h
theorem asRule_bulk (t : Term) : (asRule t).bulk ≤ t.bulk + 8 := by
  unfold asRule
  split
  · omega
  · show neck.size + (t.bulk + (trueT.bulk + 0)) + 1 ≤ _
    have h1 : neck.size = 2 := rfl
    have h2 : trueT.bulk = 5 := rfl
    omega
theorem kid_bulk (t : Term) (i : Nat) : (kid t i).bulk ≤ max 1 t.bulk := by
  unfold kid
  by_cases h : i < t.kids.length
  · have := bulks_mem (List.getElem_mem h); have := t.bulk_kids; simp [h]; omega
  · rw [List.getD_eq_getElem?_getD, List.getElem?_eq_none (by omega)]; exact Nat.le_max_left ..
theorem bulk_pos (t : Term) : 1 ≤ t.bulk := by have := t.bulk_kids; omega
theorem kid_le (t : Term) (i : Nat) : (kid t i).bulk ≤ t.bulk := by have := kid_bulk t i; have := bulk_pos t; omega
/-- A clause is not greater than what it was read from. -/
def Cl.small (B : Nat) (c : Cl) : Prop := c.head.bulk ≤ B ∧ c.body.bulk ≤ B
theorem parse1_small (lv : Int) (r : Term) : (parse1 lv r).1.small r.bulk := by
  have h0 := kid_le r.norm 0
  have h1 := kid_le r.norm 1
  rw [norm_bulk] at h0 h1
  have := bulk_pos r
  unfold parse1 parse2 Cl.small
  split
  · exact ⟨this, this⟩
  · split
    · exact ⟨this, this⟩
    · exact ⟨h0, h1⟩
theorem parseL_small (l : Lt) (t : Term) : (parseL l t).1.small (t.bulk + 8) := by
  unfold parseL
  have key : ∀ (lv : Int) (u : Term), u.bulk ≤ t.bulk → (parse1 lv (asRule u)).1.small (t.bulk + 8) := fun lv u h => by
    have h1 := parse1_small lv (asRule u)
    have h2 := asRule_bulk u
    exact ⟨Nat.le_trans h1.1 (by omega), Nat.le_trans h1.2 (by omega)⟩
  split
  · split
    · exact key _ _ (kid_le t 1)
    · exact ⟨by show 1 ≤ _; omega, by show 1 ≤ _; omega⟩
  · exact key _ _ (Nat.le_refl _)

theorem rule_bulk (t : Term) : (Term.node 3 0 neck [t, trueT]).bulk = t.bulk + 8 := by
  show neck.size + (t.bulk + (trueT.bulk + 0)) + 1 = _
  have h1 : neck.size = 2 := rfl
  have h2 : trueT.bulk = 5 := rfl
  omega
theorem parse_range {l : Lt} {t : Term} (h : t.two ncol = true) (h0 : 0 < t.kids.length) (hn : ¬ (t.kids[0].kind = 2 ∧ (0 : Int) ≤ t.kids[0].num ∧ t.kids[0].num < ((l.n : Nat) : Int))) : parseL l t = (zeroCl, 2) := by
  unfold parseL; rw [if_pos h, ← kid_eq h0, if_neg hn]
theorem parse_in {l : Lt} {t : Term} (h : t.two ncol = true) (h0 : 0 < t.kids.length) (h1 : 1 < t.kids.length) (k1 : t.kids[0].kind = 2) (k2 : (0 : Int) ≤ t.kids[0].num) (k3 : t.kids[0].num < ((l.n : Nat) : Int)) : parseL l t = parse1 t.kids[0].num (asRule t.kids[1]) := by
  unfold parseL; rw [if_pos h, ← kid_eq h0, if_pos ⟨k1, k2, k3⟩, ← kid_eq h1]
theorem parse_out {l : Lt} {t : Term} (h : t.two ncol = false) : parseL l t = parse1 l.bottom (asRule t) := by
  unfold parseL; rw [if_neg (by rw [h]; simp)]
theorem or3a {a b c : Bool} (h : a = true) : (a || b || c) = true := by rw [h]; rfl
theorem or3b {a b c : Bool} (h : b = true) : (a || b || c) = true := by rw [h]; cases a <;> rfl
theorem or3c {a b c : Bool} (h : c = true) : (a || b || c) = true := by rw [h]; cases a <;> cases b <;> rfl
theorem or3n {a b c : Bool} (h1 : a = false) (h2 : b = false) (h3 : c = false) : (a || b || c) = false := by rw [h1, h2, h3]; rfl
theorem p1_type {lv : Int} {r : Term} (h0 : 0 < r.kids.length) (h : ¬ r.kids[0].kind = 3) : parse1 lv r = (zeroCl, 9) := by
  unfold parse1 parse2; rw [← kid_eq h0, if_pos h]
theorem p1_there {lv : Int} {r : Term} (h0 : 0 < r.kids.length) (hk : r.kids[0].kind = 3) (h : (knownB r.kids[0].name (r.kids[0].kids.length : Int) || r.kids[0].two neck || r.kids[0].two ncol) = true) : parse1 lv r = (zeroCl, 6) := by
  unfold parse1 parse2; rw [← kid_eq h0, if_neg (by simp [hk]), if_pos h]
theorem p1_ok {lv : Int} {r : Term} (h0 : 0 < r.kids.length) (hk : r.kids[0].kind = 3) (h : (knownB r.kids[0].name (r.kids[0].kids.length : Int) || r.kids[0].two neck || r.kids[0].two ncol) = false) (n0 : 0 < r.norm.kids.length) (n1 : 1 < r.norm.kids.length) :
    parse1 lv r = (⟨lv, r.norm.kids[0], r.norm.kids[1], (r.vars.length : Nat)⟩, 0) := by
  unfold parse1 parse2; rw [← kid_eq h0, if_neg (by simp [hk]), if_neg (by rw [h]; simp), ← kid_eq n0, ← kid_eq n1]
theorem newsF_pre (l : Lt) : ∀ (ts : List Term) (x i : Nat) (acc : List Cl), x ≤ ts.length → (∀ t ∈ ts.take x, (parseL l t).2 = 0) → newsF l ts i acc = newsF l (ts.drop x) (i + x) (acc ++ (ts.take x).map fun t => (parseL l t).1)
  | ts, 0, i, acc, _, _ => by simp
  | [], x + 1, i, acc, h, _ => by simp at h
  | t :: ts, x + 1, i, acc, h, hok => by
    have h0 := hok t (by simp)
    simp only [newsF, if_pos h0, List.take_succ_cons, List.drop_succ_cons, List.map_cons]
    rw [newsF_pre l ts x (i + 1) _ (by simp at h; omega) (fun u hu => hok u (by simp [hu]))]
    rw [show i + 1 + x = i + (x + 1) by omega]
    simp
theorem newB_big {l : Lt} {ts : List Term} (h : 200 < ts.length) : newB l ts = (none, 0, 3) := if_pos h
theorem newB_ok {l : Lt} {ts : List Term} (h : ts.length ≤ 200) (hok : ∀ t ∈ ts, (parseL l t).2 = 0) : newB l ts = (some (ts.map fun t => (parseL l t).1), 0, 0) := by
  unfold newB
  rw [if_neg (by omega), newsF_pre l ts ts.length 0 [] (Nat.le_refl _) (by rw [List.take_length]; exact hok)]
  simp [newsF]
theorem newB_bad {l : Lt} {ts : List Term} (h : ts.length ≤ 200) {i : Nat} (hi : i < ts.length) (hok : ∀ t ∈ ts.take i, (parseL l t).2 = 0) (hb : (parseL l ts[i]).2 ≠ 0) : newB l ts = (none, (i : Int), (parseL l ts[i]).2) := by
  unfold newB
  rw [if_neg (by omega), newsF_pre l ts i 0 [] (by omega) hok, List.drop_eq_getElem_cons hi]
  simp [newsF, hb]
theorem ok_snoc {l : Lt} {ts : List Term} {i : Nat} (hi : i < ts.length) (h : ∀ t ∈ ts.take i, (parseL l t).2 = 0) (h2 : (parseL l ts[i]).2 = 0) : ∀ t ∈ ts.take (i + 1), (parseL l t).2 = 0 := by
  rw [List.take_succ_eq_append_getElem hi]
  intro t ht
  rcases List.mem_append.1 ht with ht | ht
  · exact h t ht
  · simp at ht; rw [ht]; exact h2
def parsesT (l : Lt) (ts : List Term) : List Cl := ts.map fun t => (parseL l t).1
theorem parsesT_take {l : Lt} {ts : List Term} {i : Nat} (h : i < ts.length) : parsesT l (ts.take (i + 1)) = parsesT l (ts.take i) ++ [(parseL l ts[i]).1] := by
  unfold parsesT; rw [List.take_succ_eq_append_getElem h, List.map_append]; rfl
theorem parsesT_len (l : Lt) (ts : List Term) : (parsesT l ts).length = ts.length := by simp [parsesT]
theorem topB_take {l : Lt} {cs : List Cl} {i : Nat} (h : i < cs.length) : topB l (cs.take (i + 1)) = topStep l (topB l (cs.take i)) cs[i] := by
  unfold topB; rw [List.take_succ_eq_append_getElem h, List.foldl_append]; rfl
theorem mem_all {cs : List Cl} {B : Nat} (h : ∀ c ∈ allB (some cs), c.small B) {i : Nat} (hi : i < cs.length) : cs[i].small B := h _ (List.getElem_mem hi)
def oneB (a b : Cl) : Bool := (a.level == b.level) && (a.vars == b.vars) && same a.head b.head && same a.body b.body
def sameCls (a b : List Cl) : Bool := decide (a.length = b.length) && (List.zipWith oneB a b).all id
theorem known_hit {s : ByteArray} {n : Int} {i : Nat} (h : i < keys.length) (hh : keyHit s n keys[i] = true) : knownB s n = true := List.any_eq_true.2 ⟨_, List.getElem_mem h, hh⟩
theorem known_not {s : ByteArray} {n : Int} (h : ∀ (i : Nat) (hi : i < keys.length), keyHit s n keys[i] = false) : knownB s n = false := by
  unfold knownB
  rw [List.any_eq_false]
  intro k hk
  obtain ⟨i, hi, rfl⟩ := List.getElem_of_mem hk
  rw [h i hi]; simp

/-! The rules for clauses, bases, and names with how many arguments. -/
section
variable {P : Program} {ro : Option Nat} {N : Nat} {K : Org} {T : Nat → AV} {O : List AObj} {dst : Option Tmp} {ty : TypeId} {pos : String} {af : Array Edge} {g : Option (Nat × Bool)}

theorem opv_load_pt {x : Operand} {t : Nat} {cs : List D} {u : Term} [S : Sz P t 4 true] (hx : evT T x = .d (.ptr cs)) (hv : cs.take 4 = dcells u) : OpV P ro ⟨dst, .load t x, ty, pos, af, g⟩ T O (.d (enc u)) O :=
  opv_load_ptr hx (by
    have hl : 4 ≤ cs.length := by have := congrArg List.length hv; rw [List.length_take] at this; simp at this; omega
    simp only [takeD, if_pos hl, hv, enc_d])
theorem opv_load_pcl {x : Operand} {t : Nat} {c : Cl} [S : Sz P t 10 true] (hx : evT T x = .d (.ptr (clcells c))) : OpV P ro ⟨dst, .load t x, ty, pos, af, g⟩ T O (.d (encCl c)) O :=
  opv_load_ptr hx rfl
theorem opv_store_cl {p x : Operand} {t id : Nat} {cs : List AV} {c : Cl} [S : Sz P t 10 true] (hp : evT T p = .ref id 0) (hO : O[id]? = some (.cells cs)) (hx : evT T x = .d (encCl c)) (hl : Nat.beq cs.length 10 = true) :
    OpV P ro ⟨dst, .store t p x, ty, pos, af, g⟩ T O .unk (O.set id (.cells (clC c))) := by
  have hl := Nat.eq_of_beq_eq_true hl
  have := opv_store_ref (P := P) (ro := ro) (dst := dst) (ty := ty) (pos := pos) (af := af) (g := g) (t := t) (vs := clC c) hp hO hx rfl rfl (by simp [clC]; omega) rfl
  have e : setAV cs 0 (clC c) = clC c := by
    unfold setAV
    rw [List.drop_of_length_le (by simp [clC]; omega)]
    simp
  rwa [e] at this
theorem opv_load_cl {x : Operand} {t id : Nat} {c : Cl} [S : Sz P t 10 true] (hx : evT T x = .ref id 0) (hO : O[id]? = some (.cells (clC c))) : OpV P ro ⟨dst, .load t x, ty, pos, af, g⟩ T O (.d (encCl c)) O :=
  opv_load_ref hx hO rfl
theorem take_cl (c : Cl) : takeAV true 10 ((clC c).drop 0) = some (.d (encCl c)) := rfl
theorem opv_build_cl0 {t : TypeId} {parts : Array (Nat × Operand)} {places : List (Nat × Nat)} {z : List AV} [S : Strc P t places] [Z : Ze P t z] (hp : parts.toList = []) (hz : mkAgg z = .d (encCl zeroCl)) :
    OpV P ro ⟨dst, .build t parts, ty, pos, af, g⟩ T O (.d (encCl zeroCl)) O := by
  rw [← hz]
  exact opv_build (P := P) (ro := ro) (t := t) (z := z) (cs := z) (by rw [hp]; rfl)
theorem opv_build_cl {t : TypeId} {x y u v : Operand} {lv n : Int} {h b : Term} {z : List AV} [S : Strc P t [(0, 1), (1, 4), (5, 4), (9, 1)]] [Z : Ze P t z] (hz : Nat.beq z.length 10 = true) (hx : evT T x = .d (.int .i64 lv)) (hy : evT T y = .d (enc h)) (hu : evT T u = .d (enc b)) (hv : evT T v = .d (.int .i64 n)) :
    OpV P ro ⟨dst, .build t #[(0, x), (1, y), (2, u), (3, v)], ty, pos, af, g⟩ T O (.d (encCl ⟨lv, h, b, n⟩)) O := by
  have key : ∀ z : List AV, z.length = 10 → fillAV [(0, 1), (1, 4), (5, 4), (9, 1)] z [(0, AV.d (.int .i64 lv)), (1, .d (.agg (dcells h))), (2, .d (.agg (dcells b))), (3, .d (.int .i64 n))] = some (clC ⟨lv, h, b, n⟩) := by
    intro z hz
    match z, hz with
    | [z0, z1, z2, z3, z4, z5, z6, z7, z8, z9], _ => rfl
  exact opv_build (P := P) (ro := ro) (t := t) (places := [(0, 1), (1, 4), (5, 4), (9, 1)]) (cs := clC ⟨lv, h, b, n⟩) (by
    simp only [List.map_cons, List.map_nil, hx, hy, hu, hv, enc_d]
    exact key z (Nat.eq_of_beq_eq_true hz))
theorem opv_bs_cl {t e : TypeId} {x : Operand} {c : Cl} {z : List AV} [S : Slc P t e 10] [Z : Ze P e z] (h : evT T x = .d (encCl c)) :
    OpV P ro ⟨dst, .buildSlice t 1 #[(0, x)], ty, pos, af, g⟩ T O (.d (.list (encCls [c]))) O :=
  opv_buildSlice (by simp only [List.map_cons, List.map_nil, h, partsD, asD]; rfl) rfl (by simp [encCls, encCl_cells]) rfl
theorem opv_index_cls {x ix : Operand} {t e : Nat} {i : Nat} {l : List Cl} [S : Slc P t e 10] (hx : evT T x = .d (.list (encCls l))) (hi : evT T ix = .d (.int .i64 i)) (hl : i < l.length) :
    OpV P ro ⟨dst, .indexAddr t x ix, ty, pos, af, g⟩ T O (.d (.ptr (clcells l[i]))) O :=
  opv_index_list (P := P) (ro := ro) (t := t) (y := encCl l[i]) hx hi (Int.natCast_nonneg _) (by simp [encCls, hl]) (encCl_cells _)
theorem opv_len_cls {x : Operand} {t e : TypeId} {l : List Cl} [S : Und P t (.slice e)] (hx : evT T x = .d (.list (encCls l))) :
    OpV P ro ⟨dst, .call { callee := .builtin .len, args := #[x], argTypes := #[t] }, ty, pos, af, g⟩ T O (.d (.int .i64 l.length)) O := by
  have := opv_len (P := P) (ro := ro) (dst := dst) (ty := ty) (pos := pos) (af := af) (g := g) (O := O) (t := t) hx rfl rfl
  rwa [encCls_len] at this
theorem opv_append_cls {s x : Operand} {t e by_ id ver : Nat} {l m : List Cl} {z : List AV} [S : Slc P t e 10] [Z : Ze P e z] [B : Byt P e by_]
    (hs : evT T s = .own id ver) (hO : O[id]? = some (.buf e 10 (encCls l) ver)) (hx : evT T x = .d (.list (encCls m))) (hm : l.length + m.length ≤ 1073741824) (hz : Nat.beq z.length 10 = true := by rfl) (hby : Nat.ble by_ 4096 = true := by rfl) :
    OpV P ro ⟨dst, .call { callee := .builtin .append, args := #[s, x], argTypes := #[t, t] }, ty, pos, af, g⟩ T O (.own id (ver + 1)) (O.set id (.buf e 10 (encCls (l ++ m)) (ver + 1))) := by
  have := opv_append_own (P := P) (ro := ro) (dst := dst) (ty := ty) (pos := pos) (af := af) (g := g) (t := t) hz hby hs hO hx rfl (fun y hy => by obtain ⟨u, _, rfl⟩ := List.mem_map.1 hy; exact encCl_cells u) (by rw [encCls_len, encCls_len]; exact hm)
  rwa [← encCls_app] at this
theorem opv_append_cls0 {s : Nat} {x : Operand} {t e by_ : Nat} {m : List Cl} {z : List AV} [S : Slc P t e 10] [Z : Ze P e z] [B : Byt P e by_]
    (hs : T s = .nil0) (hx : evT (upd T s (.own O.length 1)) x = .d (.list (encCls m))) (hm : m.length ≤ 1073741824) (hz : Nat.beq z.length 10 = true := by rfl) (hby : Nat.ble by_ 4096 = true := by rfl) :
    OpV P ro ⟨dst, .call { callee := .builtin .append, args := #[.tmp s, x], argTypes := #[t, t] }, ty, pos, af, g⟩ T O (.own O.length 2) (O ++ [.buf e 10 (encCls m) 2]) := by
  refine OpV.adopt (s := s) e 10 hs ?_ (by simp [Op.operands, Call.operands])
  have := opv_append_cls (P := P) (ro := ro) (T := upd T s (.own O.length 1)) (O := O ++ [.buf e 10 [] 1]) (dst := dst) (ty := ty) (pos := pos) (af := af) (g := g) (t := t) (e := e) (s := .tmp s) (x := x) (id := O.length) (ver := 1) (l := []) (m := m) (by simp [evT, upd]) (by simp [encCls]) hx (by simpa using hm) hz hby
  simpa using this
theorem opv_eqnil_ob {t yt e : TypeId} {x y : Operand} {l : Lt} {o : Option (List Cl)} [S : Und P t (.pointer e)] (hx : evT T x = .d (encOB l o)) (hy : evT T y = .d .nilp) : OpV P ro ⟨dst, .binOp .eql t x y yt, ty, pos, af, g⟩ T O (.d (.bool o.isNone)) O :=
  opv_eqnil hx (by cases o <;> rfl) hy
theorem opv_nenil_ob {t yt e : TypeId} {x y : Operand} {l : Lt} {o : Option (List Cl)} [S : Und P t (.pointer e)] (hx : evT T x = .d (encOB l o)) (hy : evT T y = .d .nilp) : OpV P ro ⟨dst, .binOp .neq t x y yt, ty, pos, af, g⟩ T O (.d (.bool (!o.isNone))) O :=
  opv_nenil hx (by cases o <;> rfl) hy

theorem EndQ.tmps3 {fn : Func} {Q : AV → List AObj → Prop} {O' : List AObj} {e : Exit} {a s r : Tmp} {v v' v'' : AV} (he : e = .normal ∨ e = .ret) (hr : fn.results.toList = [.tmp a, .tmp s, .tmp r]) (ha : T a = v) (hs : T s = v') (hr' : T r = v'') (n : Nat) (h1 : O.length ≤ n) (h2 : n ≤ O'.length) (hb : AV.bds n [v, v', v'']) (hq : Q (.tup [v, v', v'']) (O'.take n)) : EndQ P fn O Q e T O' :=
  ⟨he, [v, v', v''], n, by rw [hr]; exact .cons ha (.cons hs (.cons hr' .nil)), h1, h2, hb, hq⟩
/-- A text and a number, one behind the other. -/
class KeyT (P : Program) (t : TypeId) : Prop where
  h : ∃ f0 f1 : Field, P.underlying t = some (.struct #[f0, f1]) ∧ f0.name ≠ "_" ∧ f1.name ≠ "_" ∧ f0.offset = 0 ∧ f1.offset = 1 ∧ P.underlying f0.type = some .string ∧ P.underlying f1.type = some (.int .i64)
  held : P.stoodInHeld t = false
  guard : P.eqGuardType P.depth t = false
theorem run_part_one {t off : Nat} {cs : Array Value} {v : Value} {w : World} {d : TypeDesc} (h : P.underlying t = some d) (hd : isAggD d = false) (hv : cs[off]? = some v) : (part t cs off).run P w = .ok v w := by
  unfold part isAgg
  simp only [Sem.run_bind, run_underlying h, Result.andThen_ok]
  cases d <;> simp [isAggD] at hd <;> simp [hv]
theorem opv_eql_key {x y : Operand} {t yt : TypeId} {a b : ByteArray} {n m : Int} [S : KeyT P t] (hx : evT T x = .d (.agg [.str a, .int .i64 n])) (hy : evT T y = .d (.agg [.str b, .int .i64 m])) :
    OpV P ro ⟨dst, .binOp .eql t x y yt, ty, pos, af, g⟩ T O (.d (.bool ((a.toList == b.toList) && (n == m)))) O :=
  OpV.of_same (fun c h => by cases h) fun w F γ ac I H => by
    obtain ⟨us, h1, u, us1, e1, _, k1, v, vs1, e2, _, k2, e3⟩ : D.R w F _ (ac.eval x) := H.at (x := x) (by simp [Op.operands]) hx
    obtain ⟨us', h1', u', us1', e1', _, k1', v', vs1', e2', _, k2', e3'⟩ : D.R w F _ (ac.eval y) := H.at (x := y) (by simp [Op.operands]) hy
    obtain rfl : u = .string a := k1
    obtain rfl : v = .int .i64 n := k2
    obtain rfl : u' = .string b := k1'
    obtain rfl : v' = .int .i64 m := k2'
    subst e3; subst e2; subst e1; subst e3'; subst e2'; subst e1'
    obtain ⟨f0, f1, hu, n0, n1, o0, o1, t0, t1⟩ := S.h
    refine ⟨.bool ((a.toList == b.toList) && (n == m)), ?_, rfl⟩
    have hfs : P.fieldsOf t = #[f0, f1] := by unfold Program.fieldsOf; rw [hu]
    have hs : P.underlying t = some (.struct (P.fieldsOf t)) := by rw [hfs]; exact hu
    simp only [execOp, h1, h1']
    rw [Sem.run_bind, Sem.run_bind, run_eqGuard_agg w .eql t x y _ _ S.guard]
    simp only [Result.andThen_ok]
    rw [run_eql_struct, run_equalIn_agg w 9999 t _ _ hs S.held, hfs]
    have p1 : (part f0.type #[Value.string a, .int .i64 n] f0.offset).run P w = .ok (.string a) w := run_part_one t0 rfl (by rw [o0]; rfl)
    have p2 : (part f0.type #[Value.string b, .int .i64 m] f0.offset).run P w = .ok (.string b) w := run_part_one t0 rfl (by rw [o0]; rfl)
    have p3 : (part f1.type #[Value.string a, .int .i64 n] f1.offset).run P w = .ok (.int .i64 n) w := run_part_one t1 rfl (by rw [o1]; rfl)
    have p4 : (part f1.type #[Value.string b, .int .i64 m] f1.offset).run P w = .ok (.int .i64 m) w := run_part_one t1 rfl (by rw [o1]; rfl)
    have q1 : (Op.equalIn 9999 f0.type (.string a) (.string b)).run P w = .ok (a.toList == b.toList) w := run_equalIn_string w 9998 f0.type a b t0
    have q2 : (Op.equalIn 9999 f1.type (.int .i64 n) (.int .i64 m)).run P w = .ok (n == m) w := run_equalIn_int w 9998 f1.type .i64 .i64 n m t1
    simp only [Op.eqFields, if_pos n0, if_pos n1, Sem.run_bind, p1, p2, q1, Result.andThen_ok]
    cases ha : (a.toList == b.toList) <;> cases hn : (n == m) <;> rw [hn] at q2 <;> simp [p3, p4, q2]

/-! An array of them. -/
theorem keysD_get : ∀ (l : List (ByteArray × Int)) (i : Nat) (h : i < l.length), ((keysD l).drop (i * 2)).take 2 = [.str l[i].1, .int .i64 l[i].2]
  | k :: l, 0, h => rfl
  | k :: l, i + 1, h => by
    have := keysD_get l i (by simpa using h)
    rw [show (i + 1) * 2 = i * 2 + 2 by omega]
    simpa [keysD] using this
theorem fill_mono {f g' : Nat → Option (Nat × Nat)} (h : ∀ i x, g' i = some x → f i = some x) : ∀ (parts : List (Nat × Value)) (cs r : Array Value), Instr.fill g' cs parts = some r → Instr.fill f cs parts = some r
  | [], cs, r, hr => hr
  | (i, v) :: rest, cs, r, hr => by
    simp only [Instr.fill] at hr ⊢
    cases hg : g' i with
    | none => simp [hg] at hr
    | some x =>
      obtain ⟨off, size⟩ := x
      rw [h i _ hg]
      simp only [hg] at hr ⊢
      split at hr
      · cases hr
      · rename_i hc; rw [if_neg hc]; exact fill_mono h rest _ _ hr
theorem opv_build_arr {t e n sz : Nat} {parts : Array (Nat × Operand)} {z cs : List AV} [S : Arr P t n e sz] [Z : Ze P t z] (h : fillAV ((List.range n).map fun i => (i * sz, sz)) z (parts.toList.map fun p => (p.1, evT T p.2)) = some cs) :
    OpV P ro ⟨dst, .build t parts, ty, pos, af, g⟩ T O (mkAgg cs) O :=
  OpV.of_same (fun c h => by cases h) fun w F γ a I H => by
    obtain ⟨zv, hz, he, ho⟩ := Z.h
    obtain ⟨i, hi, hz⟩ := Option.bind_eq_some_iff.1 hz
    obtain ⟨ie, hie, hsz⟩ := Option.map_eq_some_iff.1 S.info
    have hc : AV.VC w F γ O z zv.cells.toList := by rw [← he] at ho ⊢; exact zero_VC _ ho
    obtain ⟨rs, e1, e2⟩ := fillAV_ok (parts.toList.map fun p => (p.1, evT T p.2)) (parts.toList.map fun p => (p.1, a.eval p.2)) z zv.cells.toList cs hc (by simp) (fun j p q h1 h2 => by
      rw [List.getElem?_map] at h1 h2
      cases hj : parts.toList[j]? with
      | none => simp [hj] at h1
      | some y =>
        simp only [hj, Option.map_some, Option.some.injEq] at h1 h2
        subst h1; subst h2
        have hmem : y ∈ parts.toList := List.mem_of_getElem? hj
        exact H.at (x := y.2) (by simp only [Op.operands]; simp only [List.mem_toArray, List.mem_map]; exact ⟨y, hmem, rfl⟩) rfl) h
    refine ⟨.agg rs.toArray, ?_, mkAgg_V e2⟩
    have hb : P.built t ((parts.map fun x => (x.1, a.eval x.2)).toList) = some rs.toArray := by
      unfold Program.built
      rw [hi, S.und]
      simp only [hz, hie, hsz]
      refine fill_mono (fun j x hj => ?_) _ _ _ (by simpa using e1)
      by_cases hjn : j < n
      · simpa [hjn] using hj
      · simp [hjn] at hj
    have := run_build (P := P) w t (parts.map fun x => (x.1, a.eval x.2)) rs.toArray hb
    simp only [execOp, Sem.run_bind, this, Result.andThen_ok]
    rfl
theorem RC_get {w : World} {F : Nat → Prop} : ∀ (cs : List D) (us : List Value) (n m : Nat), D.RC w F cs us → D.RC w F ((cs.drop n).take m) ((us.drop n).take m) := fun cs us n m h => RC_take m _ _ (RC_drop n cs us h)
theorem opv_index_keys {x ix : Operand} {t e n : Nat} {i : Nat} {l : List (ByteArray × Int)} [S : Arr P t n e 2] [Z : Sz P e 2 true] (hx : evT T x = .d (.agg (keysD l))) (hi : evT T ix = .d (.int .i64 i)) (hl : i < l.length) (hn : l.length = n) :
    OpV P ro ⟨dst, .index t x ix, ty, pos, af, g⟩ T O (.d (.agg [.str l[i].1, .int .i64 l[i].2])) O :=
  OpV.of_same (fun c h => by cases h) fun w F γ ac I H => by
    obtain ⟨us, h1, hR⟩ : D.R w F _ (ac.eval x) := H.at (x := x) (by simp [Op.operands]) hx
    have h2 : ac.eval ix = .int .i64 (i : Nat) := H.at (x := ix) (by simp [Op.operands]) hi
    have hget := RC_get _ _ (i * 2) 2 hR
    rw [keysD_get l i hl] at hget
    refine ⟨.agg ((us.drop (i * 2)).take 2).toArray, ?_, _, rfl, hget⟩
    have hb : (0 : Int) ≤ (i : Int) ∧ (i : Int) < (n : Nat) := ⟨Int.natCast_nonneg _, by omega⟩
    simp only [execOp, h1, h2, Instr.index, asIntOf, Sem.run_bind, Sem.run_pure, Result.andThen_ok, run_underlying S.und, if_pos hb, Z.run_size, part, Z.run_agg, if_true]
    have e3 : (us.toArray.extract (((i : Int)).toNat * 2) (((i : Int)).toNat * 2 + 2)) = ((us.drop (i * 2)).take 2).toArray := by
      rw [Int.toNat_natCast]
      simp [List.extract_eq_take_drop]
    rw [e3]
end
end Go.Proofs.Ytohncglpjiplaaa.AM
