/- Plain laws of clauses. -/
import Derived.Test.YtohncglpjiplaaaD1
import Derived.Test.YtohncglpjiplaaaF3
namespace Go.Proofs.Ytohncglpjiplaaa.AM
open Go
set_option linter.unusedVariables false
set_option linter.unusedSimpArgs false
/-- How a rule's variables are counted. -/
def plc (h b : Term) : Int → Int := fun n => placeOf (Term.node 3 0 neck [h, b]).vars n 0
def condB (h : Term) : Bool := knownB h.name (h.kids.length : Int) || h.two neck || h.two ncol
/-! Bases. -/
theorem newsF_cases (l : Lt) : ∀ (ts : List Term) (i : Nat) (acc : List Cl), ((∀ t ∈ ts, (parseL l t).2 = 0) ∧ newsF l ts i acc = (some (acc ++ parsesT l ts), 0, 0)) ∨ ((∃ t ∈ ts, (parseL l t).2 ≠ 0) ∧ (newsF l ts i acc).1 = none ∧ (newsF l ts i acc).2.2 ≠ 0)
  | [], i, acc => .inl ⟨fun t h => (by cases h), by simp [newsF, parsesT]⟩
  | t :: ts, i, acc => by
    by_cases h0 : (parseL l t).2 = 0
    · simp only [newsF, if_pos h0]
      rcases newsF_cases l ts (i + 1) (acc ++ [(parseL l t).1]) with ⟨h1, h2⟩ | ⟨⟨u, hu, h1⟩, h2⟩
      · left
        refine ⟨fun u hu => ?_, ?_⟩
        · rcases List.mem_cons.1 hu with rfl | hu
          · exact h0
          · exact h1 u hu
        · rw [h2]; simp [parsesT]
      · right; exact ⟨⟨u, by simp [hu], h1⟩, h2⟩
    · right; refine ⟨⟨t, by simp, h0⟩, ?_, ?_⟩ <;> simp [newsF, h0]
theorem newB_cases (l : Lt) (ts : List Term) : (ts.length ≤ 200 ∧ (∀ t ∈ ts, (parseL l t).2 = 0) ∧ (newB l ts).1 = some (parsesT l ts) ∧ (newB l ts).2.2 = 0) ∨ ((200 < ts.length ∨ ∃ t ∈ ts, (parseL l t).2 ≠ 0) ∧ (newB l ts).1 = none ∧ (newB l ts).2.2 ≠ 0) := by
  by_cases hl : 200 < ts.length
  · right; rw [newB_big hl]; exact ⟨.inl hl, rfl, by simp⟩
  · unfold newB
    rw [if_neg hl]
    rcases newsF_cases l ts 0 [] with ⟨h1, h2⟩ | ⟨h1, h2⟩
    · left; rw [h2]; exact ⟨by omega, h1, by rw [List.nil_append], rfl⟩
    · right; exact ⟨.inr h1, h2⟩
theorem newB_all_len (l : Lt) (ts : List Term) : (allB (newB l ts).1).length ≤ 2 ^ 20 := by
  rcases newB_cases l ts with ⟨h1, _, h2, _⟩ | ⟨_, h2, _⟩
  · rw [h2]; show (parsesT l ts).length ≤ _; rw [parsesT_len]; omega
  · rw [h2]; exact Nat.zero_le _
theorem parsesT_small {l : Lt} {ts : List Term} {B : Nat} (hb : bulks ts + 8 ≤ B) : ∀ c ∈ parsesT l ts, c.small B := by
  intro c hc
  obtain ⟨t, ht, rfl⟩ := List.mem_map.1 hc
  have h1 := parseL_small l t
  have h2 := bulks_mem ht
  exact ⟨Nat.le_trans h1.1 (by omega), Nat.le_trans h1.2 (by omega)⟩
theorem newB_small {l : Lt} {ts : List Term} (hb : bulks ts ≤ 2 ^ 28) : ∀ c ∈ allB (newB l ts).1, c.small (2 ^ 30) := by
  rcases newB_cases l ts with ⟨_, _, h2, _⟩ | ⟨_, h2, _⟩
  · rw [h2]; exact parsesT_small (by omega)
  · rw [h2]; intro c hc; cases hc
/-! Levels. -/
section
variable {k : Nat} (hk : k < 16)
include hk
def Cl.top (k : Nat) (c : Cl) : Int := max c.level (max (c.head.sj (C k)) (c.body.sj (C k)))
omit hk in
def tops (k : Nat) : List Cl → Int
  | [] => 0
  | c :: cs => max (c.top k) (tops k cs)
end

/-! Names and clauses, as the document has them. -/
theorem place_hit : ∀ (l : List Int) (n : Int) (k i : Nat) (h : i < l.length), l[i] = n → (∀ j (hj : j < l.length), j < i → ¬ l[j] = n) → placeOf l n k = ((k + i : Nat) : Int)
  | [], n, k, i, h, _, _ => absurd h (Nat.not_lt_zero _)
  | v :: l, n, k, 0, h, e, _ => by simp only [List.getElem_cons_zero] at e; simp [placeOf, e]
  | v :: l, n, k, i + 1, h, e, hn => by
    have h0 := hn 0 (Nat.zero_lt_succ _) (Nat.zero_lt_succ _)
    have hv : ¬ n = v := fun e' => h0 e'.symm
    rw [placeOf, if_neg hv, place_hit l n (k + 1) i (by simpa using h) (by simpa using e) (fun j hj hji => by have := hn (j + 1) (by simpa using hj) (by omega); simpa using this)]
    congr 1; omega
theorem place_miss : ∀ (l : List Int) (n : Int) (k : Nat), (∀ j (hj : j < l.length), ¬ l[j] = n) → placeOf l n k = 0
  | [], n, k, _ => rfl
  | v :: l, n, k, hn => by
    have h0 := hn 0 (Nat.zero_lt_succ _)
    have hv : ¬ n = v := fun e' => h0 e'.symm
    rw [placeOf, if_neg hv]
    exact place_miss l n (k + 1) fun j hj => by have := hn (j + 1) (by simpa using hj); simpa using this
def strsD (l : List ByteArray) : List D := l.map .str
theorem strsD_len (l : List ByteArray) : (strsD l).length = l.length := by simp [strsD]
def inL (s : ByteArray) (l : List ByteArray) : Bool := l.any fun k => k.toList == s.toList
theorem in_hit {s : ByteArray} {l : List ByteArray} {i : Nat} (h : i < l.length) (e : (l[i].toList == s.toList) = true) : inL s l = true := List.any_eq_true.2 ⟨_, List.getElem_mem h, e⟩
theorem in_not {s : ByteArray} {l : List ByteArray} (h : ∀ j (hj : j < l.length), (l[j].toList == s.toList) = false) : inL s l = false := by
  unfold inL
  rw [List.any_eq_false]
  intro x hx
  obtain ⟨j, hj, rfl⟩ := List.getElem_of_mem hx
  rw [h j hj]; simp
def K0 : List ByteArray := [⟨#[33]⟩, ⟨#[116, 114, 117, 101]⟩, ⟨#[102, 97, 105, 108]⟩]
def K1 : List ByteArray := [⟨#[92, 43]⟩, ⟨#[99, 97, 108, 108]⟩, ⟨#[118, 97, 114]⟩, ⟨#[110, 111, 110, 118, 97, 114]⟩, ⟨#[97, 116, 111, 109]⟩, ⟨#[105, 110, 116, 101, 103, 101, 114]⟩]
def K2 : List ByteArray := [⟨#[44]⟩, ⟨#[59]⟩, ⟨#[45, 62]⟩, ⟨#[61]⟩, ⟨#[92, 61]⟩, ⟨#[61, 61]⟩, ⟨#[92, 61, 61]⟩, ⟨#[64, 60]⟩, ⟨#[105, 115]⟩, ⟨#[60]⟩, ⟨#[62]⟩, ⟨#[61, 60]⟩, ⟨#[62, 61]⟩, ⟨#[61, 58, 61]⟩, ⟨#[61, 92, 61]⟩, ⟨#[99, 111, 112, 121, 95, 116, 101, 114, 109]⟩, ⟨#[119, 114, 105, 116, 101]⟩]
def kDecl : ByteArray := ⟨#[100, 101, 99, 108, 97, 115, 115, 105, 102, 121]⟩
theorem known_0 (s : ByteArray) : knownB s 0 = inL s K0 := by
  simp only [knownB, keys, inL, K0, List.any_cons, List.any_nil, keyHit, show ((2 : Int) == 0) = false from rfl, show ((1 : Int) == 0) = false from rfl, show ((4 : Int) == 0) = false from rfl, show ((0 : Int) == 0) = true from rfl, Bool.and_false, Bool.and_true, Bool.false_or, Bool.or_false]
theorem known_1 (s : ByteArray) : knownB s 1 = inL s K1 := by
  simp only [knownB, keys, inL, K1, List.any_cons, List.any_nil, keyHit, show ((2 : Int) == 1) = false from rfl, show ((1 : Int) == 1) = true from rfl, show ((4 : Int) == 1) = false from rfl, show ((0 : Int) == 1) = false from rfl, Bool.and_false, Bool.and_true, Bool.false_or, Bool.or_false]
theorem known_2 (s : ByteArray) : knownB s 2 = inL s K2 := by
  simp only [knownB, keys, inL, K2, List.any_cons, List.any_nil, keyHit, show ((2 : Int) == 2) = true from rfl, show ((1 : Int) == 2) = false from rfl, show ((4 : Int) == 2) = false from rfl, show ((0 : Int) == 2) = false from rfl, Bool.and_false, Bool.and_true, Bool.false_or, Bool.or_false]
theorem known_4 (s : ByteArray) : knownB s 4 = (s.toList == kDecl.toList) := by
  simp only [knownB, keys, List.any_cons, List.any_nil, keyHit, show ((2 : Int) == 4) = false from rfl, show ((1 : Int) == 4) = false from rfl, show ((4 : Int) == 4) = true from rfl, show ((0 : Int) == 4) = false from rfl, Bool.and_false, Bool.and_true, Bool.false_or, Bool.or_false]
  rw [Bool.eq_iff_iff, beq_iff_eq, beq_iff_eq]
  exact ⟨fun e => e.symm, fun e => e.symm⟩
theorem known_else {s : ByteArray} {n : Int} (h0 : ¬ n = 0) (h1 : ¬ n = 1) (h2 : ¬ n = 2) (h4 : ¬ n = 4) : knownB s n = false := by
  unfold knownB
  rw [List.any_eq_false]
  intro k hk
  have key : k.2 = 0 ∨ k.2 = 1 ∨ k.2 = 2 ∨ k.2 = 4 := by
    have : (keys.all fun k => k.2 == 0 || k.2 == 1 || k.2 == 2 || k.2 == 4) = true := by decide +kernel
    have := List.all_eq_true.1 this k hk
    simp only [Bool.or_eq_true, beq_iff_eq] at this
    omega
  unfold keyHit
  intro e
  simp only [Bool.and_eq_true, beq_iff_eq] at e
  omega
section
variable {P : Program} {ro : Option Nat} {T : Nat → AV} {O : List AObj} {dst : Option Tmp} {ty : TypeId} {pos : String} {af : Array Edge} {g : Option (Nat × Bool)}
theorem opv_len_strs {x : Operand} {t e : TypeId} {l : List ByteArray} [S : Und P t (.slice e)] (hx : evT T x = .d (.list (strsD l))) :
    OpV P ro ⟨dst, .call { callee := .builtin .len, args := #[x], argTypes := #[t] }, ty, pos, af, g⟩ T O (.d (.int .i64 l.length)) O := by
  have := opv_len (P := P) (ro := ro) (dst := dst) (ty := ty) (pos := pos) (af := af) (g := g) (O := O) (t := t) hx rfl rfl
  rwa [strsD_len] at this
theorem opv_index_strs {x ix : Operand} {t e : Nat} {i : Nat} {l : List ByteArray} [S : Slc P t e 1] (hx : evT T x = .d (.list (strsD l))) (hi : evT T ix = .d (.int .i64 (i : Nat))) (hl : i < l.length) :
    OpV P ro ⟨dst, .indexAddr t x ix, ty, pos, af, g⟩ T O (.d (.ptr [.str l[i]])) O := opv_index_list (y := .str l[i]) hx hi (Int.natCast_nonneg _) (by simp [strsD, hl]) rfl
end

/-! A clause out of its two parts. -/
theorem parse1_two {lv : Int} {t : Term} (h : t.two neck = true) (h0 : 0 < t.kids.length) (h1 : 1 < t.kids.length) : parse1 lv (.node 3 0 neck [t.kids[0], t.kids[1]]) = parse1 lv t := by
  obtain ⟨k1, k2, k3⟩ := two_iff.1 h
  cases t with
  | node k n s ks =>
    match ks, k3 with
    | [a, b], _ =>
      have e : k = 3 := k1
      subst e
      rfl
def rtopStep (l : Lt) (n : Int) (c : Cl) : Int := l.join (l.join (l.join n c.level) (c.head.sj l)) (c.body.sj l)
def rtop (l : Lt) (cs : List Cl) : Int := cs.foldl (rtopStep l) l.bottom
theorem rtop_take (l : Lt) {cs : List Cl} {i : Nat} (h : i < cs.length) : (cs.take (i + 1)).foldl (rtopStep l) l.bottom = rtopStep l ((cs.take i).foldl (rtopStep l) l.bottom) cs[i] := by
  rw [List.take_succ_eq_append_getElem h, List.foldl_append]; rfl
section
variable {k : Nat} (hk : k < 16)
include hk
theorem rtop_go : ∀ (cs : List Cl) (n : Int), (∀ c ∈ cs, 0 ≤ c.level ∧ c.level ≤ (k : Nat)) → 0 ≤ n → n ≤ (k : Nat) → cs.foldl (rtopStep (C k)) n = cs.foldl (topStep (C k)) n
  | [], n, _, _, _ => rfl
  | c :: cs, n, h, h1, h2 => by
    obtain ⟨l1, l2⟩ := h c (by simp)
    obtain ⟨a1, a2⟩ := sj_rng hk c.head
    obtain ⟨b1, b2⟩ := sj_rng hk c.body
    have e1 : rtopStep (C k) n c = max (max (max n c.level) (c.head.sj (C k))) (c.body.sj (C k)) := by
      unfold rtopStep
      rw [C_join hk h1 h2 l1 l2, C_join hk (by omega) (by omega) a1 a2, C_join hk (by omega) (by omega) b1 b2]
    have e2 : topStep (C k) n c = max n (max c.level (max (c.head.sj (C k)) (c.body.sj (C k)))) := by
      unfold topStep
      rw [C_join hk a1 a2 b1 b2, C_join hk l1 l2 (by omega) (by omega), C_join hk h1 h2 (by omega) (by omega)]
    rw [List.foldl_cons, List.foldl_cons, e1, e2, show max (max (max n c.level) (c.head.sj (C k))) (c.body.sj (C k)) = max n (max c.level (max (c.head.sj (C k)) (c.body.sj (C k)))) by omega]
    exact rtop_go cs _ (fun x hx => h x (by simp [hx])) (by omega) (by omega)
theorem rtop_eq {cs : List Cl} (h : ∀ c ∈ cs, 0 ≤ c.level ∧ c.level ≤ (k : Nat)) : rtop (C k) cs = topB (C k) cs := by
  unfold rtop topB
  rw [C_bot hk]
  exact rtop_go hk cs 0 h (by omega) (by omega)
end
theorem parse1_lev (lv : Int) (r : Term) : (parse1 lv r).1.level = lv ∨ (parse1 lv r).1.level = 0 := by
  unfold parse1 parse2
  split
  · exact .inr rfl
  · split
    · exact .inr rfl
    · exact .inl rfl
theorem parseL_lev {k : Nat} (hk : k < 16) (t : Term) : 0 ≤ (parseL (C k) t).1.level ∧ (parseL (C k) t).1.level ≤ (k : Nat) := by
  have hn := C_n (k := k) hk
  unfold parseL
  split
  · split
    · rename_i h
      rcases parse1_lev (kid t 0).num (asRule (kid t 1)) with e | e <;> rw [e] <;> omega
    · exact ⟨Int.le_refl 0, Int.natCast_nonneg _⟩
  · rcases parse1_lev (C k).bottom (asRule t) with e | e <;> rw [e] <;> first | omega | (rw [C_bot hk]; omega)
theorem rtop_new {k : Nat} (hk : k < 16) (ts : List Term) {cs : List Cl} (h : (newB (C k) ts).1 = some cs) : rtop (C k) cs = topB (C k) cs := by
  refine rtop_eq hk fun c hc => ?_
  rcases newB_cases (C k) ts with ⟨_, _, h2, _⟩ | ⟨_, h2, _⟩
  · rw [h] at h2
    cases h2
    obtain ⟨t, _, rfl⟩ := List.mem_map.1 hc
    exact parseL_lev hk t
  · rw [h] at h2; cases h2
end Go.Proofs.Ytohncglpjiplaaa.AM
