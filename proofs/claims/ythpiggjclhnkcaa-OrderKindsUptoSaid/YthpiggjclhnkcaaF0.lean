/- Lattices: what they are as data, and what is asked of them. -/
import Derived.Test.YthpiggjclhnkcaaS2
namespace Go.Proofs.Ythpiggjclhnkcaa.AM
open Go
set_option linter.unusedVariables false
set_option linter.unusedSimpArgs false
/-- n levels, and of each one the levels that it is below, as bits. -/
structure Lt where
  n : Nat
  U : List Nat
deriving DecidableEq
def Lt.u (l : Lt) (i : Nat) : Nat := l.U.getD i 0
def Lt.put (l : Lt) (i v : Nat) : Lt := ⟨l.n, l.U.set i v⟩
def Lt.ups (l : Lt) : List D := l.U.map fun u => .int .u64 ((u : Nat) : Int)
def Lt.cells (l : Lt) : List D := .int .i64 ((l.n : Nat) : Int) :: l.ups
def encL (l : Lt) : D := .ptr l.cells
def latO (l : Lt) : AObj := .cells (.d (.int .i64 ((l.n : Nat) : Int)) :: l.U.map fun u => .d (.int .u64 ((u : Nat) : Int)))
structure Lt.Ok (l : Lt) : Prop where
  len : l.U.length = 16
  n16 : l.n ≤ 16
  sm : ∀ u ∈ l.U, u < 2 ^ 16
theorem Lt.Ok.u {l : Lt} (h : l.Ok) (i : Nat) : l.u i < 2 ^ 16 := by
  unfold Lt.u
  rw [List.getD_eq_getElem?_getD]
  cases hx : l.U[i]? with
  | none => exact Nat.lt_of_sub_pos (by decide)
  | some v => exact h.sm v (List.mem_of_getElem? hx)
theorem Lt.Ok.put {l : Lt} (h : l.Ok) {i v : Nat} (hv : v < 2 ^ 16) : (l.put i v).Ok :=
  ⟨by simp [Lt.put, h.len], h.n16, fun u hu => by
    rcases List.mem_or_eq_of_mem_set hu with h1 | h1
    · exact h.sm u h1
    · rw [h1]; exact hv⟩
theorem Lt.put_u {l : Lt} (h : l.Ok) {i v j : Nat} (hi : i < 16) : (l.put i v).u j = if j = i then v else l.u j := by
  unfold Lt.u Lt.put
  simp only [List.getD_eq_getElem?_getD, List.getElem?_set]
  by_cases e : j = i
  · subst e; simp [h.len, hi]
  · have : ¬ i = j := fun e' => e e'.symm
    simp [e, this]
def Lt.is (l : Lt) (a : Int) : Bool := decide (0 ≤ a) && decide (a < (l.n : Nat))
def Lt.bit (l : Lt) (a b : Nat) : Bool := (l.u a).testBit b
def Lt.leq (l : Lt) (a b : Int) : Bool := l.is a && l.is b && l.bit a.toNat b.toNat
theorem Lt.is_iff {l : Lt} {a : Int} : l.is a = true ↔ 0 ≤ a ∧ a < (l.n : Nat) := by simp [Lt.is]
def Lt.jp (l : Lt) (m c : Nat) : Bool := m.testBit c && (l.u c &&& m == m)
def Lt.join (l : Lt) (a b : Int) : Int :=
  if l.is a = true ∧ l.is b = true then
    match (List.range l.n).find? (l.jp (l.u a.toNat &&& l.u b.toNat)) with
    | some c => (c : Nat)
    | none => -1
  else -1
def Lt.mstep (l : Lt) (a b : Int) (best : Int) (c : Nat) : Int :=
  if (l.leq c a && l.leq c b && (best == -1 || l.leq best c)) = true then (c : Nat) else best
def Lt.best (l : Lt) (a b : Int) (k : Nat) : Int := (List.range k).foldl (l.mstep a b) (-1)
def Lt.meet (l : Lt) (a b : Int) : Int :=
  if l.is a = true ∧ l.is b = true then
    if ((List.range l.n).all fun c => !(l.leq (c : Nat) a && l.leq (c : Nat) b && !(l.leq (c : Nat) (l.best a b l.n)))) = true then l.best a b l.n else -1
  else -1
def Lt.bstep (l : Lt) (best : Int) (c : Nat) : Int := if (best == -1 || l.leq (c : Nat) best) = true then (c : Nat) else best
def Lt.bots (l : Lt) (k : Nat) : Int := (List.range k).foldl l.bstep (-1)
def Lt.bottom (l : Lt) : Int := l.bots l.n
def Lt.tstep (l : Lt) (best : Int) (c : Nat) : Int := if (best == -1 || l.leq best (c : Nat)) = true then (c : Nat) else best
def Lt.tops (l : Lt) (k : Nat) : Int := (List.range k).foldl l.tstep (-1)
def Lt.top (l : Lt) : Int := l.tops l.n
theorem foldl_range_succ {α : Type} (f : α → Nat → α) (x : α) (k : Nat) : (List.range (k + 1)).foldl f x = f ((List.range k).foldl f x) k := by
  rw [List.range_succ, List.foldl_append]; rfl
theorem Lt.bots_succ (l : Lt) (k : Nat) : l.bots (k + 1) = l.bstep (l.bots k) k := foldl_range_succ _ _ _
theorem Lt.tops_succ (l : Lt) (k : Nat) : l.tops (k + 1) = l.tstep (l.tops k) k := foldl_range_succ _ _ _
theorem Lt.best_succ (l : Lt) (a b : Int) (k : Nat) : l.best a b (k + 1) = l.mstep a b (l.best a b k) k := foldl_range_succ _ _ _

theorem find_range_some {p : Nat → Bool} {n c : Nat} (hc : c < n) (hp : p c = true) (hn : ∀ j, j < c → p j = false) : (List.range n).find? p = some c := by
  rw [List.find?_range_eq_some]
  exact ⟨hp, by simpa using hc, fun j hj => by simp [hn j hj]⟩
theorem find_range_none {p : Nat → Bool} {n : Nat} (hn : ∀ j, j < n → p j = false) : (List.range n).find? p = none := by
  rw [List.find?_eq_none]; intro x hx; rw [hn x (by simpa using hx)]; simp
theorem all_range_true {p : Nat → Bool} {n : Nat} (hn : ∀ j, j < n → p j = true) : (List.range n).all p = true := by
  rw [List.all_eq_true]; intro x hx; exact hn x (by simpa using hx)
theorem all_range_false {p : Nat → Bool} {n c : Nat} (hc : c < n) (hp : p c = false) : (List.range n).all p = false := by
  rw [List.all_eq_false]; exact ⟨c, by simpa using hc, by rw [hp]; simp⟩

/-! What follows is gathered. -/
def Lt.stp (l : Lt) (a b : Nat) : Bool := l.bit a b && (l.u a ||| l.u b != l.u a)
def Lt.nxt (l : Lt) : Option Lt :=
  (List.range l.n).findSome? fun a => (List.range l.n).findSome? fun b => if l.stp a b = true then some (l.put a (l.u a ||| l.u b)) else none
def closeF : Nat → Lt → Lt
  | 0, l => l
  | k + 1, l => match l.nxt with
    | none => l
    | some m => closeF k m
def Lt.close (l : Lt) : Lt := closeF (2 ^ 20) l
theorem findSome_range_hit {α : Type} {f : Nat → Option α} {n c : Nat} {x : α} (hc : c < n) (hp : f c = some x) (hn : ∀ j, j < c → f j = none) : (List.range n).findSome? f = some x := by
  have key : ∀ (k : Nat), c < k → (List.range k).findSome? f = some x := by
    intro k hk
    induction k with
    | zero => omega
    | succ k ih =>
      rw [List.range_succ, List.findSome?_append]
      by_cases e : c = k
      · subst e
        have : (List.range c).findSome? f = none := by rw [List.findSome?_eq_none_iff]; intro y hy; exact hn y (by simpa using hy)
        rw [this]; simp [hp]
      · rw [ih (by omega)]; rfl
  exact key n hc
theorem findSome_range_none {α : Type} {f : Nat → Option α} {n : Nat} (hn : ∀ j, j < n → f j = none) : (List.range n).findSome? f = none := by
  rw [List.findSome?_eq_none_iff]; intro y hy; exact hn y (by simpa using hy)
theorem Lt.nxt_hit {l : Lt} {a b : Nat} (ha : a < l.n) (hb : b < l.n) (h : l.stp a b = true) (h1 : ∀ a' b', a' < a → b' < l.n → l.stp a' b' = false) (h2 : ∀ b', b' < b → l.stp a b' = false) :
    l.nxt = some (l.put a (l.u a ||| l.u b)) := by
  refine findSome_range_hit ha (findSome_range_hit hb (by rw [if_pos h]) fun j hj => by rw [h2 j hj]; rfl) fun j hj => findSome_range_none fun b' hb' => by rw [h1 j b' hj hb']; rfl
theorem Lt.nxt_none {l : Lt} (h : ∀ a b, a < l.n → b < l.n → l.stp a b = false) : l.nxt = none :=
  findSome_range_none fun a ha => findSome_range_none fun b hb => by rw [h a b ha hb]; rfl
theorem closeF_hit {k : Nat} {l m : Lt} (h : l.nxt = some m) : closeF (k + 1) l = closeF k m := by rw [closeF, h]
theorem closeF_none {k : Nat} {l : Lt} (h : l.nxt = none) : closeF k l = l := by cases k <;> simp [closeF, h]
def Lt.sum (l : Lt) : Nat := l.U.sum
theorem or_ge (a b : Nat) : a ≤ a ||| b := Nat.left_le_or
theorem sum_set : ∀ (U : List Nat) (i v : Nat), i < U.length → (U.set i v).sum + U.getD i 0 = U.sum + v
  | [], i, v, h => by simp at h
  | x :: U, 0, v, _ => by simp; omega
  | x :: U, i + 1, v, h => by
    have := sum_set U i v (by simpa using h)
    simp only [List.set_cons_succ, List.sum_cons, List.getD_cons_succ]
    omega
theorem sum_le : ∀ (U : List Nat), (∀ u ∈ U, u < 2 ^ 16) → U.sum ≤ U.length * 2 ^ 16
  | [], _ => by simp
  | x :: U, h => by
    have h1 := h x (by simp)
    have h2 := sum_le U fun u hu => h u (by simp [hu])
    simp only [List.sum_cons, List.length_cons, Nat.add_mul]
    omega
theorem Lt.sum_up {l : Lt} (h : l.Ok) {a b : Nat} (ha : a < l.n) (hs : l.stp a b = true) : l.sum < (l.put a (l.u a ||| l.u b)).sum := by
  have h1 := sum_set l.U a (l.u a ||| l.u b) (by rw [h.len]; have := h.n16; omega)
  have h2 : l.u a ||| l.u b ≠ l.u a := by simp only [Lt.stp, Bool.and_eq_true, bne_iff_ne] at hs; exact hs.2
  have h3 := or_ge (l.u a) (l.u b)
  unfold Lt.sum
  show l.U.sum < (l.U.set a (l.u a ||| l.u b)).sum
  have h4 : l.U.getD a 0 = l.u a := rfl
  omega
theorem Lt.sum_top {l : Lt} (h : l.Ok) : l.sum ≤ 2 ^ 20 := by
  have := sum_le l.U h.sm
  rw [h.len] at this
  exact this
theorem Lt.or_lt {l : Lt} (h : l.Ok) (a b : Nat) : l.u a ||| l.u b < 2 ^ 16 := Nat.or_lt_two_pow (h.u a) (h.u b)

/-! A lattice made. -/
def Lt.bad (l : Lt) (a b : Nat) : Bool := a != b && l.leq (a : Nat) (b : Nat) && l.leq (b : Nat) (a : Nat) || l.join (a : Nat) (b : Nat) == -1 || l.meet (a : Nat) (b : Nat) == -1
def Lt.good (l : Lt) : Bool := (List.range l.n).all fun a => (List.range l.n).all fun b => !(l.bad a b)
def lt0 (n : Nat) (i : Nat) : Lt := ⟨n, (List.range 16).map fun a => if a < i then 2 ^ a else 0⟩
def Lt.add (l : Lt) (p : Int × Int) : Lt := l.put p.1.toNat (l.u p.1.toNat ||| 2 ^ p.2.toNat)
def Lt.adds : Lt → List (Int × Int) → Option Lt
  | l, [] => some l
  | l, p :: ps => if l.is p.1 = true ∧ l.is p.2 = true then (l.add p).adds ps else none
/-- What is made, and whether it may be. -/
def newL (n : Int) (ps : List (Int × Int)) : Option Lt × Int :=
  if n < 1 ∨ 16 < n then (none, 1) else
    match (lt0 n.toNat n.toNat).adds ps with
    | none => (none, 1)
    | some l => if l.close.good = true then (some l.close, 0) else (none, 4)
def encOL : Option Lt → D
  | none => .nilp
  | some l => encL l
def encP (p : Int × Int) : D := .agg [.int .i64 p.1, .int .i64 p.2]
def encPs (ps : List (Int × Int)) : List D := ps.map encP
theorem lt0_ok {n i : Nat} (h : n ≤ 16) : (lt0 n i).Ok := ⟨by simp [lt0], h, fun u hu => by
  simp only [lt0, List.mem_map, List.mem_range] at hu
  obtain ⟨a, ha, rfl⟩ := hu
  split
  · exact Nat.pow_lt_pow_right (by decide) ha
  · exact Nat.lt_of_sub_pos (by decide)⟩
theorem lt0_put {n i : Nat} (h : i < 16) : (lt0 n i).put i (2 ^ i) = lt0 n (i + 1) := by
  simp only [lt0, Lt.put, Lt.mk.injEq, true_and]
  apply List.ext_getElem?
  intro j
  simp only [List.getElem?_set, List.getElem?_map, List.length_map, List.length_range]
  by_cases e : i = j
  · subst e; simp [h]
  · rw [if_neg e]
    by_cases hj : j < 16
    · rw [List.getElem?_range hj]
      simp only [Option.map_some, Option.some.injEq]
      by_cases h1 : j < i
      · rw [if_pos h1, if_pos (by omega)]
      · rw [if_neg h1, if_neg (by omega)]
    · rw [List.getElem?_eq_none (by simpa using hj)]; rfl
theorem Lt.add_ok {l : Lt} (h : l.Ok) {p : Int × Int} (h1 : l.is p.2 = true) : (l.add p).Ok := h.put (Nat.or_lt_two_pow (h.u _) (by
  have := Lt.is_iff.1 h1
  have := h.n16
  exact Nat.pow_lt_pow_right (by decide) (by omega)))
theorem Lt.adds_snoc : ∀ (ps : List (Int × Int)) (l m : Lt) (p : Int × Int), l.adds ps = some m → l.adds (ps ++ [p]) = if m.is p.1 = true ∧ m.is p.2 = true then some (m.add p) else none
  | [], l, m, p, h => by cases h; simp only [List.nil_append, Lt.adds]
  | q :: ps, l, m, p, h => by
    simp only [Lt.adds] at h
    split at h
    · rename_i hq
      simp only [List.cons_append, Lt.adds, if_pos hq]
      exact Lt.adds_snoc ps _ m p h
    · cases h
theorem Lt.adds_none {p : Int × Int} {q : List (Int × Int)} : ∀ (ps : List (Int × Int)) (l m : Lt), l.adds ps = some m → ¬ (m.is p.1 = true ∧ m.is p.2 = true) → l.adds (ps ++ p :: q) = none
  | [], l, m, h, hp => by cases h; simp only [List.nil_append, Lt.adds, if_neg hp]
  | q' :: ps, l, m, h, hp => by
    simp only [Lt.adds] at h
    split at h
    · rename_i hq
      simp only [List.cons_append, Lt.adds, if_pos hq]
      exact Lt.adds_none ps _ m h hp
    · cases h
theorem Lt.adds_ok : ∀ (ps : List (Int × Int)) (l m : Lt), l.Ok → l.adds ps = some m → m.Ok ∧ m.n = l.n
  | [], l, m, h, e => by cases e; exact ⟨h, rfl⟩
  | p :: ps, l, m, h, e => by
    simp only [Lt.adds] at e
    split at e
    · rename_i hq
      have := Lt.adds_ok ps (l.add p) m (Lt.add_ok h hq.2) e
      exact this
    · cases e
theorem Lt.nxt_ok {l m : Lt} (h : l.Ok) (e : l.nxt = some m) : ∃ a b, a < l.n ∧ b < l.n ∧ l.stp a b = true ∧ m = l.put a (l.u a ||| l.u b) := by
  obtain ⟨a, ha, e⟩ := List.exists_of_findSome?_eq_some e
  obtain ⟨b, hb, e⟩ := List.exists_of_findSome?_eq_some e
  split at e
  · rename_i hs; cases e; exact ⟨a, b, by simpa using ha, by simpa using hb, hs, rfl⟩
  · cases e
theorem closeF_ok : ∀ (k : Nat) (l : Lt), l.Ok → (closeF k l).Ok ∧ (closeF k l).n = l.n
  | 0, l, h => ⟨h, rfl⟩
  | k + 1, l, h => by
    simp only [closeF]
    split
    · exact ⟨h, rfl⟩
    · rename_i m e
      obtain ⟨a, b, _, _, _, rfl⟩ := Lt.nxt_ok h e
      exact closeF_ok k _ (h.put (Lt.or_lt h a b))
theorem Lt.close_ok {l : Lt} (h : l.Ok) : l.close.Ok ∧ l.close.n = l.n := closeF_ok _ l h

/-! What is asked, at a run's ends. -/
theorem Lt.join_no {l : Lt} {a b : Int} (h : l.is a = false ∨ l.is b = false) : l.join a b = -1 := by
  unfold Lt.join
  rw [if_neg]; rintro ⟨h1, h2⟩; rcases h with h | h <;> simp_all
theorem Lt.join_found {l : Lt} {a b : Int} {c : Nat} (ha : l.is a = true) (hb : l.is b = true) (hc : c < l.n) (hj : l.jp (l.u a.toNat &&& l.u b.toNat) c = true) (hn : ∀ j, j < c → l.jp (l.u a.toNat &&& l.u b.toNat) j = false) : l.join a b = (c : Nat) := by
  unfold Lt.join
  rw [if_pos ⟨ha, hb⟩, find_range_some hc hj hn]
theorem Lt.join_none {l : Lt} {a b : Int} (ha : l.is a = true) (hb : l.is b = true) (hn : ∀ j, j < l.n → l.jp (l.u a.toNat &&& l.u b.toNat) j = false) : l.join a b = -1 := by
  unfold Lt.join
  rw [if_pos ⟨ha, hb⟩, find_range_none hn]
theorem jp_yes {l : Lt} {m c : Nat} (h1 : m.testBit c = true) (h2 : ((l.u c &&& m : Nat) : Int) = ((m : Nat) : Int)) : l.jp m c = true := by
  have : l.u c &&& m = m := by exact_mod_cast h2
  simp [Lt.jp, h1, this]
theorem jp_no1 {l : Lt} {m c : Nat} (h1 : m.testBit c = false) : l.jp m c = false := by simp [Lt.jp, h1]
theorem jp_no2 {l : Lt} {m c : Nat} (h2 : ¬ ((l.u c &&& m : Nat) : Int) = ((m : Nat) : Int)) : l.jp m c = false := by
  have : l.u c &&& m ≠ m := fun e => h2 (by rw [e])
  simp [Lt.jp, this]
def Lt.mbad (l : Lt) (a b best : Int) (c : Nat) : Bool := l.leq (c : Nat) a && l.leq (c : Nat) b && !(l.leq (c : Nat) best)
theorem Lt.meet_no {l : Lt} {a b : Int} (h : l.is a = false ∨ l.is b = false) : l.meet a b = -1 := by
  unfold Lt.meet
  rw [if_neg]; rintro ⟨h1, h2⟩; rcases h with h | h <;> simp_all
theorem Lt.meet_bad {l : Lt} {a b : Int} {c : Nat} (ha : l.is a = true) (hb : l.is b = true) (hc : c < l.n) (h : l.mbad a b (l.best a b l.n) c = true) : l.meet a b = -1 := by
  unfold Lt.meet
  rw [if_pos ⟨ha, hb⟩, if_neg]
  rw [all_range_false hc]
  · simp
  · show (!(l.mbad a b (l.best a b l.n) c)) = false
    rw [h]; rfl
theorem Lt.meet_all {l : Lt} {a b : Int} (ha : l.is a = true) (hb : l.is b = true) (h : ∀ c, c < l.n → l.mbad a b (l.best a b l.n) c = false) : l.meet a b = l.best a b l.n := by
  unfold Lt.meet
  rw [if_pos ⟨ha, hb⟩, if_pos]
  refine all_range_true fun c hc => ?_
  show (!(l.mbad a b (l.best a b l.n) c)) = true
  rw [h c hc]; rfl
theorem newL_no {n : Int} {ps : List (Int × Int)} (h : n < 1 ∨ 16 < n) : newL n ps = (none, 1) := by unfold newL; rw [if_pos h]
theorem newL_add {m : Nat} {ps : List (Int × Int)} (h1 : 1 ≤ m) (h2 : m ≤ 16) (h : (lt0 m m).adds ps = none) : newL ((m : Nat) : Int) ps = (none, 1) := by
  unfold newL; rw [if_neg (by omega), Int.toNat_natCast, h]
theorem newL_bad {m : Nat} {ps : List (Int × Int)} {l : Lt} (h1 : 1 ≤ m) (h2 : m ≤ 16) (h : (lt0 m m).adds ps = some l) {a b : Nat} (ha : a < l.close.n) (hb : b < l.close.n) (hbad : l.close.bad a b = true) : newL ((m : Nat) : Int) ps = (none, 4) := by
  unfold newL; rw [if_neg (by omega), Int.toNat_natCast, h]
  have : l.close.good = false := by
    unfold Lt.good
    refine all_range_false ha ?_
    refine all_range_false hb ?_
    rw [hbad]; rfl
  simp [this]
theorem newL_ok {m : Nat} {ps : List (Int × Int)} {l : Lt} (h1 : 1 ≤ m) (h2 : m ≤ 16) (h : (lt0 m m).adds ps = some l) (hall : ∀ a b, a < l.close.n → b < l.close.n → l.close.bad a b = false) : newL ((m : Nat) : Int) ps = (some l.close, 0) := by
  unfold newL; rw [if_neg (by omega), Int.toNat_natCast, h]
  have : l.close.good = true := by
    unfold Lt.good
    refine all_range_true fun a ha => all_range_true fun b hb => ?_
    rw [hall a b ha hb]; rfl
  simp [this]
theorem stp_yes {l : Lt} {a b : Nat} (h1 : (l.u a).testBit b = true) (h2 : ¬ ((l.u a ||| l.u b : Nat) : Int) = ((l.u a : Nat) : Int)) : l.stp a b = true := by
  have : l.u a ||| l.u b ≠ l.u a := fun e => h2 (by rw [e])
  simp [Lt.stp, Lt.bit, h1, this]
theorem stp_no1 {l : Lt} {a b : Nat} (h1 : (l.u a).testBit b = false) : l.stp a b = false := by simp [Lt.stp, Lt.bit, h1]
theorem stp_no2 {l : Lt} {a b : Nat} (h2 : ((l.u a ||| l.u b : Nat) : Int) = ((l.u a : Nat) : Int)) : l.stp a b = false := by
  have : l.u a ||| l.u b = l.u a := by exact_mod_cast h2
  simp [Lt.stp, Lt.bit, this]
theorem lt_split {p : Nat → Bool} {c : Nat} (h : ∀ j, j < c → p j = false) (hc : p c = false) : ∀ j, j < c + 1 → p j = false := fun j hj => by
  rcases Nat.lt_succ_iff_lt_or_eq.1 hj with h1 | h1
  · exact h j h1
  · rw [h1]; exact hc

/-! Levels one below the next one. -/
def chainP (k : Nat) : List (Int × Int) := (List.range k).map fun j => (((j : Nat) : Int), ((j + 1 : Nat) : Int))
def chainL (m : Nat) : Lt := ⟨m, (List.range 16).map fun a => if a < m then 2 ^ m - 2 ^ a else 0⟩
theorem chain_all : ((List.range 16).all fun k => decide (newL ((k + 1 : Nat) : Int) (chainP k) = (some (chainL (k + 1)), 0))) = true := by decide +kernel
theorem newL_chain {k : Nat} (h : k < 16) : newL ((k + 1 : Nat) : Int) (chainP k) = (some (chainL (k + 1)), 0) := by
  have := List.all_eq_true.1 chain_all k (by simpa using h)
  simpa using this
theorem chainL_ok {m : Nat} (h : m ≤ 16) : (chainL m).Ok := ⟨by simp [chainL], h, fun u hu => by
  simp only [chainL, List.mem_map, List.mem_range] at hu
  obtain ⟨a, ha, rfl⟩ := hu
  split
  · have h1 : 2 ^ m ≤ 2 ^ 16 := Nat.pow_le_pow_right (by decide) h
    have h2 : 0 < 2 ^ a := Nat.two_pow_pos a
    omega
  · exact Nat.lt_of_sub_pos (by decide)⟩
theorem chainP_succ (k : Nat) : encPs (chainP (k + 1)) = encPs (chainP k) ++ [encP (((k : Nat) : Int), ((k + 1 : Nat) : Int))] := by
  simp [encPs, chainP, List.range_succ]
theorem chainP_len (k : Nat) : (chainP k).length = k := by simp [chainP]
theorem encPs_len (l : List (Int × Int)) : (encPs l).length = l.length := by simp [encPs]
end Go.Proofs.Ythpiggjclhnkcaa.AM
