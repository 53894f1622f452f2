/- A table and a lattice that are of the same pairs are alike. -/
import Derived.Test.YtljmkgjemmoegaaY2
namespace Go.Proofs.Ytljmkgjemmoegaa.AM
open Go
set_option linter.unusedVariables false
set_option linter.unusedSimpArgs false
def encOrd (o : Int × List (Int × Int)) : D := .agg [.int .i64 o.1, .list (encPs o.2)]
def Trn (n : Nat) (T : Nat → Nat → Bool) : Prop := ∀ a b c, a < n → b < n → c < n → T a b = true → T b c = true → T a c = true
theorem gt_stepT {n : Nat} {M : List (List Bool)} (hs : Sq n M) {a b : Nat} (c : Nat) (ha : a < n) (hb : b < n) (x y : Nat) :
    gt (stepT c a M b) x y = if x = a ∧ y = b then (gt M a b || (gt M a c && gt M c b)) else gt M x y := by
  have h1 : a < M.length := by rw [hs.1]; exact ha
  have h2 : (M[a]).length = n := hs.row h1
  unfold stepT
  generalize (gt M a b || (gt M a c && gt M c b)) = v
  unfold gt
  simp only [List.getD_eq_getElem?_getD, List.getElem?_set]
  by_cases hx : a = x
  · subst hx
    simp only [if_true, h1, true_and, List.getElem?_eq_getElem h1, Option.getD_some]
    by_cases hy : b = y
    · subst hy; simp [h2, hb]
    · rw [List.getElem?_set_ne hy, if_neg (fun e => hy e.symm)]
  · rw [if_neg hx, if_neg (fun e => hx e.1.symm)]
theorem gt_tabB {n : Nat} {M : List (List Bool)} (hs : Sq n M) {a c : Nat} (ha : a < n) (hc : c < n) (x y : Nat) : ∀ b, b ≤ n →
    gt (tabB c a M b) x y = if x = a ∧ y < b then (gt M a y || (gt M a c && gt M c y)) else gt M x y := by
  intro b
  induction b generalizing x y with
  | zero => intro _; rw [if_neg (by omega)]; rfl
  | succ b ih =>
    intro hb
    have hq := fun x y => ih x y (by omega)
    rw [tabB_succ, gt_stepT (hs.tabB b) c ha (by omega)]
    have e1 : gt (tabB c a M b) a b = gt M a b := by rw [hq, if_neg (by omega)]
    have e2 : gt (tabB c a M b) a c = gt M a c := by
      rw [hq]; split
      · cases gt M a c <;> simp
      · rfl
    have e3 : gt (tabB c a M b) c b = gt M c b := by rw [hq, if_neg (by omega)]
    rw [e1, e2, e3, hq]
    by_cases h : x = a ∧ y = b
    · rw [if_pos h, if_pos (by omega), h.2]
    · rw [if_neg h]
      by_cases h' : x = a ∧ y < b
      · rw [if_pos h', if_pos (by omega)]
      · rw [if_neg h', if_neg (by omega)]
theorem gt_tabA {n : Nat} {M : List (List Bool)} (hs : Sq n M) {c : Nat} (hc : c < n) : ∀ a, a ≤ n → ∀ x y, x < n → y < n →
    gt (tabA n c M a) x y = if x < a then (gt M x y || (gt M x c && gt M c y)) else gt M x y := by
  intro a
  induction a with
  | zero => intro _ x y _ _; rw [if_neg (by omega)]; rfl
  | succ a ih =>
    intro ha x y hx hy
    have hq := ih (by omega)
    rw [tabA_succ, gt_tabB (hs.tabA a) (by omega) hc _ _ n (Nat.le_refl n)]
    have e1 : gt (tabA n c M a) a y = gt M a y := by rw [hq _ _ (by omega) hy, if_neg (by omega)]
    have e2 : gt (tabA n c M a) a c = gt M a c := by rw [hq _ _ (by omega) hc, if_neg (by omega)]
    have e3 : gt (tabA n c M a) c y = gt M c y := by
      rw [hq _ _ hc hy]; split
      · cases gt M c y <;> simp
      · rfl
    by_cases h : x = a
    · subst h
      rw [if_pos ⟨rfl, hy⟩, e1, e2, e3, if_pos (by omega)]
    · rw [if_neg (fun e => h e.1), hq x y hx hy]
      by_cases h' : x < a
      · rw [if_pos h', if_pos (by omega)]
      · rw [if_neg h', if_neg (by omega)]
theorem gt_tabC {n : Nat} {M : List (List Bool)} (hs : Sq n M) {c : Nat} (hc : c < n) {x y : Nat} (hx : x < n) (hy : y < n) :
    gt (tabC n M (c + 1)) x y = (gt (tabC n M c) x y || (gt (tabC n M c) x c && gt (tabC n M c) c y)) := by
  rw [tabC_succ, gt_tabA (hs.tabC c) hc n (Nat.le_refl n) x y hx hy, if_pos hx]
theorem tabC_le {n : Nat} {M : List (List Bool)} (hs : Sq n M) {x y : Nat} (hx : x < n) (hy : y < n) (h : gt M x y = true) : ∀ c, c ≤ n → gt (tabC n M c) x y = true
  | 0, _ => h
  | c + 1, hc => by rw [gt_tabC hs (by omega) hx hy, tabC_le hs hx hy h c (by omega)]; rfl
theorem tabC_least {n : Nat} {M : List (List Bool)} (hs : Sq n M) {T : Nat → Nat → Bool} (hT : Trn n T) (h : ∀ x y, x < n → y < n → gt M x y = true → T x y = true) : ∀ c, c ≤ n → ∀ x y, x < n → y < n → gt (tabC n M c) x y = true → T x y = true
  | 0, _ => h
  | c + 1, hc => fun x y hx hy e => by
    have ih := tabC_least hs hT h c (by omega)
    rw [gt_tabC hs (by omega) hx hy, Bool.or_eq_true, Bool.and_eq_true] at e
    rcases e with e | ⟨e1, e2⟩
    · exact ih x y hx hy e
    · exact hT x c y hx (by omega) hy (ih x c hx (by omega) e1) (ih c y (by omega) hy e2)
theorem tabC_mid {n : Nat} {M : List (List Bool)} (hs : Sq n M) : ∀ c, c ≤ n → ∀ x j y, x < n → y < n → j < c → gt (tabC n M c) x j = true → gt (tabC n M c) j y = true → gt (tabC n M c) x y = true
  | 0, _ => fun x j y _ _ hj => absurd hj (Nat.not_lt_zero _)
  | c + 1, hc => fun x j y hx hy hj e1 e2 => by
    have ih := tabC_mid hs c (by omega)
    rw [gt_tabC hs (by omega) hx (by omega), Bool.or_eq_true, Bool.and_eq_true] at e1
    rw [gt_tabC hs (by omega) (by omega) hy, Bool.or_eq_true, Bool.and_eq_true] at e2
    rw [gt_tabC hs (by omega) hx hy, Bool.or_eq_true, Bool.and_eq_true]
    rcases Nat.lt_succ_iff_lt_or_eq.1 hj with hj | hj
    · rcases e1 with e1 | ⟨e1, e1'⟩
      · rcases e2 with e2 | ⟨e2, e2'⟩
        · exact .inl (ih x j y hx hy hj e1 e2)
        · exact .inr ⟨ih x j c hx (by omega) hj e1 e2, e2'⟩
      · rcases e2 with e2 | ⟨e2, e2'⟩
        · exact .inr ⟨e1, ih c j y (by omega) hy hj e1' e2⟩
        · exact .inr ⟨e1, e2'⟩
    · subst hj
      refine .inr ⟨?_, ?_⟩
      · rcases e1 with e1 | e1
        · exact e1
        · exact e1.1
      · rcases e2 with e2 | e2
        · exact e2
        · exact e2.2
theorem tabC_trn {n : Nat} {M : List (List Bool)} (hs : Sq n M) : Trn n (gt (tabC n M n)) := fun a b c ha hb hc h1 h2 => tabC_mid hs n (Nat.le_refl n) a b c ha hc hb h1 h2
theorem rowF_get (n a : Nat) {b : Nat} (hb : b < n) (ps : List (Int × Int)) : (rowF n a ps).getD b false = (decide (a = b) || ps.any fun p => decide (p.1 = (a : Int)) && decide (p.2.toNat = b)) := by
  unfold rowF
  have key : ∀ (ps : List (Int × Int)) (r : List Bool), r.length = n → (ps.foldl (fun r p => if p.1 = (a : Int) then r.set p.2.toNat true else r) r).getD b false = (r.getD b false || ps.any fun p => decide (p.1 = (a : Int)) && decide (p.2.toNat = b)) := by
    intro ps
    induction ps with
    | nil => intro r h; simp
    | cons p ps ih =>
      intro r h
      rw [List.foldl_cons, List.any_cons]
      by_cases hp : p.1 = (a : Int)
      · rw [if_pos hp, ih _ (by simp [h]), decide_eq_true hp, Bool.true_and]
        by_cases hq : p.2.toNat = b
        · rw [hq]; simp [List.getElem?_set, h, hb]
        · rw [decide_eq_false hq, Bool.false_or]; simp [List.getElem?_set, hq]
      · rw [if_neg hp, ih _ h, decide_eq_false hp, Bool.false_and, Bool.false_or]
  rw [key ps _ (by simp)]
  congr 1
  by_cases h : a = b
  · subst h; simp [List.getElem?_set, hb]
  · simp [List.getElem?_set, h, hb]
theorem gt_rowsF {n a b : Nat} (ha : a < n) (hb : b < n) (ps : List (Int × Int)) : gt (rowsF n ps n) a b = (decide (a = b) || ps.any fun p => decide (p.1 = (a : Int)) && decide (p.2.toNat = b)) := by
  unfold gt
  rw [show (rowsF n ps n).getD a [] = rowF n a ps from by simp [rowsF, ha]]
  exact rowF_get n a hb ps

/-! The bits. -/
theorem Lt.bit_put {l : Lt} (h : l.Ok) {i v : Nat} (hi : i < 16) (x y : Nat) : (l.put i v).bit x y = if x = i then v.testBit y else l.bit x y := by
  unfold Lt.bit; rw [Lt.put_u h hi]; split <;> rfl
theorem lt0_bit {n : Nat} (hn : n ≤ 16) {a : Nat} (ha : a < n) (b : Nat) : (lt0 n n).bit a b = decide (a = b) := by
  unfold Lt.bit
  rw [show (lt0 n n).u a = 2 ^ a from by
    unfold Lt.u lt0
    rw [List.getD_eq_getElem?_getD, List.getElem?_map, List.getElem?_range (by omega)]
    simp [ha]]
  rw [Nat.testBit_two_pow]
theorem adds_bit : ∀ (ps : List (Int × Int)) (l m : Lt), l.Ok → l.adds ps = some m → (∀ p ∈ ps, inR (l.n : Nat) p = true) ∧ ∀ x y, m.bit x y = (l.bit x y || ps.any fun p => decide (p.1.toNat = x) && decide (p.2.toNat = y))
  | [], l, m, h, e => by cases e; exact ⟨fun p hp => absurd hp (List.not_mem_nil), fun x y => by simp⟩
  | p :: ps, l, m, h, e => by
    simp only [Lt.adds] at e
    split at e
    · rename_i hq
      obtain ⟨h1, h2⟩ := adds_bit ps (l.add p) m (Lt.add_ok h hq.2) e
      have hp1 := Lt.is_iff.1 hq.1
      have hp2 := Lt.is_iff.1 hq.2
      have h16 := h.n16
      refine ⟨fun q hq' => ?_, fun x y => ?_⟩
      · rcases List.mem_cons.1 hq' with rfl | hq'
        · rw [inR_iff]; omega
        · exact h1 q hq'
      · rw [h2, List.any_cons, ← Bool.or_assoc]
        congr 1
        unfold Lt.add
        rw [Lt.bit_put h (by omega), Nat.testBit_or, Nat.testBit_two_pow]
        by_cases hx : p.1.toNat = x
        · rw [if_pos hx.symm, hx]; simp [Lt.bit]
        · rw [if_neg (fun e => hx e.symm)]; simp [hx]
    · cases e
theorem nxt_put {l m : Lt} (h : l.Ok) (e : l.nxt = some m) : ∃ a b, a < l.n ∧ b < l.n ∧ l.bit a b = true ∧ l.sum < m.sum ∧ m.Ok ∧ m.n = l.n ∧ ∀ x y, m.bit x y = if x = a then (l.bit a y || l.bit b y) else l.bit x y := by
  obtain ⟨a, b, ha, hb, hs, rfl⟩ := Lt.nxt_ok h e
  refine ⟨a, b, ha, hb, by simp only [Lt.stp, Bool.and_eq_true] at hs; exact hs.1, Lt.sum_up h ha hs, h.put (Lt.or_lt h a b), rfl, fun x y => ?_⟩
  have := h.n16
  rw [Lt.bit_put h (by omega), Nat.testBit_or]
  rfl
theorem close_le : ∀ (k : Nat) (l : Lt), l.Ok → ∀ x y, l.bit x y = true → (closeF k l).bit x y = true
  | 0, l, h => fun x y e => e
  | k + 1, l, h => fun x y e => by
    cases hn : l.nxt with
    | none => rw [closeF_none hn]; exact e
    | some m =>
      rw [closeF_hit hn]
      obtain ⟨a, b, _, _, _, _, h2, _, h4⟩ := nxt_put h hn
      refine close_le k m h2 x y ?_
      rw [h4]; split
      · rename_i hx; subst hx; rw [e]; rfl
      · exact e
theorem close_least {n : Nat} {T : Nat → Nat → Bool} (hT : Trn n T) : ∀ (k : Nat) (l : Lt), l.Ok → l.n = n → (∀ x y, x < n → l.bit x y = true → y < n ∧ T x y = true) → ∀ x y, x < n → (closeF k l).bit x y = true → y < n ∧ T x y = true
  | 0, l, h, hn, hl => hl
  | k + 1, l, h, hn, hl => by
    cases hx : l.nxt with
    | none => rw [closeF_none hx]; exact hl
    | some m =>
      rw [closeF_hit hx]
      obtain ⟨a, b, ha, hb, hab, _, h2, h3, h4⟩ := nxt_put h hx
      refine close_least hT k m h2 (by rw [h3]; exact hn) fun x y hx e => ?_
      rw [h4] at e
      split at e
      · rename_i hxa
        subst hxa
        rw [Bool.or_eq_true] at e
        rcases e with e | e
        · exact hl x y hx e
        · obtain ⟨hy, h5⟩ := hl b y (by omega) e
          exact ⟨hy, hT x b y hx (by omega) hy (hl x b hx hab).2 h5⟩
      · exact hl x y hx e
theorem close_fix : ∀ (k : Nat) (l : Lt), l.Ok → 2 ^ 20 ≤ l.sum + k → (closeF k l).nxt = none
  | 0, l, h, hk => by
    cases hn : l.nxt with
    | none => exact hn
    | some m =>
      obtain ⟨_, _, _, _, _, h1, h2, _, _⟩ := nxt_put h hn
      have := Lt.sum_top h2
      omega
  | k + 1, l, h, hk => by
    cases hn : l.nxt with
    | none => rw [closeF_none hn]; exact hn
    | some m =>
      rw [closeF_hit hn]
      obtain ⟨_, _, _, _, _, h1, h2, _, _⟩ := nxt_put h hn
      exact close_fix k m h2 (by omega)
theorem fix_trn {l : Lt} (h : l.nxt = none) : Trn l.n l.bit := fun a b c ha hb hc h1 h2 => by
  unfold Lt.nxt at h
  rw [List.findSome?_eq_none_iff] at h
  have h3 := h a (List.mem_range.2 ha)
  rw [List.findSome?_eq_none_iff] at h3
  have h4 := h3 b (List.mem_range.2 hb)
  have h5 : ¬ l.stp a b = true := fun e => by rw [if_pos e] at h4; cases h4
  have h6 : (l.u a ||| l.u b) = l.u a := by
    by_cases e : (l.u a ||| l.u b) = l.u a
    · exact e
    · exact absurd (by simp [Lt.stp, h1, e]) h5
  show (l.u a).testBit c = true
  rw [← h6, Nat.testBit_or, show (l.u b).testBit c = true from h2, Bool.or_true]
/-- The table is the lattice's bits. -/
theorem gt_bit {n : Nat} (hn : n ≤ 16) {ps : List (Int × Int)} {l : Lt} (h : (lt0 n n).adds ps = some l) :
    l.close.n = n ∧ Trn n l.close.bit ∧ (∀ p ∈ ps, inR (n : Nat) p = true) ∧ (∀ a, a < n → l.close.bit a a = true) ∧ (∀ a b, a < n → l.close.bit a b = true → b < n) ∧ ∀ a b, a < n → b < n → gt (tabF n ps) a b = l.close.bit a b := by
  have h0 := lt0_ok (i := n) hn
  obtain ⟨h1, h2⟩ := adds_bit ps _ _ h0 h
  obtain ⟨h3, h4⟩ := Lt.adds_ok ps _ _ h0 h
  have hln : l.n = n := h4
  have hcn : l.close.n = n := by rw [(Lt.close_ok h3).2]; exact hln
  have hT : Trn n l.close.bit := by
    have := fix_trn (close_fix (2 ^ 20) l h3 (by omega))
    rw [show (closeF (2 ^ 20) l).n = n from hcn] at this
    exact this
  have hs := Sq.rows n ps
  have hT2 : Trn n (gt (tabF n ps)) := tabC_trn hs
  have hb : ∀ x y, x < n → l.bit x y = true → y < n ∧ gt (tabF n ps) x y = true := fun x y hx e => by
    have hy : y < n := by
      rw [h2, lt0_bit hn hx, Bool.or_eq_true] at e
      rcases e with e | e
      · have := of_decide_eq_true e; omega
      · obtain ⟨p, hp, e⟩ := List.any_eq_true.1 e
        simp only [Bool.and_eq_true, decide_eq_true_eq] at e
        have h5 : inR ((lt0 n n).n : Nat) p = true := h1 p hp
        rw [inR_iff] at h5
        have : (lt0 n n).n = n := rfl
        omega
    refine ⟨hy, ?_⟩
    refine tabC_le hs hx hy ?_ n (Nat.le_refl n)
    rw [gt_rowsF hx hy]
    rw [h2, lt0_bit hn hx] at e
    rw [Bool.or_eq_true] at e ⊢
    rcases e with e | e
    · exact .inl e
    · refine .inr ?_
      obtain ⟨p, hp, e⟩ := List.any_eq_true.1 e
      refine List.any_eq_true.2 ⟨p, hp, ?_⟩
      have h5 : inR ((lt0 n n).n : Nat) p = true := h1 p hp
      rw [inR_iff] at h5
      simp only [Bool.and_eq_true, decide_eq_true_eq] at e ⊢
      exact ⟨by omega, e.2⟩
  have hcl := close_least hT2 (2 ^ 20) l h3 hln hb
  refine ⟨hcn, hT, h1, fun a ha => close_le _ l h3 a a (by rw [h2, lt0_bit hn ha]; simp), fun a b ha e => (hcl a b ha e).1, fun a b ha hb' => ?_⟩
  rw [Bool.eq_iff_iff]
  refine ⟨tabC_least hs hT (fun x y hx hy e => ?_) n (Nat.le_refl n) a b ha hb', fun e => (hcl a b ha e).2⟩
  refine close_le _ l h3 x y ?_
  rw [h2, lt0_bit hn hx]
  rw [gt_rowsF hx hy] at e
  rw [Bool.or_eq_true] at e ⊢
  rcases e with e | e
  · exact .inl e
  · refine .inr ?_
    obtain ⟨p, hp, e⟩ := List.any_eq_true.1 e
    refine List.any_eq_true.2 ⟨p, hp, ?_⟩
    simp only [Bool.and_eq_true, decide_eq_true_eq] at e ⊢
    exact ⟨by omega, e.2⟩

/-! What is asked of both is alike. -/
structure Mt (M : List (List Bool)) (l : Lt) : Prop where
  sq : Sq l.n M
  n16 : l.n ≤ 16
  leq : ∀ a b, leqR M a b = l.leq a b
  join : ∀ a b, joinR M a b = l.join a b
  top : topR M = l.top
  bot : botR M = l.bottom
theorem find_eq {p q : Nat → Bool} {n : Nat} (h : ∀ j, j < n → p j = q j) : (List.range n).find? p = (List.range n).find? q := by
  have key : ∀ (L : List Nat), (∀ j ∈ L, p j = q j) → L.find? p = L.find? q := by
    intro L
    induction L with
    | nil => intro _; rfl
    | cons x L ih => intro h; rw [List.find?_cons, List.find?_cons, h x (by simp), ih fun j hj => h j (by simp [hj])]
  exact key _ fun j hj => h j (List.mem_range.1 hj)
theorem leq_nat {l : Lt} {a b : Nat} (ha : a < l.n) (hb : b < l.n) : l.leq (a : Nat) (b : Nat) = l.bit a b := by
  unfold Lt.leq
  rw [show l.is ((a : Nat) : Int) = true from Lt.is_iff.2 (by omega), show l.is ((b : Nat) : Int) = true from Lt.is_iff.2 (by omega)]
  rfl
theorem mt_leq {M : List (List Bool)} {l : Lt} (hs : Sq l.n M) (h : ∀ a b, a < l.n → b < l.n → gt M a b = l.bit a b) (a b : Int) : leqR M a b = l.leq a b := by
  unfold leqR Lt.leq isR Lt.is
  rw [hs.1]
  by_cases ha : 0 ≤ a ∧ a < (l.n : Nat)
  · by_cases hb : 0 ≤ b ∧ b < (l.n : Nat)
    · rw [h _ _ (by omega) (by omega)]
    · have : (decide (0 ≤ b) && decide (b < ((l.n : Nat) : Int))) = false := by rw [Bool.eq_false_iff]; simp; omega
      rw [this]; simp
  · have : (decide (0 ≤ a) && decide (a < ((l.n : Nat) : Int))) = false := by rw [Bool.eq_false_iff]; simp; omega
    rw [this]; simp
theorem mt_jp {M : List (List Bool)} {l : Lt} (hs : Sq l.n M) (hin : ∀ a b, a < l.n → l.bit a b = true → b < l.n) (hl : ∀ a b, leqR M a b = l.leq a b) {a b c : Nat} (ha : a < l.n) (hb : b < l.n) (hc : c < l.n) :
    lstR M (a : Nat) (b : Nat) (c : Nat) M.length = l.jp (l.u a &&& l.u b) c := by
  unfold lstR Lt.jp
  rw [hl, hl, leq_nat ha hc, leq_nat hb hc, Nat.testBit_and, hs.1]
  congr 1
  rw [Bool.eq_iff_iff, List.all_eq_true]
  refine ⟨fun h => ?_, fun h d hd => ?_⟩
  · rw [beq_iff_eq]
    refine Nat.eq_of_testBit_eq fun d => ?_
    rw [Nat.testBit_and, Nat.testBit_and]
    by_cases e : ((l.u a).testBit d && (l.u b).testBit d) = true
    · rw [e]
      rw [Bool.and_eq_true] at e
      have hd : d < l.n := hin a d ha e.1
      have := h d (List.mem_range.2 hd)
      rw [hl, hl, hl, leq_nat ha hd, leq_nat hb hd, leq_nat hc hd] at this
      rw [show l.bit a d = true from e.1, show l.bit b d = true from e.2] at this
      rw [show (l.u c).testBit d = l.bit c d from rfl]
      simpa using this
    · rw [Bool.eq_false_iff.2 e, Bool.and_false]
  · have hd := List.mem_range.1 hd
    rw [beq_iff_eq] at h
    rw [hl, hl, hl, leq_nat ha hd, leq_nat hb hd, leq_nat hc hd]
    have h2 : ((l.u c &&& (l.u a &&& l.u b)).testBit d) = (l.u a &&& l.u b).testBit d := by rw [h]
    rw [Nat.testBit_and, Nat.testBit_and] at h2
    show (!((l.u a).testBit d && (l.u b).testBit d && !(l.u c).testBit d)) = true
    revert h2
    cases (l.u a).testBit d <;> cases (l.u b).testBit d <;> cases (l.u c).testBit d <;> simp
theorem mt_join {M : List (List Bool)} {l : Lt} (hs : Sq l.n M) (hin : ∀ a b, a < l.n → l.bit a b = true → b < l.n) (hl : ∀ a b, leqR M a b = l.leq a b) (a b : Int) : joinR M a b = l.join a b := by
  by_cases h : l.is a = true ∧ l.is b = true
  · obtain ⟨a0, a1⟩ := Lt.is_iff.1 h.1
    obtain ⟨b0, b1⟩ := Lt.is_iff.1 h.2
    obtain ⟨x, rfl⟩ : ∃ x : Nat, a = x := ⟨a.toNat, by omega⟩
    obtain ⟨y, rfl⟩ : ∃ y : Nat, b = y := ⟨b.toNat, by omega⟩
    unfold joinR foundI Lt.join
    rw [if_pos h]
    rw [find_eq (q := l.jp (l.u x &&& l.u y)) fun j hj => mt_jp hs hin hl (by omega) (by omega) (by rw [hs.1] at hj; exact hj), hs.1]
    rfl
  · rw [Lt.join_no (by rcases Classical.em (l.is a = true) with h1 | h1
                       · exact .inr (Bool.eq_false_iff.2 fun h2 => h ⟨h1, h2⟩)
                       · exact .inl (Bool.eq_false_iff.2 h1))]
    refine foundI_no fun j hj => ?_
    unfold lstR
    rw [hl, hl]
    have : (l.leq a (j : Nat) && l.leq b (j : Nat)) = false := by
      rw [Bool.eq_false_iff]; intro e
      unfold Lt.leq at e
      simp only [Bool.and_eq_true] at e
      exact h ⟨e.1.1.1, e.2.1.1⟩
    rw [this]; rfl
theorem join_above {l : Lt} {a b : Nat} (ha : a < l.n) (hb : b < l.n) (h : l.join (a : Nat) (b : Nat) ≠ -1) : ∃ c, c < l.n ∧ l.bit a c = true ∧ l.bit b c = true := by
  unfold Lt.join at h
  rw [if_pos ⟨Lt.is_iff.2 (by omega), Lt.is_iff.2 (by omega)⟩] at h
  split at h
  · rename_i c hc
    obtain ⟨h1, h2, _⟩ := List.find?_range_eq_some.1 hc
    unfold Lt.jp at h1
    rw [Bool.and_eq_true, Nat.testBit_and, Bool.and_eq_true] at h1
    exact ⟨c, List.mem_range.1 h2, h1.1.1, h1.1.2⟩
  · exact absurd rfl h
theorem best_below (l : Lt) (a b : Int) : ∀ k, l.best a b k = -1 ∨ ∃ c : Nat, c < k ∧ l.best a b k = (c : Nat) ∧ l.leq (c : Nat) a = true ∧ l.leq (c : Nat) b = true
  | 0 => .inl rfl
  | k + 1 => by
    rw [Lt.best_succ]
    unfold Lt.mstep
    split
    · rename_i h
      simp only [Bool.and_eq_true] at h
      exact .inr ⟨k, by omega, rfl, h.1.1, h.1.2⟩
    · rcases best_below l a b k with h | ⟨c, h1, h2⟩
      · exact .inl h
      · exact .inr ⟨c, by omega, h2⟩
theorem meet_below {l : Lt} {a b : Nat} (ha : a < l.n) (hb : b < l.n) (h : l.meet (a : Nat) (b : Nat) ≠ -1) : ∃ c : Nat, c < l.n ∧ l.leq (c : Nat) (a : Nat) = true ∧ l.leq (c : Nat) (b : Nat) = true ∧ ∀ d : Nat, d < l.n → l.leq (d : Nat) (a : Nat) = true → l.leq (d : Nat) (b : Nat) = true → l.leq (d : Nat) (c : Nat) = true := by
  unfold Lt.meet at h
  rw [if_pos ⟨Lt.is_iff.2 (by omega), Lt.is_iff.2 (by omega)⟩] at h
  split at h
  · rename_i hall
    rcases best_below l (a : Nat) (b : Nat) l.n with h1 | ⟨c, h1, h2, h3, h4⟩
    · exact absurd h1 h
    · refine ⟨c, h1, h3, h4, fun d hd h5 h6 => ?_⟩
      have := List.all_eq_true.1 hall d (List.mem_range.2 hd)
      rw [h5, h6, h2] at this
      simpa using this
  · exact absurd rfl h
theorem tops_top {l : Lt} {t : Nat} (ht : t < l.n) (h1 : ∀ d, d < l.n → l.bit d t = true) (anti : ∀ a b, a < l.n → b < l.n → l.bit a b = true → l.bit b a = true → a = b) : l.top = (t : Nat) := by
  have key : ∀ k, k ≤ l.n → (if t < k then l.tops k = (t : Nat) else l.tops k = -1 ∨ ∃ c : Nat, c < l.n ∧ l.tops k = (c : Nat)) := by
    intro k
    induction k with
    | zero => intro _; rw [if_neg (by omega)]; exact .inl rfl
    | succ k ih =>
      intro hk
      have ih := ih (by omega)
      rw [Lt.tops_succ]
      unfold Lt.tstep
      by_cases e : t < k
      · rw [if_pos e] at ih
        rw [if_pos (by omega), ih]
        split
        · rename_i h
          rw [Bool.or_eq_true] at h
          rcases h with h | h
          · rw [beq_iff_eq] at h; omega
          · rw [leq_nat ht (by omega)] at h
            rw [anti t k ht (by omega) h (h1 k (by omega))]
        · rfl
      · rw [if_neg e] at ih
        by_cases e2 : t = k
        · subst e2
          rw [if_pos (by omega)]
          rcases ih with ih | ⟨c, hc, ih⟩
          · rw [ih]; rfl
          · rw [ih, leq_nat hc ht, h1 c hc, Bool.or_true]; rfl
        · rw [if_neg (by omega)]
          split
          · exact .inr ⟨k, by omega, rfl⟩
          · exact ih
  have := key l.n (Nat.le_refl _)
  rw [if_pos ht] at this
  exact this
theorem bots_bot {l : Lt} {t : Nat} (ht : t < l.n) (h1 : ∀ d, d < l.n → l.bit t d = true) (anti : ∀ a b, a < l.n → b < l.n → l.bit a b = true → l.bit b a = true → a = b) : l.bottom = (t : Nat) := by
  have key : ∀ k, k ≤ l.n → (if t < k then l.bots k = (t : Nat) else l.bots k = -1 ∨ ∃ c : Nat, c < l.n ∧ l.bots k = (c : Nat)) := by
    intro k
    induction k with
    | zero => intro _; rw [if_neg (by omega)]; exact .inl rfl
    | succ k ih =>
      intro hk
      have ih := ih (by omega)
      rw [Lt.bots_succ]
      unfold Lt.bstep
      by_cases e : t < k
      · rw [if_pos e] at ih
        rw [if_pos (by omega), ih]
        split
        · rename_i h
          rw [Bool.or_eq_true] at h
          rcases h with h | h
          · rw [beq_iff_eq] at h; omega
          · rw [leq_nat (by omega) ht] at h
            rw [anti k t (by omega) ht h (h1 k (by omega))]
        · rfl
      · rw [if_neg e] at ih
        by_cases e2 : t = k
        · subst e2
          rw [if_pos (by omega)]
          rcases ih with ih | ⟨c, hc, ih⟩
          · rw [ih]; rfl
          · rw [ih, leq_nat ht hc, h1 c hc, Bool.or_true]; rfl
        · rw [if_neg (by omega)]
          split
          · exact .inr ⟨k, by omega, rfl⟩
          · exact ih
  have := key l.n (Nat.le_refl _)
  rw [if_pos ht] at this
  exact this
theorem newL_inv {n : Int} {ps : List (Int × Int)} {l : Lt} {e : Int} (h : newL n ps = (some l, e)) : ∃ m : Nat, n = (m : Nat) ∧ 1 ≤ m ∧ m ≤ 16 ∧ e = 0 ∧ ∃ q, (lt0 m m).adds ps = some q ∧ l = q.close ∧ q.close.good = true := by
  unfold newL at h
  split at h
  · cases h
  · rename_i hn
    refine ⟨n.toNat, by omega, by omega, by omega, ?_⟩
    split at h
    · cases h
    · rename_i q hq
      split at h
      · rename_i hg
        cases h
        exact ⟨rfl, q, hq, rfl, hg⟩
      · cases h
/-- What the program takes the document takes, and both are alike. -/
theorem new_mt {n : Int} {ps : List (Int × Int)} {l : Lt} {e : Int} (h : newL n ps = (some l, e)) : l.Ok ∧ (newR n ps).2 = 0 ∧ Mt (newR n ps).1 l := by
  obtain ⟨m, rfl, hm1, hm2, rfl, q, hq, rfl, hg⟩ := newL_inv h
  obtain ⟨g1, g2, g3, g4, g5, g6⟩ := gt_bit hm2 hq
  have hok := (Lt.close_ok (Lt.adds_ok ps _ _ (lt0_ok hm2) hq).1).1
  generalize hl : q.close = l at *
  have hs : Sq l.n (tabF m ps) := by rw [g1]; exact (Sq.rows m ps).tabC m
  rw [← g1] at g2 g4 g5
  have g6 : ∀ a b, a < l.n → b < l.n → gt (tabF m ps) a b = l.bit a b := fun a b ha hb => g6 a b (by omega) (by omega)
  have hgood : ∀ a b, a < l.n → b < l.n → l.bad a b = false := fun a b ha hb => by
    have := List.all_eq_true.1 (List.all_eq_true.1 hg a (List.mem_range.2 ha)) b (List.mem_range.2 hb)
    simpa using this
  have hbad : ∀ a b, a < l.n → b < l.n → (a ≠ b → l.bit a b = true → l.bit b a = false) ∧ l.join (a : Nat) (b : Nat) ≠ -1 ∧ l.meet (a : Nat) (b : Nat) ≠ -1 := fun a b ha hb => by
    have := hgood a b ha hb
    unfold Lt.bad at this
    rw [leq_nat ha hb, leq_nat hb ha, Bool.or_eq_false_iff, Bool.or_eq_false_iff] at this
    refine ⟨fun hne e => ?_, by simpa using this.1.2, by simpa using this.2⟩
    have h1 := this.1.1
    rw [e] at h1
    simpa [hne] using h1
  have anti : ∀ a b, a < l.n → b < l.n → l.bit a b = true → l.bit b a = true → a = b := fun a b ha hb h1 h2 => by
    by_cases e : a = b
    · exact e
    · rw [(hbad a b ha hb).1 e h1] at h2; cases h2
  have hleq := mt_leq hs g6
  have hjoin := mt_join hs g5 hleq
  have htop : ∃ t, t < l.n ∧ ∀ d, d < l.n → l.bit d t = true := by
    have key : ∀ k, k < l.n → ∃ t, t < l.n ∧ ∀ d, d ≤ k → l.bit d t = true := by
      intro k
      induction k with
      | zero => intro h0; exact ⟨0, h0, fun d hd => by rw [show d = 0 by omega]; exact g4 0 h0⟩
      | succ k ih =>
        intro hk
        obtain ⟨t, ht, h1⟩ := ih (by omega)
        obtain ⟨c, hc, h2, h3⟩ := join_above ht hk (hbad t (k + 1) ht hk).2.1
        refine ⟨c, hc, fun d hd => ?_⟩
        by_cases e : d = k + 1
        · rw [e]; exact h3
        · exact g2 d t c (by omega) ht hc (h1 d (by omega)) h2
    obtain ⟨t, ht, h1⟩ := key (l.n - 1) (by omega)
    exact ⟨t, ht, fun d hd => h1 d (by omega)⟩
  have hbot : ∃ t, t < l.n ∧ ∀ d, d < l.n → l.bit t d = true := by
    have key : ∀ k, k < l.n → ∃ t, t < l.n ∧ ∀ d, d ≤ k → l.bit t d = true := by
      intro k
      induction k with
      | zero => intro h0; exact ⟨0, h0, fun d hd => by rw [show d = 0 by omega]; exact g4 0 h0⟩
      | succ k ih =>
        intro hk
        obtain ⟨t, ht, h1⟩ := ih (by omega)
        obtain ⟨c, hc, h2, h3, _⟩ := meet_below ht hk (hbad t (k + 1) ht hk).2.2
        rw [leq_nat hc ht] at h2
        rw [leq_nat hc hk] at h3
        refine ⟨c, hc, fun d hd => ?_⟩
        by_cases e : d = k + 1
        · rw [e]; exact h3
        · exact g2 c t d hc ht (by omega) h2 (h1 d (by omega))
    obtain ⟨t, ht, h1⟩ := key (l.n - 1) (by omega)
    exact ⟨t, ht, fun d hd => h1 d (by omega)⟩
  have hR : newR ((m : Nat) : Int) ps = (tabF m ps, 0) := newR_ok hm1 hm2 g3 fun a b ha hb => by
    rw [← g1] at ha hb
    obtain ⟨b1, b2, b3⟩ := hbad a b ha hb
    unfold badR
    rw [g6 a b ha hb, g6 b a hb ha, hjoin]
    have e1 : (a != b && l.bit a b && l.bit b a) = false := by
      by_cases e : a = b
      · subst e; simp
      · cases h1 : l.bit a b with
        | false => simp
        | true => rw [b1 e h1]; simp
    have e2 : decide (l.join (a : Nat) (b : Nat) < 0) = false := by
      refine decide_eq_false ?_
      intro hlt
      unfold Lt.join at b2 hlt
      rw [if_pos ⟨Lt.is_iff.2 (by omega), Lt.is_iff.2 (by omega)⟩] at b2 hlt
      split at hlt
      · omega
      · rename_i hx; rw [hx] at b2; exact b2 rfl
    have e3 : decide (meetR (tabF m ps) (a : Nat) (b : Nat) < 0) = false := by
      refine decide_eq_false ?_
      intro hlt
      obtain ⟨c, hc, m1, m2, m3⟩ := meet_below ha hb b3
      unfold meetR foundI at hlt
      split at hlt
      · omega
      · rename_i hn
        rw [List.find?_eq_none] at hn
        refine hn c (List.mem_range.2 (by rw [hs.1]; exact hc)) ?_
        unfold mstR
        rw [hleq, hleq, m1, m2, Bool.and_self, Bool.true_and, List.all_eq_true]
        intro d hd
        rw [hleq, hleq, hleq]
        have hd := List.mem_range.1 hd
        rw [hs.1] at hd
        cases h1 : l.leq ((d : Nat) : Int) ((a : Nat) : Int) with
        | false => rfl
        | true =>
          cases h2 : l.leq ((d : Nat) : Int) ((b : Nat) : Int) with
          | false => rfl
          | true => rw [m3 d hd h1 h2]; rfl
    rw [e1, e2, e3]; rfl
  rw [hR]
  refine ⟨hok, rfl, hs, by rw [g1]; exact hm2, hleq, hjoin, ?_, ?_⟩
  · obtain ⟨t, ht, h1⟩ := htop
    rw [tops_top ht h1 anti]
    refine foundI_yes (by rw [hs.1]; exact ht) ?_ fun j hj => ?_
    · unfold allR; rw [List.all_eq_true]; intro d hd
      have hd := List.mem_range.1 hd
      rw [hs.1] at hd
      rw [g6 d t hd ht]; exact h1 d hd
    · rw [Bool.eq_false_iff]; intro e
      unfold allR at e
      rw [List.all_eq_true] at e
      have := e t (List.mem_range.2 (by rw [hs.1]; exact ht))
      rw [g6 t j ht (by omega)] at this
      have := anti t j ht (by omega) this (h1 j (by omega))
      omega
  · obtain ⟨t, ht, h1⟩ := hbot
    rw [bots_bot ht h1 anti]
    refine foundI_yes (by rw [hs.1]; exact ht) ?_ fun j hj => ?_
    · unfold allC; rw [List.all_eq_true]; intro d hd
      have hd := List.mem_range.1 hd
      rw [hs.1] at hd
      rw [g6 t d ht hd]; exact h1 d hd
    · rw [Bool.eq_false_iff]; intro e
      unfold allC at e
      rw [List.all_eq_true] at e
      have := e t (List.mem_range.2 (by rw [hs.1]; exact ht))
      rw [g6 j t (by omega) ht] at this
      have := anti j t (by omega) ht this (h1 j (by omega))
      omega

section
variable {P : Program} {ro : Option Nat} {T : Nat → AV} {O : List AObj} {dst : Option Tmp} {ty : TypeId} {pos : String} {af : Array Edge} {g : Option (Nat × Bool)}
theorem opv_slice_pairs {x : Operand} {lo hi : Option Operand} {t e l h : Nat} {xs : List (Int × Int)} [S : Slc P t e 2] (hx : evT T x = .d (.list (encPs xs))) (hlo : bndOk T lo 0 l) (hhi : bndOk T hi xs.length h) (hlh : l ≤ h) (hh : h ≤ xs.length) :
    OpV P ro ⟨dst, .slice t x lo hi none, ty, pos, af, g⟩ T O (.d (.list (encPs ((xs.take h).drop l)))) O := by
  have := opv_slice (P := P) (ro := ro) (dst := dst) (ty := ty) (pos := pos) (af := af) (g := g) (O := O) (t := t) hx hlo (by rw [encPs_len]; exact hhi) hlh (by rw [encPs_len]; exact hh) (fun y hy => by simp only [encPs, List.mem_map] at hy; obtain ⟨u, _, rfl⟩ := hy; rfl)
  simpa only [encPs, List.map_take, List.map_drop] using this
end
end Go.Proofs.Ytljmkgjemmoegaa.AM
