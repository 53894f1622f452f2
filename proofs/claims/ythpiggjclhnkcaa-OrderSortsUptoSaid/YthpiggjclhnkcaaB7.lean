/- Going through the parts of a term. -/
import Derived.Test.YthpiggjclhnkcaaB6
namespace Go.Proofs.Ythpiggjclhnkcaa.AM
open Go
set_option linter.unusedVariables false
set_option linter.unusedSimpArgs false

section
variable {S : Type}
mutual
def walkF (f : S → Term → S × Bool) : Term → S → S × Bool
  | .node k n s ks, σ => match f σ (.node k n s ks) with
    | (σ', true) => walksF f ks σ'
    | (σ', false) => (σ', false)
def walksF (f : S → Term → S × Bool) : List Term → S → S × Bool
  | [], σ => (σ, true)
  | t :: ts, σ => match walkF f t σ with
    | (σ', true) => walksF f ts σ'
    | (σ', false) => (σ', false)
end
theorem walkF_true {f : S → Term → S × Bool} {t : Term} {σ : S} (h : (f σ t).2 = true) : walkF f t σ = walksF f t.kids (f σ t).1 := by
  cases t with
  | node k n s ks =>
    simp only [walkF, Term.kids]
    cases hf : f σ (.node k n s ks) with
    | mk a b => rw [hf] at h; simp only at h; subst h; rfl
theorem walkF_false {f : S → Term → S × Bool} {t : Term} {σ : S} (h : (f σ t).2 = false) : walkF f t σ = ((f σ t).1, false) := by
  cases t with
  | node k n s ks =>
    simp only [walkF]
    cases hf : f σ (.node k n s ks) with
    | mk a b => rw [hf] at h; simp only at h; subst h; rfl
theorem walksF_true {f : S → Term → S × Bool} {t : Term} {ts : List Term} {σ : S} (h : (walkF f t σ).2 = true) : walksF f (t :: ts) σ = walksF f ts (walkF f t σ).1 := by
  simp only [walksF]
  cases hf : walkF f t σ with
  | mk a b => rw [hf] at h; simp only at h; subst h; rfl
theorem walksF_false {f : S → Term → S × Bool} {t : Term} {ts : List Term} {σ : S} (h : (walkF f t σ).2 = false) : walksF f (t :: ts) σ = ((walkF f t σ).1, false) := by
  simp only [walksF]
  cases hf : walkF f t σ with
  | mk a b => rw [hf] at h; simp only at h; subst h; rfl

mutual
/-- What there is room for is there still. -/
theorem walkF_pre {f : S → Term → S × Bool} {Pre : S → Nat → Prop} (hp : ∀ σ p n, Pre σ (n + 1) → (f σ p).2 = true → Pre (f σ p).1 n) : ∀ (t : Term) (σ : S) (n : Nat), Pre σ (t.size + n) → (walkF f t σ).2 = true → Pre (walkF f t σ).1 n
  | .node k n s ks, σ, m, h, hb => by
    cases hf : (f σ (.node k n s ks)).2 with
    | false => rw [walkF_false hf] at hb; cases hb
    | true =>
      rw [walkF_true hf] at hb ⊢
      refine walksF_pre hp ks _ m (hp _ _ _ ?_ hf) hb
      simp only [Term.size] at h
      rw [show sizes ks + m + 1 = sizes ks + 1 + m by omega]; exact h
theorem walksF_pre {f : S → Term → S × Bool} {Pre : S → Nat → Prop} (hp : ∀ σ p n, Pre σ (n + 1) → (f σ p).2 = true → Pre (f σ p).1 n) : ∀ (ts : List Term) (σ : S) (n : Nat), Pre σ (sizes ts + n) → (walksF f ts σ).2 = true → Pre (walksF f ts σ).1 n
  | [], σ, m, h, hb => by simpa [sizes, walksF] using h
  | t :: ts, σ, m, h, hb => by
    cases hf : (walkF f t σ).2 with
    | false => rw [walksF_false hf] at hb; cases hb
    | true =>
      rw [walksF_true hf] at hb ⊢
      refine walksF_pre hp ts _ m (walkF_pre hp t σ _ ?_ hf) hb
      simp only [sizes] at h
      rw [← Nat.add_assoc]; exact h
end
end

theorem thenQ_ret {A : (Nat → AV) → List AObj → Prop} {Q : Exit → (Nat → AV) → List AObj → Prop} {T : Nat → AV} {O : List AObj} (h : Q .ret T O) : thenQ A Q .ret T O := h
theorem blockQ_ret {id : Nat} {Q : Exit → (Nat → AV) → List AObj → Prop} {T : Nat → AV} {O : List AObj} (h : Q .ret T O) : blockQ id Q .ret T O := h
theorem thenQ_normal {A : (Nat → AV) → List AObj → Prop} {Q : Exit → (Nat → AV) → List AObj → Prop} {T : Nat → AV} {O : List AObj} (h : A T O) : thenQ A Q .normal T O := h
theorem blockQ_normal {id : Nat} {Q : Exit → (Nat → AV) → List AObj → Prop} {T : Nat → AV} {O : List AObj} (h : Q .normal T O) : blockQ id Q .normal T O := h
theorem thenQ_exit {A : (Nat → AV) → List AObj → Prop} {Q : Exit → (Nat → AV) → List AObj → Prop} {T : Nat → AV} {O : List AObj} {j : Nat} (h : Q (.exit j) T O) : thenQ A Q (.exit j) T O := h
theorem blockQ_here {id : Nat} {Q : Exit → (Nat → AV) → List AObj → Prop} {T : Nat → AV} {O : List AObj} (h : Q .normal T O) : blockQ id Q (.exit id) T O := by simp only [blockQ, Nat.beq_refl, if_true]; exact h
theorem blockQ_on {id j : Nat} {Q : Exit → (Nat → AV) → List AObj → Prop} {T : Nat → AV} {O : List AObj} (h : Q (.exit j) T O) (hne : Nat.beq j id = false := by rfl) : blockQ id Q (.exit j) T O := by simp only [blockQ, hne, Bool.false_eq_true, if_false]; exact h
abbrev jOf (b : Bool) (jmp : Code) : Option Code := bif b then none else some jmp
theorem Term.size_kids (t : Term) : t.size = sizes t.kids + 1 := by cases t; rfl
theorem Term.bulk_kids (t : Term) : t.bulk = t.name.size + bulks t.kids + 1 := by cases t; rfl
theorem Term.deep_kids (t : Term) : t.deep = 1 + deeps t.kids := by cases t; rfl
theorem drop_get {l : List Term} {i : Nat} (h : i < l.length) : l.drop i = l[i] :: l.drop (i + 1) := by rw [List.drop_eq_getElem_cons h]
theorem EndQ.cell_term {P : Program} {fn : Func} {O : List AObj} {T : Nat → AV} {Q : AV → List AObj → Prop} {O' : List AObj} {e : Exit} {a : Tmp} {t : TypeId} {id off : Nat} {cs : List AV} {u : Term} [S : Sz P t 4 true] (he : e = .normal ∨ e = .ret) (hr : fn.results.toList = [.cell a t]) (ha : T a = .ref id off) (hO : O'[id]? = some (.cells cs)) (hv : (cs.drop off).take 4 = cellsT u) (n : Nat) (h1 : O.length ≤ n) (h2 : n ≤ O'.length) (hq : Q (.d (enc u)) (O'.take n)) : EndQ P fn O Q e T O' := by
  refine EndQ.cell (v := .d (enc u)) he hr ha hO ?_ n h1 h2 trivial hq
  have hl : 4 ≤ (cs.drop off).length := by have := congrArg List.length hv; rw [List.length_take] at this; simp at this; simp; omega
  simp only [takeAV, if_pos hl, hv, enc_d]
  rfl
theorem tb_unk {l : List (Nat × AV)} {N : Nat} (h : l.all (fun p => Nat.blt p.1 N) = true) : ∀ s, N ≤ s → tb l s = .unk := by
  induction l with
  | nil => intro s _; rfl
  | cons p l ih =>
    intro s hs
    simp only [List.all_cons, Bool.and_eq_true, Nat.blt_eq] at h
    simp only [tb]
    cases hb : Nat.beq s p.1 with
    | true => have := Nat.eq_of_beq_eq_true hb; omega
    | false => exact ih h.2 s hs
section
variable {P : Program} {ro : Option Nat} {N : Nat} {K : Org} {T : Nat → AV} {O : List AObj} {dst : Option Tmp} {ty : TypeId} {pos : String} {af : Array Edge} {g : Option (Nat × Bool)}
/-- One object more, of which nothing is said. -/
theorem Runs.pad {c : Code} {Q : Exit → (Nat → AV) → List AObj → Prop} (h : Runs P ro N K c T (O ++ [.dead]) Q) : Runs P ro N K c T O Q := fun a w hat => by
  obtain ⟨F, γ, I, hT, hsz, hdf, E0⟩ := hat
  obtain ⟨I', E⟩ := I.push (w' := w) .dead { blk := none } rfl rfl rfl (Nat.le_refl _) (fun _ _ => rfl) (fun b h => by cases h) trivial (fun E => rfl)
  exact h a w ⟨F, _, I', fun s => AV.V_evo I E I'.len _ _ (hT s), hsz, hdf.evo E, E0.trans I.len E⟩
/-- A new variable that holds a slice that is nil: one of the call's own. -/
theorem opv_alloc_own {t : TypeId} (e sz : Nat) [Z : Ze P t [.nil0]] : OpV P ro ⟨dst, .alloc t, ty, pos, af, g⟩ T O (.ref (O.length + 1) 0) (O ++ [.buf e sz [] 0, .cells [.own O.length 0]]) :=
  OpV.of_run (fun c h => by cases h) fun w F γ a I H => by
    obtain ⟨z, hz, he, ho⟩ := Z.h
    obtain ⟨i, hi, hz⟩ := Option.bind_eq_some_iff.1 hz
    obtain ⟨I1, E1⟩ := I.push (w' := w) (.buf e sz [] 0) { blk := none } rfl rfl rfl (Nat.le_refl _) (fun _ _ => rfl) (fun b h => by cases h) trivial (fun E => .inl ⟨rfl, rfl, rfl, fun _ => rfl⟩)
    have hzl : z.cells.toList = [.slice none 0 0] := by
      match hl : z.cells.toList, he with
      | [v], he =>
        simp only [List.map_cons, List.map_nil, List.cons.injEq, and_true] at he
        unfold constAV at he
        split at he <;> first | rfl | cases he
      | [], he => simp at he
      | _ :: _ :: _, he => simp at he
    have hc : AV.VC w F (γ ++ [{ blk := none }]) (O ++ [.buf e sz [] 0]) [.own O.length 0] z.cells.toList := by
      rw [hzl]
      exact ⟨_, _, rfl, rfl, ⟨rfl, { blk := none }, .buf e sz [] 0, by rw [← I.len]; simp, by simp, Nat.le_refl _, fun _ => rfl⟩, rfl⟩
    obtain ⟨γ', h2, h3, h4⟩ := box_ok I1 t hc
    have e1 : (O ++ [AObj.buf e sz [] 0]).length = O.length + 1 := by simp
    have e2 : O ++ [AObj.buf e sz [] 0] ++ [.cells [.own O.length 0]] = O ++ [.buf e sz [] 0, .cells [.own O.length 0]] := by simp
    rw [e1, e2] at h2
    rw [e2] at h3 h4
    refine ⟨_, _, F, γ', .inl ?_, h2, h3, E1.trans I1.len h4⟩
    simp [execOp, Instr.alloc, zeroValue, typeInfo, hi, hz, newVar, newRow]
end

mutual
/-- The parts, each ahead of those within it. -/
def Term.parts : Term → List Term
  | .node k n s ks => .node k n s ks :: partss ks
def partss : List Term → List Term
  | [] => []
  | t :: ts => t.parts ++ partss ts
end
theorem Term.parts_kids (t : Term) : t.parts = t :: partss t.kids := by cases t; rfl
section
variable {S : Type}
mutual
theorem walkF_fold {f : S → Term → S × Bool} (h : ∀ σ p, (f σ p).2 = true) : ∀ (t : Term) (σ : S), walkF f t σ = (t.parts.foldl (fun σ p => (f σ p).1) σ, true)
  | .node k n s ks, σ => by rw [walkF_true (h _ _), Term.parts, List.foldl_cons]; exact walksF_fold h ks _
theorem walksF_fold {f : S → Term → S × Bool} (h : ∀ σ p, (f σ p).2 = true) : ∀ (ts : List Term) (σ : S), walksF f ts σ = ((partss ts).foldl (fun σ p => (f σ p).1) σ, true)
  | [], σ => rfl
  | t :: ts, σ => by
    have h1 := walkF_fold h t σ
    rw [walksF_true (by rw [h1]), h1, partss, List.foldl_append]
    exact walksF_fold h ts _
end
end
mutual
theorem parts_size : ∀ t : Term, t.parts.length = t.size
  | .node k n s ks => by rw [Term.parts, List.length_cons, partss_size ks, Term.size]
theorem partss_size : ∀ ts : List Term, (partss ts).length = sizes ts
  | [] => rfl
  | t :: ts => by rw [partss, List.length_append, parts_size t, partss_size ts, sizes]
end
theorem fold_count (l : List Term) : ∀ k : Nat, l.foldl (fun σ (_ : Term) => σ + 1) k = k + l.length := by
  induction l with
  | nil => intro k; rfl
  | cons x l ih => intro k; rw [List.foldl_cons, ih, List.length_cons]; omega
theorem walk_size (t : Term) : walkF (fun (σ : Nat) (_ : Term) => (σ + 1, true)) t 0 = (t.size, true) := by
  rw [walkF_fold (fun _ _ => rfl)]
  simp only [fold_count, parts_size, Nat.zero_add]
/-- The variables in the order in which they come up first. -/
def addVar (l : List Int) (p : Term) : List Int := if p.kind = 1 ∧ p.num ∉ l then l ++ [p.num] else l
def Term.vars (t : Term) : List Int := t.parts.foldl addVar []
theorem walk_vars (t : Term) : walkF (fun (σ : List Int) (p : Term) => (addVar σ p, true)) t [] = (t.vars, true) := walkF_fold (fun _ _ => rfl) t []
theorem addVar_len (l : List Int) (p : Term) : (addVar l p).length ≤ l.length + 1 := by unfold addVar; split <;> simp
/-- May a part be, but for its kids? -/
def alone (levels : Int) (t : Term) : Bool :=
  bif t.kind == 1 then decide (t.num ≥ 0) && decide (t.num < 4096) && (t.name.toList == (⟨#[]⟩ : ByteArray).toList) && ((t.kids.length : Int) == 0)
  else bif t.kind == 2 then (t.name.toList == (⟨#[]⟩ : ByteArray).toList) && ((t.kids.length : Int) == 0)
  else bif t.kind == 3 then (t.num == 0) && decide ((t.name.size : Int) ≤ 64) && decide ((t.kids.length : Int) ≤ 8)
  else bif t.kind == 4 then (t.name.toList == (⟨#[]⟩ : ByteArray).toList) && decide (t.num ≥ 0) && decide (t.num < levels) && ((t.kids.length : Int) == 1) && ((t.kids[0]?).map fun x => ((x.vars.length : Int) == 0)).getD true
  else false
mutual
theorem walk_alone (n : Int) : ∀ t : Term, walkF (fun (_ : Bool) p => (alone n p, alone n p)) t true = (t.parts.all (alone n), t.parts.all (alone n))
  | .node k m s ks => by
    cases hb : alone n (.node k m s ks) with
    | true => rw [walkF_true hb, Term.parts, List.all_cons, hb, Bool.true_and]; exact walks_alone n ks
    | false => rw [walkF_false hb, Term.parts, List.all_cons, hb, Bool.false_and]
theorem walks_alone (n : Int) : ∀ ts : List Term, walksF (fun (_ : Bool) p => (alone n p, alone n p)) ts true = ((partss ts).all (alone n), (partss ts).all (alone n))
  | [] => rfl
  | t :: ts => by
    have h1 := walk_alone n t
    cases hb : t.parts.all (alone n) with
    | true => rw [walksF_true (by rw [h1]; exact hb), h1, hb, partss, List.all_append, hb, Bool.true_and]; exact walks_alone n ts
    | false => rw [walksF_false (by rw [h1]; exact hb), h1, hb, partss, List.all_append, hb, Bool.false_and]
end
def Term.check (t : Term) (levels : Int) : Int :=
  if 1000 < t.size then 3 else if 60 < t.deep then 7 else if t.parts.all (alone levels) then 0 else 4
end Go.Proofs.Ythpiggjclhnkcaa.AM
