/- What the printed runs lean on. -/
import Derived.Test.YthpiggjclhnkcaaB0
namespace Go.Proofs.Ythpiggjclhnkcaa.AM
open Go
set_option linter.unusedVariables false
set_option linter.unusedSimpArgs false

def tb : List (Nat × AV) → Nat → AV
  | [], _ => .unk
  | (i, x) :: l, s => bif Nat.beq s i then x else tb l s
/-- The temporaries hold at least these. -/
def Has (T : Nat → AV) : List (Nat × AV) → Prop
  | [] => True
  | (i, x) :: l => T i = x ∧ Has T l
theorem Has.tb {T : Nat → AV} : ∀ {l : List (Nat × AV)}, Has T l → ∀ s, AM.tb l s = .unk ∨ AM.tb l s = T s
  | [], _, s => .inl rfl
  | (i, x) :: l, h, s => by
    simp only [AM.tb]
    cases hb : Nat.beq s i with
    | true => have := Nat.eq_of_beq_eq_true hb; subst this; exact .inr h.1.symm
    | false => exact Has.tb h.2 s

section
variable {P : Program} {ro : Option Nat} {N : Nat} {K : Org} {T : Nat → AV} {O : List AObj}

theorem At.weak {T' : Nat → AV} {a : Act} {w : World} (h : At N K T O a w) (ht : ∀ s, T' s = .unk ∨ T' s = T s) : At N K T' O a w := by
  obtain ⟨F, γ, I, hT, hs, hdf, E⟩ := h
  exact ⟨F, γ, I, fun s => (ht s).elim (fun e => by rw [e]; trivial) (fun e => by rw [e]; exact hT s), hs, hdf, E⟩
theorem Runs.weak {c : Code} {Q : Exit → (Nat → AV) → List AObj → Prop} {T' : Nat → AV} (ht : ∀ s, T' s = .unk ∨ T' s = T s) (h : Runs P ro N K c T' O Q) : Runs P ro N K c T O Q :=
  fun a w hat => h a w (hat.weak ht)
theorem Runs.has {c : Code} {Q : Exit → (Nat → AV) → List AObj → Prop} (l : List (Nat × AV)) (hl : Has T l) (h : Runs P ro N K c (tb l) O Q) : Runs P ro N K c T O Q := h.weak hl.tb

theorem Runs.rseq {id : Nat} {ops : List Oper} {y : Code} {Q : Exit → (Nat → AV) → List AObj → Prop} (h : RO P ro N ops.toArray ops T O (fun T O => Runs P ro N K y T O Q)) : Runs P ro N K (.seq (.region id ops.toArray false) y) T O Q :=
  Runs.seq (Runs.region h)
/-- A bool that is asked: both ways. -/
theorem RO.opc {ops : Array Oper} {Q : (Nat → AV) → List AObj → Prop} {op : Op} {dst : Tmp} {ty : TypeId} {pos : String} {af : Array Edge} {rest : List Oper} {b : Bool} {O1 : List AObj}
    (h : OpV P ro ⟨some dst, op, ty, pos, af, none⟩ T O (.d (.bool b)) O1) (ht : b = true → RO P ro N ops rest (upd T dst (.d (.bool true))) O1 Q) (hf : b = false → RO P ro N ops rest (upd T dst (.d (.bool false))) O1 Q) (hd : Nat.blt dst N = true := by rfl) :
    RO P ro N ops (⟨some dst, op, ty, pos, af, none⟩ :: rest) T O Q := by
  cases b with
  | true => exact RO.op h (ht rfl) hd
  | false => exact RO.op h (hf rfl) hd
theorem RO.opgc {ops : Array Oper} {Q : (Nat → AV) → List AObj → Prop} {op : Op} {dst : Tmp} {ty : TypeId} {pos : String} {af : Array Edge} {g : Nat × Bool} {rest : List Oper} {b : Bool} {O1 : List AObj}
    (hg : guardB ops T (some g) = some true) (h : OpV P ro ⟨some dst, op, ty, pos, af, some g⟩ T O (.d (.bool b)) O1) (ht : b = true → RO P ro N ops rest (upd T dst (.d (.bool true))) O1 Q) (hf : b = false → RO P ro N ops rest (upd T dst (.d (.bool false))) O1 Q) (hd : Nat.blt dst N = true := by rfl) :
    RO P ro N ops (⟨some dst, op, ty, pos, af, some g⟩ :: rest) T O Q := by
  cases b with
  | true => exact RO.opg hg h (ht rfl) hd
  | false => exact RO.opg hg h (hf rfl) hd
theorem Runs.condT {c : Operand} {x y : Code} {Q : Exit → (Nat → AV) → List AObj → Prop} (hc : evT T c = .d (.bool true)) (h : Runs P ro N K x T O Q) : Runs P ro N K (.cond c x y) T O Q := Runs.cond hc h
theorem Runs.condF {c : Operand} {x y : Code} {Q : Exit → (Nat → AV) → List AObj → Prop} (hc : evT T c = .d (.bool false)) (h : Runs P ro N K y T O Q) : Runs P ro N K (.cond c x y) T O Q := Runs.cond hc h

/-- A loop, in terms of what a round begins with: no more than l in the temporaries, and the first n objects. -/
theorem Runs.loopD {c : Code} {Q : Exit → (Nat → AV) → List AObj → Prop} {X : Type} (I : X → Prop) (μ : X → Nat) (l : X → List (Nat × AV)) (Ob : X → List AObj) (x0 : X) (h0 : I x0) (hT : Has T (l x0)) (hO : O = Ob x0)
    (round : ∀ x, I x → Runs P ro N K c (tb (l x)) (Ob x) (thenQ (fun T O => ∃ y n, I y ∧ μ y < μ x ∧ K.O.length ≤ n ∧ Has (fun s => (T s).kill n) (l y) ∧ O.take n = Ob y) Q)) : Runs P ro N K (.loop c) T O Q := by
  have key : ∀ m (x : X), μ x ≤ m → I x → Runs P ro N K (.loop c) (tb (l x)) (Ob x) Q := by
    intro m x hm hx a w hat
    refine wpIn_loop (fun a w => ∃ x, I x ∧ At N K (tb (l x)) (Ob x) a w) (fun a w => Classical.epsilon fun m => (∃ x, I x ∧ μ x = m ∧ At N K (tb (l x)) (Ob x) a w) ∧ ∀ x, I x → At N K (tb (l x)) (Ob x) a w → m ≤ μ x) ⟨x, hx, hat⟩ ?_
    have hmin : ∀ a w, (∃ x, I x ∧ At N K (tb (l x)) (Ob x) a w) → ∃ m, (∃ x, I x ∧ μ x = m ∧ At N K (tb (l x)) (Ob x) a w) ∧ ∀ x, I x → At N K (tb (l x)) (Ob x) a w → m ≤ μ x := by
      rintro a w ⟨x, hx, hat⟩
      generalize hn : μ x = n
      induction n using Nat.strongRecOn generalizing x with
      | _ n ih =>
        by_cases hlt : ∃ y, I y ∧ At N K (tb (l y)) (Ob y) a w ∧ μ y < n
        · obtain ⟨y, h1, h2, h3⟩ := hlt; exact ih (μ y) h3 y h1 h2 rfl
        · exact ⟨n, ⟨x, hx, hn, hat⟩, fun y h1 h2 => Nat.le_of_not_lt fun h3 => hlt ⟨y, h1, h2, h3⟩⟩
    rintro a w ⟨x1, hx1, hat1⟩
    obtain ⟨⟨x2, hx2, hμ, hat2⟩, hmn⟩ := Classical.epsilon_spec (hmin a w ⟨x1, hx1, hat1⟩)
    refine wpIn_mono (round x2 hx2 a w hat2) fun e a' w' ⟨T', O', h1, h2⟩ => ?_
    cases e with
    | normal =>
      obtain ⟨y, n, hy, hlt, hn, hh, ho⟩ := h2
      have hat' : At N K (tb (l y)) (Ob y) a' w' := by have := (h1.drop n hn).weak hh.tb; rw [ho] at this; exact this
      refine ⟨⟨y, hy, hat'⟩, Nat.lt_of_le_of_lt ((Classical.epsilon_spec (hmin a' w' ⟨y, hy, hat'⟩)).2 y hy hat') (hμ ▸ hlt)⟩
    | _ => exact ⟨T', O', h1, h2⟩
  subst hO
  exact Runs.has _ hT (key _ x0 (Nat.le_refl _) h0)

theorem AV.bds_of0 {l : List AV} (h : AV.bdB.AV.bdsB 0 l = true) : AV.bds 0 l := AV.bds_of_B l h
/-- A call that is handed data alone. -/
theorem opv_callF {c : Operand} {xs : Array Operand} {ts : Array TypeId} {f : FuncId} {ys : List AV} {v : AV} {dst : Option Tmp} {ty : TypeId} {pos : String} {af : Array Edge} {g : Option (Nat × Bool)} [S : Fnc P f]
    (h : Fn P f ys [] v []) (hc : evT T c = .fn f []) (hx : xs.toList.map (evT T) = ys) (hb : AV.bdB.AV.bdsB 0 ys = true) (hv : v.bd 0) :
    OpV P ro ⟨dst, .call { callee := .value c, args := xs, argTypes := ts }, ty, pos, af, g⟩ T O v O :=
  opv_call hc hx (by rw [List.append_nil]; exact Fn.frame (AV.bds_of0 hb) hv h O)

/-- Where a call ends: what it hands back. -/
def EndQ (P : Program) (fn : Func) (O : List AObj) (Q : AV → List AObj → Prop) : Exit → (Nat → AV) → List AObj → Prop := fun e T' O' => (e = .normal ∨ e = .ret) ∧ ∃ xs n, RessOk P T' O' fn.results.toList xs ∧ O.length ≤ n ∧ n ≤ O'.length ∧ (tupAV xs).bd n ∧ Q (tupAV xs) (O'.take n)
theorem Does.run {f : FuncId} {fn : Func} {c : Code} {args : List AV} {Q : AV → List AObj → Prop} (hf : P.funcs[f]? = some fn) (hb : fn.body = some c) (hN : fn.ntmps = N) (ha : Nat.ble args.length N = true)
    (h : ∀ K : Org, K.O = O → Runs P none N K c (tb (args.zipIdx.map fun x => (x.2, x.1))) O (EndQ P fn O Q)) : Does P f args O Q := by
  refine Does.intro hf hb hN ha fun K hK => (h K hK).weak fun s => .inr ?_
  have key : ∀ (args : List AV) (k s : Nat), AM.tb ((args.zipIdx k).map fun x => (x.2, x.1)) (k + s) = args.getD s .unk := by
    intro args
    induction args with
    | nil => intro k s; simp [AM.tb]
    | cons x args ih =>
      intro k s
      simp only [List.zipIdx_cons, List.map_cons, AM.tb]
      cases s with
      | zero => simp
      | succ s =>
        have : Nat.beq (k + (s + 1)) k = false := by cases h : Nat.beq (k + (s + 1)) k with | false => rfl | true => have := Nat.eq_of_beq_eq_true h; omega
        rw [this, cond_false, show k + (s + 1) = k + 1 + s by omega, ih]
        rfl
  have := key args 0 s
  rw [Nat.zero_add] at this
  exact this
theorem EndQ.tmp {fn : Func} {Q : AV → List AObj → Prop} {O' : List AObj} {e : Exit} {t : Tmp} {v : AV} (he : e = .normal ∨ e = .ret) (hr : fn.results.toList = [.tmp t]) (hv : T t = v) (n : Nat) (h1 : O.length ≤ n) (h2 : n ≤ O'.length) (hb : v.bd n) (hq : Q v (O'.take n)) : EndQ P fn O Q e T O' :=
  ⟨he, [v], n, by rw [hr]; exact .cons hv .nil, h1, h2, hb, hq⟩
theorem EndQ.cell {fn : Func} {Q : AV → List AObj → Prop} {O' : List AObj} {e : Exit} {a : Tmp} {t : TypeId} {id off n0 : Nat} {ag : Bool} {cs : List AV} {v : AV} [S : Sz P t n0 ag] (he : e = .normal ∨ e = .ret) (hr : fn.results.toList = [.cell a t]) (ha : T a = .ref id off) (hO : O'[id]? = some (.cells cs)) (hv : takeAV ag n0 (cs.drop off) = some v) (n : Nat) (h1 : O.length ≤ n) (h2 : n ≤ O'.length) (hb : v.bd n) (hq : Q v (O'.take n)) : EndQ P fn O Q e T O' :=
  ⟨he, [v], n, by rw [hr]; exact .cons ⟨id, off, cs, n0, ag, ha, hO, S, hv⟩ .nil, h1, h2, hb, hq⟩
theorem EndQ.none {fn : Func} {Q : AV → List AObj → Prop} {O' : List AObj} {e : Exit} (he : e = .normal ∨ e = .ret) (hr : fn.results.toList = []) (n : Nat) (h1 : O.length ≤ n) (h2 : n ≤ O'.length) (hq : Q (.tup []) (O'.take n)) : EndQ P fn O Q e T O' :=
  ⟨he, [], n, by rw [hr]; exact .nil, h1, h2, trivial, hq⟩
end
end Go.Proofs.Ythpiggjclhnkcaa.AM
