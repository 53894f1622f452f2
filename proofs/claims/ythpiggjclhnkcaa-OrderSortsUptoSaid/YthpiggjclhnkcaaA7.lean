/- A rule for each operation: numbers, strings, bools, comparisons, conversions, lengths. -/
import Derived.Test.YthpiggjclhnkcaaA6
import Derived.Laws.Small
import Derived.Laws.Pointers
namespace Go.Proofs.Ythpiggjclhnkcaa.AM
open Go
set_option linter.unusedVariables false
set_option linter.unusedSimpArgs false

def bitsOp (op : BinOp) (k : IntKind) (x y : Int) : Int :=
  match op with
  | .and => k.wrap ((BitVec.ofInt k.bits x) &&& (BitVec.ofInt k.bits y)).toNat
  | .or => k.wrap ((BitVec.ofInt k.bits x) ||| (BitVec.ofInt k.bits y)).toNat
  | _ => 0
/-- Two numbers of one kind, or two strings. -/
def binD (op : BinOp) : D → D → Option D
  | .int k a, .int k' b =>
    match op with
    | .shl => if b < 0 then none else some (.int k (k.wrap (a * 2 ^ (min b.toNat k.bits))))
    | .shr => if b < 0 then none else some (.int k (a.fdiv (2 ^ (min b.toNat k.bits))))
    | op => if k = k' then
      match op with
      | .add => some (.int k (k.wrap (a + b)))
      | .sub => some (.int k (k.wrap (a - b)))
      | .mul => some (.int k (k.wrap (a * b)))
      | .rem => if b = 0 then none else some (.int k (a.tmod b))
      | .quo => if b = 0 then none else some (.int k (k.wrap (a.tdiv b)))
      | .and => some (.int k (bitsOp .and k a b))
      | .or => some (.int k (bitsOp .or k a b))
      | .eql => some (.bool (a == b))
      | .neq => some (.bool (a != b))
      | .lss => some (.bool (decide (a < b)))
      | .leq => some (.bool (decide (a ≤ b)))
      | .gtr => some (.bool (decide (a > b)))
      | .geq => some (.bool (decide (a ≥ b)))
      | _ => none
      else none
  | .str a, .str b =>
    match op with
    | .eql => some (.bool (a.toList == b.toList))
    | .neq => some (.bool (!(a.toList == b.toList)))
    | .lss => some (.bool (Op.bytesLess a.toList b.toList))
    | .leq => some (.bool (Op.bytesLess a.toList b.toList || a.toList == b.toList))
    | .gtr => some (.bool (!(Op.bytesLess a.toList b.toList || a.toList == b.toList)))
    | .geq => some (.bool (!(Op.bytesLess a.toList b.toList)))
    | .add => if a.size + b.size ≤ 9223372036854775807 then some (.str (a ++ b)) else none
    | _ => none
  | _, _ => none
section
variable {P : Program} {ro : Option Nat} {T : Nat → AV} {O : List AObj} {dst : Option Tmp} {ty : TypeId} {pos : String} {af : Array Edge} {g : Option (Nat × Bool)}

theorem run_binD {w : World} {op : BinOp} {t : TypeId} {x y : Operand} {a b c : D} {va vb : Value} {F : Nat → Prop} (ha : a.R w F va) (hb : b.R w F vb) (h : binD op a b = some c) :
    ∃ u, ((do eqGuard op t x y va vb; binOp op t va vb : Sem Value)).run P w = .ok u w ∧ c.R w F u := by
  cases a with
  | int k n =>
    cases b with
    | int k' m =>
      cases ha; cases hb
      have hg : ∀ f : Unit → Sem Value, ((eqGuard op t x y (.int k n) (.int k' m)) >>= f).run P w = (f ()).run P w := fun f => by
        unfold eqGuard
        cases op <;> rfl
      rw [hg]
      simp only [binD] at h
      cases op
      case shl =>
        by_cases hz : m < 0
        · simp [hz] at h
        · simp only [hz, if_false, Option.some.injEq] at h; subst h; exact ⟨_, by simp only [binOp, Op.shift, hz, if_false]; rfl, rfl⟩
      case shr =>
        by_cases hz : m < 0
        · simp [hz] at h
        · simp only [hz, if_false, Option.some.injEq] at h; subst h; exact ⟨_, by simp only [binOp, Op.shift, hz, if_false]; rfl, rfl⟩
      all_goals
        simp only at h
        split at h
        · rename_i hk
          subst hk
          first
            | (cases h; done)
            | (cases h; exact ⟨_, by simp only [binOp, ne_eq, not_true_eq_false, if_false]; rfl, rfl⟩)
            | (split at h
               · cases h
               · rename_i hz; cases h; exact ⟨_, by simp only [binOp, ne_eq, not_true_eq_false, if_false, Op.intDiv, hz]; rfl, rfl⟩)
        · cases h
    | _ => cases h
  | str s =>
    cases b with
    | str s' =>
      cases ha; cases hb
      have hg : ∀ f : Unit → Sem Value, ((eqGuard op t x y (.string s) (.string s')) >>= f).run P w = (f ()).run P w := fun f => by
        unfold eqGuard
        cases op <;> rfl
      rw [hg]
      simp only [binD] at h
      cases op
      case add =>
        simp only at h
        split at h
        · cases h
          refine ⟨_, ?_, rfl⟩
          simp only [binOp, Op.stringOp]
          rw [if_neg (by have : IntKind.i64.max = 9223372036854775807 := rfl; omega)]
          rfl
        · cases h
      all_goals
        simp only at h
        first
          | (cases h; done)
          | (cases h; exact ⟨_, by simp only [binOp, Op.stringOp]; rfl, rfl⟩)
    | _ => cases h
  | _ => cases h

theorem opv_bin {op : BinOp} {t yt : TypeId} {x y : Operand} {a b c : D} (hx : evT T x = .d a) (hy : evT T y = .d b) (h : binD op a b = some c) : OpV P ro ⟨dst, .binOp op t x y yt, ty, pos, af, g⟩ T O (.d c) O :=
  OpV.of_same (fun c h => by cases h) fun w F γ ac I H => by
    have h1 : a.R w F (ac.eval x) := H.at (x := x) (by simp [Op.operands]) hx
    have h2 : b.R w F (ac.eval y) := H.at (x := y) (by simp [Op.operands]) hy
    obtain ⟨u, hr, hR⟩ := run_binD (P := P) (op := op) (t := t) (x := x) (y := y) h1 h2 h
    refine ⟨u, ?_, hR⟩
    simp only [execOp]
    rw [Sem.run_bind, hr]
    rfl
theorem opv_arith {op : BinOp} {t yt : TypeId} {x y : Operand} {k : IntKind} {a b r : Int} (hx : evT T x = .d (.int k a)) (hy : evT T y = .d (.int k b)) (h : binD op (.int k a) (.int k b) = some (.int k r)) : OpV P ro ⟨dst, .binOp op t x y yt, ty, pos, af, g⟩ T O (.d (.int k r)) O :=
  opv_bin hx hy h
theorem opv_not {t : TypeId} {x : Operand} {b r : Bool} (hx : evT T x = .d (.bool b)) (h : (!b) = r) : OpV P ro ⟨dst, .unOp .not t x, ty, pos, af, g⟩ T O (.d (.bool r)) O :=
  OpV.of_same (fun c h => by cases h) fun w F γ ac I H => by
    have h1 : ac.eval x = .bool b := H.at (x := x) (by simp [Op.operands]) hx
    subst h
    exact ⟨_, by simp only [execOp, h1, Op.unary]; rfl, rfl⟩
theorem opv_conv {s t : TypeId} {x : Operand} {k k' : IntKind} {n r : Int} {du : TypeDesc} [S : Und P s du] [S' : Und P t (.int k')] (hx : evT T x = .d (.int k n)) (h : k'.wrap n = r) : OpV P ro ⟨dst, .convert s t x, ty, pos, af, g⟩ T O (.d (.int k' r)) O :=
  OpV.of_same (fun c h => by cases h) fun w F γ ac I H => by
    have h1 : ac.eval x = .int k n := H.at (x := x) (by simp [Op.operands]) hx
    subst h
    refine ⟨_, ?_, rfl⟩
    simp only [execOp, h1, convert, Sem.run_bind, run_underlying S.h, run_underlying S'.h, Result.andThen_ok]
    rfl
/-- Pointers against nil. -/
def isNilP : AV → Option Bool
  | .d .nilp => some true
  | .d (.ptr _) => some false
  | _ => none
/-! Calls of the language's own functions. -/
theorem run_builtin {a : Act} {b : Builtin} {xs : Array Operand} {ts : Array TypeId} {w w' : World} {s : Sem Value} {u : Value}
    (hb : ∀ cs, builtin b ts ty cs (xs.map a.eval) = (do pure (.value (← s)))) (hr : s.run P w = .ok u w') :
    (execOp a.eval ⟨dst, .call { callee := .builtin b, args := xs, argTypes := ts }, ty, pos, af, g⟩).run P w = .ok (.value u) w' := by
  simp only [execOp, resolve, Sem.run_bind, Sem.run_pure, Result.andThen_ok, invoke, hb, hr]
def lenD : AV → Option Nat
  | .d (.list xs) => some xs.length
  | .d (.str s) => some s.size
  | .nil0 => some 0
  | _ => none
theorem opv_len {x : Operand} {t : TypeId} {v : AV} {n : Nat} {du : TypeDesc} [S : Und P t du] (hx : evT T x = v) (hn : lenD v = some n) (hu : (match v, du with | .d (.str _), .string => true | .d (.list _), .slice _ => true | .nil0, .slice _ => true | _, _ => false) = true) :
    OpV P ro ⟨dst, .call { callee := .builtin .len, args := #[x], argTypes := #[t] }, ty, pos, af, g⟩ T O (.d (.int .i64 n)) O :=
  OpV.of_same (fun c h => by cases h) fun w F γ ac I H => by
    have h1 := H.at (x := x) (by simp [Op.operands, Call.operands]) hx
    refine ⟨.int .i64 n, run_builtin (s := Builtin.len_ #[t] ty (#[x].map ac.eval)) (fun _ => rfl) ?_, rfl⟩
    cases v with
    | d y =>
      cases y with
      | list xs =>
        obtain ⟨A, c, sz, he, _⟩ := h1
        cases hn
        cases du <;> first | (cases hu; done) | simp [Builtin.len_, run_underlying S.h, he, goInt]
      | str s =>
        cases hn
        have he : ac.eval x = .string s := h1
        cases du <;> first | (cases hu; done) | simp [Builtin.len_, run_underlying S.h, he, goInt]
      | _ => cases hn
    | nil0 =>
      obtain ⟨A, he⟩ := h1
      cases hn
      cases du <;> first | (cases hu; done) | simp [Builtin.len_, run_underlying S.h, he, goInt]
    | _ => cases hn
theorem opv_len_own {x : Operand} {t e id ver sz : Nat} {xs : List D} [S : Slc P t e sz] (hx : evT T x = .own id ver) (hO : O[id]? = some (.buf e sz xs ver)) :
    OpV P ro ⟨dst, .call { callee := .builtin .len, args := #[x], argTypes := #[t] }, ty, pos, af, g⟩ T O (.d (.int .i64 xs.length)) O :=
  OpV.of_same (fun c h => by cases h) fun w F γ ac I H => by
    have h1 := H.at (x := x) (by simp [Op.operands, Call.operands]) hx
    obtain ⟨g', hg, _, hp⟩ := ownAt_val hO h1.2
    have hp := hp rfl
    refine ⟨.int .i64 xs.length, run_builtin (s := Builtin.len_ #[t] ty (#[x].map ac.eval)) (fun _ => rfl) ?_, rfl⟩
    simp [Builtin.len_, run_underlying S.und, hp, GO.slice, goInt]
theorem opv_max {x y : Operand} {ts : Array TypeId} {k : IntKind} {a b r : Int} (hx : evT T x = .d (.int k a)) (hy : evT T y = .d (.int k b)) (h : (if b > a then b else a) = r) :
    OpV P ro ⟨dst, .call { callee := .builtin .max, args := #[x, y], argTypes := ts }, ty, pos, af, g⟩ T O (.d (.int k r)) O :=
  OpV.of_same (fun c h => by cases h) fun w F γ ac I H => by
    have h1 : ac.eval x = .int k a := H.at (x := x) (by simp [Op.operands, Call.operands]) hx
    have h2 : ac.eval y = .int k b := H.at (x := y) (by simp [Op.operands, Call.operands]) hy
    subst h
    refine ⟨_, run_builtin (s := Builtin.max_ ts ty (#[x, y].map ac.eval)) (fun _ => rfl) (u := .int k (if b > a then b else a)) ?_, rfl⟩
    simp [Builtin.max_, h1, h2, Builtin.max2]
end
end Go.Proofs.Ythpiggjclhnkcaa.AM
