/- Lattices: what they are as data, and what is asked of them. -/
import Derived.Test.YthpiggjclhnkcaaS2
namespace Go.Proofs.Ythpiggjclhnkcaa.AM
open Go
set_option linter.unusedVariables false
set_option linter.unusedSimpArgs false
/-- n levels, and of each one the levels that it is below, as bits. -/
structure Lt where
  n : Nat
  U : List Nat
deriving DecidableEq
def Lt.u (l : Lt) (i : Nat) : Nat := l.U.getD i 0
def Lt.put (l : Lt) (i v : Nat) : Lt := ⟨l.n, l.U.set i v⟩
def Lt.ups (l : Lt) : List D := l.U.map fun u => .int .u64 ((u : Nat) : Int)
def Lt.cells (l : Lt) : List D := .int .i64 ((l.n : Nat) : Int) :: l.ups
def encL (l : Lt) : D := .ptr l.cells
def latO (l : Lt) : AObj := .cells (.d (.int .i64 ((l.n : Nat) : Int)) :: l.U.map fun u => .d (.int .u64 ((u : Nat) : Int)))
structure Lt.Ok (l : Lt) : Prop where
  len : l.U.length = 16
  n16 : l.n ≤ 16
  sm : ∀ u ∈ l.U, u < 2 ^ 16
theorem Lt.Ok.u {l : Lt} (h : l.Ok) (i : Nat) : l.u i < 2 ^ 16 := by
  unfold Lt.u
  rw [List.getD_eq_getElem?_getD]
  cases hx : l.U[i]? with
  | none => exact Nat.lt_of_sub_pos (by decide)
  | some v => exact h.sm v (List.mem_of_getElem? hx)
theorem Lt.Ok.put {l : Lt} (h : l.Ok) {i v : Nat} (hv : v < 2 ^ 16) : (l.put i v).Ok :=
  ⟨by simp [Lt.put, h.len], h.n16, fun u hu => by
    rcases List.mem_or_eq_of_mem_set hu with h1 | h1
    · exact h.sm u h1
    · rw [h1]; exact hv⟩
def Lt.is (l : Lt) (a : Int) : Bool := decide (0 ≤ a) && decide (a < (l.n : Nat))
def Lt.bit (l : Lt) (a b : Nat) : Bool := (l.u a).testBit b
def Lt.leq (l : Lt) (a b : Int) : Bool := l.is a && l.is b && l.bit a.toNat b.toNat
def Lt.jp (l : Lt) (m c : Nat) : Bool := m.testBit c && (l.u c &&& m == m)
def Lt.join (l : Lt) (a b : Int) : Int :=
  if l.is a = true ∧ l.is b = true then
    match (List.range l.n).find? (l.jp (l.u a.toNat &&& l.u b.toNat)) with
    | some c => (c : Nat)
    | none => -1
  else -1
def Lt.mstep (l : Lt) (a b : Int) (best : Int) (c : Nat) : Int :=
  if (l.leq c a && l.leq c b && (best == -1 || l.leq best c)) = true then (c : Nat) else best
def Lt.best (l : Lt) (a b : Int) (k : Nat) : Int := (List.range k).foldl (l.mstep a b) (-1)
def Lt.meet (l : Lt) (a b : Int) : Int :=
  if l.is a = true ∧ l.is b = true then
    if ((List.range l.n).all fun c => !(l.leq (c : Nat) a && l.leq (c : Nat) b && !(l.leq (c : Nat) (l.best a b l.n)))) = true then l.best a b l.n else -1
  else -1
def Lt.bstep (l : Lt) (best : Int) (c : Nat) : Int := if (best == -1 || l.leq (c : Nat) best) = true then (c : Nat) else best
def Lt.bots (l : Lt) (k : Nat) : Int := (List.range k).foldl l.bstep (-1)
def Lt.bottom (l : Lt) : Int := l.bots l.n
def Lt.tstep (l : Lt) (best : Int) (c : Nat) : Int := if (best == -1 || l.leq best (c : Nat)) = true then (c : Nat) else best
def Lt.tops (l : Lt) (k : Nat) : Int := (List.range k).foldl l.tstep (-1)
def Lt.top (l : Lt) : Int := l.tops l.n
/-! What follows is gathered. -/
def Lt.stp (l : Lt) (a b : Nat) : Bool := l.bit a b && (l.u a ||| l.u b != l.u a)
def Lt.nxt (l : Lt) : Option Lt :=
  (List.range l.n).findSome? fun a => (List.range l.n).findSome? fun b => if l.stp a b = true then some (l.put a (l.u a ||| l.u b)) else none
def closeF : Nat → Lt → Lt
  | 0, l => l
  | k + 1, l => match l.nxt with
    | none => l
    | some m => closeF k m
def Lt.close (l : Lt) : Lt := closeF (2 ^ 20) l
def Lt.sum (l : Lt) : Nat := l.U.sum
/-! A lattice made. -/
def Lt.bad (l : Lt) (a b : Nat) : Bool := a != b && l.leq (a : Nat) (b : Nat) && l.leq (b : Nat) (a : Nat) || l.join (a : Nat) (b : Nat) == -1 || l.meet (a : Nat) (b : Nat) == -1
def Lt.good (l : Lt) : Bool := (List.range l.n).all fun a => (List.range l.n).all fun b => !(l.bad a b)
def lt0 (n : Nat) (i : Nat) : Lt := ⟨n, (List.range 16).map fun a => if a < i then 2 ^ a else 0⟩
def Lt.add (l : Lt) (p : Int × Int) : Lt := l.put p.1.toNat (l.u p.1.toNat ||| 2 ^ p.2.toNat)
def Lt.adds : Lt → List (Int × Int) → Option Lt
  | l, [] => some l
  | l, p :: ps => if l.is p.1 = true ∧ l.is p.2 = true then (l.add p).adds ps else none
/-- What is made, and whether it may be. -/
def newL (n : Int) (ps : List (Int × Int)) : Option Lt × Int :=
  if n < 1 ∨ 16 < n then (none, 1) else
    match (lt0 n.toNat n.toNat).adds ps with
    | none => (none, 1)
    | some l => if l.close.good = true then (some l.close, 0) else (none, 4)
def encOL : Option Lt → D
  | none => .nilp
  | some l => encL l
def encP (p : Int × Int) : D := .agg [.int .i64 p.1, .int .i64 p.2]
def encPs (ps : List (Int × Int)) : List D := ps.map encP
/-! What is asked, at a run's ends. -/
def Lt.mbad (l : Lt) (a b best : Int) (c : Nat) : Bool := l.leq (c : Nat) a && l.leq (c : Nat) b && !(l.leq (c : Nat) best)
/-! Levels one below the next one. -/
def chainP (k : Nat) : List (Int × Int) := (List.range k).map fun j => (((j : Nat) : Int), ((j + 1 : Nat) : Int))
def chainL (m : Nat) : Lt := ⟨m, (List.range 16).map fun a => if a < m then 2 ^ m - 2 ^ a else 0⟩
end Go.Proofs.Ythpiggjclhnkcaa.AM
