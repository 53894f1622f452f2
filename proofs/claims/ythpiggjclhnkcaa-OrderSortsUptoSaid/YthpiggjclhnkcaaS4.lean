/- Plain laws of stores: the document's example, one bound to the next one. -/
import Derived.Test.YthpiggjclhnkcaaS3
namespace Go.Proofs.Ythpiggjclhnkcaa.AM
open Go
set_option linter.unusedVariables false
set_option linter.unusedSimpArgs false
def lets (n : Int) : Term := .node 1 n ⟨#[]⟩ []
def e0 : St := ⟨[], [], 0, 0⟩
def e1 : St := (e0.fresh 2).1
def tfx : Term := .node 3 0 ⟨#[102]⟩ [lets 1]
def tat : Term := .node 3 0 ⟨#[97]⟩ []
def e2 : St := (e1.bind 0 tfx).1
def e3 : St := (e2.bind 1 tat).1
/-! One bound to the next one. -/
def chs (k i : Nat) : List (Option Term) := (List.range k).map fun j => if j < i then some (lets ((j + 1 : Nat) : Int)) else none
def trs (i : Nat) : List Int := (List.range i).map Int.ofNat
/-- The first i of k are bound. -/
def chainS (k i : Nat) : St := ⟨chs k i, trs i, 1, i⟩
/-- So many as a law makes. -/
def kk (n : Int) : Nat := 2 + (n % 100).toNat
/-! Variables that are bound, and ones behind them. -/
/-- A thing done to a store; a variable, and what it is bound to. -/
structure Deed where
  k : Int
  n : Int
  t : Term
def encDeed (d : Deed) : D := .agg (.int .i64 d.k :: .int .i64 d.n :: dcells d.t)
def encBind (p : Int × Term) : D := .agg (.int .i64 p.1 :: dcells p.2)
end Go.Proofs.Ythpiggjclhnkcaa.AM
