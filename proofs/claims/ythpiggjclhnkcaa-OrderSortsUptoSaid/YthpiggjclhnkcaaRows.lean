/-
  NARROWER THAN 'FOR EVERY INPUT', by the rows' own cells (each row's printed sentence says how): OrderTouches: loops · OrderCompares: loops · OrderKinds: loops · OrderGrows: loops · OrderSeals: loops · OrderOne: loops · OrderSorts: loops.
  DERIVED. THE GIVEN ROWS OF THIS SEAT. 7 by the template 'for every input the law returns true; each argument reads behind the call as it read before'; 0 by the template 'total and deterministic' (their statements: YthpiggjclhnkcaaTotals.lean).
  GIVEN WITH THE SEED: the statements are not yours to turn. If you find one false, say at which input.
  Laid BY PROGRAM, IN A SANDBOX (cutbox-rows.mjs): the forced cells as the released guide's own fill.sh prints them over the translation fe9b6048337c42df… (all of the seat's roots in one cut). By AI agents, Wed Nov 11 2026. No macro, syntax, notation, axiom, sorry.
-/
import Derived.Test.YthpiggjclhnkcaaChecked
import GoSem.Claim
import GoSem.ClaimJoined
import GoSem.ClaimMapViews
import Derived.JoinedTies
import Derived.KernelRfl
namespace Go.Proofs.Ythpiggjclhnkcaa
/- THE CELL 'sum', in the pinned program and in every row, IS THE sha256 OF THE DUMP (.gsa) THAT YthpiggjclhnkcaaProg.lean LOADS. Nothing in Lean hashes anything: it is a label: what it is worth is what the hold of that sum in a sandbox is worth. -/
noncomputable def Try.pinned : Pinned := { name := "ythpiggjclhnkcaa", sum := "fe9b6048337c42df42a40e07815edb9d5fa964910001f047474cbc81bb78083e", checked := Try.checked }
namespace Rows
def none {H : Type} : Left H := { results := [], args := [] }

/-- 'torcherelaw09.OrderTouches': WHATEVER THE INPUT: true; the input reads as it did. -/
def orderTouchesSpec : ChangeSpec := { name := "orderTouches", fn := fun _ => fun
  | [d1, d2, d3] => { results := [.lit (.bool true)], args := [d1, d2, d3] }
  | _ => none }
def orderTouchesRow : OpenClaim := { program := "ythpiggjclhnkcaa", sum := "fe9b6048337c42df42a40e07815edb9d5fa964910001f047474cbc81bb78083e", func := "torchere/torcherelaw09.OrderTouches", spec := "orderTouches", unfollowed := true, recurses := true, loops := true, apart := false }
def OrderTouchesSaid : Prop := orderTouchesRow.holds Try.pinned (OpenSpec.ofChange orderTouchesSpec)

/-- ITS FALSE NEIGHBOUR: 'it returns false'. Refute it at one input. -/
def orderTouchesWrong : ChangeSpec := { name := "orderTouches", fn := fun _ => fun
  | [d1, d2, d3] => { results := [.lit (.bool false)], args := [d1, d2, d3] }
  | _ => none }
def OrderTouchesWrongFalsely : Prop := orderTouchesRow.holds Try.pinned (OpenSpec.ofChange orderTouchesWrong)

/-- 'torcherelaw09.OrderCompares': WHATEVER THE INPUT: true; the input reads as it did. -/
def orderComparesSpec : ChangeSpec := { name := "orderCompares", fn := fun _ => fun
  | [d1, d2, d3] => { results := [.lit (.bool true)], args := [d1, d2, d3] }
  | _ => none }
def orderComparesRow : OpenClaim := { program := "ythpiggjclhnkcaa", sum := "fe9b6048337c42df42a40e07815edb9d5fa964910001f047474cbc81bb78083e", func := "torchere/torcherelaw09.OrderCompares", spec := "orderCompares", unfollowed := true, recurses := true, loops := true, apart := false }
def OrderComparesSaid : Prop := orderComparesRow.holds Try.pinned (OpenSpec.ofChange orderComparesSpec)

/-- ITS FALSE NEIGHBOUR: 'it returns false'. Refute it at one input. -/
def orderComparesWrong : ChangeSpec := { name := "orderCompares", fn := fun _ => fun
  | [d1, d2, d3] => { results := [.lit (.bool false)], args := [d1, d2, d3] }
  | _ => none }
def OrderComparesWrongFalsely : Prop := orderComparesRow.holds Try.pinned (OpenSpec.ofChange orderComparesWrong)

/-- 'torcherelaw09.OrderKinds': WHATEVER THE INPUT: true; the input reads as it did. -/
def orderKindsSpec : ChangeSpec := { name := "orderKinds", fn := fun _ => fun
  | [d1, d2, d3, d4, d5, d6] => { results := [.lit (.bool true)], args := [d1, d2, d3, d4, d5, d6] }
  | _ => none }
def orderKindsRow : OpenClaim := { program := "ythpiggjclhnkcaa", sum := "fe9b6048337c42df42a40e07815edb9d5fa964910001f047474cbc81bb78083e", func := "torchere/torcherelaw09.OrderKinds", spec := "orderKinds", unfollowed := true, recurses := true, loops := true, apart := false }
def OrderKindsSaid : Prop := orderKindsRow.holds Try.pinned (OpenSpec.ofChange orderKindsSpec)

/-- ITS FALSE NEIGHBOUR: 'it returns false'. Refute it at one input. -/
def orderKindsWrong : ChangeSpec := { name := "orderKinds", fn := fun _ => fun
  | [d1, d2, d3, d4, d5, d6] => { results := [.lit (.bool false)], args := [d1, d2, d3, d4, d5, d6] }
  | _ => none }
def OrderKindsWrongFalsely : Prop := orderKindsRow.holds Try.pinned (OpenSpec.ofChange orderKindsWrong)

/-- 'torcherelaw09.OrderGrows': WHATEVER THE INPUT: true; the input reads as it did. -/
def orderGrowsSpec : ChangeSpec := { name := "orderGrows", fn := fun _ => fun
  | [d1, d2, d3, d4] => { results := [.lit (.bool true)], args := [d1, d2, d3, d4] }
  | _ => none }
def orderGrowsRow : OpenClaim := { program := "ythpiggjclhnkcaa", sum := "fe9b6048337c42df42a40e07815edb9d5fa964910001f047474cbc81bb78083e", func := "torchere/torcherelaw09.OrderGrows", spec := "orderGrows", unfollowed := true, recurses := true, loops := true, apart := false }
def OrderGrowsSaid : Prop := orderGrowsRow.holds Try.pinned (OpenSpec.ofChange orderGrowsSpec)

/-- ITS FALSE NEIGHBOUR: 'it returns false'. Refute it at one input. -/
def orderGrowsWrong : ChangeSpec := { name := "orderGrows", fn := fun _ => fun
  | [d1, d2, d3, d4] => { results := [.lit (.bool false)], args := [d1, d2, d3, d4] }
  | _ => none }
def OrderGrowsWrongFalsely : Prop := orderGrowsRow.holds Try.pinned (OpenSpec.ofChange orderGrowsWrong)

/-- 'torcherelaw09.OrderSeals': WHATEVER THE INPUT: true; the input reads as it did. -/
def orderSealsSpec : ChangeSpec := { name := "orderSeals", fn := fun _ => fun
  | [d1, d2, d3, d4] => { results := [.lit (.bool true)], args := [d1, d2, d3, d4] }
  | _ => none }
def orderSealsRow : OpenClaim := { program := "ythpiggjclhnkcaa", sum := "fe9b6048337c42df42a40e07815edb9d5fa964910001f047474cbc81bb78083e", func := "torchere/torcherelaw09.OrderSeals", spec := "orderSeals", unfollowed := true, recurses := true, loops := true, apart := false }
def OrderSealsSaid : Prop := orderSealsRow.holds Try.pinned (OpenSpec.ofChange orderSealsSpec)

/-- ITS FALSE NEIGHBOUR: 'it returns false'. Refute it at one input. -/
def orderSealsWrong : ChangeSpec := { name := "orderSeals", fn := fun _ => fun
  | [d1, d2, d3, d4] => { results := [.lit (.bool false)], args := [d1, d2, d3, d4] }
  | _ => none }
def OrderSealsWrongFalsely : Prop := orderSealsRow.holds Try.pinned (OpenSpec.ofChange orderSealsWrong)

/-- 'torcherelaw09.OrderOne': WHATEVER THE INPUT: true; the input reads as it did. -/
def orderOneSpec : ChangeSpec := { name := "orderOne", fn := fun _ => fun
  | [d1, d2, d3] => { results := [.lit (.bool true)], args := [d1, d2, d3] }
  | _ => none }
def orderOneRow : OpenClaim := { program := "ythpiggjclhnkcaa", sum := "fe9b6048337c42df42a40e07815edb9d5fa964910001f047474cbc81bb78083e", func := "torchere/torcherelaw09.OrderOne", spec := "orderOne", unfollowed := true, recurses := true, loops := true, apart := false }
def OrderOneSaid : Prop := orderOneRow.holds Try.pinned (OpenSpec.ofChange orderOneSpec)

/-- ITS FALSE NEIGHBOUR: 'it returns false'. Refute it at one input. -/
def orderOneWrong : ChangeSpec := { name := "orderOne", fn := fun _ => fun
  | [d1, d2, d3] => { results := [.lit (.bool false)], args := [d1, d2, d3] }
  | _ => none }
def OrderOneWrongFalsely : Prop := orderOneRow.holds Try.pinned (OpenSpec.ofChange orderOneWrong)

/-- 'torcherelaw09.OrderSorts': WHATEVER THE INPUT: true; the input reads as it did. -/
def orderSortsSpec : ChangeSpec := { name := "orderSorts", fn := fun _ => fun
  | [d] => { results := [.lit (.bool true)], args := [d] }
  | _ => none }
def orderSortsRow : OpenClaim := { program := "ythpiggjclhnkcaa", sum := "fe9b6048337c42df42a40e07815edb9d5fa964910001f047474cbc81bb78083e", func := "torchere/torcherelaw09.OrderSorts", spec := "orderSorts", unfollowed := true, recurses := true, loops := true, apart := false }
def OrderSortsSaid : Prop := orderSortsRow.holds Try.pinned (OpenSpec.ofChange orderSortsSpec)

/-- ITS FALSE NEIGHBOUR: 'it returns false'. Refute it at one input. -/
def orderSortsWrong : ChangeSpec := { name := "orderSorts", fn := fun _ => fun
  | [d] => { results := [.lit (.bool false)], args := [d] }
  | _ => none }
def OrderSortsWrongFalsely : Prop := orderSortsRow.holds Try.pinned (OpenSpec.ofChange orderSortsWrong)

/- THE SECOND FORM. 'bulk': how many values and letters a reading holds, each counted each time it is reached (what is shared counts as often as it is met; a slice's spare places count too). A statement '..UptoSaid' is the law's where the arguments, and the package variables that the reading takes, are together of bulk at most 1048576: NARROWER than '..Said'. Prove '..Said' where nothing that the law and all that it calls make is longer than what came in: it says more and counts as full. Else prove '..UptoSaid'. A law counts once. -/
mutual
def uptoBulk {H : Type} : DataW H → Nat
  | .lit (.string bytes) => bytes.length + 1
  | .lit _ => 1
  | .nil => 1
  | .ptr d => uptoBulk d + 1
  | .slice elems spare => uptoBulkAll elems + uptoBulkAll spare + 1
  | .agg parts => uptoBulkAll parts + 1
  | .iface _ d => uptoBulk d + 1
  | .map entries => uptoBulkEntries entries + 1
  | .held _ => 1
def uptoBulkAll {H : Type} : List (DataW H) → Nat
  | [] => 0
  | d :: r => uptoBulk d + uptoBulkAll r
def uptoBulkEntries {H : Type} : List (Lit × DataW H) → Nat
  | [] => 0
  | x :: r => uptoBulkEntry x + uptoBulkEntries r
def uptoBulkEntry {H : Type} : Lit × DataW H → Nat
  | (.string bytes, d) => bytes.length + uptoBulk d + 1
  | (_, d) => uptoBulk d + 1
 end
def uptoSmall : (H : Type) → List (DataW H) → Bool := fun _ ds => decide (uptoBulkAll ds ≤ 1048576)
def OpenSpec.upto (s : _root_.Go.ChangeSpec) : _root_.Go.OpenSpec := { _root_.Go.OpenSpec.ofChange s with cond := some uptoSmall }

/-- 'torcherelaw09.OrderTouches', WHERE WHAT IT READS IS OF BULK AT MOST 1048576: true; the input reads as it did. -/
def orderTouchesUptoRow : OpenClaim := { program := "ythpiggjclhnkcaa", sum := "fe9b6048337c42df42a40e07815edb9d5fa964910001f047474cbc81bb78083e", func := "torchere/torcherelaw09.OrderTouches", spec := "orderTouches", unfollowed := true, recurses := true, loops := true, apart := false, narrowed := true }
def OrderTouchesUptoSaid : Prop := orderTouchesUptoRow.holds Try.pinned (OpenSpec.upto orderTouchesSpec)

/-- 'torcherelaw09.OrderCompares', WHERE WHAT IT READS IS OF BULK AT MOST 1048576: true; the input reads as it did. -/
def orderComparesUptoRow : OpenClaim := { program := "ythpiggjclhnkcaa", sum := "fe9b6048337c42df42a40e07815edb9d5fa964910001f047474cbc81bb78083e", func := "torchere/torcherelaw09.OrderCompares", spec := "orderCompares", unfollowed := true, recurses := true, loops := true, apart := false, narrowed := true }
def OrderComparesUptoSaid : Prop := orderComparesUptoRow.holds Try.pinned (OpenSpec.upto orderComparesSpec)

/-- 'torcherelaw09.OrderKinds', WHERE WHAT IT READS IS OF BULK AT MOST 1048576: true; the input reads as it did. -/
def orderKindsUptoRow : OpenClaim := { program := "ythpiggjclhnkcaa", sum := "fe9b6048337c42df42a40e07815edb9d5fa964910001f047474cbc81bb78083e", func := "torchere/torcherelaw09.OrderKinds", spec := "orderKinds", unfollowed := true, recurses := true, loops := true, apart := false, narrowed := true }
def OrderKindsUptoSaid : Prop := orderKindsUptoRow.holds Try.pinned (OpenSpec.upto orderKindsSpec)

/-- 'torcherelaw09.OrderGrows', WHERE WHAT IT READS IS OF BULK AT MOST 1048576: true; the input reads as it did. -/
def orderGrowsUptoRow : OpenClaim := { program := "ythpiggjclhnkcaa", sum := "fe9b6048337c42df42a40e07815edb9d5fa964910001f047474cbc81bb78083e", func := "torchere/torcherelaw09.OrderGrows", spec := "orderGrows", unfollowed := true, recurses := true, loops := true, apart := false, narrowed := true }
def OrderGrowsUptoSaid : Prop := orderGrowsUptoRow.holds Try.pinned (OpenSpec.upto orderGrowsSpec)

/-- 'torcherelaw09.OrderSeals', WHERE WHAT IT READS IS OF BULK AT MOST 1048576: true; the input reads as it did. -/
def orderSealsUptoRow : OpenClaim := { program := "ythpiggjclhnkcaa", sum := "fe9b6048337c42df42a40e07815edb9d5fa964910001f047474cbc81bb78083e", func := "torchere/torcherelaw09.OrderSeals", spec := "orderSeals", unfollowed := true, recurses := true, loops := true, apart := false, narrowed := true }
def OrderSealsUptoSaid : Prop := orderSealsUptoRow.holds Try.pinned (OpenSpec.upto orderSealsSpec)

/-- 'torcherelaw09.OrderOne', WHERE WHAT IT READS IS OF BULK AT MOST 1048576: true; the input reads as it did. -/
def orderOneUptoRow : OpenClaim := { program := "ythpiggjclhnkcaa", sum := "fe9b6048337c42df42a40e07815edb9d5fa964910001f047474cbc81bb78083e", func := "torchere/torcherelaw09.OrderOne", spec := "orderOne", unfollowed := true, recurses := true, loops := true, apart := false, narrowed := true }
def OrderOneUptoSaid : Prop := orderOneUptoRow.holds Try.pinned (OpenSpec.upto orderOneSpec)

/-- 'torcherelaw09.OrderSorts', WHERE WHAT IT READS IS OF BULK AT MOST 1048576: true; the input reads as it did. -/
def orderSortsUptoRow : OpenClaim := { program := "ythpiggjclhnkcaa", sum := "fe9b6048337c42df42a40e07815edb9d5fa964910001f047474cbc81bb78083e", func := "torchere/torcherelaw09.OrderSorts", spec := "orderSorts", unfollowed := true, recurses := true, loops := true, apart := false, narrowed := true }
def OrderSortsUptoSaid : Prop := orderSortsUptoRow.holds Try.pinned (OpenSpec.upto orderSortsSpec)

end Rows
end Go.Proofs.Ythpiggjclhnkcaa
