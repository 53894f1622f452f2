/-
  NARROWER THAN 'FOR EVERY INPUT', by the rows' own cells (each row's printed sentence says how): CompareSees: loops · CompareJoins: loops · CompareLess: loops · CompareAgain: loops · CompareErased: loops · ComparePlain: loops · CompareParts: loops.
  DERIVED. THE GIVEN ROWS OF THIS SEAT. 7 by the template 'for every input the law returns true; each argument reads behind the call as it read before'; 0 by the template 'total and deterministic' (their statements: YtljmkgjemmoegaaTotals.lean).
  GIVEN WITH THE SEED: the statements are not yours to turn. If you find one false, say at which input.
  Laid BY PROGRAM, IN A SANDBOX (cutbox-rows.mjs): the forced cells as the released guide's own fill.sh prints them over the translation 41782b9d31caf8b3… (all of the seat's roots in one cut). By AI agents, Wed Nov 11 2026. No macro, syntax, notation, axiom, sorry.
-/
import Derived.Test.YtljmkgjemmoegaaChecked
import GoSem.Claim
import GoSem.ClaimJoined
import GoSem.ClaimMapViews
import Derived.JoinedTies
import Derived.KernelRfl
namespace Go.Proofs.Ytljmkgjemmoegaa
/- THE CELL 'sum', in the pinned program and in every row, IS THE sha256 OF THE DUMP (.gsa) THAT YtljmkgjemmoegaaProg.lean LOADS. Nothing in Lean hashes anything: it is a label: what it is worth is what the hold of that sum in a sandbox is worth. -/
noncomputable def Try.pinned : Pinned := { name := "ytljmkgjemmoegaa", sum := "41782b9d31caf8b31f81c4f9cfa35273e15bb1c3c076b20763954d496b76af16", checked := Try.checked }
namespace Rows
def none {H : Type} : Left H := { results := [], args := [] }

/-- 'torcherelaw20.CompareSees': WHATEVER THE INPUT: true; the input reads as it did. -/
def compareSeesSpec : ChangeSpec := { name := "compareSees", fn := fun _ => fun
  | [d1, d2, d3] => { results := [.lit (.bool true)], args := [d1, d2, d3] }
  | _ => none }
def compareSeesRow : OpenClaim := { program := "ytljmkgjemmoegaa", sum := "41782b9d31caf8b31f81c4f9cfa35273e15bb1c3c076b20763954d496b76af16", func := "torchere/torcherelaw20.CompareSees", spec := "compareSees", unfollowed := true, recurses := true, loops := true, apart := false }
def CompareSeesSaid : Prop := compareSeesRow.holds Try.pinned (OpenSpec.ofChange compareSeesSpec)

/-- ITS FALSE NEIGHBOUR: 'it returns false'. Refute it at one input. -/
def compareSeesWrong : ChangeSpec := { name := "compareSees", fn := fun _ => fun
  | [d1, d2, d3] => { results := [.lit (.bool false)], args := [d1, d2, d3] }
  | _ => none }
def CompareSeesWrongFalsely : Prop := compareSeesRow.holds Try.pinned (OpenSpec.ofChange compareSeesWrong)

/-- 'torcherelaw20.CompareJoins': WHATEVER THE INPUT: true; the input reads as it did. -/
def compareJoinsSpec : ChangeSpec := { name := "compareJoins", fn := fun _ => fun
  | [d1, d2, d3, d4] => { results := [.lit (.bool true)], args := [d1, d2, d3, d4] }
  | _ => none }
def compareJoinsRow : OpenClaim := { program := "ytljmkgjemmoegaa", sum := "41782b9d31caf8b31f81c4f9cfa35273e15bb1c3c076b20763954d496b76af16", func := "torchere/torcherelaw20.CompareJoins", spec := "compareJoins", unfollowed := true, recurses := true, loops := true, apart := false }
def CompareJoinsSaid : Prop := compareJoinsRow.holds Try.pinned (OpenSpec.ofChange compareJoinsSpec)

/-- ITS FALSE NEIGHBOUR: 'it returns false'. Refute it at one input. -/
def compareJoinsWrong : ChangeSpec := { name := "compareJoins", fn := fun _ => fun
  | [d1, d2, d3, d4] => { results := [.lit (.bool false)], args := [d1, d2, d3, d4] }
  | _ => none }
def CompareJoinsWrongFalsely : Prop := compareJoinsRow.holds Try.pinned (OpenSpec.ofChange compareJoinsWrong)

/-- 'torcherelaw20.CompareLess': WHATEVER THE INPUT: true; the input reads as it did. -/
def compareLessSpec : ChangeSpec := { name := "compareLess", fn := fun _ => fun
  | [d1, d2, d3, d4] => { results := [.lit (.bool true)], args := [d1, d2, d3, d4] }
  | _ => none }
def compareLessRow : OpenClaim := { program := "ytljmkgjemmoegaa", sum := "41782b9d31caf8b31f81c4f9cfa35273e15bb1c3c076b20763954d496b76af16", func := "torchere/torcherelaw20.CompareLess", spec := "compareLess", unfollowed := true, recurses := true, loops := true, apart := false }
def CompareLessSaid : Prop := compareLessRow.holds Try.pinned (OpenSpec.ofChange compareLessSpec)

/-- ITS FALSE NEIGHBOUR: 'it returns false'. Refute it at one input. -/
def compareLessWrong : ChangeSpec := { name := "compareLess", fn := fun _ => fun
  | [d1, d2, d3, d4] => { results := [.lit (.bool false)], args := [d1, d2, d3, d4] }
  | _ => none }
def CompareLessWrongFalsely : Prop := compareLessRow.holds Try.pinned (OpenSpec.ofChange compareLessWrong)

/-- 'torcherelaw20.CompareAgain': WHATEVER THE INPUT: true; the input reads as it did. -/
def compareAgainSpec : ChangeSpec := { name := "compareAgain", fn := fun _ => fun
  | [d1, d2, d3, d4] => { results := [.lit (.bool true)], args := [d1, d2, d3, d4] }
  | _ => none }
def compareAgainRow : OpenClaim := { program := "ytljmkgjemmoegaa", sum := "41782b9d31caf8b31f81c4f9cfa35273e15bb1c3c076b20763954d496b76af16", func := "torchere/torcherelaw20.CompareAgain", spec := "compareAgain", unfollowed := true, recurses := true, loops := true, apart := false }
def CompareAgainSaid : Prop := compareAgainRow.holds Try.pinned (OpenSpec.ofChange compareAgainSpec)

/-- ITS FALSE NEIGHBOUR: 'it returns false'. Refute it at one input. -/
def compareAgainWrong : ChangeSpec := { name := "compareAgain", fn := fun _ => fun
  | [d1, d2, d3, d4] => { results := [.lit (.bool false)], args := [d1, d2, d3, d4] }
  | _ => none }
def CompareAgainWrongFalsely : Prop := compareAgainRow.holds Try.pinned (OpenSpec.ofChange compareAgainWrong)

/-- 'torcherelaw20.CompareErased': WHATEVER THE INPUT: true; the input reads as it did. -/
def compareErasedSpec : ChangeSpec := { name := "compareErased", fn := fun _ => fun
  | [d1, d2, d3] => { results := [.lit (.bool true)], args := [d1, d2, d3] }
  | _ => none }
def compareErasedRow : OpenClaim := { program := "ytljmkgjemmoegaa", sum := "41782b9d31caf8b31f81c4f9cfa35273e15bb1c3c076b20763954d496b76af16", func := "torchere/torcherelaw20.CompareErased", spec := "compareErased", unfollowed := true, recurses := true, loops := true, apart := false }
def CompareErasedSaid : Prop := compareErasedRow.holds Try.pinned (OpenSpec.ofChange compareErasedSpec)

/-- ITS FALSE NEIGHBOUR: 'it returns false'. Refute it at one input. -/
def compareErasedWrong : ChangeSpec := { name := "compareErased", fn := fun _ => fun
  | [d1, d2, d3] => { results := [.lit (.bool false)], args := [d1, d2, d3] }
  | _ => none }
def CompareErasedWrongFalsely : Prop := compareErasedRow.holds Try.pinned (OpenSpec.ofChange compareErasedWrong)

/-- 'torcherelaw20.ComparePlain': WHATEVER THE INPUT: true; the input reads as it did. -/
def comparePlainSpec : ChangeSpec := { name := "comparePlain", fn := fun _ => fun
  | [d1, d2] => { results := [.lit (.bool true)], args := [d1, d2] }
  | _ => none }
def comparePlainRow : OpenClaim := { program := "ytljmkgjemmoegaa", sum := "41782b9d31caf8b31f81c4f9cfa35273e15bb1c3c076b20763954d496b76af16", func := "torchere/torcherelaw20.ComparePlain", spec := "comparePlain", unfollowed := true, recurses := true, loops := true, apart := false }
def ComparePlainSaid : Prop := comparePlainRow.holds Try.pinned (OpenSpec.ofChange comparePlainSpec)

/-- ITS FALSE NEIGHBOUR: 'it returns false'. Refute it at one input. -/
def comparePlainWrong : ChangeSpec := { name := "comparePlain", fn := fun _ => fun
  | [d1, d2] => { results := [.lit (.bool false)], args := [d1, d2] }
  | _ => none }
def ComparePlainWrongFalsely : Prop := comparePlainRow.holds Try.pinned (OpenSpec.ofChange comparePlainWrong)

/-- 'torcherelaw20.CompareParts': WHATEVER THE INPUT: true; the input reads as it did. -/
def comparePartsSpec : ChangeSpec := { name := "compareParts", fn := fun _ => fun
  | [d1, d2, d3, d4] => { results := [.lit (.bool true)], args := [d1, d2, d3, d4] }
  | _ => none }
def comparePartsRow : OpenClaim := { program := "ytljmkgjemmoegaa", sum := "41782b9d31caf8b31f81c4f9cfa35273e15bb1c3c076b20763954d496b76af16", func := "torchere/torcherelaw20.CompareParts", spec := "compareParts", unfollowed := true, recurses := true, loops := true, apart := false }
def ComparePartsSaid : Prop := comparePartsRow.holds Try.pinned (OpenSpec.ofChange comparePartsSpec)

/-- ITS FALSE NEIGHBOUR: 'it returns false'. Refute it at one input. -/
def comparePartsWrong : ChangeSpec := { name := "compareParts", fn := fun _ => fun
  | [d1, d2, d3, d4] => { results := [.lit (.bool false)], args := [d1, d2, d3, d4] }
  | _ => none }
def ComparePartsWrongFalsely : Prop := comparePartsRow.holds Try.pinned (OpenSpec.ofChange comparePartsWrong)

/- THE SECOND FORM. 'bulk': how many values and letters a reading holds, each counted each time it is reached (what is shared counts as often as it is met; a slice's spare places count too). A statement '..UptoSaid' is the law's where the arguments, and the package variables that the reading takes, are together of bulk at most 1048576: NARROWER than '..Said'. Prove '..Said' where nothing that the law and all that it calls make is longer than what came in: it says more and counts as full. Else prove '..UptoSaid'. A law counts once. -/
mutual
def uptoBulk {H : Type} : DataW H → Nat
  | .lit (.string bytes) => bytes.length + 1
  | .lit _ => 1
  | .nil => 1
  | .ptr d => uptoBulk d + 1
  | .slice elems spare => uptoBulkAll elems + uptoBulkAll spare + 1
  | .agg parts => uptoBulkAll parts + 1
  | .iface _ d => uptoBulk d + 1
  | .map entries => uptoBulkEntries entries + 1
  | .held _ => 1
def uptoBulkAll {H : Type} : List (DataW H) → Nat
  | [] => 0
  | d :: r => uptoBulk d + uptoBulkAll r
def uptoBulkEntries {H : Type} : List (Lit × DataW H) → Nat
  | [] => 0
  | x :: r => uptoBulkEntry x + uptoBulkEntries r
def uptoBulkEntry {H : Type} : Lit × DataW H → Nat
  | (.string bytes, d) => bytes.length + uptoBulk d + 1
  | (_, d) => uptoBulk d + 1
 end
def uptoSmall : (H : Type) → List (DataW H) → Bool := fun _ ds => decide (uptoBulkAll ds ≤ 1048576)
def OpenSpec.upto (s : _root_.Go.ChangeSpec) : _root_.Go.OpenSpec := { _root_.Go.OpenSpec.ofChange s with cond := some uptoSmall }

/-- 'torcherelaw20.CompareSees', WHERE WHAT IT READS IS OF BULK AT MOST 1048576: true; the input reads as it did. -/
def compareSeesUptoRow : OpenClaim := { program := "ytljmkgjemmoegaa", sum := "41782b9d31caf8b31f81c4f9cfa35273e15bb1c3c076b20763954d496b76af16", func := "torchere/torcherelaw20.CompareSees", spec := "compareSees", unfollowed := true, recurses := true, loops := true, apart := false, narrowed := true }
def CompareSeesUptoSaid : Prop := compareSeesUptoRow.holds Try.pinned (OpenSpec.upto compareSeesSpec)

/-- 'torcherelaw20.CompareJoins', WHERE WHAT IT READS IS OF BULK AT MOST 1048576: true; the input reads as it did. -/
def compareJoinsUptoRow : OpenClaim := { program := "ytljmkgjemmoegaa", sum := "41782b9d31caf8b31f81c4f9cfa35273e15bb1c3c076b20763954d496b76af16", func := "torchere/torcherelaw20.CompareJoins", spec := "compareJoins", unfollowed := true, recurses := true, loops := true, apart := false, narrowed := true }
def CompareJoinsUptoSaid : Prop := compareJoinsUptoRow.holds Try.pinned (OpenSpec.upto compareJoinsSpec)

/-- 'torcherelaw20.CompareLess', WHERE WHAT IT READS IS OF BULK AT MOST 1048576: true; the input reads as it did. -/
def compareLessUptoRow : OpenClaim := { program := "ytljmkgjemmoegaa", sum := "41782b9d31caf8b31f81c4f9cfa35273e15bb1c3c076b20763954d496b76af16", func := "torchere/torcherelaw20.CompareLess", spec := "compareLess", unfollowed := true, recurses := true, loops := true, apart := false, narrowed := true }
def CompareLessUptoSaid : Prop := compareLessUptoRow.holds Try.pinned (OpenSpec.upto compareLessSpec)

/-- 'torcherelaw20.CompareAgain', WHERE WHAT IT READS IS OF BULK AT MOST 1048576: true; the input reads as it did. -/
def compareAgainUptoRow : OpenClaim := { program := "ytljmkgjemmoegaa", sum := "41782b9d31caf8b31f81c4f9cfa35273e15bb1c3c076b20763954d496b76af16", func := "torchere/torcherelaw20.CompareAgain", spec := "compareAgain", unfollowed := true, recurses := true, loops := true, apart := false, narrowed := true }
def CompareAgainUptoSaid : Prop := compareAgainUptoRow.holds Try.pinned (OpenSpec.upto compareAgainSpec)

/-- 'torcherelaw20.CompareErased', WHERE WHAT IT READS IS OF BULK AT MOST 1048576: true; the input reads as it did. -/
def compareErasedUptoRow : OpenClaim := { program := "ytljmkgjemmoegaa", sum := "41782b9d31caf8b31f81c4f9cfa35273e15bb1c3c076b20763954d496b76af16", func := "torchere/torcherelaw20.CompareErased", spec := "compareErased", unfollowed := true, recurses := true, loops := true, apart := false, narrowed := true }
def CompareErasedUptoSaid : Prop := compareErasedUptoRow.holds Try.pinned (OpenSpec.upto compareErasedSpec)

/-- 'torcherelaw20.ComparePlain', WHERE WHAT IT READS IS OF BULK AT MOST 1048576: true; the input reads as it did. -/
def comparePlainUptoRow : OpenClaim := { program := "ytljmkgjemmoegaa", sum := "41782b9d31caf8b31f81c4f9cfa35273e15bb1c3c076b20763954d496b76af16", func := "torchere/torcherelaw20.ComparePlain", spec := "comparePlain", unfollowed := true, recurses := true, loops := true, apart := false, narrowed := true }
def ComparePlainUptoSaid : Prop := comparePlainUptoRow.holds Try.pinned (OpenSpec.upto comparePlainSpec)

/-- 'torcherelaw20.CompareParts', WHERE WHAT IT READS IS OF BULK AT MOST 1048576: true; the input reads as it did. -/
def comparePartsUptoRow : OpenClaim := { program := "ytljmkgjemmoegaa", sum := "41782b9d31caf8b31f81c4f9cfa35273e15bb1c3c076b20763954d496b76af16", func := "torchere/torcherelaw20.CompareParts", spec := "compareParts", unfollowed := true, recurses := true, loops := true, apart := false, narrowed := true }
def ComparePartsUptoSaid : Prop := comparePartsUptoRow.holds Try.pinned (OpenSpec.upto comparePartsSpec)

end Rows
end Go.Proofs.Ytljmkgjemmoegaa
