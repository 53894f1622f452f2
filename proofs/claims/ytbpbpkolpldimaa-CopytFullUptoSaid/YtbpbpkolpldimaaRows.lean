/-
  NARROWER THAN 'FOR EVERY INPUT', by the rows' own cells (each row's printed sentence says how): CopytNorms: loops · CopytVariants: loops · CopytFresh: loops · CopytFull: loops · CopytApart: loops.
  DERIVED. THE GIVEN ROWS OF THIS SEAT. 5 by the template 'for every input the law returns true; each argument reads behind the call as it read before'; 0 by the template 'total and deterministic' (their statements: YtbpbpkolpldimaaTotals.lean).
  GIVEN WITH THE SEED: the statements are not yours to turn. If you find one false, say at which input.
  Laid BY PROGRAM, IN A SANDBOX (cutbox-rows.mjs): the forced cells as the released guide's own fill.sh prints them over the translation 3443751de915d49c… (all of the seat's roots in one cut). By AI agents, Wed Nov 11 2026. No macro, syntax, notation, axiom, sorry.
-/
import Derived.Test.YtbpbpkolpldimaaChecked
import GoSem.Claim
import GoSem.ClaimJoined
import GoSem.ClaimMapViews
import Derived.JoinedTies
import Derived.KernelRfl
namespace Go.Proofs.Ytbpbpkolpldimaa
/- THE CELL 'sum', in the pinned program and in every row, IS THE sha256 OF THE DUMP (.gsa) THAT YtbpbpkolpldimaaProg.lean LOADS. Nothing in Lean hashes anything: it is a label: what it is worth is what the hold of that sum in a sandbox is worth. -/
noncomputable def Try.pinned : Pinned := { name := "ytbpbpkolpldimaa", sum := "3443751de915d49c1d7acbb59f7475846cf5138f184de4ca5d8639faf4e38a37", checked := Try.checked }
namespace Rows
def none {H : Type} : Left H := { results := [], args := [] }

/-- 'torcherelaw13.CopytNorms': WHATEVER THE INPUT: true; the input reads as it did. -/
def copytNormsSpec : ChangeSpec := { name := "copytNorms", fn := fun _ => fun
  | [d1, d2] => { results := [.lit (.bool true)], args := [d1, d2] }
  | _ => none }
def copytNormsRow : OpenClaim := { program := "ytbpbpkolpldimaa", sum := "3443751de915d49c1d7acbb59f7475846cf5138f184de4ca5d8639faf4e38a37", func := "torchere/torcherelaw13.CopytNorms", spec := "copytNorms", unfollowed := true, recurses := true, loops := true, apart := false }
def CopytNormsSaid : Prop := copytNormsRow.holds Try.pinned (OpenSpec.ofChange copytNormsSpec)

/-- ITS FALSE NEIGHBOUR: 'it returns false'. Refute it at one input. -/
def copytNormsWrong : ChangeSpec := { name := "copytNorms", fn := fun _ => fun
  | [d1, d2] => { results := [.lit (.bool false)], args := [d1, d2] }
  | _ => none }
def CopytNormsWrongFalsely : Prop := copytNormsRow.holds Try.pinned (OpenSpec.ofChange copytNormsWrong)

/-- 'torcherelaw13.CopytVariants': WHATEVER THE INPUT: true; the input reads as it did. -/
def copytVariantsSpec : ChangeSpec := { name := "copytVariants", fn := fun _ => fun
  | [d1, d2, d3, d4] => { results := [.lit (.bool true)], args := [d1, d2, d3, d4] }
  | _ => none }
def copytVariantsRow : OpenClaim := { program := "ytbpbpkolpldimaa", sum := "3443751de915d49c1d7acbb59f7475846cf5138f184de4ca5d8639faf4e38a37", func := "torchere/torcherelaw13.CopytVariants", spec := "copytVariants", unfollowed := true, recurses := true, loops := true, apart := false }
def CopytVariantsSaid : Prop := copytVariantsRow.holds Try.pinned (OpenSpec.ofChange copytVariantsSpec)

/-- ITS FALSE NEIGHBOUR: 'it returns false'. Refute it at one input. -/
def copytVariantsWrong : ChangeSpec := { name := "copytVariants", fn := fun _ => fun
  | [d1, d2, d3, d4] => { results := [.lit (.bool false)], args := [d1, d2, d3, d4] }
  | _ => none }
def CopytVariantsWrongFalsely : Prop := copytVariantsRow.holds Try.pinned (OpenSpec.ofChange copytVariantsWrong)

/-- 'torcherelaw13.CopytFresh': WHATEVER THE INPUT: true; the input reads as it did. -/
def copytFreshSpec : ChangeSpec := { name := "copytFresh", fn := fun _ => fun
  | [d1, d2] => { results := [.lit (.bool true)], args := [d1, d2] }
  | _ => none }
def copytFreshRow : OpenClaim := { program := "ytbpbpkolpldimaa", sum := "3443751de915d49c1d7acbb59f7475846cf5138f184de4ca5d8639faf4e38a37", func := "torchere/torcherelaw13.CopytFresh", spec := "copytFresh", unfollowed := true, recurses := true, loops := true, apart := false }
def CopytFreshSaid : Prop := copytFreshRow.holds Try.pinned (OpenSpec.ofChange copytFreshSpec)

/-- ITS FALSE NEIGHBOUR: 'it returns false'. Refute it at one input. -/
def copytFreshWrong : ChangeSpec := { name := "copytFresh", fn := fun _ => fun
  | [d1, d2] => { results := [.lit (.bool false)], args := [d1, d2] }
  | _ => none }
def CopytFreshWrongFalsely : Prop := copytFreshRow.holds Try.pinned (OpenSpec.ofChange copytFreshWrong)

/-- 'torcherelaw13.CopytFull': WHATEVER THE INPUT: true; the input reads as it did. -/
def copytFullSpec : ChangeSpec := { name := "copytFull", fn := fun _ => fun
  | [d1, d2] => { results := [.lit (.bool true)], args := [d1, d2] }
  | _ => none }
def copytFullRow : OpenClaim := { program := "ytbpbpkolpldimaa", sum := "3443751de915d49c1d7acbb59f7475846cf5138f184de4ca5d8639faf4e38a37", func := "torchere/torcherelaw13.CopytFull", spec := "copytFull", unfollowed := true, recurses := true, loops := true, apart := false }
def CopytFullSaid : Prop := copytFullRow.holds Try.pinned (OpenSpec.ofChange copytFullSpec)

/-- ITS FALSE NEIGHBOUR: 'it returns false'. Refute it at one input. -/
def copytFullWrong : ChangeSpec := { name := "copytFull", fn := fun _ => fun
  | [d1, d2] => { results := [.lit (.bool false)], args := [d1, d2] }
  | _ => none }
def CopytFullWrongFalsely : Prop := copytFullRow.holds Try.pinned (OpenSpec.ofChange copytFullWrong)

/-- 'torcherelaw13.CopytApart': WHATEVER THE INPUT: true; the input reads as it did. -/
def copytApartSpec : ChangeSpec := { name := "copytApart", fn := fun _ => fun
  | [d1, d2, d3] => { results := [.lit (.bool true)], args := [d1, d2, d3] }
  | _ => none }
def copytApartRow : OpenClaim := { program := "ytbpbpkolpldimaa", sum := "3443751de915d49c1d7acbb59f7475846cf5138f184de4ca5d8639faf4e38a37", func := "torchere/torcherelaw13.CopytApart", spec := "copytApart", unfollowed := true, recurses := true, loops := true, apart := false }
def CopytApartSaid : Prop := copytApartRow.holds Try.pinned (OpenSpec.ofChange copytApartSpec)

/-- ITS FALSE NEIGHBOUR: 'it returns false'. Refute it at one input. -/
def copytApartWrong : ChangeSpec := { name := "copytApart", fn := fun _ => fun
  | [d1, d2, d3] => { results := [.lit (.bool false)], args := [d1, d2, d3] }
  | _ => none }
def CopytApartWrongFalsely : Prop := copytApartRow.holds Try.pinned (OpenSpec.ofChange copytApartWrong)

/- THE SECOND FORM. 'bulk': how many values and letters a reading holds, each counted each time it is reached (what is shared counts as often as it is met; a slice's spare places count too). A statement '..UptoSaid' is the law's where the arguments, and the package variables that the reading takes, are together of bulk at most 1048576: NARROWER than '..Said'. Prove '..Said' where nothing that the law and all that it calls make is longer than what came in: it says more and counts as full. Else prove '..UptoSaid'. A law counts once. -/
mutual
def uptoBulk {H : Type} : DataW H → Nat
  | .lit (.string bytes) => bytes.length + 1
  | .lit _ => 1
  | .nil => 1
  | .ptr d => uptoBulk d + 1
  | .slice elems spare => uptoBulkAll elems + uptoBulkAll spare + 1
  | .agg parts => uptoBulkAll parts + 1
  | .iface _ d => uptoBulk d + 1
  | .map entries => uptoBulkEntries entries + 1
  | .held _ => 1
def uptoBulkAll {H : Type} : List (DataW H) → Nat
  | [] => 0
  | d :: r => uptoBulk d + uptoBulkAll r
def uptoBulkEntries {H : Type} : List (Lit × DataW H) → Nat
  | [] => 0
  | x :: r => uptoBulkEntry x + uptoBulkEntries r
def uptoBulkEntry {H : Type} : Lit × DataW H → Nat
  | (.string bytes, d) => bytes.length + uptoBulk d + 1
  | (_, d) => uptoBulk d + 1
 end
def uptoSmall : (H : Type) → List (DataW H) → Bool := fun _ ds => decide (uptoBulkAll ds ≤ 1048576)
def OpenSpec.upto (s : _root_.Go.ChangeSpec) : _root_.Go.OpenSpec := { _root_.Go.OpenSpec.ofChange s with cond := some uptoSmall }

/-- 'torcherelaw13.CopytNorms', WHERE WHAT IT READS IS OF BULK AT MOST 1048576: true; the input reads as it did. -/
def copytNormsUptoRow : OpenClaim := { program := "ytbpbpkolpldimaa", sum := "3443751de915d49c1d7acbb59f7475846cf5138f184de4ca5d8639faf4e38a37", func := "torchere/torcherelaw13.CopytNorms", spec := "copytNorms", unfollowed := true, recurses := true, loops := true, apart := false, narrowed := true }
def CopytNormsUptoSaid : Prop := copytNormsUptoRow.holds Try.pinned (OpenSpec.upto copytNormsSpec)

/-- 'torcherelaw13.CopytVariants', WHERE WHAT IT READS IS OF BULK AT MOST 1048576: true; the input reads as it did. -/
def copytVariantsUptoRow : OpenClaim := { program := "ytbpbpkolpldimaa", sum := "3443751de915d49c1d7acbb59f7475846cf5138f184de4ca5d8639faf4e38a37", func := "torchere/torcherelaw13.CopytVariants", spec := "copytVariants", unfollowed := true, recurses := true, loops := true, apart := false, narrowed := true }
def CopytVariantsUptoSaid : Prop := copytVariantsUptoRow.holds Try.pinned (OpenSpec.upto copytVariantsSpec)

/-- 'torcherelaw13.CopytFresh', WHERE WHAT IT READS IS OF BULK AT MOST 1048576: true; the input reads as it did. -/
def copytFreshUptoRow : OpenClaim := { program := "ytbpbpkolpldimaa", sum := "3443751de915d49c1d7acbb59f7475846cf5138f184de4ca5d8639faf4e38a37", func := "torchere/torcherelaw13.CopytFresh", spec := "copytFresh", unfollowed := true, recurses := true, loops := true, apart := false, narrowed := true }
def CopytFreshUptoSaid : Prop := copytFreshUptoRow.holds Try.pinned (OpenSpec.upto copytFreshSpec)

/-- 'torcherelaw13.CopytFull', WHERE WHAT IT READS IS OF BULK AT MOST 1048576: true; the input reads as it did. -/
def copytFullUptoRow : OpenClaim := { program := "ytbpbpkolpldimaa", sum := "3443751de915d49c1d7acbb59f7475846cf5138f184de4ca5d8639faf4e38a37", func := "torchere/torcherelaw13.CopytFull", spec := "copytFull", unfollowed := true, recurses := true, loops := true, apart := false, narrowed := true }
def CopytFullUptoSaid : Prop := copytFullUptoRow.holds Try.pinned (OpenSpec.upto copytFullSpec)

/-- 'torcherelaw13.CopytApart', WHERE WHAT IT READS IS OF BULK AT MOST 1048576: true; the input reads as it did. -/
def copytApartUptoRow : OpenClaim := { program := "ytbpbpkolpldimaa", sum := "3443751de915d49c1d7acbb59f7475846cf5138f184de4ca5d8639faf4e38a37", func := "torchere/torcherelaw13.CopytApart", spec := "copytApart", unfollowed := true, recurses := true, loops := true, apart := false, narrowed := true }
def CopytApartUptoSaid : Prop := copytApartUptoRow.holds Try.pinned (OpenSpec.upto copytApartSpec)

end Rows
end Go.Proofs.Ytbpbpkolpldimaa
