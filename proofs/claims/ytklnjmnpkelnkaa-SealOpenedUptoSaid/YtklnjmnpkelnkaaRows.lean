/-
  NARROWER THAN 'FOR EVERY INPUT', by the rows' own cells (each row's printed sentence says how): SealJoins: loops · SealErases: loops · SealErased: loops · SealPuts: loops · SealOpened: loops · SealHides: loops.
  DERIVED. THE GIVEN ROWS OF THIS SEAT. 6 by the template 'for every input the law returns true; each argument reads behind the call as it read before'; 0 by the template 'total and deterministic' (their statements: YtklnjmnpkelnkaaTotals.lean).
  GIVEN WITH THE SEED: the statements are not yours to turn. If you find one false, say at which input.
  Laid BY PROGRAM, IN A SANDBOX (cutbox-rows.mjs): the forced cells as the released guide's own fill.sh prints them over the translation a5d91a2c4fa8f82a… (all of the seat's roots in one cut). By AI agents, Wed Nov 11 2026. No macro, syntax, notation, axiom, sorry.
-/
import Derived.Test.YtklnjmnpkelnkaaChecked
import GoSem.Claim
import GoSem.ClaimJoined
import GoSem.ClaimMapViews
import Derived.JoinedTies
import Derived.KernelRfl
namespace Go.Proofs.Ytklnjmnpkelnkaa
/- THE CELL 'sum', in the pinned program and in every row, IS THE sha256 OF THE DUMP (.gsa) THAT YtklnjmnpkelnkaaProg.lean LOADS. Nothing in Lean hashes anything: it is a label: what it is worth is what the hold of that sum in a sandbox is worth. -/
noncomputable def Try.pinned : Pinned := { name := "ytklnjmnpkelnkaa", sum := "a5d91a2c4fa8f82accaf5c2c3e66ef0c59e9e497756579147899422d4b6f8686", checked := Try.checked }
namespace Rows
def none {H : Type} : Left H := { results := [], args := [] }

/-- 'torcherelaw04.SealJoins': WHATEVER THE INPUT: true; the input reads as it did. -/
def sealJoinsSpec : ChangeSpec := { name := "sealJoins", fn := fun _ => fun
  | [d1, d2, d3] => { results := [.lit (.bool true)], args := [d1, d2, d3] }
  | _ => none }
def sealJoinsRow : OpenClaim := { program := "ytklnjmnpkelnkaa", sum := "a5d91a2c4fa8f82accaf5c2c3e66ef0c59e9e497756579147899422d4b6f8686", func := "torchere/torcherelaw04.SealJoins", spec := "sealJoins", unfollowed := true, recurses := true, loops := true, apart := false }
def SealJoinsSaid : Prop := sealJoinsRow.holds Try.pinned (OpenSpec.ofChange sealJoinsSpec)

/-- ITS FALSE NEIGHBOUR: 'it returns false'. Refute it at one input. -/
def sealJoinsWrong : ChangeSpec := { name := "sealJoins", fn := fun _ => fun
  | [d1, d2, d3] => { results := [.lit (.bool false)], args := [d1, d2, d3] }
  | _ => none }
def SealJoinsWrongFalsely : Prop := sealJoinsRow.holds Try.pinned (OpenSpec.ofChange sealJoinsWrong)

/-- 'torcherelaw04.SealErases': WHATEVER THE INPUT: true; the input reads as it did. -/
def sealErasesSpec : ChangeSpec := { name := "sealErases", fn := fun _ => fun
  | [d1, d2, d3] => { results := [.lit (.bool true)], args := [d1, d2, d3] }
  | _ => none }
def sealErasesRow : OpenClaim := { program := "ytklnjmnpkelnkaa", sum := "a5d91a2c4fa8f82accaf5c2c3e66ef0c59e9e497756579147899422d4b6f8686", func := "torchere/torcherelaw04.SealErases", spec := "sealErases", unfollowed := true, recurses := true, loops := true, apart := false }
def SealErasesSaid : Prop := sealErasesRow.holds Try.pinned (OpenSpec.ofChange sealErasesSpec)

/-- ITS FALSE NEIGHBOUR: 'it returns false'. Refute it at one input. -/
def sealErasesWrong : ChangeSpec := { name := "sealErases", fn := fun _ => fun
  | [d1, d2, d3] => { results := [.lit (.bool false)], args := [d1, d2, d3] }
  | _ => none }
def SealErasesWrongFalsely : Prop := sealErasesRow.holds Try.pinned (OpenSpec.ofChange sealErasesWrong)

/-- 'torcherelaw04.SealErased': WHATEVER THE INPUT: true; the input reads as it did. -/
def sealErasedSpec : ChangeSpec := { name := "sealErased", fn := fun _ => fun
  | [d1, d2] => { results := [.lit (.bool true)], args := [d1, d2] }
  | _ => none }
def sealErasedRow : OpenClaim := { program := "ytklnjmnpkelnkaa", sum := "a5d91a2c4fa8f82accaf5c2c3e66ef0c59e9e497756579147899422d4b6f8686", func := "torchere/torcherelaw04.SealErased", spec := "sealErased", unfollowed := true, recurses := true, loops := true, apart := false }
def SealErasedSaid : Prop := sealErasedRow.holds Try.pinned (OpenSpec.ofChange sealErasedSpec)

/-- ITS FALSE NEIGHBOUR: 'it returns false'. Refute it at one input. -/
def sealErasedWrong : ChangeSpec := { name := "sealErased", fn := fun _ => fun
  | [d1, d2] => { results := [.lit (.bool false)], args := [d1, d2] }
  | _ => none }
def SealErasedWrongFalsely : Prop := sealErasedRow.holds Try.pinned (OpenSpec.ofChange sealErasedWrong)

/-- 'torcherelaw04.SealPuts': WHATEVER THE INPUT: true; the input reads as it did. -/
def sealPutsSpec : ChangeSpec := { name := "sealPuts", fn := fun _ => fun
  | [d1, d2, d3] => { results := [.lit (.bool true)], args := [d1, d2, d3] }
  | _ => none }
def sealPutsRow : OpenClaim := { program := "ytklnjmnpkelnkaa", sum := "a5d91a2c4fa8f82accaf5c2c3e66ef0c59e9e497756579147899422d4b6f8686", func := "torchere/torcherelaw04.SealPuts", spec := "sealPuts", unfollowed := true, recurses := true, loops := true, apart := false }
def SealPutsSaid : Prop := sealPutsRow.holds Try.pinned (OpenSpec.ofChange sealPutsSpec)

/-- ITS FALSE NEIGHBOUR: 'it returns false'. Refute it at one input. -/
def sealPutsWrong : ChangeSpec := { name := "sealPuts", fn := fun _ => fun
  | [d1, d2, d3] => { results := [.lit (.bool false)], args := [d1, d2, d3] }
  | _ => none }
def SealPutsWrongFalsely : Prop := sealPutsRow.holds Try.pinned (OpenSpec.ofChange sealPutsWrong)

/-- 'torcherelaw04.SealOpened': WHATEVER THE INPUT: true; the input reads as it did. -/
def sealOpenedSpec : ChangeSpec := { name := "sealOpened", fn := fun _ => fun
  | [d1, d2, d3, d4] => { results := [.lit (.bool true)], args := [d1, d2, d3, d4] }
  | _ => none }
def sealOpenedRow : OpenClaim := { program := "ytklnjmnpkelnkaa", sum := "a5d91a2c4fa8f82accaf5c2c3e66ef0c59e9e497756579147899422d4b6f8686", func := "torchere/torcherelaw04.SealOpened", spec := "sealOpened", unfollowed := true, recurses := true, loops := true, apart := false }
def SealOpenedSaid : Prop := sealOpenedRow.holds Try.pinned (OpenSpec.ofChange sealOpenedSpec)

/-- ITS FALSE NEIGHBOUR: 'it returns false'. Refute it at one input. -/
def sealOpenedWrong : ChangeSpec := { name := "sealOpened", fn := fun _ => fun
  | [d1, d2, d3, d4] => { results := [.lit (.bool false)], args := [d1, d2, d3, d4] }
  | _ => none }
def SealOpenedWrongFalsely : Prop := sealOpenedRow.holds Try.pinned (OpenSpec.ofChange sealOpenedWrong)

/-- 'torcherelaw04.SealHides': WHATEVER THE INPUT: true; the input reads as it did. -/
def sealHidesSpec : ChangeSpec := { name := "sealHides", fn := fun _ => fun
  | [d1, d2, d3, d4] => { results := [.lit (.bool true)], args := [d1, d2, d3, d4] }
  | _ => none }
def sealHidesRow : OpenClaim := { program := "ytklnjmnpkelnkaa", sum := "a5d91a2c4fa8f82accaf5c2c3e66ef0c59e9e497756579147899422d4b6f8686", func := "torchere/torcherelaw04.SealHides", spec := "sealHides", unfollowed := true, recurses := true, loops := true, apart := false }
def SealHidesSaid : Prop := sealHidesRow.holds Try.pinned (OpenSpec.ofChange sealHidesSpec)

/-- ITS FALSE NEIGHBOUR: 'it returns false'. Refute it at one input. -/
def sealHidesWrong : ChangeSpec := { name := "sealHides", fn := fun _ => fun
  | [d1, d2, d3, d4] => { results := [.lit (.bool false)], args := [d1, d2, d3, d4] }
  | _ => none }
def SealHidesWrongFalsely : Prop := sealHidesRow.holds Try.pinned (OpenSpec.ofChange sealHidesWrong)

/- THE SECOND FORM. 'bulk': how many values and letters a reading holds, each counted each time it is reached (what is shared counts as often as it is met; a slice's spare places count too). A statement '..UptoSaid' is the law's where the arguments, and the package variables that the reading takes, are together of bulk at most 1048576: NARROWER than '..Said'. Prove '..Said' where nothing that the law and all that it calls make is longer than what came in: it says more and counts as full. Else prove '..UptoSaid'. A law counts once. -/
mutual
def uptoBulk {H : Type} : DataW H → Nat
  | .lit (.string bytes) => bytes.length + 1
  | .lit _ => 1
  | .nil => 1
  | .ptr d => uptoBulk d + 1
  | .slice elems spare => uptoBulkAll elems + uptoBulkAll spare + 1
  | .agg parts => uptoBulkAll parts + 1
  | .iface _ d => uptoBulk d + 1
  | .map entries => uptoBulkEntries entries + 1
  | .held _ => 1
def uptoBulkAll {H : Type} : List (DataW H) → Nat
  | [] => 0
  | d :: r => uptoBulk d + uptoBulkAll r
def uptoBulkEntries {H : Type} : List (Lit × DataW H) → Nat
  | [] => 0
  | x :: r => uptoBulkEntry x + uptoBulkEntries r
def uptoBulkEntry {H : Type} : Lit × DataW H → Nat
  | (.string bytes, d) => bytes.length + uptoBulk d + 1
  | (_, d) => uptoBulk d + 1
 end
def uptoSmall : (H : Type) → List (DataW H) → Bool := fun _ ds => decide (uptoBulkAll ds ≤ 1048576)
def OpenSpec.upto (s : _root_.Go.ChangeSpec) : _root_.Go.OpenSpec := { _root_.Go.OpenSpec.ofChange s with cond := some uptoSmall }

/-- 'torcherelaw04.SealJoins', WHERE WHAT IT READS IS OF BULK AT MOST 1048576: true; the input reads as it did. -/
def sealJoinsUptoRow : OpenClaim := { program := "ytklnjmnpkelnkaa", sum := "a5d91a2c4fa8f82accaf5c2c3e66ef0c59e9e497756579147899422d4b6f8686", func := "torchere/torcherelaw04.SealJoins", spec := "sealJoins", unfollowed := true, recurses := true, loops := true, apart := false, narrowed := true }
def SealJoinsUptoSaid : Prop := sealJoinsUptoRow.holds Try.pinned (OpenSpec.upto sealJoinsSpec)

/-- 'torcherelaw04.SealErases', WHERE WHAT IT READS IS OF BULK AT MOST 1048576: true; the input reads as it did. -/
def sealErasesUptoRow : OpenClaim := { program := "ytklnjmnpkelnkaa", sum := "a5d91a2c4fa8f82accaf5c2c3e66ef0c59e9e497756579147899422d4b6f8686", func := "torchere/torcherelaw04.SealErases", spec := "sealErases", unfollowed := true, recurses := true, loops := true, apart := false, narrowed := true }
def SealErasesUptoSaid : Prop := sealErasesUptoRow.holds Try.pinned (OpenSpec.upto sealErasesSpec)

/-- 'torcherelaw04.SealErased', WHERE WHAT IT READS IS OF BULK AT MOST 1048576: true; the input reads as it did. -/
def sealErasedUptoRow : OpenClaim := { program := "ytklnjmnpkelnkaa", sum := "a5d91a2c4fa8f82accaf5c2c3e66ef0c59e9e497756579147899422d4b6f8686", func := "torchere/torcherelaw04.SealErased", spec := "sealErased", unfollowed := true, recurses := true, loops := true, apart := false, narrowed := true }
def SealErasedUptoSaid : Prop := sealErasedUptoRow.holds Try.pinned (OpenSpec.upto sealErasedSpec)

/-- 'torcherelaw04.SealPuts', WHERE WHAT IT READS IS OF BULK AT MOST 1048576: true; the input reads as it did. -/
def sealPutsUptoRow : OpenClaim := { program := "ytklnjmnpkelnkaa", sum := "a5d91a2c4fa8f82accaf5c2c3e66ef0c59e9e497756579147899422d4b6f8686", func := "torchere/torcherelaw04.SealPuts", spec := "sealPuts", unfollowed := true, recurses := true, loops := true, apart := false, narrowed := true }
def SealPutsUptoSaid : Prop := sealPutsUptoRow.holds Try.pinned (OpenSpec.upto sealPutsSpec)

/-- 'torcherelaw04.SealOpened', WHERE WHAT IT READS IS OF BULK AT MOST 1048576: true; the input reads as it did. -/
def sealOpenedUptoRow : OpenClaim := { program := "ytklnjmnpkelnkaa", sum := "a5d91a2c4fa8f82accaf5c2c3e66ef0c59e9e497756579147899422d4b6f8686", func := "torchere/torcherelaw04.SealOpened", spec := "sealOpened", unfollowed := true, recurses := true, loops := true, apart := false, narrowed := true }
def SealOpenedUptoSaid : Prop := sealOpenedUptoRow.holds Try.pinned (OpenSpec.upto sealOpenedSpec)

/-- 'torcherelaw04.SealHides', WHERE WHAT IT READS IS OF BULK AT MOST 1048576: true; the input reads as it did. -/
def sealHidesUptoRow : OpenClaim := { program := "ytklnjmnpkelnkaa", sum := "a5d91a2c4fa8f82accaf5c2c3e66ef0c59e9e497756579147899422d4b6f8686", func := "torchere/torcherelaw04.SealHides", spec := "sealHides", unfollowed := true, recurses := true, loops := true, apart := false, narrowed := true }
def SealHidesUptoSaid : Prop := sealHidesUptoRow.holds Try.pinned (OpenSpec.upto sealHidesSpec)

end Rows
end Go.Proofs.Ytklnjmnpkelnkaa
