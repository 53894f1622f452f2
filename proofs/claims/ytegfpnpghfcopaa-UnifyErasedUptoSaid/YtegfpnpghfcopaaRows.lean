/-
  NARROWER THAN 'FOR EVERY INPUT', by the rows' own cells (each row's printed sentence says how): UnifyOne: loops · UnifyVars: loops · UnifyLists: loops · UnifyTurned: loops · UnifyErased: loops · UnifyTwice: loops.
  DERIVED. THE GIVEN ROWS OF THIS SEAT. 6 by the template 'for every input the law returns true; each argument reads behind the call as it read before'; 0 by the template 'total and deterministic' (their statements: YtegfpnpghfcopaaTotals.lean).
  GIVEN WITH THE SEED: the statements are not yours to turn. If you find one false, say at which input.
  Laid BY PROGRAM, IN A SANDBOX (cutbox-rows.mjs): the forced cells as the released guide's own fill.sh prints them over the translation dc4f3afca1d6d0f9… (all of the seat's roots in one cut). By AI agents, Wed Nov 11 2026. No macro, syntax, notation, axiom, sorry.
-/
import Derived.Test.YtegfpnpghfcopaaChecked
import GoSem.Claim
import GoSem.ClaimJoined
import GoSem.ClaimMapViews
import Derived.JoinedTies
import Derived.KernelRfl
namespace Go.Proofs.Ytegfpnpghfcopaa
/- THE CELL 'sum', in the pinned program and in every row, IS THE sha256 OF THE DUMP (.gsa) THAT YtegfpnpghfcopaaProg.lean LOADS. Nothing in Lean hashes anything: it is a label: what it is worth is what the hold of that sum in a sandbox is worth. -/
noncomputable def Try.pinned : Pinned := { name := "ytegfpnpghfcopaa", sum := "dc4f3afca1d6d0f9bf48c2db6b1d1d7654a1bb848befcc7dce68b6a0d8367f5f", checked := Try.checked }
namespace Rows
def none {H : Type} : Left H := { results := [], args := [] }

/-- 'torcherelaw11.UnifyOne': WHATEVER THE INPUT: true; the input reads as it did. -/
def unifyOneSpec : ChangeSpec := { name := "unifyOne", fn := fun _ => fun
  | [d1, d2] => { results := [.lit (.bool true)], args := [d1, d2] }
  | _ => none }
def unifyOneRow : OpenClaim := { program := "ytegfpnpghfcopaa", sum := "dc4f3afca1d6d0f9bf48c2db6b1d1d7654a1bb848befcc7dce68b6a0d8367f5f", func := "torchere/torcherelaw11.UnifyOne", spec := "unifyOne", unfollowed := true, recurses := true, loops := true, apart := false }
def UnifyOneSaid : Prop := unifyOneRow.holds Try.pinned (OpenSpec.ofChange unifyOneSpec)

/-- ITS FALSE NEIGHBOUR: 'it returns false'. Refute it at one input. -/
def unifyOneWrong : ChangeSpec := { name := "unifyOne", fn := fun _ => fun
  | [d1, d2] => { results := [.lit (.bool false)], args := [d1, d2] }
  | _ => none }
def UnifyOneWrongFalsely : Prop := unifyOneRow.holds Try.pinned (OpenSpec.ofChange unifyOneWrong)

/-- 'torcherelaw11.UnifyVars': WHATEVER THE INPUT: true; the input reads as it did. -/
def unifyVarsSpec : ChangeSpec := { name := "unifyVars", fn := fun _ => fun
  | [d1, d2] => { results := [.lit (.bool true)], args := [d1, d2] }
  | _ => none }
def unifyVarsRow : OpenClaim := { program := "ytegfpnpghfcopaa", sum := "dc4f3afca1d6d0f9bf48c2db6b1d1d7654a1bb848befcc7dce68b6a0d8367f5f", func := "torchere/torcherelaw11.UnifyVars", spec := "unifyVars", unfollowed := true, recurses := true, loops := true, apart := false }
def UnifyVarsSaid : Prop := unifyVarsRow.holds Try.pinned (OpenSpec.ofChange unifyVarsSpec)

/-- ITS FALSE NEIGHBOUR: 'it returns false'. Refute it at one input. -/
def unifyVarsWrong : ChangeSpec := { name := "unifyVars", fn := fun _ => fun
  | [d1, d2] => { results := [.lit (.bool false)], args := [d1, d2] }
  | _ => none }
def UnifyVarsWrongFalsely : Prop := unifyVarsRow.holds Try.pinned (OpenSpec.ofChange unifyVarsWrong)

/-- 'torcherelaw11.UnifyLists': WHATEVER THE INPUT: true; the input reads as it did. -/
def unifyListsSpec : ChangeSpec := { name := "unifyLists", fn := fun _ => fun
  | [d1, d2, d3, d4] => { results := [.lit (.bool true)], args := [d1, d2, d3, d4] }
  | _ => none }
def unifyListsRow : OpenClaim := { program := "ytegfpnpghfcopaa", sum := "dc4f3afca1d6d0f9bf48c2db6b1d1d7654a1bb848befcc7dce68b6a0d8367f5f", func := "torchere/torcherelaw11.UnifyLists", spec := "unifyLists", unfollowed := true, recurses := true, loops := true, apart := false }
def UnifyListsSaid : Prop := unifyListsRow.holds Try.pinned (OpenSpec.ofChange unifyListsSpec)

/-- ITS FALSE NEIGHBOUR: 'it returns false'. Refute it at one input. -/
def unifyListsWrong : ChangeSpec := { name := "unifyLists", fn := fun _ => fun
  | [d1, d2, d3, d4] => { results := [.lit (.bool false)], args := [d1, d2, d3, d4] }
  | _ => none }
def UnifyListsWrongFalsely : Prop := unifyListsRow.holds Try.pinned (OpenSpec.ofChange unifyListsWrong)

/-- 'torcherelaw11.UnifyTurned': WHATEVER THE INPUT: true; the input reads as it did. -/
def unifyTurnedSpec : ChangeSpec := { name := "unifyTurned", fn := fun _ => fun
  | [d1, d2] => { results := [.lit (.bool true)], args := [d1, d2] }
  | _ => none }
def unifyTurnedRow : OpenClaim := { program := "ytegfpnpghfcopaa", sum := "dc4f3afca1d6d0f9bf48c2db6b1d1d7654a1bb848befcc7dce68b6a0d8367f5f", func := "torchere/torcherelaw11.UnifyTurned", spec := "unifyTurned", unfollowed := true, recurses := true, loops := true, apart := false }
def UnifyTurnedSaid : Prop := unifyTurnedRow.holds Try.pinned (OpenSpec.ofChange unifyTurnedSpec)

/-- ITS FALSE NEIGHBOUR: 'it returns false'. Refute it at one input. -/
def unifyTurnedWrong : ChangeSpec := { name := "unifyTurned", fn := fun _ => fun
  | [d1, d2] => { results := [.lit (.bool false)], args := [d1, d2] }
  | _ => none }
def UnifyTurnedWrongFalsely : Prop := unifyTurnedRow.holds Try.pinned (OpenSpec.ofChange unifyTurnedWrong)

/-- 'torcherelaw11.UnifyErased': WHATEVER THE INPUT: true; the input reads as it did. -/
def unifyErasedSpec : ChangeSpec := { name := "unifyErased", fn := fun _ => fun
  | [d1, d2] => { results := [.lit (.bool true)], args := [d1, d2] }
  | _ => none }
def unifyErasedRow : OpenClaim := { program := "ytegfpnpghfcopaa", sum := "dc4f3afca1d6d0f9bf48c2db6b1d1d7654a1bb848befcc7dce68b6a0d8367f5f", func := "torchere/torcherelaw11.UnifyErased", spec := "unifyErased", unfollowed := true, recurses := true, loops := true, apart := false }
def UnifyErasedSaid : Prop := unifyErasedRow.holds Try.pinned (OpenSpec.ofChange unifyErasedSpec)

/-- ITS FALSE NEIGHBOUR: 'it returns false'. Refute it at one input. -/
def unifyErasedWrong : ChangeSpec := { name := "unifyErased", fn := fun _ => fun
  | [d1, d2] => { results := [.lit (.bool false)], args := [d1, d2] }
  | _ => none }
def UnifyErasedWrongFalsely : Prop := unifyErasedRow.holds Try.pinned (OpenSpec.ofChange unifyErasedWrong)

/-- 'torcherelaw11.UnifyTwice': WHATEVER THE INPUT: true; the input reads as it did. -/
def unifyTwiceSpec : ChangeSpec := { name := "unifyTwice", fn := fun _ => fun
  | [d1, d2, d3] => { results := [.lit (.bool true)], args := [d1, d2, d3] }
  | _ => none }
def unifyTwiceRow : OpenClaim := { program := "ytegfpnpghfcopaa", sum := "dc4f3afca1d6d0f9bf48c2db6b1d1d7654a1bb848befcc7dce68b6a0d8367f5f", func := "torchere/torcherelaw11.UnifyTwice", spec := "unifyTwice", unfollowed := true, recurses := true, loops := true, apart := false }
def UnifyTwiceSaid : Prop := unifyTwiceRow.holds Try.pinned (OpenSpec.ofChange unifyTwiceSpec)

/-- ITS FALSE NEIGHBOUR: 'it returns false'. Refute it at one input. -/
def unifyTwiceWrong : ChangeSpec := { name := "unifyTwice", fn := fun _ => fun
  | [d1, d2, d3] => { results := [.lit (.bool false)], args := [d1, d2, d3] }
  | _ => none }
def UnifyTwiceWrongFalsely : Prop := unifyTwiceRow.holds Try.pinned (OpenSpec.ofChange unifyTwiceWrong)

/- THE SECOND FORM. 'bulk': how many values and letters a reading holds, each counted each time it is reached (what is shared counts as often as it is met; a slice's spare places count too). A statement '..UptoSaid' is the law's where the arguments, and the package variables that the reading takes, are together of bulk at most 1048576: NARROWER than '..Said'. Prove '..Said' where nothing that the law and all that it calls make is longer than what came in: it says more and counts as full. Else prove '..UptoSaid'. A law counts once. -/
mutual
def uptoBulk {H : Type} : DataW H → Nat
  | .lit (.string bytes) => bytes.length + 1
  | .lit _ => 1
  | .nil => 1
  | .ptr d => uptoBulk d + 1
  | .slice elems spare => uptoBulkAll elems + uptoBulkAll spare + 1
  | .agg parts => uptoBulkAll parts + 1
  | .iface _ d => uptoBulk d + 1
  | .map entries => uptoBulkEntries entries + 1
  | .held _ => 1
def uptoBulkAll {H : Type} : List (DataW H) → Nat
  | [] => 0
  | d :: r => uptoBulk d + uptoBulkAll r
def uptoBulkEntries {H : Type} : List (Lit × DataW H) → Nat
  | [] => 0
  | x :: r => uptoBulkEntry x + uptoBulkEntries r
def uptoBulkEntry {H : Type} : Lit × DataW H → Nat
  | (.string bytes, d) => bytes.length + uptoBulk d + 1
  | (_, d) => uptoBulk d + 1
 end
def uptoSmall : (H : Type) → List (DataW H) → Bool := fun _ ds => decide (uptoBulkAll ds ≤ 1048576)
def OpenSpec.upto (s : _root_.Go.ChangeSpec) : _root_.Go.OpenSpec := { _root_.Go.OpenSpec.ofChange s with cond := some uptoSmall }

/-- 'torcherelaw11.UnifyOne', WHERE WHAT IT READS IS OF BULK AT MOST 1048576: true; the input reads as it did. -/
def unifyOneUptoRow : OpenClaim := { program := "ytegfpnpghfcopaa", sum := "dc4f3afca1d6d0f9bf48c2db6b1d1d7654a1bb848befcc7dce68b6a0d8367f5f", func := "torchere/torcherelaw11.UnifyOne", spec := "unifyOne", unfollowed := true, recurses := true, loops := true, apart := false, narrowed := true }
def UnifyOneUptoSaid : Prop := unifyOneUptoRow.holds Try.pinned (OpenSpec.upto unifyOneSpec)

/-- 'torcherelaw11.UnifyVars', WHERE WHAT IT READS IS OF BULK AT MOST 1048576: true; the input reads as it did. -/
def unifyVarsUptoRow : OpenClaim := { program := "ytegfpnpghfcopaa", sum := "dc4f3afca1d6d0f9bf48c2db6b1d1d7654a1bb848befcc7dce68b6a0d8367f5f", func := "torchere/torcherelaw11.UnifyVars", spec := "unifyVars", unfollowed := true, recurses := true, loops := true, apart := false, narrowed := true }
def UnifyVarsUptoSaid : Prop := unifyVarsUptoRow.holds Try.pinned (OpenSpec.upto unifyVarsSpec)

/-- 'torcherelaw11.UnifyLists', WHERE WHAT IT READS IS OF BULK AT MOST 1048576: true; the input reads as it did. -/
def unifyListsUptoRow : OpenClaim := { program := "ytegfpnpghfcopaa", sum := "dc4f3afca1d6d0f9bf48c2db6b1d1d7654a1bb848befcc7dce68b6a0d8367f5f", func := "torchere/torcherelaw11.UnifyLists", spec := "unifyLists", unfollowed := true, recurses := true, loops := true, apart := false, narrowed := true }
def UnifyListsUptoSaid : Prop := unifyListsUptoRow.holds Try.pinned (OpenSpec.upto unifyListsSpec)

/-- 'torcherelaw11.UnifyTurned', WHERE WHAT IT READS IS OF BULK AT MOST 1048576: true; the input reads as it did. -/
def unifyTurnedUptoRow : OpenClaim := { program := "ytegfpnpghfcopaa", sum := "dc4f3afca1d6d0f9bf48c2db6b1d1d7654a1bb848befcc7dce68b6a0d8367f5f", func := "torchere/torcherelaw11.UnifyTurned", spec := "unifyTurned", unfollowed := true, recurses := true, loops := true, apart := false, narrowed := true }
def UnifyTurnedUptoSaid : Prop := unifyTurnedUptoRow.holds Try.pinned (OpenSpec.upto unifyTurnedSpec)

/-- 'torcherelaw11.UnifyErased', WHERE WHAT IT READS IS OF BULK AT MOST 1048576: true; the input reads as it did. -/
def unifyErasedUptoRow : OpenClaim := { program := "ytegfpnpghfcopaa", sum := "dc4f3afca1d6d0f9bf48c2db6b1d1d7654a1bb848befcc7dce68b6a0d8367f5f", func := "torchere/torcherelaw11.UnifyErased", spec := "unifyErased", unfollowed := true, recurses := true, loops := true, apart := false, narrowed := true }
def UnifyErasedUptoSaid : Prop := unifyErasedUptoRow.holds Try.pinned (OpenSpec.upto unifyErasedSpec)

/-- 'torcherelaw11.UnifyTwice', WHERE WHAT IT READS IS OF BULK AT MOST 1048576: true; the input reads as it did. -/
def unifyTwiceUptoRow : OpenClaim := { program := "ytegfpnpghfcopaa", sum := "dc4f3afca1d6d0f9bf48c2db6b1d1d7654a1bb848befcc7dce68b6a0d8367f5f", func := "torchere/torcherelaw11.UnifyTwice", spec := "unifyTwice", unfollowed := true, recurses := true, loops := true, apart := false, narrowed := true }
def UnifyTwiceUptoSaid : Prop := unifyTwiceUptoRow.holds Try.pinned (OpenSpec.upto unifyTwiceSpec)

end Rows
end Go.Proofs.Ytegfpnpghfcopaa
