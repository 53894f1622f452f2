/-
  NARROWER THAN 'FOR EVERY INPUT', by the rows' own cells (each row's printed sentence says how): CheckAccepts: loops · CheckMore: loops · CheckStarts: loops · CheckWrites: loops.
  DERIVED. THE GIVEN ROWS OF THIS SEAT. 5 by the template 'for every input the law returns true; each argument reads behind the call as it read before'; 0 by the template 'total and deterministic' (their statements: YtohncglpjiplaaaTotals.lean).
  GIVEN WITH THE SEED: the statements are not yours to turn. If you find one false, say at which input.
  Laid BY PROGRAM, IN A SANDBOX (cutbox-rows.mjs): the forced cells as the released guide's own fill.sh prints them over the translation c17ab0308e09ca31… (all of the seat's roots in one cut). By AI agents, Wed Nov 11 2026. No macro, syntax, notation, axiom, sorry.
-/
import Derived.Test.YtohncglpjiplaaaChecked
import GoSem.Claim
import GoSem.ClaimJoined
import GoSem.ClaimMapViews
import Derived.JoinedTies
import Derived.KernelRfl
namespace Go.Proofs.Ytohncglpjiplaaa
/- THE CELL 'sum', in the pinned program and in every row, IS THE sha256 OF THE DUMP (.gsa) THAT YtohncglpjiplaaaProg.lean LOADS. Nothing in Lean hashes anything: it is a label: what it is worth is what the hold of that sum in a sandbox is worth. -/
noncomputable def Try.pinned : Pinned := { name := "ytohncglpjiplaaa", sum := "c17ab0308e09ca31c954a55d0ff157a6c76e47f4ae4270edb24f75f4421e992a", checked := Try.checked }
namespace Rows
def none {H : Type} : Left H := { results := [], args := [] }

/-- 'torcherelaw18.CheckAccepts': WHATEVER THE INPUT: true; the input reads as it did. -/
def checkAcceptsSpec : ChangeSpec := { name := "checkAccepts", fn := fun _ => fun
  | [d1, d2, d3, d4] => { results := [.lit (.bool true)], args := [d1, d2, d3, d4] }
  | _ => none }
def checkAcceptsRow : OpenClaim := { program := "ytohncglpjiplaaa", sum := "c17ab0308e09ca31c954a55d0ff157a6c76e47f4ae4270edb24f75f4421e992a", func := "torchere/torcherelaw18.CheckAccepts", spec := "checkAccepts", unfollowed := true, recurses := true, loops := true, apart := false }
def CheckAcceptsSaid : Prop := checkAcceptsRow.holds Try.pinned (OpenSpec.ofChange checkAcceptsSpec)

/-- ITS FALSE NEIGHBOUR: 'it returns false'. Refute it at one input. -/
def checkAcceptsWrong : ChangeSpec := { name := "checkAccepts", fn := fun _ => fun
  | [d1, d2, d3, d4] => { results := [.lit (.bool false)], args := [d1, d2, d3, d4] }
  | _ => none }
def CheckAcceptsWrongFalsely : Prop := checkAcceptsRow.holds Try.pinned (OpenSpec.ofChange checkAcceptsWrong)

/-- 'torcherelaw18.CheckMore': WHATEVER THE INPUT: true; the input reads as it did. -/
def checkMoreSpec : ChangeSpec := { name := "checkMore", fn := fun _ => fun
  | [d1, d2, d3, d4] => { results := [.lit (.bool true)], args := [d1, d2, d3, d4] }
  | _ => none }
def checkMoreRow : OpenClaim := { program := "ytohncglpjiplaaa", sum := "c17ab0308e09ca31c954a55d0ff157a6c76e47f4ae4270edb24f75f4421e992a", func := "torchere/torcherelaw18.CheckMore", spec := "checkMore", unfollowed := true, recurses := true, loops := true, apart := false }
def CheckMoreSaid : Prop := checkMoreRow.holds Try.pinned (OpenSpec.ofChange checkMoreSpec)

/-- ITS FALSE NEIGHBOUR: 'it returns false'. Refute it at one input. -/
def checkMoreWrong : ChangeSpec := { name := "checkMore", fn := fun _ => fun
  | [d1, d2, d3, d4] => { results := [.lit (.bool false)], args := [d1, d2, d3, d4] }
  | _ => none }
def CheckMoreWrongFalsely : Prop := checkMoreRow.holds Try.pinned (OpenSpec.ofChange checkMoreWrong)

/-- 'torcherelaw18.CheckBounds': WHATEVER THE INPUT: true; the input reads as it did. -/
def checkBoundsSpec : ChangeSpec := { name := "checkBounds", fn := fun _ => fun
  | [d1, d2, d3, d4] => { results := [.lit (.bool true)], args := [d1, d2, d3, d4] }
  | _ => none }
def checkBoundsRow : OpenClaim := { program := "ytohncglpjiplaaa", sum := "c17ab0308e09ca31c954a55d0ff157a6c76e47f4ae4270edb24f75f4421e992a", func := "torchere/torcherelaw18.CheckBounds", spec := "checkBounds", unfollowed := true, recurses := true, apart := false }
def CheckBoundsSaid : Prop := checkBoundsRow.holds Try.pinned (OpenSpec.ofChange checkBoundsSpec)

/-- ITS FALSE NEIGHBOUR: 'it returns false'. Refute it at one input. -/
def checkBoundsWrong : ChangeSpec := { name := "checkBounds", fn := fun _ => fun
  | [d1, d2, d3, d4] => { results := [.lit (.bool false)], args := [d1, d2, d3, d4] }
  | _ => none }
def CheckBoundsWrongFalsely : Prop := checkBoundsRow.holds Try.pinned (OpenSpec.ofChange checkBoundsWrong)

/-- 'torcherelaw18.CheckStarts': WHATEVER THE INPUT: true; the input reads as it did. -/
def checkStartsSpec : ChangeSpec := { name := "checkStarts", fn := fun _ => fun
  | [d1, d2, d3, d4, d5] => { results := [.lit (.bool true)], args := [d1, d2, d3, d4, d5] }
  | _ => none }
def checkStartsRow : OpenClaim := { program := "ytohncglpjiplaaa", sum := "c17ab0308e09ca31c954a55d0ff157a6c76e47f4ae4270edb24f75f4421e992a", func := "torchere/torcherelaw18.CheckStarts", spec := "checkStarts", unfollowed := true, recurses := true, loops := true, apart := false }
def CheckStartsSaid : Prop := checkStartsRow.holds Try.pinned (OpenSpec.ofChange checkStartsSpec)

/-- ITS FALSE NEIGHBOUR: 'it returns false'. Refute it at one input. -/
def checkStartsWrong : ChangeSpec := { name := "checkStarts", fn := fun _ => fun
  | [d1, d2, d3, d4, d5] => { results := [.lit (.bool false)], args := [d1, d2, d3, d4, d5] }
  | _ => none }
def CheckStartsWrongFalsely : Prop := checkStartsRow.holds Try.pinned (OpenSpec.ofChange checkStartsWrong)

/-- 'torcherelaw18.CheckWrites': WHATEVER THE INPUT: true; the input reads as it did. -/
def checkWritesSpec : ChangeSpec := { name := "checkWrites", fn := fun _ => fun
  | [d1, d2, d3] => { results := [.lit (.bool true)], args := [d1, d2, d3] }
  | _ => none }
def checkWritesRow : OpenClaim := { program := "ytohncglpjiplaaa", sum := "c17ab0308e09ca31c954a55d0ff157a6c76e47f4ae4270edb24f75f4421e992a", func := "torchere/torcherelaw18.CheckWrites", spec := "checkWrites", unfollowed := true, recurses := true, loops := true, apart := false }
def CheckWritesSaid : Prop := checkWritesRow.holds Try.pinned (OpenSpec.ofChange checkWritesSpec)

/-- ITS FALSE NEIGHBOUR: 'it returns false'. Refute it at one input. -/
def checkWritesWrong : ChangeSpec := { name := "checkWrites", fn := fun _ => fun
  | [d1, d2, d3] => { results := [.lit (.bool false)], args := [d1, d2, d3] }
  | _ => none }
def CheckWritesWrongFalsely : Prop := checkWritesRow.holds Try.pinned (OpenSpec.ofChange checkWritesWrong)

/- THE SECOND FORM. 'bulk': how many values and letters a reading holds, each counted each time it is reached (what is shared counts as often as it is met; a slice's spare places count too). A statement '..UptoSaid' is the law's where the arguments, and the package variables that the reading takes, are together of bulk at most 1048576: NARROWER than '..Said'. Prove '..Said' where nothing that the law and all that it calls make is longer than what came in: it says more and counts as full. Else prove '..UptoSaid'. A law counts once. -/
mutual
def uptoBulk {H : Type} : DataW H → Nat
  | .lit (.string bytes) => bytes.length + 1
  | .lit _ => 1
  | .nil => 1
  | .ptr d => uptoBulk d + 1
  | .slice elems spare => uptoBulkAll elems + uptoBulkAll spare + 1
  | .agg parts => uptoBulkAll parts + 1
  | .iface _ d => uptoBulk d + 1
  | .map entries => uptoBulkEntries entries + 1
  | .held _ => 1
def uptoBulkAll {H : Type} : List (DataW H) → Nat
  | [] => 0
  | d :: r => uptoBulk d + uptoBulkAll r
def uptoBulkEntries {H : Type} : List (Lit × DataW H) → Nat
  | [] => 0
  | x :: r => uptoBulkEntry x + uptoBulkEntries r
def uptoBulkEntry {H : Type} : Lit × DataW H → Nat
  | (.string bytes, d) => bytes.length + uptoBulk d + 1
  | (_, d) => uptoBulk d + 1
 end
def uptoSmall : (H : Type) → List (DataW H) → Bool := fun _ ds => decide (uptoBulkAll ds ≤ 1048576)
def OpenSpec.upto (s : _root_.Go.ChangeSpec) : _root_.Go.OpenSpec := { _root_.Go.OpenSpec.ofChange s with cond := some uptoSmall }

/-- 'torcherelaw18.CheckAccepts', WHERE WHAT IT READS IS OF BULK AT MOST 1048576: true; the input reads as it did. -/
def checkAcceptsUptoRow : OpenClaim := { program := "ytohncglpjiplaaa", sum := "c17ab0308e09ca31c954a55d0ff157a6c76e47f4ae4270edb24f75f4421e992a", func := "torchere/torcherelaw18.CheckAccepts", spec := "checkAccepts", unfollowed := true, recurses := true, loops := true, apart := false, narrowed := true }
def CheckAcceptsUptoSaid : Prop := checkAcceptsUptoRow.holds Try.pinned (OpenSpec.upto checkAcceptsSpec)

/-- 'torcherelaw18.CheckMore', WHERE WHAT IT READS IS OF BULK AT MOST 1048576: true; the input reads as it did. -/
def checkMoreUptoRow : OpenClaim := { program := "ytohncglpjiplaaa", sum := "c17ab0308e09ca31c954a55d0ff157a6c76e47f4ae4270edb24f75f4421e992a", func := "torchere/torcherelaw18.CheckMore", spec := "checkMore", unfollowed := true, recurses := true, loops := true, apart := false, narrowed := true }
def CheckMoreUptoSaid : Prop := checkMoreUptoRow.holds Try.pinned (OpenSpec.upto checkMoreSpec)

/-- 'torcherelaw18.CheckBounds', WHERE WHAT IT READS IS OF BULK AT MOST 1048576: true; the input reads as it did. -/
def checkBoundsUptoRow : OpenClaim := { program := "ytohncglpjiplaaa", sum := "c17ab0308e09ca31c954a55d0ff157a6c76e47f4ae4270edb24f75f4421e992a", func := "torchere/torcherelaw18.CheckBounds", spec := "checkBounds", unfollowed := true, recurses := true, apart := false, narrowed := true }
def CheckBoundsUptoSaid : Prop := checkBoundsUptoRow.holds Try.pinned (OpenSpec.upto checkBoundsSpec)

/-- 'torcherelaw18.CheckStarts', WHERE WHAT IT READS IS OF BULK AT MOST 1048576: true; the input reads as it did. -/
def checkStartsUptoRow : OpenClaim := { program := "ytohncglpjiplaaa", sum := "c17ab0308e09ca31c954a55d0ff157a6c76e47f4ae4270edb24f75f4421e992a", func := "torchere/torcherelaw18.CheckStarts", spec := "checkStarts", unfollowed := true, recurses := true, loops := true, apart := false, narrowed := true }
def CheckStartsUptoSaid : Prop := checkStartsUptoRow.holds Try.pinned (OpenSpec.upto checkStartsSpec)

/-- 'torcherelaw18.CheckWrites', WHERE WHAT IT READS IS OF BULK AT MOST 1048576: true; the input reads as it did. -/
def checkWritesUptoRow : OpenClaim := { program := "ytohncglpjiplaaa", sum := "c17ab0308e09ca31c954a55d0ff157a6c76e47f4ae4270edb24f75f4421e992a", func := "torchere/torcherelaw18.CheckWrites", spec := "checkWrites", unfollowed := true, recurses := true, loops := true, apart := false, narrowed := true }
def CheckWritesUptoSaid : Prop := checkWritesUptoRow.holds Try.pinned (OpenSpec.upto checkWritesSpec)

end Rows
end Go.Proofs.Ytohncglpjiplaaa
