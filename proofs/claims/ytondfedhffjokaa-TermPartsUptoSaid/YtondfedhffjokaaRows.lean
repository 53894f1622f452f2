/-
  NARROWER THAN 'FOR EVERY INPUT', by the rows' own cells (each row's printed sentence says how): TermChecks: loops · TermVars: loops · TermSame: loops · TermMakes: loops · TermParts: loops · TermShifts: loops.
  DERIVED. THE GIVEN ROWS OF THIS SEAT. 7 by the template 'for every input the law returns true; each argument reads behind the call as it read before'; 0 by the template 'total and deterministic' (their statements: YtondfedhffjokaaTotals.lean).
  GIVEN WITH THE SEED: the statements are not yours to turn. If you find one false, say at which input.
  Laid BY PROGRAM, IN A SANDBOX (cutbox-rows.mjs): the forced cells as the released guide's own fill.sh prints them over the translation 5bda48855766c699… (all of the seat's roots in one cut). By AI agents, Wed Nov 11 2026. No macro, syntax, notation, axiom, sorry.
-/
import Derived.Test.YtondfedhffjokaaChecked
import GoSem.Claim
import GoSem.ClaimJoined
import GoSem.ClaimMapViews
import Derived.JoinedTies
import Derived.KernelRfl
namespace Go.Proofs.Ytondfedhffjokaa
/- THE CELL 'sum', in the pinned program and in every row, IS THE sha256 OF THE DUMP (.gsa) THAT YtondfedhffjokaaProg.lean LOADS. Nothing in Lean hashes anything: it is a label: what it is worth is what the hold of that sum in a sandbox is worth. -/
noncomputable def Try.pinned : Pinned := { name := "ytondfedhffjokaa", sum := "5bda48855766c6997dcfb8c0c0e109eaee68fa3a16233b8ea68b20ee603e7faa", checked := Try.checked }
namespace Rows
def none {H : Type} : Left H := { results := [], args := [] }

/-- 'torcherelaw03.TermChecks': WHATEVER THE INPUT: true; the input reads as it did. -/
def termChecksSpec : ChangeSpec := { name := "termChecks", fn := fun _ => fun
  | [d1, d2, d3] => { results := [.lit (.bool true)], args := [d1, d2, d3] }
  | _ => none }
def termChecksRow : OpenClaim := { program := "ytondfedhffjokaa", sum := "5bda48855766c6997dcfb8c0c0e109eaee68fa3a16233b8ea68b20ee603e7faa", func := "torchere/torcherelaw03.TermChecks", spec := "termChecks", unfollowed := true, recurses := true, loops := true, apart := false }
def TermChecksSaid : Prop := termChecksRow.holds Try.pinned (OpenSpec.ofChange termChecksSpec)

/-- ITS FALSE NEIGHBOUR: 'it returns false'. Refute it at one input. -/
def termChecksWrong : ChangeSpec := { name := "termChecks", fn := fun _ => fun
  | [d1, d2, d3] => { results := [.lit (.bool false)], args := [d1, d2, d3] }
  | _ => none }
def TermChecksWrongFalsely : Prop := termChecksRow.holds Try.pinned (OpenSpec.ofChange termChecksWrong)

/-- 'torcherelaw03.TermVars': WHATEVER THE INPUT: true; the input reads as it did. -/
def termVarsSpec : ChangeSpec := { name := "termVars", fn := fun _ => fun
  | [d1, d2] => { results := [.lit (.bool true)], args := [d1, d2] }
  | _ => none }
def termVarsRow : OpenClaim := { program := "ytondfedhffjokaa", sum := "5bda48855766c6997dcfb8c0c0e109eaee68fa3a16233b8ea68b20ee603e7faa", func := "torchere/torcherelaw03.TermVars", spec := "termVars", unfollowed := true, recurses := true, loops := true, apart := false }
def TermVarsSaid : Prop := termVarsRow.holds Try.pinned (OpenSpec.ofChange termVarsSpec)

/-- ITS FALSE NEIGHBOUR: 'it returns false'. Refute it at one input. -/
def termVarsWrong : ChangeSpec := { name := "termVars", fn := fun _ => fun
  | [d1, d2] => { results := [.lit (.bool false)], args := [d1, d2] }
  | _ => none }
def TermVarsWrongFalsely : Prop := termVarsRow.holds Try.pinned (OpenSpec.ofChange termVarsWrong)

/-- 'torcherelaw03.TermTall': WHATEVER THE INPUT: true; the input reads as it did. -/
def termTallSpec : ChangeSpec := { name := "termTall", fn := fun _ => fun
  | [d1, d2] => { results := [.lit (.bool true)], args := [d1, d2] }
  | _ => none }
def termTallRow : OpenClaim := { program := "ytondfedhffjokaa", sum := "5bda48855766c6997dcfb8c0c0e109eaee68fa3a16233b8ea68b20ee603e7faa", func := "torchere/torcherelaw03.TermTall", spec := "termTall", unfollowed := true, recurses := true, apart := false }
def TermTallSaid : Prop := termTallRow.holds Try.pinned (OpenSpec.ofChange termTallSpec)

/-- ITS FALSE NEIGHBOUR: 'it returns false'. Refute it at one input. -/
def termTallWrong : ChangeSpec := { name := "termTall", fn := fun _ => fun
  | [d1, d2] => { results := [.lit (.bool false)], args := [d1, d2] }
  | _ => none }
def TermTallWrongFalsely : Prop := termTallRow.holds Try.pinned (OpenSpec.ofChange termTallWrong)

/-- 'torcherelaw03.TermSame': WHATEVER THE INPUT: true; the input reads as it did. -/
def termSameSpec : ChangeSpec := { name := "termSame", fn := fun _ => fun
  | [d1, d2] => { results := [.lit (.bool true)], args := [d1, d2] }
  | _ => none }
def termSameRow : OpenClaim := { program := "ytondfedhffjokaa", sum := "5bda48855766c6997dcfb8c0c0e109eaee68fa3a16233b8ea68b20ee603e7faa", func := "torchere/torcherelaw03.TermSame", spec := "termSame", unfollowed := true, recurses := true, loops := true, apart := false }
def TermSameSaid : Prop := termSameRow.holds Try.pinned (OpenSpec.ofChange termSameSpec)

/-- ITS FALSE NEIGHBOUR: 'it returns false'. Refute it at one input. -/
def termSameWrong : ChangeSpec := { name := "termSame", fn := fun _ => fun
  | [d1, d2] => { results := [.lit (.bool false)], args := [d1, d2] }
  | _ => none }
def TermSameWrongFalsely : Prop := termSameRow.holds Try.pinned (OpenSpec.ofChange termSameWrong)

/-- 'torcherelaw03.TermMakes': WHATEVER THE INPUT: true; the input reads as it did. -/
def termMakesSpec : ChangeSpec := { name := "termMakes", fn := fun _ => fun
  | [d1, d2, d3, d4] => { results := [.lit (.bool true)], args := [d1, d2, d3, d4] }
  | _ => none }
def termMakesRow : OpenClaim := { program := "ytondfedhffjokaa", sum := "5bda48855766c6997dcfb8c0c0e109eaee68fa3a16233b8ea68b20ee603e7faa", func := "torchere/torcherelaw03.TermMakes", spec := "termMakes", unfollowed := true, recurses := true, loops := true, apart := false }
def TermMakesSaid : Prop := termMakesRow.holds Try.pinned (OpenSpec.ofChange termMakesSpec)

/-- ITS FALSE NEIGHBOUR: 'it returns false'. Refute it at one input. -/
def termMakesWrong : ChangeSpec := { name := "termMakes", fn := fun _ => fun
  | [d1, d2, d3, d4] => { results := [.lit (.bool false)], args := [d1, d2, d3, d4] }
  | _ => none }
def TermMakesWrongFalsely : Prop := termMakesRow.holds Try.pinned (OpenSpec.ofChange termMakesWrong)

/-- 'torcherelaw03.TermParts': WHATEVER THE INPUT: true; the input reads as it did. -/
def termPartsSpec : ChangeSpec := { name := "termParts", fn := fun _ => fun
  | [d1, d2, d3, d4] => { results := [.lit (.bool true)], args := [d1, d2, d3, d4] }
  | _ => none }
def termPartsRow : OpenClaim := { program := "ytondfedhffjokaa", sum := "5bda48855766c6997dcfb8c0c0e109eaee68fa3a16233b8ea68b20ee603e7faa", func := "torchere/torcherelaw03.TermParts", spec := "termParts", unfollowed := true, recurses := true, loops := true, apart := false }
def TermPartsSaid : Prop := termPartsRow.holds Try.pinned (OpenSpec.ofChange termPartsSpec)

/-- ITS FALSE NEIGHBOUR: 'it returns false'. Refute it at one input. -/
def termPartsWrong : ChangeSpec := { name := "termParts", fn := fun _ => fun
  | [d1, d2, d3, d4] => { results := [.lit (.bool false)], args := [d1, d2, d3, d4] }
  | _ => none }
def TermPartsWrongFalsely : Prop := termPartsRow.holds Try.pinned (OpenSpec.ofChange termPartsWrong)

/-- 'torcherelaw03.TermShifts': WHATEVER THE INPUT: true; the input reads as it did. -/
def termShiftsSpec : ChangeSpec := { name := "termShifts", fn := fun _ => fun
  | [d1, d2, d3] => { results := [.lit (.bool true)], args := [d1, d2, d3] }
  | _ => none }
def termShiftsRow : OpenClaim := { program := "ytondfedhffjokaa", sum := "5bda48855766c6997dcfb8c0c0e109eaee68fa3a16233b8ea68b20ee603e7faa", func := "torchere/torcherelaw03.TermShifts", spec := "termShifts", unfollowed := true, recurses := true, loops := true, apart := false }
def TermShiftsSaid : Prop := termShiftsRow.holds Try.pinned (OpenSpec.ofChange termShiftsSpec)

/-- ITS FALSE NEIGHBOUR: 'it returns false'. Refute it at one input. -/
def termShiftsWrong : ChangeSpec := { name := "termShifts", fn := fun _ => fun
  | [d1, d2, d3] => { results := [.lit (.bool false)], args := [d1, d2, d3] }
  | _ => none }
def TermShiftsWrongFalsely : Prop := termShiftsRow.holds Try.pinned (OpenSpec.ofChange termShiftsWrong)

/- THE SECOND FORM. 'bulk': how many values and letters a reading holds, each counted each time it is reached (what is shared counts as often as it is met; a slice's spare places count too). A statement '..UptoSaid' is the law's where the arguments, and the package variables that the reading takes, are together of bulk at most 1048576: NARROWER than '..Said'. Prove '..Said' where nothing that the law and all that it calls make is longer than what came in: it says more and counts as full. Else prove '..UptoSaid'. A law counts once. -/
mutual
def uptoBulk {H : Type} : DataW H → Nat
  | .lit (.string bytes) => bytes.length + 1
  | .lit _ => 1
  | .nil => 1
  | .ptr d => uptoBulk d + 1
  | .slice elems spare => uptoBulkAll elems + uptoBulkAll spare + 1
  | .agg parts => uptoBulkAll parts + 1
  | .iface _ d => uptoBulk d + 1
  | .map entries => uptoBulkEntries entries + 1
  | .held _ => 1
def uptoBulkAll {H : Type} : List (DataW H) → Nat
  | [] => 0
  | d :: r => uptoBulk d + uptoBulkAll r
def uptoBulkEntries {H : Type} : List (Lit × DataW H) → Nat
  | [] => 0
  | x :: r => uptoBulkEntry x + uptoBulkEntries r
def uptoBulkEntry {H : Type} : Lit × DataW H → Nat
  | (.string bytes, d) => bytes.length + uptoBulk d + 1
  | (_, d) => uptoBulk d + 1
 end
def uptoSmall : (H : Type) → List (DataW H) → Bool := fun _ ds => decide (uptoBulkAll ds ≤ 1048576)
def OpenSpec.upto (s : _root_.Go.ChangeSpec) : _root_.Go.OpenSpec := { _root_.Go.OpenSpec.ofChange s with cond := some uptoSmall }

/-- 'torcherelaw03.TermChecks', WHERE WHAT IT READS IS OF BULK AT MOST 1048576: true; the input reads as it did. -/
def termChecksUptoRow : OpenClaim := { program := "ytondfedhffjokaa", sum := "5bda48855766c6997dcfb8c0c0e109eaee68fa3a16233b8ea68b20ee603e7faa", func := "torchere/torcherelaw03.TermChecks", spec := "termChecks", unfollowed := true, recurses := true, loops := true, apart := false, narrowed := true }
def TermChecksUptoSaid : Prop := termChecksUptoRow.holds Try.pinned (OpenSpec.upto termChecksSpec)

/-- 'torcherelaw03.TermVars', WHERE WHAT IT READS IS OF BULK AT MOST 1048576: true; the input reads as it did. -/
def termVarsUptoRow : OpenClaim := { program := "ytondfedhffjokaa", sum := "5bda48855766c6997dcfb8c0c0e109eaee68fa3a16233b8ea68b20ee603e7faa", func := "torchere/torcherelaw03.TermVars", spec := "termVars", unfollowed := true, recurses := true, loops := true, apart := false, narrowed := true }
def TermVarsUptoSaid : Prop := termVarsUptoRow.holds Try.pinned (OpenSpec.upto termVarsSpec)

/-- 'torcherelaw03.TermTall', WHERE WHAT IT READS IS OF BULK AT MOST 1048576: true; the input reads as it did. -/
def termTallUptoRow : OpenClaim := { program := "ytondfedhffjokaa", sum := "5bda48855766c6997dcfb8c0c0e109eaee68fa3a16233b8ea68b20ee603e7faa", func := "torchere/torcherelaw03.TermTall", spec := "termTall", unfollowed := true, recurses := true, apart := false, narrowed := true }
def TermTallUptoSaid : Prop := termTallUptoRow.holds Try.pinned (OpenSpec.upto termTallSpec)

/-- 'torcherelaw03.TermSame', WHERE WHAT IT READS IS OF BULK AT MOST 1048576: true; the input reads as it did. -/
def termSameUptoRow : OpenClaim := { program := "ytondfedhffjokaa", sum := "5bda48855766c6997dcfb8c0c0e109eaee68fa3a16233b8ea68b20ee603e7faa", func := "torchere/torcherelaw03.TermSame", spec := "termSame", unfollowed := true, recurses := true, loops := true, apart := false, narrowed := true }
def TermSameUptoSaid : Prop := termSameUptoRow.holds Try.pinned (OpenSpec.upto termSameSpec)

/-- 'torcherelaw03.TermMakes', WHERE WHAT IT READS IS OF BULK AT MOST 1048576: true; the input reads as it did. -/
def termMakesUptoRow : OpenClaim := { program := "ytondfedhffjokaa", sum := "5bda48855766c6997dcfb8c0c0e109eaee68fa3a16233b8ea68b20ee603e7faa", func := "torchere/torcherelaw03.TermMakes", spec := "termMakes", unfollowed := true, recurses := true, loops := true, apart := false, narrowed := true }
def TermMakesUptoSaid : Prop := termMakesUptoRow.holds Try.pinned (OpenSpec.upto termMakesSpec)

/-- 'torcherelaw03.TermParts', WHERE WHAT IT READS IS OF BULK AT MOST 1048576: true; the input reads as it did. -/
def termPartsUptoRow : OpenClaim := { program := "ytondfedhffjokaa", sum := "5bda48855766c6997dcfb8c0c0e109eaee68fa3a16233b8ea68b20ee603e7faa", func := "torchere/torcherelaw03.TermParts", spec := "termParts", unfollowed := true, recurses := true, loops := true, apart := false, narrowed := true }
def TermPartsUptoSaid : Prop := termPartsUptoRow.holds Try.pinned (OpenSpec.upto termPartsSpec)

/-- 'torcherelaw03.TermShifts', WHERE WHAT IT READS IS OF BULK AT MOST 1048576: true; the input reads as it did. -/
def termShiftsUptoRow : OpenClaim := { program := "ytondfedhffjokaa", sum := "5bda48855766c6997dcfb8c0c0e109eaee68fa3a16233b8ea68b20ee603e7faa", func := "torchere/torcherelaw03.TermShifts", spec := "termShifts", unfollowed := true, recurses := true, loops := true, apart := false, narrowed := true }
def TermShiftsUptoSaid : Prop := termShiftsUptoRow.holds Try.pinned (OpenSpec.upto termShiftsSpec)

end Rows
end Go.Proofs.Ytondfedhffjokaa
