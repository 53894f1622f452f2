/-
  NARROWER THAN 'FOR EVERY INPUT', by the rows' own cells (each row's printed sentence says how): DataParses: loops · DataKnowns: loops · DataFacts: loops · DataShares: loops · DataGets: loops · DataLevels: loops · DataBases: loops.
  DERIVED. THE GIVEN ROWS OF THIS SEAT. 7 by the template 'for every input the law returns true; each argument reads behind the call as it read before'; 0 by the template 'total and deterministic' (their statements: YtmokkjmoneablaaTotals.lean).
  GIVEN WITH THE SEED: the statements are not yours to turn. If you find one false, say at which input.
  Laid BY PROGRAM, IN A SANDBOX (cutbox-rows.mjs): the forced cells as the released guide's own fill.sh prints them over the translation 5c65ac9c224c626c… (all of the seat's roots in one cut). By AI agents, Wed Nov 11 2026. No macro, syntax, notation, axiom, sorry.
-/
import Derived.Test.YtmokkjmoneablaaChecked
import GoSem.Claim
import GoSem.ClaimJoined
import GoSem.ClaimMapViews
import Derived.JoinedTies
import Derived.KernelRfl
namespace Go.Proofs.Ytmokkjmoneablaa
/- THE CELL 'sum', in the pinned program and in every row, IS THE sha256 OF THE DUMP (.gsa) THAT YtmokkjmoneablaaProg.lean LOADS. Nothing in Lean hashes anything: it is a label: what it is worth is what the hold of that sum in a sandbox is worth. -/
noncomputable def Try.pinned : Pinned := { name := "ytmokkjmoneablaa", sum := "5c65ac9c224c626c52542783c5ea5b9c47e96fccfba2cb0aafd1b22f61451321", checked := Try.checked }
namespace Rows
def none {H : Type} : Left H := { results := [], args := [] }

/-- 'torcherelaw14.DataParses': WHATEVER THE INPUT: true; the input reads as it did. -/
def dataParsesSpec : ChangeSpec := { name := "dataParses", fn := fun _ => fun
  | [d1, d2] => { results := [.lit (.bool true)], args := [d1, d2] }
  | _ => none }
def dataParsesRow : OpenClaim := { program := "ytmokkjmoneablaa", sum := "5c65ac9c224c626c52542783c5ea5b9c47e96fccfba2cb0aafd1b22f61451321", func := "torchere/torcherelaw14.DataParses", spec := "dataParses", unfollowed := true, recurses := true, loops := true, apart := false }
def DataParsesSaid : Prop := dataParsesRow.holds Try.pinned (OpenSpec.ofChange dataParsesSpec)

/-- ITS FALSE NEIGHBOUR: 'it returns false'. Refute it at one input. -/
def dataParsesWrong : ChangeSpec := { name := "dataParses", fn := fun _ => fun
  | [d1, d2] => { results := [.lit (.bool false)], args := [d1, d2] }
  | _ => none }
def DataParsesWrongFalsely : Prop := dataParsesRow.holds Try.pinned (OpenSpec.ofChange dataParsesWrong)

/-- 'torcherelaw14.DataKnowns': WHATEVER THE INPUT: true; the input reads as it did. -/
def dataKnownsSpec : ChangeSpec := { name := "dataKnowns", fn := fun _ => fun
  | [d1, d2] => { results := [.lit (.bool true)], args := [d1, d2] }
  | _ => none }
def dataKnownsRow : OpenClaim := { program := "ytmokkjmoneablaa", sum := "5c65ac9c224c626c52542783c5ea5b9c47e96fccfba2cb0aafd1b22f61451321", func := "torchere/torcherelaw14.DataKnowns", spec := "dataKnowns", unfollowed := true, recurses := true, loops := true, apart := false }
def DataKnownsSaid : Prop := dataKnownsRow.holds Try.pinned (OpenSpec.ofChange dataKnownsSpec)

/-- ITS FALSE NEIGHBOUR: 'it returns false'. Refute it at one input. -/
def dataKnownsWrong : ChangeSpec := { name := "dataKnowns", fn := fun _ => fun
  | [d1, d2] => { results := [.lit (.bool false)], args := [d1, d2] }
  | _ => none }
def DataKnownsWrongFalsely : Prop := dataKnownsRow.holds Try.pinned (OpenSpec.ofChange dataKnownsWrong)

/-- 'torcherelaw14.DataFacts': WHATEVER THE INPUT: true; the input reads as it did. -/
def dataFactsSpec : ChangeSpec := { name := "dataFacts", fn := fun _ => fun
  | [d1, d2, d3] => { results := [.lit (.bool true)], args := [d1, d2, d3] }
  | _ => none }
def dataFactsRow : OpenClaim := { program := "ytmokkjmoneablaa", sum := "5c65ac9c224c626c52542783c5ea5b9c47e96fccfba2cb0aafd1b22f61451321", func := "torchere/torcherelaw14.DataFacts", spec := "dataFacts", unfollowed := true, recurses := true, loops := true, apart := false }
def DataFactsSaid : Prop := dataFactsRow.holds Try.pinned (OpenSpec.ofChange dataFactsSpec)

/-- ITS FALSE NEIGHBOUR: 'it returns false'. Refute it at one input. -/
def dataFactsWrong : ChangeSpec := { name := "dataFacts", fn := fun _ => fun
  | [d1, d2, d3] => { results := [.lit (.bool false)], args := [d1, d2, d3] }
  | _ => none }
def DataFactsWrongFalsely : Prop := dataFactsRow.holds Try.pinned (OpenSpec.ofChange dataFactsWrong)

/-- 'torcherelaw14.DataShares': WHATEVER THE INPUT: true; the input reads as it did. -/
def dataSharesSpec : ChangeSpec := { name := "dataShares", fn := fun _ => fun
  | [d] => { results := [.lit (.bool true)], args := [d] }
  | _ => none }
def dataSharesRow : OpenClaim := { program := "ytmokkjmoneablaa", sum := "5c65ac9c224c626c52542783c5ea5b9c47e96fccfba2cb0aafd1b22f61451321", func := "torchere/torcherelaw14.DataShares", spec := "dataShares", unfollowed := true, recurses := true, loops := true, apart := false }
def DataSharesSaid : Prop := dataSharesRow.holds Try.pinned (OpenSpec.ofChange dataSharesSpec)

/-- ITS FALSE NEIGHBOUR: 'it returns false'. Refute it at one input. -/
def dataSharesWrong : ChangeSpec := { name := "dataShares", fn := fun _ => fun
  | [d] => { results := [.lit (.bool false)], args := [d] }
  | _ => none }
def DataSharesWrongFalsely : Prop := dataSharesRow.holds Try.pinned (OpenSpec.ofChange dataSharesWrong)

/-- 'torcherelaw14.DataGets': WHATEVER THE INPUT: true; the input reads as it did. -/
def dataGetsSpec : ChangeSpec := { name := "dataGets", fn := fun _ => fun
  | [d1, d2, d3, d4] => { results := [.lit (.bool true)], args := [d1, d2, d3, d4] }
  | _ => none }
def dataGetsRow : OpenClaim := { program := "ytmokkjmoneablaa", sum := "5c65ac9c224c626c52542783c5ea5b9c47e96fccfba2cb0aafd1b22f61451321", func := "torchere/torcherelaw14.DataGets", spec := "dataGets", unfollowed := true, recurses := true, loops := true, apart := false }
def DataGetsSaid : Prop := dataGetsRow.holds Try.pinned (OpenSpec.ofChange dataGetsSpec)

/-- ITS FALSE NEIGHBOUR: 'it returns false'. Refute it at one input. -/
def dataGetsWrong : ChangeSpec := { name := "dataGets", fn := fun _ => fun
  | [d1, d2, d3, d4] => { results := [.lit (.bool false)], args := [d1, d2, d3, d4] }
  | _ => none }
def DataGetsWrongFalsely : Prop := dataGetsRow.holds Try.pinned (OpenSpec.ofChange dataGetsWrong)

/-- 'torcherelaw14.DataLevels': WHATEVER THE INPUT: true; the input reads as it did. -/
def dataLevelsSpec : ChangeSpec := { name := "dataLevels", fn := fun _ => fun
  | [d1, d2, d3] => { results := [.lit (.bool true)], args := [d1, d2, d3] }
  | _ => none }
def dataLevelsRow : OpenClaim := { program := "ytmokkjmoneablaa", sum := "5c65ac9c224c626c52542783c5ea5b9c47e96fccfba2cb0aafd1b22f61451321", func := "torchere/torcherelaw14.DataLevels", spec := "dataLevels", unfollowed := true, recurses := true, loops := true, apart := false }
def DataLevelsSaid : Prop := dataLevelsRow.holds Try.pinned (OpenSpec.ofChange dataLevelsSpec)

/-- ITS FALSE NEIGHBOUR: 'it returns false'. Refute it at one input. -/
def dataLevelsWrong : ChangeSpec := { name := "dataLevels", fn := fun _ => fun
  | [d1, d2, d3] => { results := [.lit (.bool false)], args := [d1, d2, d3] }
  | _ => none }
def DataLevelsWrongFalsely : Prop := dataLevelsRow.holds Try.pinned (OpenSpec.ofChange dataLevelsWrong)

/-- 'torcherelaw14.DataBases': WHATEVER THE INPUT: true; the input reads as it did. -/
def dataBasesSpec : ChangeSpec := { name := "dataBases", fn := fun _ => fun
  | [d1, d2, d3, d4] => { results := [.lit (.bool true)], args := [d1, d2, d3, d4] }
  | _ => none }
def dataBasesRow : OpenClaim := { program := "ytmokkjmoneablaa", sum := "5c65ac9c224c626c52542783c5ea5b9c47e96fccfba2cb0aafd1b22f61451321", func := "torchere/torcherelaw14.DataBases", spec := "dataBases", unfollowed := true, recurses := true, loops := true, apart := false }
def DataBasesSaid : Prop := dataBasesRow.holds Try.pinned (OpenSpec.ofChange dataBasesSpec)

/-- ITS FALSE NEIGHBOUR: 'it returns false'. Refute it at one input. -/
def dataBasesWrong : ChangeSpec := { name := "dataBases", fn := fun _ => fun
  | [d1, d2, d3, d4] => { results := [.lit (.bool false)], args := [d1, d2, d3, d4] }
  | _ => none }
def DataBasesWrongFalsely : Prop := dataBasesRow.holds Try.pinned (OpenSpec.ofChange dataBasesWrong)

/- THE SECOND FORM. 'bulk': how many values and letters a reading holds, each counted each time it is reached (what is shared counts as often as it is met; a slice's spare places count too). A statement '..UptoSaid' is the law's where the arguments, and the package variables that the reading takes, are together of bulk at most 1048576: NARROWER than '..Said'. Prove '..Said' where nothing that the law and all that it calls make is longer than what came in: it says more and counts as full. Else prove '..UptoSaid'. A law counts once. -/
mutual
def uptoBulk {H : Type} : DataW H → Nat
  | .lit (.string bytes) => bytes.length + 1
  | .lit _ => 1
  | .nil => 1
  | .ptr d => uptoBulk d + 1
  | .slice elems spare => uptoBulkAll elems + uptoBulkAll spare + 1
  | .agg parts => uptoBulkAll parts + 1
  | .iface _ d => uptoBulk d + 1
  | .map entries => uptoBulkEntries entries + 1
  | .held _ => 1
def uptoBulkAll {H : Type} : List (DataW H) → Nat
  | [] => 0
  | d :: r => uptoBulk d + uptoBulkAll r
def uptoBulkEntries {H : Type} : List (Lit × DataW H) → Nat
  | [] => 0
  | x :: r => uptoBulkEntry x + uptoBulkEntries r
def uptoBulkEntry {H : Type} : Lit × DataW H → Nat
  | (.string bytes, d) => bytes.length + uptoBulk d + 1
  | (_, d) => uptoBulk d + 1
 end
def uptoSmall : (H : Type) → List (DataW H) → Bool := fun _ ds => decide (uptoBulkAll ds ≤ 1048576)
def OpenSpec.upto (s : _root_.Go.ChangeSpec) : _root_.Go.OpenSpec := { _root_.Go.OpenSpec.ofChange s with cond := some uptoSmall }

/-- 'torcherelaw14.DataParses', WHERE WHAT IT READS IS OF BULK AT MOST 1048576: true; the input reads as it did. -/
def dataParsesUptoRow : OpenClaim := { program := "ytmokkjmoneablaa", sum := "5c65ac9c224c626c52542783c5ea5b9c47e96fccfba2cb0aafd1b22f61451321", func := "torchere/torcherelaw14.DataParses", spec := "dataParses", unfollowed := true, recurses := true, loops := true, apart := false, narrowed := true }
def DataParsesUptoSaid : Prop := dataParsesUptoRow.holds Try.pinned (OpenSpec.upto dataParsesSpec)

/-- 'torcherelaw14.DataKnowns', WHERE WHAT IT READS IS OF BULK AT MOST 1048576: true; the input reads as it did. -/
def dataKnownsUptoRow : OpenClaim := { program := "ytmokkjmoneablaa", sum := "5c65ac9c224c626c52542783c5ea5b9c47e96fccfba2cb0aafd1b22f61451321", func := "torchere/torcherelaw14.DataKnowns", spec := "dataKnowns", unfollowed := true, recurses := true, loops := true, apart := false, narrowed := true }
def DataKnownsUptoSaid : Prop := dataKnownsUptoRow.holds Try.pinned (OpenSpec.upto dataKnownsSpec)

/-- 'torcherelaw14.DataFacts', WHERE WHAT IT READS IS OF BULK AT MOST 1048576: true; the input reads as it did. -/
def dataFactsUptoRow : OpenClaim := { program := "ytmokkjmoneablaa", sum := "5c65ac9c224c626c52542783c5ea5b9c47e96fccfba2cb0aafd1b22f61451321", func := "torchere/torcherelaw14.DataFacts", spec := "dataFacts", unfollowed := true, recurses := true, loops := true, apart := false, narrowed := true }
def DataFactsUptoSaid : Prop := dataFactsUptoRow.holds Try.pinned (OpenSpec.upto dataFactsSpec)

/-- 'torcherelaw14.DataShares', WHERE WHAT IT READS IS OF BULK AT MOST 1048576: true; the input reads as it did. -/
def dataSharesUptoRow : OpenClaim := { program := "ytmokkjmoneablaa", sum := "5c65ac9c224c626c52542783c5ea5b9c47e96fccfba2cb0aafd1b22f61451321", func := "torchere/torcherelaw14.DataShares", spec := "dataShares", unfollowed := true, recurses := true, loops := true, apart := false, narrowed := true }
def DataSharesUptoSaid : Prop := dataSharesUptoRow.holds Try.pinned (OpenSpec.upto dataSharesSpec)

/-- 'torcherelaw14.DataGets', WHERE WHAT IT READS IS OF BULK AT MOST 1048576: true; the input reads as it did. -/
def dataGetsUptoRow : OpenClaim := { program := "ytmokkjmoneablaa", sum := "5c65ac9c224c626c52542783c5ea5b9c47e96fccfba2cb0aafd1b22f61451321", func := "torchere/torcherelaw14.DataGets", spec := "dataGets", unfollowed := true, recurses := true, loops := true, apart := false, narrowed := true }
def DataGetsUptoSaid : Prop := dataGetsUptoRow.holds Try.pinned (OpenSpec.upto dataGetsSpec)

/-- 'torcherelaw14.DataLevels', WHERE WHAT IT READS IS OF BULK AT MOST 1048576: true; the input reads as it did. -/
def dataLevelsUptoRow : OpenClaim := { program := "ytmokkjmoneablaa", sum := "5c65ac9c224c626c52542783c5ea5b9c47e96fccfba2cb0aafd1b22f61451321", func := "torchere/torcherelaw14.DataLevels", spec := "dataLevels", unfollowed := true, recurses := true, loops := true, apart := false, narrowed := true }
def DataLevelsUptoSaid : Prop := dataLevelsUptoRow.holds Try.pinned (OpenSpec.upto dataLevelsSpec)

/-- 'torcherelaw14.DataBases', WHERE WHAT IT READS IS OF BULK AT MOST 1048576: true; the input reads as it did. -/
def dataBasesUptoRow : OpenClaim := { program := "ytmokkjmoneablaa", sum := "5c65ac9c224c626c52542783c5ea5b9c47e96fccfba2cb0aafd1b22f61451321", func := "torchere/torcherelaw14.DataBases", spec := "dataBases", unfollowed := true, recurses := true, loops := true, apart := false, narrowed := true }
def DataBasesUptoSaid : Prop := dataBasesUptoRow.holds Try.pinned (OpenSpec.upto dataBasesSpec)

end Rows
end Go.Proofs.Ytmokkjmoneablaa
