/-
  NARROWER THAN 'FOR EVERY INPUT', by the rows' own cells (each row's printed sentence says how): StoreWalks: loops · StoreUndoes: loops · StoreNobody: loops · StoreFulls: loops.
  DERIVED. THE GIVEN ROWS OF THIS SEAT. 5 by the template 'for every input the law returns true; each argument reads behind the call as it read before'; 0 by the template 'total and deterministic' (their statements: YthnhhgchmojcgaaTotals.lean).
  GIVEN WITH THE SEED: the statements are not yours to turn. If you find one false, say at which input.
  Laid BY PROGRAM, IN A SANDBOX (cutbox-rows.mjs): the forced cells as the released guide's own fill.sh prints them over the translation 0097072c8d195eaf… (all of the seat's roots in one cut). By AI agents, Wed Nov 11 2026. No macro, syntax, notation, axiom, sorry.
-/
import Derived.Test.YthnhhgchmojcgaaChecked
import GoSem.Claim
import GoSem.ClaimJoined
import GoSem.ClaimMapViews
import Derived.JoinedTies
import Derived.KernelRfl
namespace Go.Proofs.Ythnhhgchmojcgaa
/- THE CELL 'sum', in the pinned program and in every row, IS THE sha256 OF THE DUMP (.gsa) THAT YthnhhgchmojcgaaProg.lean LOADS. Nothing in Lean hashes anything: it is a label: what it is worth is what the hold of that sum in a sandbox is worth. -/
noncomputable def Try.pinned : Pinned := { name := "ythnhhgchmojcgaa", sum := "0097072c8d195eaf986dc03e603e182398dbd9bd96bb09cb58d140207f481988", checked := Try.checked }
namespace Rows
def none {H : Type} : Left H := { results := [], args := [] }

/-- 'torcherelaw10.StoreWalks': WHATEVER THE INPUT: true; the input reads as it did. -/
def storeWalksSpec : ChangeSpec := { name := "storeWalks", fn := fun _ => fun
  | [d1, d2] => { results := [.lit (.bool true)], args := [d1, d2] }
  | _ => none }
def storeWalksRow : OpenClaim := { program := "ythnhhgchmojcgaa", sum := "0097072c8d195eaf986dc03e603e182398dbd9bd96bb09cb58d140207f481988", func := "torchere/torcherelaw10.StoreWalks", spec := "storeWalks", unfollowed := true, recurses := true, loops := true, apart := false }
def StoreWalksSaid : Prop := storeWalksRow.holds Try.pinned (OpenSpec.ofChange storeWalksSpec)

/-- ITS FALSE NEIGHBOUR: 'it returns false'. Refute it at one input. -/
def storeWalksWrong : ChangeSpec := { name := "storeWalks", fn := fun _ => fun
  | [d1, d2] => { results := [.lit (.bool false)], args := [d1, d2] }
  | _ => none }
def StoreWalksWrongFalsely : Prop := storeWalksRow.holds Try.pinned (OpenSpec.ofChange storeWalksWrong)

/-- 'torcherelaw10.StoreFresh': WHATEVER THE INPUT: true; the input reads as it did. -/
def storeFreshSpec : ChangeSpec := { name := "storeFresh", fn := fun _ => fun
  | [d] => { results := [.lit (.bool true)], args := [d] }
  | _ => none }
def storeFreshRow : OpenClaim := { program := "ythnhhgchmojcgaa", sum := "0097072c8d195eaf986dc03e603e182398dbd9bd96bb09cb58d140207f481988", func := "torchere/torcherelaw10.StoreFresh", spec := "storeFresh", unfollowed := true, recurses := true, apart := false }
def StoreFreshSaid : Prop := storeFreshRow.holds Try.pinned (OpenSpec.ofChange storeFreshSpec)

/-- ITS FALSE NEIGHBOUR: 'it returns false'. Refute it at one input. -/
def storeFreshWrong : ChangeSpec := { name := "storeFresh", fn := fun _ => fun
  | [d] => { results := [.lit (.bool false)], args := [d] }
  | _ => none }
def StoreFreshWrongFalsely : Prop := storeFreshRow.holds Try.pinned (OpenSpec.ofChange storeFreshWrong)

/-- 'torcherelaw10.StoreUndoes': WHATEVER THE INPUT: true; the input reads as it did. -/
def storeUndoesSpec : ChangeSpec := { name := "storeUndoes", fn := fun _ => fun
  | [d1, d2, d3] => { results := [.lit (.bool true)], args := [d1, d2, d3] }
  | _ => none }
def storeUndoesRow : OpenClaim := { program := "ythnhhgchmojcgaa", sum := "0097072c8d195eaf986dc03e603e182398dbd9bd96bb09cb58d140207f481988", func := "torchere/torcherelaw10.StoreUndoes", spec := "storeUndoes", unfollowed := true, recurses := true, loops := true, apart := false }
def StoreUndoesSaid : Prop := storeUndoesRow.holds Try.pinned (OpenSpec.ofChange storeUndoesSpec)

/-- ITS FALSE NEIGHBOUR: 'it returns false'. Refute it at one input. -/
def storeUndoesWrong : ChangeSpec := { name := "storeUndoes", fn := fun _ => fun
  | [d1, d2, d3] => { results := [.lit (.bool false)], args := [d1, d2, d3] }
  | _ => none }
def StoreUndoesWrongFalsely : Prop := storeUndoesRow.holds Try.pinned (OpenSpec.ofChange storeUndoesWrong)

/-- 'torcherelaw10.StoreNobody': WHATEVER THE INPUT: true; the input reads as it did. -/
def storeNobodySpec : ChangeSpec := { name := "storeNobody", fn := fun _ => fun
  | [d1, d2] => { results := [.lit (.bool true)], args := [d1, d2] }
  | _ => none }
def storeNobodyRow : OpenClaim := { program := "ythnhhgchmojcgaa", sum := "0097072c8d195eaf986dc03e603e182398dbd9bd96bb09cb58d140207f481988", func := "torchere/torcherelaw10.StoreNobody", spec := "storeNobody", unfollowed := true, recurses := true, loops := true, apart := false }
def StoreNobodySaid : Prop := storeNobodyRow.holds Try.pinned (OpenSpec.ofChange storeNobodySpec)

/-- ITS FALSE NEIGHBOUR: 'it returns false'. Refute it at one input. -/
def storeNobodyWrong : ChangeSpec := { name := "storeNobody", fn := fun _ => fun
  | [d1, d2] => { results := [.lit (.bool false)], args := [d1, d2] }
  | _ => none }
def StoreNobodyWrongFalsely : Prop := storeNobodyRow.holds Try.pinned (OpenSpec.ofChange storeNobodyWrong)

/-- 'torcherelaw10.StoreFulls': WHATEVER THE INPUT: true; the input reads as it did. -/
def storeFullsSpec : ChangeSpec := { name := "storeFulls", fn := fun _ => fun
  | [d1, d2, d3] => { results := [.lit (.bool true)], args := [d1, d2, d3] }
  | _ => none }
def storeFullsRow : OpenClaim := { program := "ythnhhgchmojcgaa", sum := "0097072c8d195eaf986dc03e603e182398dbd9bd96bb09cb58d140207f481988", func := "torchere/torcherelaw10.StoreFulls", spec := "storeFulls", unfollowed := true, recurses := true, loops := true, apart := false }
def StoreFullsSaid : Prop := storeFullsRow.holds Try.pinned (OpenSpec.ofChange storeFullsSpec)

/-- ITS FALSE NEIGHBOUR: 'it returns false'. Refute it at one input. -/
def storeFullsWrong : ChangeSpec := { name := "storeFulls", fn := fun _ => fun
  | [d1, d2, d3] => { results := [.lit (.bool false)], args := [d1, d2, d3] }
  | _ => none }
def StoreFullsWrongFalsely : Prop := storeFullsRow.holds Try.pinned (OpenSpec.ofChange storeFullsWrong)

/- THE SECOND FORM. 'bulk': how many values and letters a reading holds, each counted each time it is reached (what is shared counts as often as it is met; a slice's spare places count too). A statement '..UptoSaid' is the law's where the arguments, and the package variables that the reading takes, are together of bulk at most 1048576: NARROWER than '..Said'. Prove '..Said' where nothing that the law and all that it calls make is longer than what came in: it says more and counts as full. Else prove '..UptoSaid'. A law counts once. -/
mutual
def uptoBulk {H : Type} : DataW H → Nat
  | .lit (.string bytes) => bytes.length + 1
  | .lit _ => 1
  | .nil => 1
  | .ptr d => uptoBulk d + 1
  | .slice elems spare => uptoBulkAll elems + uptoBulkAll spare + 1
  | .agg parts => uptoBulkAll parts + 1
  | .iface _ d => uptoBulk d + 1
  | .map entries => uptoBulkEntries entries + 1
  | .held _ => 1
def uptoBulkAll {H : Type} : List (DataW H) → Nat
  | [] => 0
  | d :: r => uptoBulk d + uptoBulkAll r
def uptoBulkEntries {H : Type} : List (Lit × DataW H) → Nat
  | [] => 0
  | x :: r => uptoBulkEntry x + uptoBulkEntries r
def uptoBulkEntry {H : Type} : Lit × DataW H → Nat
  | (.string bytes, d) => bytes.length + uptoBulk d + 1
  | (_, d) => uptoBulk d + 1
 end
def uptoSmall : (H : Type) → List (DataW H) → Bool := fun _ ds => decide (uptoBulkAll ds ≤ 1048576)
def OpenSpec.upto (s : _root_.Go.ChangeSpec) : _root_.Go.OpenSpec := { _root_.Go.OpenSpec.ofChange s with cond := some uptoSmall }

/-- 'torcherelaw10.StoreWalks', WHERE WHAT IT READS IS OF BULK AT MOST 1048576: true; the input reads as it did. -/
def storeWalksUptoRow : OpenClaim := { program := "ythnhhgchmojcgaa", sum := "0097072c8d195eaf986dc03e603e182398dbd9bd96bb09cb58d140207f481988", func := "torchere/torcherelaw10.StoreWalks", spec := "storeWalks", unfollowed := true, recurses := true, loops := true, apart := false, narrowed := true }
def StoreWalksUptoSaid : Prop := storeWalksUptoRow.holds Try.pinned (OpenSpec.upto storeWalksSpec)

/-- 'torcherelaw10.StoreFresh', WHERE WHAT IT READS IS OF BULK AT MOST 1048576: true; the input reads as it did. -/
def storeFreshUptoRow : OpenClaim := { program := "ythnhhgchmojcgaa", sum := "0097072c8d195eaf986dc03e603e182398dbd9bd96bb09cb58d140207f481988", func := "torchere/torcherelaw10.StoreFresh", spec := "storeFresh", unfollowed := true, recurses := true, apart := false, narrowed := true }
def StoreFreshUptoSaid : Prop := storeFreshUptoRow.holds Try.pinned (OpenSpec.upto storeFreshSpec)

/-- 'torcherelaw10.StoreUndoes', WHERE WHAT IT READS IS OF BULK AT MOST 1048576: true; the input reads as it did. -/
def storeUndoesUptoRow : OpenClaim := { program := "ythnhhgchmojcgaa", sum := "0097072c8d195eaf986dc03e603e182398dbd9bd96bb09cb58d140207f481988", func := "torchere/torcherelaw10.StoreUndoes", spec := "storeUndoes", unfollowed := true, recurses := true, loops := true, apart := false, narrowed := true }
def StoreUndoesUptoSaid : Prop := storeUndoesUptoRow.holds Try.pinned (OpenSpec.upto storeUndoesSpec)

/-- 'torcherelaw10.StoreNobody', WHERE WHAT IT READS IS OF BULK AT MOST 1048576: true; the input reads as it did. -/
def storeNobodyUptoRow : OpenClaim := { program := "ythnhhgchmojcgaa", sum := "0097072c8d195eaf986dc03e603e182398dbd9bd96bb09cb58d140207f481988", func := "torchere/torcherelaw10.StoreNobody", spec := "storeNobody", unfollowed := true, recurses := true, loops := true, apart := false, narrowed := true }
def StoreNobodyUptoSaid : Prop := storeNobodyUptoRow.holds Try.pinned (OpenSpec.upto storeNobodySpec)

/-- 'torcherelaw10.StoreFulls', WHERE WHAT IT READS IS OF BULK AT MOST 1048576: true; the input reads as it did. -/
def storeFullsUptoRow : OpenClaim := { program := "ythnhhgchmojcgaa", sum := "0097072c8d195eaf986dc03e603e182398dbd9bd96bb09cb58d140207f481988", func := "torchere/torcherelaw10.StoreFulls", spec := "storeFulls", unfollowed := true, recurses := true, loops := true, apart := false, narrowed := true }
def StoreFullsUptoSaid : Prop := storeFullsUptoRow.holds Try.pinned (OpenSpec.upto storeFullsSpec)

end Rows
end Go.Proofs.Ythnhhgchmojcgaa
