/-
  No cell of these rows narrows 'for every input' (looked for: loops, veiled, ifaces, maps, wideKeys, modest, calm, conditions, laid).
  DERIVED. THE GIVEN ROWS OF THIS SEAT. 7 by the template 'for every input the law returns true; each argument reads behind the call as it read before'; 0 by the template 'total and deterministic' (their statements: YtgfmnolghbiedaaTotals.lean).
  GIVEN WITH THE SEED: the statements are not yours to turn. If you find one false, say at which input.
  Laid BY PROGRAM, IN A SANDBOX (cutbox-rows.mjs): the forced cells as the released guide's own fill.sh prints them over the translation 9b8e273579771479… (all of the seat's roots in one cut). By AI agents, Wed Nov 11 2026. No macro, syntax, notation, axiom, sorry.
-/
import Derived.Test.YtgfmnolghbiedaaChecked
import GoSem.Claim
import GoSem.ClaimJoined
import GoSem.ClaimMapViews
import Derived.JoinedTies
import Derived.KernelRfl
namespace Go.Proofs.Ytgfmnolghbiedaa
/- THE CELL 'sum', in the pinned program and in every row, IS THE sha256 OF THE DUMP (.gsa) THAT YtgfmnolghbiedaaProg.lean LOADS. Nothing in Lean hashes anything: it is a label: what it is worth is what the hold of that sum in a sandbox is worth. -/
noncomputable def Try.pinned : Pinned := { name := "ytgfmnolghbiedaa", sum := "9b8e273579771479513ff21dea6b7383fc376939dc84c520d021847c46d6b394", checked := Try.checked }
namespace Rows
def none {H : Type} : Left H := { results := [], args := [] }

/-- 'perigeelaw30.DiagnoseChecks': WHATEVER THE INPUT: true; the input reads as it did. -/
def diagnoseChecksSpec : ChangeSpec := { name := "diagnoseChecks", fn := fun _ => fun
  | [d1, d2, d3, d4] => { results := [.lit (.bool true)], args := [d1, d2, d3, d4] }
  | _ => none }
def diagnoseChecksRow : OpenClaim := { program := "ytgfmnolghbiedaa", sum := "9b8e273579771479513ff21dea6b7383fc376939dc84c520d021847c46d6b394", func := "perigee/perigeelaw30.DiagnoseChecks", spec := "diagnoseChecks", unfollowed := true, recurses := true, apart := false }
def DiagnoseChecksSaid : Prop := diagnoseChecksRow.holds Try.pinned (OpenSpec.ofChange diagnoseChecksSpec)

/-- ITS FALSE NEIGHBOUR: 'it returns false'. Refute it at one input. -/
def diagnoseChecksWrong : ChangeSpec := { name := "diagnoseChecks", fn := fun _ => fun
  | [d1, d2, d3, d4] => { results := [.lit (.bool false)], args := [d1, d2, d3, d4] }
  | _ => none }
def DiagnoseChecksWrongFalsely : Prop := diagnoseChecksRow.holds Try.pinned (OpenSpec.ofChange diagnoseChecksWrong)

/-- 'perigeelaw30.DiagnoseLeast': WHATEVER THE INPUT: true; the input reads as it did. -/
def diagnoseLeastSpec : ChangeSpec := { name := "diagnoseLeast", fn := fun _ => fun
  | [d1, d2, d3, d4] => { results := [.lit (.bool true)], args := [d1, d2, d3, d4] }
  | _ => none }
def diagnoseLeastRow : OpenClaim := { program := "ytgfmnolghbiedaa", sum := "9b8e273579771479513ff21dea6b7383fc376939dc84c520d021847c46d6b394", func := "perigee/perigeelaw30.DiagnoseLeast", spec := "diagnoseLeast", unfollowed := true, recurses := true, apart := false }
def DiagnoseLeastSaid : Prop := diagnoseLeastRow.holds Try.pinned (OpenSpec.ofChange diagnoseLeastSpec)

/-- ITS FALSE NEIGHBOUR: 'it returns false'. Refute it at one input. -/
def diagnoseLeastWrong : ChangeSpec := { name := "diagnoseLeast", fn := fun _ => fun
  | [d1, d2, d3, d4] => { results := [.lit (.bool false)], args := [d1, d2, d3, d4] }
  | _ => none }
def DiagnoseLeastWrongFalsely : Prop := diagnoseLeastRow.holds Try.pinned (OpenSpec.ofChange diagnoseLeastWrong)

/-- 'perigeelaw30.DiagnoseCertain': WHATEVER THE INPUT: true; the input reads as it did. -/
def diagnoseCertainSpec : ChangeSpec := { name := "diagnoseCertain", fn := fun _ => fun
  | [d1, d2, d3, d4] => { results := [.lit (.bool true)], args := [d1, d2, d3, d4] }
  | _ => none }
def diagnoseCertainRow : OpenClaim := { program := "ytgfmnolghbiedaa", sum := "9b8e273579771479513ff21dea6b7383fc376939dc84c520d021847c46d6b394", func := "perigee/perigeelaw30.DiagnoseCertain", spec := "diagnoseCertain", unfollowed := true, recurses := true, apart := false }
def DiagnoseCertainSaid : Prop := diagnoseCertainRow.holds Try.pinned (OpenSpec.ofChange diagnoseCertainSpec)

/-- ITS FALSE NEIGHBOUR: 'it returns false'. Refute it at one input. -/
def diagnoseCertainWrong : ChangeSpec := { name := "diagnoseCertain", fn := fun _ => fun
  | [d1, d2, d3, d4] => { results := [.lit (.bool false)], args := [d1, d2, d3, d4] }
  | _ => none }
def DiagnoseCertainWrongFalsely : Prop := diagnoseCertainRow.holds Try.pinned (OpenSpec.ofChange diagnoseCertainWrong)

/-- 'perigeelaw30.DiagnoseMinimal': WHATEVER THE INPUT: true; the input reads as it did. -/
def diagnoseMinimalSpec : ChangeSpec := { name := "diagnoseMinimal", fn := fun _ => fun
  | [d1, d2, d3, d4, d5] => { results := [.lit (.bool true)], args := [d1, d2, d3, d4, d5] }
  | _ => none }
def diagnoseMinimalRow : OpenClaim := { program := "ytgfmnolghbiedaa", sum := "9b8e273579771479513ff21dea6b7383fc376939dc84c520d021847c46d6b394", func := "perigee/perigeelaw30.DiagnoseMinimal", spec := "diagnoseMinimal", unfollowed := true, recurses := true, apart := false }
def DiagnoseMinimalSaid : Prop := diagnoseMinimalRow.holds Try.pinned (OpenSpec.ofChange diagnoseMinimalSpec)

/-- ITS FALSE NEIGHBOUR: 'it returns false'. Refute it at one input. -/
def diagnoseMinimalWrong : ChangeSpec := { name := "diagnoseMinimal", fn := fun _ => fun
  | [d1, d2, d3, d4, d5] => { results := [.lit (.bool false)], args := [d1, d2, d3, d4, d5] }
  | _ => none }
def DiagnoseMinimalWrongFalsely : Prop := diagnoseMinimalRow.holds Try.pinned (OpenSpec.ofChange diagnoseMinimalWrong)

/-- 'perigeelaw30.DiagnoseCandidates': WHATEVER THE INPUT: true; the input reads as it did. -/
def diagnoseCandidatesSpec : ChangeSpec := { name := "diagnoseCandidates", fn := fun _ => fun
  | [d1, d2, d3, d4] => { results := [.lit (.bool true)], args := [d1, d2, d3, d4] }
  | _ => none }
def diagnoseCandidatesRow : OpenClaim := { program := "ytgfmnolghbiedaa", sum := "9b8e273579771479513ff21dea6b7383fc376939dc84c520d021847c46d6b394", func := "perigee/perigeelaw30.DiagnoseCandidates", spec := "diagnoseCandidates", unfollowed := true, recurses := true, apart := false }
def DiagnoseCandidatesSaid : Prop := diagnoseCandidatesRow.holds Try.pinned (OpenSpec.ofChange diagnoseCandidatesSpec)

/-- ITS FALSE NEIGHBOUR: 'it returns false'. Refute it at one input. -/
def diagnoseCandidatesWrong : ChangeSpec := { name := "diagnoseCandidates", fn := fun _ => fun
  | [d1, d2, d3, d4] => { results := [.lit (.bool false)], args := [d1, d2, d3, d4] }
  | _ => none }
def DiagnoseCandidatesWrongFalsely : Prop := diagnoseCandidatesRow.holds Try.pinned (OpenSpec.ofChange diagnoseCandidatesWrong)

/-- 'perigeelaw30.DiagnoseMore': WHATEVER THE INPUT: true; the input reads as it did. -/
def diagnoseMoreSpec : ChangeSpec := { name := "diagnoseMore", fn := fun _ => fun
  | [d1, d2, d3, d4, d5, d6] => { results := [.lit (.bool true)], args := [d1, d2, d3, d4, d5, d6] }
  | _ => none }
def diagnoseMoreRow : OpenClaim := { program := "ytgfmnolghbiedaa", sum := "9b8e273579771479513ff21dea6b7383fc376939dc84c520d021847c46d6b394", func := "perigee/perigeelaw30.DiagnoseMore", spec := "diagnoseMore", unfollowed := true, recurses := true, apart := false }
def DiagnoseMoreSaid : Prop := diagnoseMoreRow.holds Try.pinned (OpenSpec.ofChange diagnoseMoreSpec)

/-- ITS FALSE NEIGHBOUR: 'it returns false'. Refute it at one input. -/
def diagnoseMoreWrong : ChangeSpec := { name := "diagnoseMore", fn := fun _ => fun
  | [d1, d2, d3, d4, d5, d6] => { results := [.lit (.bool false)], args := [d1, d2, d3, d4, d5, d6] }
  | _ => none }
def DiagnoseMoreWrongFalsely : Prop := diagnoseMoreRow.holds Try.pinned (OpenSpec.ofChange diagnoseMoreWrong)

/-- 'perigeelaw30.DiagnoseTruth': WHATEVER THE INPUT: true; the input reads as it did. -/
def diagnoseTruthSpec : ChangeSpec := { name := "diagnoseTruth", fn := fun _ => fun
  | [d1, d2, d3, d4] => { results := [.lit (.bool true)], args := [d1, d2, d3, d4] }
  | _ => none }
def diagnoseTruthRow : OpenClaim := { program := "ytgfmnolghbiedaa", sum := "9b8e273579771479513ff21dea6b7383fc376939dc84c520d021847c46d6b394", func := "perigee/perigeelaw30.DiagnoseTruth", spec := "diagnoseTruth", unfollowed := true, recurses := true, apart := false }
def DiagnoseTruthSaid : Prop := diagnoseTruthRow.holds Try.pinned (OpenSpec.ofChange diagnoseTruthSpec)

/-- ITS FALSE NEIGHBOUR: 'it returns false'. Refute it at one input. -/
def diagnoseTruthWrong : ChangeSpec := { name := "diagnoseTruth", fn := fun _ => fun
  | [d1, d2, d3, d4] => { results := [.lit (.bool false)], args := [d1, d2, d3, d4] }
  | _ => none }
def DiagnoseTruthWrongFalsely : Prop := diagnoseTruthRow.holds Try.pinned (OpenSpec.ofChange diagnoseTruthWrong)

/- THE SECOND FORM. 'bulk': how many values and letters a reading holds, each counted each time it is reached (what is shared counts as often as it is met; a slice's spare places count too). A statement '..UptoSaid' is the law's where the arguments, and the package variables that the reading takes, are together of bulk at most 1048576: NARROWER than '..Said'. Prove '..Said' where nothing that the law and all that it calls make is longer than what came in: it says more and counts as full. Else prove '..UptoSaid'. A law counts once. -/
mutual
def uptoBulk {H : Type} : DataW H → Nat
  | .lit (.string bytes) => bytes.length + 1
  | .lit _ => 1
  | .nil => 1
  | .ptr d => uptoBulk d + 1
  | .slice elems spare => uptoBulkAll elems + uptoBulkAll spare + 1
  | .agg parts => uptoBulkAll parts + 1
  | .iface _ d => uptoBulk d + 1
  | .map entries => uptoBulkEntries entries + 1
  | .held _ => 1
def uptoBulkAll {H : Type} : List (DataW H) → Nat
  | [] => 0
  | d :: r => uptoBulk d + uptoBulkAll r
def uptoBulkEntries {H : Type} : List (Lit × DataW H) → Nat
  | [] => 0
  | x :: r => uptoBulkEntry x + uptoBulkEntries r
def uptoBulkEntry {H : Type} : Lit × DataW H → Nat
  | (.string bytes, d) => bytes.length + uptoBulk d + 1
  | (_, d) => uptoBulk d + 1
 end
def uptoSmall : (H : Type) → List (DataW H) → Bool := fun _ ds => decide (uptoBulkAll ds ≤ 1048576)
def OpenSpec.upto (s : _root_.Go.ChangeSpec) : _root_.Go.OpenSpec := { _root_.Go.OpenSpec.ofChange s with cond := some uptoSmall }

/-- 'perigeelaw30.DiagnoseChecks', WHERE WHAT IT READS IS OF BULK AT MOST 1048576: true; the input reads as it did. -/
def diagnoseChecksUptoRow : OpenClaim := { program := "ytgfmnolghbiedaa", sum := "9b8e273579771479513ff21dea6b7383fc376939dc84c520d021847c46d6b394", func := "perigee/perigeelaw30.DiagnoseChecks", spec := "diagnoseChecks", unfollowed := true, recurses := true, apart := false, narrowed := true }
def DiagnoseChecksUptoSaid : Prop := diagnoseChecksUptoRow.holds Try.pinned (OpenSpec.upto diagnoseChecksSpec)

/-- 'perigeelaw30.DiagnoseLeast', WHERE WHAT IT READS IS OF BULK AT MOST 1048576: true; the input reads as it did. -/
def diagnoseLeastUptoRow : OpenClaim := { program := "ytgfmnolghbiedaa", sum := "9b8e273579771479513ff21dea6b7383fc376939dc84c520d021847c46d6b394", func := "perigee/perigeelaw30.DiagnoseLeast", spec := "diagnoseLeast", unfollowed := true, recurses := true, apart := false, narrowed := true }
def DiagnoseLeastUptoSaid : Prop := diagnoseLeastUptoRow.holds Try.pinned (OpenSpec.upto diagnoseLeastSpec)

/-- 'perigeelaw30.DiagnoseCertain', WHERE WHAT IT READS IS OF BULK AT MOST 1048576: true; the input reads as it did. -/
def diagnoseCertainUptoRow : OpenClaim := { program := "ytgfmnolghbiedaa", sum := "9b8e273579771479513ff21dea6b7383fc376939dc84c520d021847c46d6b394", func := "perigee/perigeelaw30.DiagnoseCertain", spec := "diagnoseCertain", unfollowed := true, recurses := true, apart := false, narrowed := true }
def DiagnoseCertainUptoSaid : Prop := diagnoseCertainUptoRow.holds Try.pinned (OpenSpec.upto diagnoseCertainSpec)

/-- 'perigeelaw30.DiagnoseMinimal', WHERE WHAT IT READS IS OF BULK AT MOST 1048576: true; the input reads as it did. -/
def diagnoseMinimalUptoRow : OpenClaim := { program := "ytgfmnolghbiedaa", sum := "9b8e273579771479513ff21dea6b7383fc376939dc84c520d021847c46d6b394", func := "perigee/perigeelaw30.DiagnoseMinimal", spec := "diagnoseMinimal", unfollowed := true, recurses := true, apart := false, narrowed := true }
def DiagnoseMinimalUptoSaid : Prop := diagnoseMinimalUptoRow.holds Try.pinned (OpenSpec.upto diagnoseMinimalSpec)

/-- 'perigeelaw30.DiagnoseCandidates', WHERE WHAT IT READS IS OF BULK AT MOST 1048576: true; the input reads as it did. -/
def diagnoseCandidatesUptoRow : OpenClaim := { program := "ytgfmnolghbiedaa", sum := "9b8e273579771479513ff21dea6b7383fc376939dc84c520d021847c46d6b394", func := "perigee/perigeelaw30.DiagnoseCandidates", spec := "diagnoseCandidates", unfollowed := true, recurses := true, apart := false, narrowed := true }
def DiagnoseCandidatesUptoSaid : Prop := diagnoseCandidatesUptoRow.holds Try.pinned (OpenSpec.upto diagnoseCandidatesSpec)

/-- 'perigeelaw30.DiagnoseMore', WHERE WHAT IT READS IS OF BULK AT MOST 1048576: true; the input reads as it did. -/
def diagnoseMoreUptoRow : OpenClaim := { program := "ytgfmnolghbiedaa", sum := "9b8e273579771479513ff21dea6b7383fc376939dc84c520d021847c46d6b394", func := "perigee/perigeelaw30.DiagnoseMore", spec := "diagnoseMore", unfollowed := true, recurses := true, apart := false, narrowed := true }
def DiagnoseMoreUptoSaid : Prop := diagnoseMoreUptoRow.holds Try.pinned (OpenSpec.upto diagnoseMoreSpec)

/-- 'perigeelaw30.DiagnoseTruth', WHERE WHAT IT READS IS OF BULK AT MOST 1048576: true; the input reads as it did. -/
def diagnoseTruthUptoRow : OpenClaim := { program := "ytgfmnolghbiedaa", sum := "9b8e273579771479513ff21dea6b7383fc376939dc84c520d021847c46d6b394", func := "perigee/perigeelaw30.DiagnoseTruth", spec := "diagnoseTruth", unfollowed := true, recurses := true, apart := false, narrowed := true }
def DiagnoseTruthUptoSaid : Prop := diagnoseTruthUptoRow.holds Try.pinned (OpenSpec.upto diagnoseTruthSpec)

end Rows
end Go.Proofs.Ytgfmnolghbiedaa
