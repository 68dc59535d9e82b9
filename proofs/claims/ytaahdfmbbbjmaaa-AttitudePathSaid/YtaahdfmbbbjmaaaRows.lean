/-
  No cell of these rows narrows 'for every input' (looked for: loops, veiled, ifaces, maps, wideKeys, modest, calm, conditions, laid).
  DERIVED. THE GIVEN ROWS OF THIS SEAT. 9 by the template 'for every input the law returns true; each argument reads behind the call as it read before'; 0 by the template 'total and deterministic' (their statements: YtaahdfmbbbjmaaaTotals.lean).
  GIVEN WITH THE SEED: the statements are not yours to turn. If you find one false, say at which input.
  Laid BY PROGRAM, IN A SANDBOX (cutbox-rows.mjs): the forced cells as the released guide's own fill.sh prints them over the translation a0232c2725999924… (all of the seat's roots in one cut). By AI agents, Wed Nov 11 2026. No macro, syntax, notation, axiom, sorry.
-/
import Derived.Test.YtaahdfmbbbjmaaaChecked
import GoSem.Claim
import GoSem.ClaimJoined
import GoSem.ClaimMapViews
import Derived.JoinedTies
import Derived.KernelRfl
namespace Go.Proofs.Ytaahdfmbbbjmaaa
/- THE CELL 'sum', in the pinned program and in every row, IS THE sha256 OF THE DUMP (.gsa) THAT YtaahdfmbbbjmaaaProg.lean LOADS. Nothing in Lean hashes anything: it is a label: what it is worth is what the hold of that sum in a sandbox is worth. -/
noncomputable def Try.pinned : Pinned := { name := "ytaahdfmbbbjmaaa", sum := "a0232c2725999924000209b2cf0045cfbd2689a7324a181aacffa198e3fbae74", checked := Try.checked }
namespace Rows
def none {H : Type} : Left H := { results := [], args := [] }

/-- 'perigeelaw12.AttitudeDirections': WHATEVER THE INPUT: true; the input reads as it did. -/
def attitudeDirectionsSpec : ChangeSpec := { name := "attitudeDirections", fn := fun _ => fun
  | [d1, d2] => { results := [.lit (.bool true)], args := [d1, d2] }
  | _ => none }
def attitudeDirectionsRow : OpenClaim := { program := "ytaahdfmbbbjmaaa", sum := "a0232c2725999924000209b2cf0045cfbd2689a7324a181aacffa198e3fbae74", func := "perigee/perigeelaw12.AttitudeDirections", spec := "attitudeDirections", unfollowed := true, recurses := true, apart := false }
def AttitudeDirectionsSaid : Prop := attitudeDirectionsRow.holds Try.pinned (OpenSpec.ofChange attitudeDirectionsSpec)

/-- ITS FALSE NEIGHBOUR: 'it returns false'. Refute it at one input. -/
def attitudeDirectionsWrong : ChangeSpec := { name := "attitudeDirections", fn := fun _ => fun
  | [d1, d2] => { results := [.lit (.bool false)], args := [d1, d2] }
  | _ => none }
def AttitudeDirectionsWrongFalsely : Prop := attitudeDirectionsRow.holds Try.pinned (OpenSpec.ofChange attitudeDirectionsWrong)

/-- 'perigeelaw12.AttitudeTurns': WHATEVER THE INPUT: true; the input reads as it did. -/
def attitudeTurnsSpec : ChangeSpec := { name := "attitudeTurns", fn := fun _ => fun
  | [d1, d2, d3] => { results := [.lit (.bool true)], args := [d1, d2, d3] }
  | _ => none }
def attitudeTurnsRow : OpenClaim := { program := "ytaahdfmbbbjmaaa", sum := "a0232c2725999924000209b2cf0045cfbd2689a7324a181aacffa198e3fbae74", func := "perigee/perigeelaw12.AttitudeTurns", spec := "attitudeTurns", unfollowed := true, recurses := true, apart := false }
def AttitudeTurnsSaid : Prop := attitudeTurnsRow.holds Try.pinned (OpenSpec.ofChange attitudeTurnsSpec)

/-- ITS FALSE NEIGHBOUR: 'it returns false'. Refute it at one input. -/
def attitudeTurnsWrong : ChangeSpec := { name := "attitudeTurns", fn := fun _ => fun
  | [d1, d2, d3] => { results := [.lit (.bool false)], args := [d1, d2, d3] }
  | _ => none }
def AttitudeTurnsWrongFalsely : Prop := attitudeTurnsRow.holds Try.pinned (OpenSpec.ofChange attitudeTurnsWrong)

/-- 'perigeelaw12.AttitudeSteps': WHATEVER THE INPUT: true; the input reads as it did. -/
def attitudeStepsSpec : ChangeSpec := { name := "attitudeSteps", fn := fun _ => fun
  | [d1, d2, d3] => { results := [.lit (.bool true)], args := [d1, d2, d3] }
  | _ => none }
def attitudeStepsRow : OpenClaim := { program := "ytaahdfmbbbjmaaa", sum := "a0232c2725999924000209b2cf0045cfbd2689a7324a181aacffa198e3fbae74", func := "perigee/perigeelaw12.AttitudeSteps", spec := "attitudeSteps", unfollowed := true, recurses := true, apart := false }
def AttitudeStepsSaid : Prop := attitudeStepsRow.holds Try.pinned (OpenSpec.ofChange attitudeStepsSpec)

/-- ITS FALSE NEIGHBOUR: 'it returns false'. Refute it at one input. -/
def attitudeStepsWrong : ChangeSpec := { name := "attitudeSteps", fn := fun _ => fun
  | [d1, d2, d3] => { results := [.lit (.bool false)], args := [d1, d2, d3] }
  | _ => none }
def AttitudeStepsWrongFalsely : Prop := attitudeStepsRow.holds Try.pinned (OpenSpec.ofChange attitudeStepsWrong)

/-- 'perigeelaw12.AttitudeWorst': WHATEVER THE INPUT: true; the input reads as it did. -/
def attitudeWorstSpec : ChangeSpec := { name := "attitudeWorst", fn := fun _ => fun
  | [d1, d2, d3] => { results := [.lit (.bool true)], args := [d1, d2, d3] }
  | _ => none }
def attitudeWorstRow : OpenClaim := { program := "ytaahdfmbbbjmaaa", sum := "a0232c2725999924000209b2cf0045cfbd2689a7324a181aacffa198e3fbae74", func := "perigee/perigeelaw12.AttitudeWorst", spec := "attitudeWorst", unfollowed := true, recurses := true, apart := false }
def AttitudeWorstSaid : Prop := attitudeWorstRow.holds Try.pinned (OpenSpec.ofChange attitudeWorstSpec)

/-- ITS FALSE NEIGHBOUR: 'it returns false'. Refute it at one input. -/
def attitudeWorstWrong : ChangeSpec := { name := "attitudeWorst", fn := fun _ => fun
  | [d1, d2, d3] => { results := [.lit (.bool false)], args := [d1, d2, d3] }
  | _ => none }
def AttitudeWorstWrongFalsely : Prop := attitudeWorstRow.holds Try.pinned (OpenSpec.ofChange attitudeWorstWrong)

/-- 'perigeelaw12.AttitudePath': WHATEVER THE INPUT: true; the input reads as it did. -/
def attitudePathSpec : ChangeSpec := { name := "attitudePath", fn := fun _ => fun
  | [d1, d2, d3, d4] => { results := [.lit (.bool true)], args := [d1, d2, d3, d4] }
  | _ => none }
def attitudePathRow : OpenClaim := { program := "ytaahdfmbbbjmaaa", sum := "a0232c2725999924000209b2cf0045cfbd2689a7324a181aacffa198e3fbae74", func := "perigee/perigeelaw12.AttitudePath", spec := "attitudePath", unfollowed := true, recurses := true, apart := false }
def AttitudePathSaid : Prop := attitudePathRow.holds Try.pinned (OpenSpec.ofChange attitudePathSpec)

/-- ITS FALSE NEIGHBOUR: 'it returns false'. Refute it at one input. -/
def attitudePathWrong : ChangeSpec := { name := "attitudePath", fn := fun _ => fun
  | [d1, d2, d3, d4] => { results := [.lit (.bool false)], args := [d1, d2, d3, d4] }
  | _ => none }
def AttitudePathWrongFalsely : Prop := attitudePathRow.holds Try.pinned (OpenSpec.ofChange attitudePathWrong)

/-- 'perigeelaw12.AttitudeBack': WHATEVER THE INPUT: true; the input reads as it did. -/
def attitudeBackSpec : ChangeSpec := { name := "attitudeBack", fn := fun _ => fun
  | [d1, d2, d3] => { results := [.lit (.bool true)], args := [d1, d2, d3] }
  | _ => none }
def attitudeBackRow : OpenClaim := { program := "ytaahdfmbbbjmaaa", sum := "a0232c2725999924000209b2cf0045cfbd2689a7324a181aacffa198e3fbae74", func := "perigee/perigeelaw12.AttitudeBack", spec := "attitudeBack", unfollowed := true, recurses := true, apart := false }
def AttitudeBackSaid : Prop := attitudeBackRow.holds Try.pinned (OpenSpec.ofChange attitudeBackSpec)

/-- ITS FALSE NEIGHBOUR: 'it returns false'. Refute it at one input. -/
def attitudeBackWrong : ChangeSpec := { name := "attitudeBack", fn := fun _ => fun
  | [d1, d2, d3] => { results := [.lit (.bool false)], args := [d1, d2, d3] }
  | _ => none }
def AttitudeBackWrongFalsely : Prop := attitudeBackRow.holds Try.pinned (OpenSpec.ofChange attitudeBackWrong)

/-- 'perigeelaw12.AttitudeRotates': WHATEVER THE INPUT: true; the input reads as it did. -/
def attitudeRotatesSpec : ChangeSpec := { name := "attitudeRotates", fn := fun _ => fun
  | [d1, d2, d3, d4] => { results := [.lit (.bool true)], args := [d1, d2, d3, d4] }
  | _ => none }
def attitudeRotatesRow : OpenClaim := { program := "ytaahdfmbbbjmaaa", sum := "a0232c2725999924000209b2cf0045cfbd2689a7324a181aacffa198e3fbae74", func := "perigee/perigeelaw12.AttitudeRotates", spec := "attitudeRotates", unfollowed := true, recurses := true, apart := false }
def AttitudeRotatesSaid : Prop := attitudeRotatesRow.holds Try.pinned (OpenSpec.ofChange attitudeRotatesSpec)

/-- ITS FALSE NEIGHBOUR: 'it returns false'. Refute it at one input. -/
def attitudeRotatesWrong : ChangeSpec := { name := "attitudeRotates", fn := fun _ => fun
  | [d1, d2, d3, d4] => { results := [.lit (.bool false)], args := [d1, d2, d3, d4] }
  | _ => none }
def AttitudeRotatesWrongFalsely : Prop := attitudeRotatesRow.holds Try.pinned (OpenSpec.ofChange attitudeRotatesWrong)

/-- 'perigeelaw12.AttitudeObstacles': WHATEVER THE INPUT: true; the input reads as it did. -/
def attitudeObstaclesSpec : ChangeSpec := { name := "attitudeObstacles", fn := fun _ => fun
  | [d1, d2, d3] => { results := [.lit (.bool true)], args := [d1, d2, d3] }
  | _ => none }
def attitudeObstaclesRow : OpenClaim := { program := "ytaahdfmbbbjmaaa", sum := "a0232c2725999924000209b2cf0045cfbd2689a7324a181aacffa198e3fbae74", func := "perigee/perigeelaw12.AttitudeObstacles", spec := "attitudeObstacles", unfollowed := true, recurses := true, apart := false }
def AttitudeObstaclesSaid : Prop := attitudeObstaclesRow.holds Try.pinned (OpenSpec.ofChange attitudeObstaclesSpec)

/-- ITS FALSE NEIGHBOUR: 'it returns false'. Refute it at one input. -/
def attitudeObstaclesWrong : ChangeSpec := { name := "attitudeObstacles", fn := fun _ => fun
  | [d1, d2, d3] => { results := [.lit (.bool false)], args := [d1, d2, d3] }
  | _ => none }
def AttitudeObstaclesWrongFalsely : Prop := attitudeObstaclesRow.holds Try.pinned (OpenSpec.ofChange attitudeObstaclesWrong)

/-- 'perigeelaw12.AttitudeMoreArcs': WHATEVER THE INPUT: true; the input reads as it did. -/
def attitudeMoreArcsSpec : ChangeSpec := { name := "attitudeMoreArcs", fn := fun _ => fun
  | [d1, d2, d3, d4] => { results := [.lit (.bool true)], args := [d1, d2, d3, d4] }
  | _ => none }
def attitudeMoreArcsRow : OpenClaim := { program := "ytaahdfmbbbjmaaa", sum := "a0232c2725999924000209b2cf0045cfbd2689a7324a181aacffa198e3fbae74", func := "perigee/perigeelaw12.AttitudeMoreArcs", spec := "attitudeMoreArcs", unfollowed := true, recurses := true, apart := false }
def AttitudeMoreArcsSaid : Prop := attitudeMoreArcsRow.holds Try.pinned (OpenSpec.ofChange attitudeMoreArcsSpec)

/-- ITS FALSE NEIGHBOUR: 'it returns false'. Refute it at one input. -/
def attitudeMoreArcsWrong : ChangeSpec := { name := "attitudeMoreArcs", fn := fun _ => fun
  | [d1, d2, d3, d4] => { results := [.lit (.bool false)], args := [d1, d2, d3, d4] }
  | _ => none }
def AttitudeMoreArcsWrongFalsely : Prop := attitudeMoreArcsRow.holds Try.pinned (OpenSpec.ofChange attitudeMoreArcsWrong)

/- THE SECOND FORM. 'bulk': how many values and letters a reading holds, each counted each time it is reached (what is shared counts as often as it is met; a slice's spare places count too). A statement '..UptoSaid' is the law's where the arguments, and the package variables that the reading takes, are together of bulk at most 1048576: NARROWER than '..Said'. Prove '..Said' where nothing that the law and all that it calls make is longer than what came in: it says more and counts as full. Else prove '..UptoSaid'. A law counts once. -/
mutual
def uptoBulk {H : Type} : DataW H → Nat
  | .lit (.string bytes) => bytes.length + 1
  | .lit _ => 1
  | .nil => 1
  | .ptr d => uptoBulk d + 1
  | .slice elems spare => uptoBulkAll elems + uptoBulkAll spare + 1
  | .agg parts => uptoBulkAll parts + 1
  | .iface _ d => uptoBulk d + 1
  | .map entries => uptoBulkEntries entries + 1
  | .held _ => 1
def uptoBulkAll {H : Type} : List (DataW H) → Nat
  | [] => 0
  | d :: r => uptoBulk d + uptoBulkAll r
def uptoBulkEntries {H : Type} : List (Lit × DataW H) → Nat
  | [] => 0
  | x :: r => uptoBulkEntry x + uptoBulkEntries r
def uptoBulkEntry {H : Type} : Lit × DataW H → Nat
  | (.string bytes, d) => bytes.length + uptoBulk d + 1
  | (_, d) => uptoBulk d + 1
 end
def uptoSmall : (H : Type) → List (DataW H) → Bool := fun _ ds => decide (uptoBulkAll ds ≤ 1048576)
def OpenSpec.upto (s : _root_.Go.ChangeSpec) : _root_.Go.OpenSpec := { _root_.Go.OpenSpec.ofChange s with cond := some uptoSmall }

/-- 'perigeelaw12.AttitudeDirections', WHERE WHAT IT READS IS OF BULK AT MOST 1048576: true; the input reads as it did. -/
def attitudeDirectionsUptoRow : OpenClaim := { program := "ytaahdfmbbbjmaaa", sum := "a0232c2725999924000209b2cf0045cfbd2689a7324a181aacffa198e3fbae74", func := "perigee/perigeelaw12.AttitudeDirections", spec := "attitudeDirections", unfollowed := true, recurses := true, apart := false, narrowed := true }
def AttitudeDirectionsUptoSaid : Prop := attitudeDirectionsUptoRow.holds Try.pinned (OpenSpec.upto attitudeDirectionsSpec)

/-- 'perigeelaw12.AttitudeTurns', WHERE WHAT IT READS IS OF BULK AT MOST 1048576: true; the input reads as it did. -/
def attitudeTurnsUptoRow : OpenClaim := { program := "ytaahdfmbbbjmaaa", sum := "a0232c2725999924000209b2cf0045cfbd2689a7324a181aacffa198e3fbae74", func := "perigee/perigeelaw12.AttitudeTurns", spec := "attitudeTurns", unfollowed := true, recurses := true, apart := false, narrowed := true }
def AttitudeTurnsUptoSaid : Prop := attitudeTurnsUptoRow.holds Try.pinned (OpenSpec.upto attitudeTurnsSpec)

/-- 'perigeelaw12.AttitudeSteps', WHERE WHAT IT READS IS OF BULK AT MOST 1048576: true; the input reads as it did. -/
def attitudeStepsUptoRow : OpenClaim := { program := "ytaahdfmbbbjmaaa", sum := "a0232c2725999924000209b2cf0045cfbd2689a7324a181aacffa198e3fbae74", func := "perigee/perigeelaw12.AttitudeSteps", spec := "attitudeSteps", unfollowed := true, recurses := true, apart := false, narrowed := true }
def AttitudeStepsUptoSaid : Prop := attitudeStepsUptoRow.holds Try.pinned (OpenSpec.upto attitudeStepsSpec)

/-- 'perigeelaw12.AttitudeWorst', WHERE WHAT IT READS IS OF BULK AT MOST 1048576: true; the input reads as it did. -/
def attitudeWorstUptoRow : OpenClaim := { program := "ytaahdfmbbbjmaaa", sum := "a0232c2725999924000209b2cf0045cfbd2689a7324a181aacffa198e3fbae74", func := "perigee/perigeelaw12.AttitudeWorst", spec := "attitudeWorst", unfollowed := true, recurses := true, apart := false, narrowed := true }
def AttitudeWorstUptoSaid : Prop := attitudeWorstUptoRow.holds Try.pinned (OpenSpec.upto attitudeWorstSpec)

/-- 'perigeelaw12.AttitudePath', WHERE WHAT IT READS IS OF BULK AT MOST 1048576: true; the input reads as it did. -/
def attitudePathUptoRow : OpenClaim := { program := "ytaahdfmbbbjmaaa", sum := "a0232c2725999924000209b2cf0045cfbd2689a7324a181aacffa198e3fbae74", func := "perigee/perigeelaw12.AttitudePath", spec := "attitudePath", unfollowed := true, recurses := true, apart := false, narrowed := true }
def AttitudePathUptoSaid : Prop := attitudePathUptoRow.holds Try.pinned (OpenSpec.upto attitudePathSpec)

/-- 'perigeelaw12.AttitudeBack', WHERE WHAT IT READS IS OF BULK AT MOST 1048576: true; the input reads as it did. -/
def attitudeBackUptoRow : OpenClaim := { program := "ytaahdfmbbbjmaaa", sum := "a0232c2725999924000209b2cf0045cfbd2689a7324a181aacffa198e3fbae74", func := "perigee/perigeelaw12.AttitudeBack", spec := "attitudeBack", unfollowed := true, recurses := true, apart := false, narrowed := true }
def AttitudeBackUptoSaid : Prop := attitudeBackUptoRow.holds Try.pinned (OpenSpec.upto attitudeBackSpec)

/-- 'perigeelaw12.AttitudeRotates', WHERE WHAT IT READS IS OF BULK AT MOST 1048576: true; the input reads as it did. -/
def attitudeRotatesUptoRow : OpenClaim := { program := "ytaahdfmbbbjmaaa", sum := "a0232c2725999924000209b2cf0045cfbd2689a7324a181aacffa198e3fbae74", func := "perigee/perigeelaw12.AttitudeRotates", spec := "attitudeRotates", unfollowed := true, recurses := true, apart := false, narrowed := true }
def AttitudeRotatesUptoSaid : Prop := attitudeRotatesUptoRow.holds Try.pinned (OpenSpec.upto attitudeRotatesSpec)

/-- 'perigeelaw12.AttitudeObstacles', WHERE WHAT IT READS IS OF BULK AT MOST 1048576: true; the input reads as it did. -/
def attitudeObstaclesUptoRow : OpenClaim := { program := "ytaahdfmbbbjmaaa", sum := "a0232c2725999924000209b2cf0045cfbd2689a7324a181aacffa198e3fbae74", func := "perigee/perigeelaw12.AttitudeObstacles", spec := "attitudeObstacles", unfollowed := true, recurses := true, apart := false, narrowed := true }
def AttitudeObstaclesUptoSaid : Prop := attitudeObstaclesUptoRow.holds Try.pinned (OpenSpec.upto attitudeObstaclesSpec)

/-- 'perigeelaw12.AttitudeMoreArcs', WHERE WHAT IT READS IS OF BULK AT MOST 1048576: true; the input reads as it did. -/
def attitudeMoreArcsUptoRow : OpenClaim := { program := "ytaahdfmbbbjmaaa", sum := "a0232c2725999924000209b2cf0045cfbd2689a7324a181aacffa198e3fbae74", func := "perigee/perigeelaw12.AttitudeMoreArcs", spec := "attitudeMoreArcs", unfollowed := true, recurses := true, apart := false, narrowed := true }
def AttitudeMoreArcsUptoSaid : Prop := attitudeMoreArcsUptoRow.holds Try.pinned (OpenSpec.upto attitudeMoreArcsSpec)

end Rows
end Go.Proofs.Ytaahdfmbbbjmaaa
