/-
  No cell of these rows narrows 'for every input' (looked for: loops, veiled, ifaces, maps, wideKeys, modest, calm, conditions, laid).
  DERIVED. THE GIVEN ROWS OF THIS SEAT. 19 by the template 'for every input the law returns true; each argument reads behind the call as it read before'; 0 by the template 'total and deterministic' (their statements: YtlogokjjphlkkaaTotals.lean).
  GIVEN WITH THE SEED: the statements are not yours to turn. If you find one false, say at which input.
  Laid BY PROGRAM, IN A SANDBOX (cutbox-rows.mjs): the forced cells as the released guide's own fill.sh prints them over the translation d1b502a9fb460c99… (all of the seat's roots in one cut). By AI agents, Wed Nov 11 2026. No macro, syntax, notation, axiom, sorry.
-/
import Derived.Test.YtlogokjjphlkkaaChecked
import GoSem.Claim
import GoSem.ClaimJoined
import GoSem.ClaimMapViews
import Derived.JoinedTies
import Derived.KernelRfl
namespace Go.Proofs.Ytlogokjjphlkkaa
/- THE CELL 'sum', in the pinned program and in every row, IS THE sha256 OF THE DUMP (.gsa) THAT YtlogokjjphlkkaaProg.lean LOADS. Nothing in Lean hashes anything: it is a label: what it is worth is what the hold of that sum in a sandbox is worth. -/
noncomputable def Try.pinned : Pinned := { name := "ytlogokjjphlkkaa", sum := "d1b502a9fb460c9926187a37a2cce23b91073f9f2c32ec8e20a0bf023ea5ff0c", checked := Try.checked }
namespace Rows
def none {H : Type} : Left H := { results := [], args := [] }

/-- 'perigeelaw28.TelemetryPredict': WHATEVER THE INPUT: true; the input reads as it did. -/
def telemetryPredictSpec : ChangeSpec := { name := "telemetryPredict", fn := fun _ => fun
  | [d1, d2, d3] => { results := [.lit (.bool true)], args := [d1, d2, d3] }
  | _ => none }
def telemetryPredictRow : OpenClaim := { program := "ytlogokjjphlkkaa", sum := "d1b502a9fb460c9926187a37a2cce23b91073f9f2c32ec8e20a0bf023ea5ff0c", func := "perigee/perigeelaw28.TelemetryPredict", spec := "telemetryPredict", unfollowed := true, recurses := true, apart := false }
def TelemetryPredictSaid : Prop := telemetryPredictRow.holds Try.pinned (OpenSpec.ofChange telemetryPredictSpec)

/-- ITS FALSE NEIGHBOUR: 'it returns false'. Refute it at one input. -/
def telemetryPredictWrong : ChangeSpec := { name := "telemetryPredict", fn := fun _ => fun
  | [d1, d2, d3] => { results := [.lit (.bool false)], args := [d1, d2, d3] }
  | _ => none }
def TelemetryPredictWrongFalsely : Prop := telemetryPredictRow.holds Try.pinned (OpenSpec.ofChange telemetryPredictWrong)

/-- 'perigeelaw28.TelemetryDecode': WHATEVER THE INPUT: true; the input reads as it did. -/
def telemetryDecodeSpec : ChangeSpec := { name := "telemetryDecode", fn := fun _ => fun
  | [d1, d2] => { results := [.lit (.bool true)], args := [d1, d2] }
  | _ => none }
def telemetryDecodeRow : OpenClaim := { program := "ytlogokjjphlkkaa", sum := "d1b502a9fb460c9926187a37a2cce23b91073f9f2c32ec8e20a0bf023ea5ff0c", func := "perigee/perigeelaw28.TelemetryDecode", spec := "telemetryDecode", unfollowed := true, recurses := true, apart := false }
def TelemetryDecodeSaid : Prop := telemetryDecodeRow.holds Try.pinned (OpenSpec.ofChange telemetryDecodeSpec)

/-- ITS FALSE NEIGHBOUR: 'it returns false'. Refute it at one input. -/
def telemetryDecodeWrong : ChangeSpec := { name := "telemetryDecode", fn := fun _ => fun
  | [d1, d2] => { results := [.lit (.bool false)], args := [d1, d2] }
  | _ => none }
def TelemetryDecodeWrongFalsely : Prop := telemetryDecodeRow.holds Try.pinned (OpenSpec.ofChange telemetryDecodeWrong)

/-- 'perigeelaw28.TelemetryBack': WHATEVER THE INPUT: true; the input reads as it did. -/
def telemetryBackSpec : ChangeSpec := { name := "telemetryBack", fn := fun _ => fun
  | [d1, d2, d3, d4, d5, d6, d7] => { results := [.lit (.bool true)], args := [d1, d2, d3, d4, d5, d6, d7] }
  | _ => none }
def telemetryBackRow : OpenClaim := { program := "ytlogokjjphlkkaa", sum := "d1b502a9fb460c9926187a37a2cce23b91073f9f2c32ec8e20a0bf023ea5ff0c", func := "perigee/perigeelaw28.TelemetryBack", spec := "telemetryBack", unfollowed := true, recurses := true, apart := false }
def TelemetryBackSaid : Prop := telemetryBackRow.holds Try.pinned (OpenSpec.ofChange telemetryBackSpec)

/-- ITS FALSE NEIGHBOUR: 'it returns false'. Refute it at one input. -/
def telemetryBackWrong : ChangeSpec := { name := "telemetryBack", fn := fun _ => fun
  | [d1, d2, d3, d4, d5, d6, d7] => { results := [.lit (.bool false)], args := [d1, d2, d3, d4, d5, d6, d7] }
  | _ => none }
def TelemetryBackWrongFalsely : Prop := telemetryBackRow.holds Try.pinned (OpenSpec.ofChange telemetryBackWrong)

/-- 'perigeelaw28.TelemetryRoom': WHATEVER THE INPUT: true; the input reads as it did. -/
def telemetryRoomSpec : ChangeSpec := { name := "telemetryRoom", fn := fun _ => fun
  | [d1, d2, d3, d4, d5, d6, d7] => { results := [.lit (.bool true)], args := [d1, d2, d3, d4, d5, d6, d7] }
  | _ => none }
def telemetryRoomRow : OpenClaim := { program := "ytlogokjjphlkkaa", sum := "d1b502a9fb460c9926187a37a2cce23b91073f9f2c32ec8e20a0bf023ea5ff0c", func := "perigee/perigeelaw28.TelemetryRoom", spec := "telemetryRoom", unfollowed := true, recurses := true, apart := false }
def TelemetryRoomSaid : Prop := telemetryRoomRow.holds Try.pinned (OpenSpec.ofChange telemetryRoomSpec)

/-- ITS FALSE NEIGHBOUR: 'it returns false'. Refute it at one input. -/
def telemetryRoomWrong : ChangeSpec := { name := "telemetryRoom", fn := fun _ => fun
  | [d1, d2, d3, d4, d5, d6, d7] => { results := [.lit (.bool false)], args := [d1, d2, d3, d4, d5, d6, d7] }
  | _ => none }
def TelemetryRoomWrongFalsely : Prop := telemetryRoomRow.holds Try.pinned (OpenSpec.ofChange telemetryRoomWrong)

/-- 'perigeelaw28.TelemetryNew': WHATEVER THE INPUT: true; the input reads as it did. -/
def telemetryNewSpec : ChangeSpec := { name := "telemetryNew", fn := fun _ => fun
  | [d1, d2] => { results := [.lit (.bool true)], args := [d1, d2] }
  | _ => none }
def telemetryNewRow : OpenClaim := { program := "ytlogokjjphlkkaa", sum := "d1b502a9fb460c9926187a37a2cce23b91073f9f2c32ec8e20a0bf023ea5ff0c", func := "perigee/perigeelaw28.TelemetryNew", spec := "telemetryNew", unfollowed := true, recurses := true, apart := false }
def TelemetryNewSaid : Prop := telemetryNewRow.holds Try.pinned (OpenSpec.ofChange telemetryNewSpec)

/-- ITS FALSE NEIGHBOUR: 'it returns false'. Refute it at one input. -/
def telemetryNewWrong : ChangeSpec := { name := "telemetryNew", fn := fun _ => fun
  | [d1, d2] => { results := [.lit (.bool false)], args := [d1, d2] }
  | _ => none }
def TelemetryNewWrongFalsely : Prop := telemetryNewRow.holds Try.pinned (OpenSpec.ofChange telemetryNewWrong)

/-- 'perigeelaw28.TelemetryScript': WHATEVER THE INPUT: true; the input reads as it did. -/
def telemetryScriptSpec : ChangeSpec := { name := "telemetryScript", fn := fun _ => fun
  | [d1, d2] => { results := [.lit (.bool true)], args := [d1, d2] }
  | _ => none }
def telemetryScriptRow : OpenClaim := { program := "ytlogokjjphlkkaa", sum := "d1b502a9fb460c9926187a37a2cce23b91073f9f2c32ec8e20a0bf023ea5ff0c", func := "perigee/perigeelaw28.TelemetryScript", spec := "telemetryScript", unfollowed := true, recurses := true, apart := false }
def TelemetryScriptSaid : Prop := telemetryScriptRow.holds Try.pinned (OpenSpec.ofChange telemetryScriptSpec)

/-- ITS FALSE NEIGHBOUR: 'it returns false'. Refute it at one input. -/
def telemetryScriptWrong : ChangeSpec := { name := "telemetryScript", fn := fun _ => fun
  | [d1, d2] => { results := [.lit (.bool false)], args := [d1, d2] }
  | _ => none }
def TelemetryScriptWrongFalsely : Prop := telemetryScriptRow.holds Try.pinned (OpenSpec.ofChange telemetryScriptWrong)

/-- 'perigeelaw28.TelemetrySync': WHATEVER THE INPUT: true; the input reads as it did. -/
def telemetrySyncSpec : ChangeSpec := { name := "telemetrySync", fn := fun _ => fun
  | [d1, d2] => { results := [.lit (.bool true)], args := [d1, d2] }
  | _ => none }
def telemetrySyncRow : OpenClaim := { program := "ytlogokjjphlkkaa", sum := "d1b502a9fb460c9926187a37a2cce23b91073f9f2c32ec8e20a0bf023ea5ff0c", func := "perigee/perigeelaw28.TelemetrySync", spec := "telemetrySync", unfollowed := true, recurses := true, apart := false }
def TelemetrySyncSaid : Prop := telemetrySyncRow.holds Try.pinned (OpenSpec.ofChange telemetrySyncSpec)

/-- ITS FALSE NEIGHBOUR: 'it returns false'. Refute it at one input. -/
def telemetrySyncWrong : ChangeSpec := { name := "telemetrySync", fn := fun _ => fun
  | [d1, d2] => { results := [.lit (.bool false)], args := [d1, d2] }
  | _ => none }
def TelemetrySyncWrongFalsely : Prop := telemetrySyncRow.holds Try.pinned (OpenSpec.ofChange telemetrySyncWrong)

/-- 'perigeelaw29.MonitorChecks': WHATEVER THE INPUT: true; the input reads as it did. -/
def monitorChecksSpec : ChangeSpec := { name := "monitorChecks", fn := fun _ => fun
  | [d1, d2, d3] => { results := [.lit (.bool true)], args := [d1, d2, d3] }
  | _ => none }
def monitorChecksRow : OpenClaim := { program := "ytlogokjjphlkkaa", sum := "d1b502a9fb460c9926187a37a2cce23b91073f9f2c32ec8e20a0bf023ea5ff0c", func := "perigee/perigeelaw29.MonitorChecks", spec := "monitorChecks", unfollowed := true, recurses := true, apart := false }
def MonitorChecksSaid : Prop := monitorChecksRow.holds Try.pinned (OpenSpec.ofChange monitorChecksSpec)

/-- ITS FALSE NEIGHBOUR: 'it returns false'. Refute it at one input. -/
def monitorChecksWrong : ChangeSpec := { name := "monitorChecks", fn := fun _ => fun
  | [d1, d2, d3] => { results := [.lit (.bool false)], args := [d1, d2, d3] }
  | _ => none }
def MonitorChecksWrongFalsely : Prop := monitorChecksRow.holds Try.pinned (OpenSpec.ofChange monitorChecksWrong)

/-- 'perigeelaw29.MonitorSteps': WHATEVER THE INPUT: true; the input reads as it did. -/
def monitorStepsSpec : ChangeSpec := { name := "monitorSteps", fn := fun _ => fun
  | [d1, d2, d3, d4] => { results := [.lit (.bool true)], args := [d1, d2, d3, d4] }
  | _ => none }
def monitorStepsRow : OpenClaim := { program := "ytlogokjjphlkkaa", sum := "d1b502a9fb460c9926187a37a2cce23b91073f9f2c32ec8e20a0bf023ea5ff0c", func := "perigee/perigeelaw29.MonitorSteps", spec := "monitorSteps", unfollowed := true, recurses := true, apart := false }
def MonitorStepsSaid : Prop := monitorStepsRow.holds Try.pinned (OpenSpec.ofChange monitorStepsSpec)

/-- ITS FALSE NEIGHBOUR: 'it returns false'. Refute it at one input. -/
def monitorStepsWrong : ChangeSpec := { name := "monitorSteps", fn := fun _ => fun
  | [d1, d2, d3, d4] => { results := [.lit (.bool false)], args := [d1, d2, d3, d4] }
  | _ => none }
def MonitorStepsWrongFalsely : Prop := monitorStepsRow.holds Try.pinned (OpenSpec.ofChange monitorStepsWrong)

/-- 'perigeelaw29.MonitorFilters': WHATEVER THE INPUT: true; the input reads as it did. -/
def monitorFiltersSpec : ChangeSpec := { name := "monitorFilters", fn := fun _ => fun
  | [d1, d2] => { results := [.lit (.bool true)], args := [d1, d2] }
  | _ => none }
def monitorFiltersRow : OpenClaim := { program := "ytlogokjjphlkkaa", sum := "d1b502a9fb460c9926187a37a2cce23b91073f9f2c32ec8e20a0bf023ea5ff0c", func := "perigee/perigeelaw29.MonitorFilters", spec := "monitorFilters", unfollowed := true, recurses := true, apart := false }
def MonitorFiltersSaid : Prop := monitorFiltersRow.holds Try.pinned (OpenSpec.ofChange monitorFiltersSpec)

/-- ITS FALSE NEIGHBOUR: 'it returns false'. Refute it at one input. -/
def monitorFiltersWrong : ChangeSpec := { name := "monitorFilters", fn := fun _ => fun
  | [d1, d2] => { results := [.lit (.bool false)], args := [d1, d2] }
  | _ => none }
def MonitorFiltersWrongFalsely : Prop := monitorFiltersRow.holds Try.pinned (OpenSpec.ofChange monitorFiltersWrong)

/-- 'perigeelaw29.MonitorDelays': WHATEVER THE INPUT: true; the input reads as it did. -/
def monitorDelaysSpec : ChangeSpec := { name := "monitorDelays", fn := fun _ => fun
  | [d1, d2] => { results := [.lit (.bool true)], args := [d1, d2] }
  | _ => none }
def monitorDelaysRow : OpenClaim := { program := "ytlogokjjphlkkaa", sum := "d1b502a9fb460c9926187a37a2cce23b91073f9f2c32ec8e20a0bf023ea5ff0c", func := "perigee/perigeelaw29.MonitorDelays", spec := "monitorDelays", unfollowed := true, recurses := true, apart := false }
def MonitorDelaysSaid : Prop := monitorDelaysRow.holds Try.pinned (OpenSpec.ofChange monitorDelaysSpec)

/-- ITS FALSE NEIGHBOUR: 'it returns false'. Refute it at one input. -/
def monitorDelaysWrong : ChangeSpec := { name := "monitorDelays", fn := fun _ => fun
  | [d1, d2] => { results := [.lit (.bool false)], args := [d1, d2] }
  | _ => none }
def MonitorDelaysWrongFalsely : Prop := monitorDelaysRow.holds Try.pinned (OpenSpec.ofChange monitorDelaysWrong)

/-- 'perigeelaw29.MonitorAlternates': WHATEVER THE INPUT: true; the input reads as it did. -/
def monitorAlternatesSpec : ChangeSpec := { name := "monitorAlternates", fn := fun _ => fun
  | [d1, d2] => { results := [.lit (.bool true)], args := [d1, d2] }
  | _ => none }
def monitorAlternatesRow : OpenClaim := { program := "ytlogokjjphlkkaa", sum := "d1b502a9fb460c9926187a37a2cce23b91073f9f2c32ec8e20a0bf023ea5ff0c", func := "perigee/perigeelaw29.MonitorAlternates", spec := "monitorAlternates", unfollowed := true, recurses := true, apart := false }
def MonitorAlternatesSaid : Prop := monitorAlternatesRow.holds Try.pinned (OpenSpec.ofChange monitorAlternatesSpec)

/-- ITS FALSE NEIGHBOUR: 'it returns false'. Refute it at one input. -/
def monitorAlternatesWrong : ChangeSpec := { name := "monitorAlternates", fn := fun _ => fun
  | [d1, d2] => { results := [.lit (.bool false)], args := [d1, d2] }
  | _ => none }
def MonitorAlternatesWrongFalsely : Prop := monitorAlternatesRow.holds Try.pinned (OpenSpec.ofChange monitorAlternatesWrong)

/-- 'perigeelaw29.MonitorMonotone': WHATEVER THE INPUT: true; the input reads as it did. -/
def monitorMonotoneSpec : ChangeSpec := { name := "monitorMonotone", fn := fun _ => fun
  | [d1, d2, d3] => { results := [.lit (.bool true)], args := [d1, d2, d3] }
  | _ => none }
def monitorMonotoneRow : OpenClaim := { program := "ytlogokjjphlkkaa", sum := "d1b502a9fb460c9926187a37a2cce23b91073f9f2c32ec8e20a0bf023ea5ff0c", func := "perigee/perigeelaw29.MonitorMonotone", spec := "monitorMonotone", unfollowed := true, recurses := true, apart := false }
def MonitorMonotoneSaid : Prop := monitorMonotoneRow.holds Try.pinned (OpenSpec.ofChange monitorMonotoneSpec)

/-- ITS FALSE NEIGHBOUR: 'it returns false'. Refute it at one input. -/
def monitorMonotoneWrong : ChangeSpec := { name := "monitorMonotone", fn := fun _ => fun
  | [d1, d2, d3] => { results := [.lit (.bool false)], args := [d1, d2, d3] }
  | _ => none }
def MonitorMonotoneWrongFalsely : Prop := monitorMonotoneRow.holds Try.pinned (OpenSpec.ofChange monitorMonotoneWrong)

/-- 'perigeelaw29.MonitorForgets': WHATEVER THE INPUT: true; the input reads as it did. -/
def monitorForgetsSpec : ChangeSpec := { name := "monitorForgets", fn := fun _ => fun
  | [d1, d2, d3, d4] => { results := [.lit (.bool true)], args := [d1, d2, d3, d4] }
  | _ => none }
def monitorForgetsRow : OpenClaim := { program := "ytlogokjjphlkkaa", sum := "d1b502a9fb460c9926187a37a2cce23b91073f9f2c32ec8e20a0bf023ea5ff0c", func := "perigee/perigeelaw29.MonitorForgets", spec := "monitorForgets", unfollowed := true, recurses := true, apart := false }
def MonitorForgetsSaid : Prop := monitorForgetsRow.holds Try.pinned (OpenSpec.ofChange monitorForgetsSpec)

/-- ITS FALSE NEIGHBOUR: 'it returns false'. Refute it at one input. -/
def monitorForgetsWrong : ChangeSpec := { name := "monitorForgets", fn := fun _ => fun
  | [d1, d2, d3, d4] => { results := [.lit (.bool false)], args := [d1, d2, d3, d4] }
  | _ => none }
def MonitorForgetsWrongFalsely : Prop := monitorForgetsRow.holds Try.pinned (OpenSpec.ofChange monitorForgetsWrong)

/-- 'perigeelaw29.MonitorAll': WHATEVER THE INPUT: true; the input reads as it did. -/
def monitorAllSpec : ChangeSpec := { name := "monitorAll", fn := fun _ => fun
  | [d1, d2] => { results := [.lit (.bool true)], args := [d1, d2] }
  | _ => none }
def monitorAllRow : OpenClaim := { program := "ytlogokjjphlkkaa", sum := "d1b502a9fb460c9926187a37a2cce23b91073f9f2c32ec8e20a0bf023ea5ff0c", func := "perigee/perigeelaw29.MonitorAll", spec := "monitorAll", unfollowed := true, recurses := true, apart := false }
def MonitorAllSaid : Prop := monitorAllRow.holds Try.pinned (OpenSpec.ofChange monitorAllSpec)

/-- ITS FALSE NEIGHBOUR: 'it returns false'. Refute it at one input. -/
def monitorAllWrong : ChangeSpec := { name := "monitorAll", fn := fun _ => fun
  | [d1, d2] => { results := [.lit (.bool false)], args := [d1, d2] }
  | _ => none }
def MonitorAllWrongFalsely : Prop := monitorAllRow.holds Try.pinned (OpenSpec.ofChange monitorAllWrong)

/-- 'perigeelaw29.MonitorParts': WHATEVER THE INPUT: true; the input reads as it did. -/
def monitorPartsSpec : ChangeSpec := { name := "monitorParts", fn := fun _ => fun
  | [d1, d2, d3] => { results := [.lit (.bool true)], args := [d1, d2, d3] }
  | _ => none }
def monitorPartsRow : OpenClaim := { program := "ytlogokjjphlkkaa", sum := "d1b502a9fb460c9926187a37a2cce23b91073f9f2c32ec8e20a0bf023ea5ff0c", func := "perigee/perigeelaw29.MonitorParts", spec := "monitorParts", unfollowed := true, recurses := true, apart := false }
def MonitorPartsSaid : Prop := monitorPartsRow.holds Try.pinned (OpenSpec.ofChange monitorPartsSpec)

/-- ITS FALSE NEIGHBOUR: 'it returns false'. Refute it at one input. -/
def monitorPartsWrong : ChangeSpec := { name := "monitorParts", fn := fun _ => fun
  | [d1, d2, d3] => { results := [.lit (.bool false)], args := [d1, d2, d3] }
  | _ => none }
def MonitorPartsWrongFalsely : Prop := monitorPartsRow.holds Try.pinned (OpenSpec.ofChange monitorPartsWrong)

/-- 'perigeelaw29.MonitorMargin': WHATEVER THE INPUT: true; the input reads as it did. -/
def monitorMarginSpec : ChangeSpec := { name := "monitorMargin", fn := fun _ => fun
  | [d1, d2, d3, d4, d5] => { results := [.lit (.bool true)], args := [d1, d2, d3, d4, d5] }
  | _ => none }
def monitorMarginRow : OpenClaim := { program := "ytlogokjjphlkkaa", sum := "d1b502a9fb460c9926187a37a2cce23b91073f9f2c32ec8e20a0bf023ea5ff0c", func := "perigee/perigeelaw29.MonitorMargin", spec := "monitorMargin", unfollowed := true, recurses := true, apart := false }
def MonitorMarginSaid : Prop := monitorMarginRow.holds Try.pinned (OpenSpec.ofChange monitorMarginSpec)

/-- ITS FALSE NEIGHBOUR: 'it returns false'. Refute it at one input. -/
def monitorMarginWrong : ChangeSpec := { name := "monitorMargin", fn := fun _ => fun
  | [d1, d2, d3, d4, d5] => { results := [.lit (.bool false)], args := [d1, d2, d3, d4, d5] }
  | _ => none }
def MonitorMarginWrongFalsely : Prop := monitorMarginRow.holds Try.pinned (OpenSpec.ofChange monitorMarginWrong)

/-- 'perigeelaw29.MonitorGround': WHATEVER THE INPUT: true; the input reads as it did. -/
def monitorGroundSpec : ChangeSpec := { name := "monitorGround", fn := fun _ => fun
  | [d1, d2, d3] => { results := [.lit (.bool true)], args := [d1, d2, d3] }
  | _ => none }
def monitorGroundRow : OpenClaim := { program := "ytlogokjjphlkkaa", sum := "d1b502a9fb460c9926187a37a2cce23b91073f9f2c32ec8e20a0bf023ea5ff0c", func := "perigee/perigeelaw29.MonitorGround", spec := "monitorGround", unfollowed := true, recurses := true, apart := false }
def MonitorGroundSaid : Prop := monitorGroundRow.holds Try.pinned (OpenSpec.ofChange monitorGroundSpec)

/-- ITS FALSE NEIGHBOUR: 'it returns false'. Refute it at one input. -/
def monitorGroundWrong : ChangeSpec := { name := "monitorGround", fn := fun _ => fun
  | [d1, d2, d3] => { results := [.lit (.bool false)], args := [d1, d2, d3] }
  | _ => none }
def MonitorGroundWrongFalsely : Prop := monitorGroundRow.holds Try.pinned (OpenSpec.ofChange monitorGroundWrong)

/-- 'perigeelaw30.DiagnoseMonitors': WHATEVER THE INPUT: true; the input reads as it did. -/
def diagnoseMonitorsSpec : ChangeSpec := { name := "diagnoseMonitors", fn := fun _ => fun
  | [d1, d2, d3] => { results := [.lit (.bool true)], args := [d1, d2, d3] }
  | _ => none }
def diagnoseMonitorsRow : OpenClaim := { program := "ytlogokjjphlkkaa", sum := "d1b502a9fb460c9926187a37a2cce23b91073f9f2c32ec8e20a0bf023ea5ff0c", func := "perigee/perigeelaw30.DiagnoseMonitors", spec := "diagnoseMonitors", unfollowed := true, recurses := true, apart := false }
def DiagnoseMonitorsSaid : Prop := diagnoseMonitorsRow.holds Try.pinned (OpenSpec.ofChange diagnoseMonitorsSpec)

/-- ITS FALSE NEIGHBOUR: 'it returns false'. Refute it at one input. -/
def diagnoseMonitorsWrong : ChangeSpec := { name := "diagnoseMonitors", fn := fun _ => fun
  | [d1, d2, d3] => { results := [.lit (.bool false)], args := [d1, d2, d3] }
  | _ => none }
def DiagnoseMonitorsWrongFalsely : Prop := diagnoseMonitorsRow.holds Try.pinned (OpenSpec.ofChange diagnoseMonitorsWrong)

/- THE SECOND FORM. 'bulk': how many values and letters a reading holds, each counted each time it is reached (what is shared counts as often as it is met; a slice's spare places count too). A statement '..UptoSaid' is the law's where the arguments, and the package variables that the reading takes, are together of bulk at most 1048576: NARROWER than '..Said'. Prove '..Said' where nothing that the law and all that it calls make is longer than what came in: it says more and counts as full. Else prove '..UptoSaid'. A law counts once. -/
mutual
def uptoBulk {H : Type} : DataW H → Nat
  | .lit (.string bytes) => bytes.length + 1
  | .lit _ => 1
  | .nil => 1
  | .ptr d => uptoBulk d + 1
  | .slice elems spare => uptoBulkAll elems + uptoBulkAll spare + 1
  | .agg parts => uptoBulkAll parts + 1
  | .iface _ d => uptoBulk d + 1
  | .map entries => uptoBulkEntries entries + 1
  | .held _ => 1
def uptoBulkAll {H : Type} : List (DataW H) → Nat
  | [] => 0
  | d :: r => uptoBulk d + uptoBulkAll r
def uptoBulkEntries {H : Type} : List (Lit × DataW H) → Nat
  | [] => 0
  | x :: r => uptoBulkEntry x + uptoBulkEntries r
def uptoBulkEntry {H : Type} : Lit × DataW H → Nat
  | (.string bytes, d) => bytes.length + uptoBulk d + 1
  | (_, d) => uptoBulk d + 1
 end
def uptoSmall : (H : Type) → List (DataW H) → Bool := fun _ ds => decide (uptoBulkAll ds ≤ 1048576)
def OpenSpec.upto (s : _root_.Go.ChangeSpec) : _root_.Go.OpenSpec := { _root_.Go.OpenSpec.ofChange s with cond := some uptoSmall }

/-- 'perigeelaw28.TelemetryPredict', WHERE WHAT IT READS IS OF BULK AT MOST 1048576: true; the input reads as it did. -/
def telemetryPredictUptoRow : OpenClaim := { program := "ytlogokjjphlkkaa", sum := "d1b502a9fb460c9926187a37a2cce23b91073f9f2c32ec8e20a0bf023ea5ff0c", func := "perigee/perigeelaw28.TelemetryPredict", spec := "telemetryPredict", unfollowed := true, recurses := true, apart := false, narrowed := true }
def TelemetryPredictUptoSaid : Prop := telemetryPredictUptoRow.holds Try.pinned (OpenSpec.upto telemetryPredictSpec)

/-- 'perigeelaw28.TelemetryDecode', WHERE WHAT IT READS IS OF BULK AT MOST 1048576: true; the input reads as it did. -/
def telemetryDecodeUptoRow : OpenClaim := { program := "ytlogokjjphlkkaa", sum := "d1b502a9fb460c9926187a37a2cce23b91073f9f2c32ec8e20a0bf023ea5ff0c", func := "perigee/perigeelaw28.TelemetryDecode", spec := "telemetryDecode", unfollowed := true, recurses := true, apart := false, narrowed := true }
def TelemetryDecodeUptoSaid : Prop := telemetryDecodeUptoRow.holds Try.pinned (OpenSpec.upto telemetryDecodeSpec)

/-- 'perigeelaw28.TelemetryBack', WHERE WHAT IT READS IS OF BULK AT MOST 1048576: true; the input reads as it did. -/
def telemetryBackUptoRow : OpenClaim := { program := "ytlogokjjphlkkaa", sum := "d1b502a9fb460c9926187a37a2cce23b91073f9f2c32ec8e20a0bf023ea5ff0c", func := "perigee/perigeelaw28.TelemetryBack", spec := "telemetryBack", unfollowed := true, recurses := true, apart := false, narrowed := true }
def TelemetryBackUptoSaid : Prop := telemetryBackUptoRow.holds Try.pinned (OpenSpec.upto telemetryBackSpec)

/-- 'perigeelaw28.TelemetryRoom', WHERE WHAT IT READS IS OF BULK AT MOST 1048576: true; the input reads as it did. -/
def telemetryRoomUptoRow : OpenClaim := { program := "ytlogokjjphlkkaa", sum := "d1b502a9fb460c9926187a37a2cce23b91073f9f2c32ec8e20a0bf023ea5ff0c", func := "perigee/perigeelaw28.TelemetryRoom", spec := "telemetryRoom", unfollowed := true, recurses := true, apart := false, narrowed := true }
def TelemetryRoomUptoSaid : Prop := telemetryRoomUptoRow.holds Try.pinned (OpenSpec.upto telemetryRoomSpec)

/-- 'perigeelaw28.TelemetryNew', WHERE WHAT IT READS IS OF BULK AT MOST 1048576: true; the input reads as it did. -/
def telemetryNewUptoRow : OpenClaim := { program := "ytlogokjjphlkkaa", sum := "d1b502a9fb460c9926187a37a2cce23b91073f9f2c32ec8e20a0bf023ea5ff0c", func := "perigee/perigeelaw28.TelemetryNew", spec := "telemetryNew", unfollowed := true, recurses := true, apart := false, narrowed := true }
def TelemetryNewUptoSaid : Prop := telemetryNewUptoRow.holds Try.pinned (OpenSpec.upto telemetryNewSpec)

/-- 'perigeelaw28.TelemetryScript', WHERE WHAT IT READS IS OF BULK AT MOST 1048576: true; the input reads as it did. -/
def telemetryScriptUptoRow : OpenClaim := { program := "ytlogokjjphlkkaa", sum := "d1b502a9fb460c9926187a37a2cce23b91073f9f2c32ec8e20a0bf023ea5ff0c", func := "perigee/perigeelaw28.TelemetryScript", spec := "telemetryScript", unfollowed := true, recurses := true, apart := false, narrowed := true }
def TelemetryScriptUptoSaid : Prop := telemetryScriptUptoRow.holds Try.pinned (OpenSpec.upto telemetryScriptSpec)

/-- 'perigeelaw28.TelemetrySync', WHERE WHAT IT READS IS OF BULK AT MOST 1048576: true; the input reads as it did. -/
def telemetrySyncUptoRow : OpenClaim := { program := "ytlogokjjphlkkaa", sum := "d1b502a9fb460c9926187a37a2cce23b91073f9f2c32ec8e20a0bf023ea5ff0c", func := "perigee/perigeelaw28.TelemetrySync", spec := "telemetrySync", unfollowed := true, recurses := true, apart := false, narrowed := true }
def TelemetrySyncUptoSaid : Prop := telemetrySyncUptoRow.holds Try.pinned (OpenSpec.upto telemetrySyncSpec)

/-- 'perigeelaw29.MonitorChecks', WHERE WHAT IT READS IS OF BULK AT MOST 1048576: true; the input reads as it did. -/
def monitorChecksUptoRow : OpenClaim := { program := "ytlogokjjphlkkaa", sum := "d1b502a9fb460c9926187a37a2cce23b91073f9f2c32ec8e20a0bf023ea5ff0c", func := "perigee/perigeelaw29.MonitorChecks", spec := "monitorChecks", unfollowed := true, recurses := true, apart := false, narrowed := true }
def MonitorChecksUptoSaid : Prop := monitorChecksUptoRow.holds Try.pinned (OpenSpec.upto monitorChecksSpec)

/-- 'perigeelaw29.MonitorSteps', WHERE WHAT IT READS IS OF BULK AT MOST 1048576: true; the input reads as it did. -/
def monitorStepsUptoRow : OpenClaim := { program := "ytlogokjjphlkkaa", sum := "d1b502a9fb460c9926187a37a2cce23b91073f9f2c32ec8e20a0bf023ea5ff0c", func := "perigee/perigeelaw29.MonitorSteps", spec := "monitorSteps", unfollowed := true, recurses := true, apart := false, narrowed := true }
def MonitorStepsUptoSaid : Prop := monitorStepsUptoRow.holds Try.pinned (OpenSpec.upto monitorStepsSpec)

/-- 'perigeelaw29.MonitorFilters', WHERE WHAT IT READS IS OF BULK AT MOST 1048576: true; the input reads as it did. -/
def monitorFiltersUptoRow : OpenClaim := { program := "ytlogokjjphlkkaa", sum := "d1b502a9fb460c9926187a37a2cce23b91073f9f2c32ec8e20a0bf023ea5ff0c", func := "perigee/perigeelaw29.MonitorFilters", spec := "monitorFilters", unfollowed := true, recurses := true, apart := false, narrowed := true }
def MonitorFiltersUptoSaid : Prop := monitorFiltersUptoRow.holds Try.pinned (OpenSpec.upto monitorFiltersSpec)

/-- 'perigeelaw29.MonitorDelays', WHERE WHAT IT READS IS OF BULK AT MOST 1048576: true; the input reads as it did. -/
def monitorDelaysUptoRow : OpenClaim := { program := "ytlogokjjphlkkaa", sum := "d1b502a9fb460c9926187a37a2cce23b91073f9f2c32ec8e20a0bf023ea5ff0c", func := "perigee/perigeelaw29.MonitorDelays", spec := "monitorDelays", unfollowed := true, recurses := true, apart := false, narrowed := true }
def MonitorDelaysUptoSaid : Prop := monitorDelaysUptoRow.holds Try.pinned (OpenSpec.upto monitorDelaysSpec)

/-- 'perigeelaw29.MonitorAlternates', WHERE WHAT IT READS IS OF BULK AT MOST 1048576: true; the input reads as it did. -/
def monitorAlternatesUptoRow : OpenClaim := { program := "ytlogokjjphlkkaa", sum := "d1b502a9fb460c9926187a37a2cce23b91073f9f2c32ec8e20a0bf023ea5ff0c", func := "perigee/perigeelaw29.MonitorAlternates", spec := "monitorAlternates", unfollowed := true, recurses := true, apart := false, narrowed := true }
def MonitorAlternatesUptoSaid : Prop := monitorAlternatesUptoRow.holds Try.pinned (OpenSpec.upto monitorAlternatesSpec)

/-- 'perigeelaw29.MonitorMonotone', WHERE WHAT IT READS IS OF BULK AT MOST 1048576: true; the input reads as it did. -/
def monitorMonotoneUptoRow : OpenClaim := { program := "ytlogokjjphlkkaa", sum := "d1b502a9fb460c9926187a37a2cce23b91073f9f2c32ec8e20a0bf023ea5ff0c", func := "perigee/perigeelaw29.MonitorMonotone", spec := "monitorMonotone", unfollowed := true, recurses := true, apart := false, narrowed := true }
def MonitorMonotoneUptoSaid : Prop := monitorMonotoneUptoRow.holds Try.pinned (OpenSpec.upto monitorMonotoneSpec)

/-- 'perigeelaw29.MonitorForgets', WHERE WHAT IT READS IS OF BULK AT MOST 1048576: true; the input reads as it did. -/
def monitorForgetsUptoRow : OpenClaim := { program := "ytlogokjjphlkkaa", sum := "d1b502a9fb460c9926187a37a2cce23b91073f9f2c32ec8e20a0bf023ea5ff0c", func := "perigee/perigeelaw29.MonitorForgets", spec := "monitorForgets", unfollowed := true, recurses := true, apart := false, narrowed := true }
def MonitorForgetsUptoSaid : Prop := monitorForgetsUptoRow.holds Try.pinned (OpenSpec.upto monitorForgetsSpec)

/-- 'perigeelaw29.MonitorAll', WHERE WHAT IT READS IS OF BULK AT MOST 1048576: true; the input reads as it did. -/
def monitorAllUptoRow : OpenClaim := { program := "ytlogokjjphlkkaa", sum := "d1b502a9fb460c9926187a37a2cce23b91073f9f2c32ec8e20a0bf023ea5ff0c", func := "perigee/perigeelaw29.MonitorAll", spec := "monitorAll", unfollowed := true, recurses := true, apart := false, narrowed := true }
def MonitorAllUptoSaid : Prop := monitorAllUptoRow.holds Try.pinned (OpenSpec.upto monitorAllSpec)

/-- 'perigeelaw29.MonitorParts', WHERE WHAT IT READS IS OF BULK AT MOST 1048576: true; the input reads as it did. -/
def monitorPartsUptoRow : OpenClaim := { program := "ytlogokjjphlkkaa", sum := "d1b502a9fb460c9926187a37a2cce23b91073f9f2c32ec8e20a0bf023ea5ff0c", func := "perigee/perigeelaw29.MonitorParts", spec := "monitorParts", unfollowed := true, recurses := true, apart := false, narrowed := true }
def MonitorPartsUptoSaid : Prop := monitorPartsUptoRow.holds Try.pinned (OpenSpec.upto monitorPartsSpec)

/-- 'perigeelaw29.MonitorMargin', WHERE WHAT IT READS IS OF BULK AT MOST 1048576: true; the input reads as it did. -/
def monitorMarginUptoRow : OpenClaim := { program := "ytlogokjjphlkkaa", sum := "d1b502a9fb460c9926187a37a2cce23b91073f9f2c32ec8e20a0bf023ea5ff0c", func := "perigee/perigeelaw29.MonitorMargin", spec := "monitorMargin", unfollowed := true, recurses := true, apart := false, narrowed := true }
def MonitorMarginUptoSaid : Prop := monitorMarginUptoRow.holds Try.pinned (OpenSpec.upto monitorMarginSpec)

/-- 'perigeelaw29.MonitorGround', WHERE WHAT IT READS IS OF BULK AT MOST 1048576: true; the input reads as it did. -/
def monitorGroundUptoRow : OpenClaim := { program := "ytlogokjjphlkkaa", sum := "d1b502a9fb460c9926187a37a2cce23b91073f9f2c32ec8e20a0bf023ea5ff0c", func := "perigee/perigeelaw29.MonitorGround", spec := "monitorGround", unfollowed := true, recurses := true, apart := false, narrowed := true }
def MonitorGroundUptoSaid : Prop := monitorGroundUptoRow.holds Try.pinned (OpenSpec.upto monitorGroundSpec)

/-- 'perigeelaw30.DiagnoseMonitors', WHERE WHAT IT READS IS OF BULK AT MOST 1048576: true; the input reads as it did. -/
def diagnoseMonitorsUptoRow : OpenClaim := { program := "ytlogokjjphlkkaa", sum := "d1b502a9fb460c9926187a37a2cce23b91073f9f2c32ec8e20a0bf023ea5ff0c", func := "perigee/perigeelaw30.DiagnoseMonitors", spec := "diagnoseMonitors", unfollowed := true, recurses := true, apart := false, narrowed := true }
def DiagnoseMonitorsUptoSaid : Prop := diagnoseMonitorsUptoRow.holds Try.pinned (OpenSpec.upto diagnoseMonitorsSpec)

end Rows
end Go.Proofs.Ytlogokjjphlkkaa
