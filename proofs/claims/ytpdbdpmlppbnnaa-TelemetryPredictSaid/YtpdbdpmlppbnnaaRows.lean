/-
  No cell of these rows narrows 'for every input' (looked for: loops, veiled, ifaces, maps, wideKeys, modest, calm, conditions, laid).
  DERIVED. THE GIVEN ROWS OF THIS SEAT. 8 by the template 'for every input the law returns true; each argument reads behind the call as it read before'; 0 by the template 'total and deterministic' (their statements: YtpdbdpmlppbnnaaTotals.lean).
  GIVEN WITH THE SEED: the statements are not yours to turn. If you find one false, say at which input.
  Laid BY PROGRAM, IN A SANDBOX (cutbox-rows.mjs): the forced cells as the released guide's own fill.sh prints them over the translation ad86a442227905c9… (all of the seat's roots in one cut). By AI agents, Wed Nov 11 2026. No macro, syntax, notation, axiom, sorry.
-/
import Derived.Test.YtpdbdpmlppbnnaaChecked
import GoSem.Claim
import GoSem.ClaimJoined
import GoSem.ClaimMapViews
import Derived.JoinedTies
import Derived.KernelRfl
namespace Go.Proofs.Ytpdbdpmlppbnnaa
/- THE CELL 'sum', in the pinned program and in every row, IS THE sha256 OF THE DUMP (.gsa) THAT YtpdbdpmlppbnnaaProg.lean LOADS. Nothing in Lean hashes anything: it is a label: what it is worth is what the hold of that sum in a sandbox is worth. -/
noncomputable def Try.pinned : Pinned := { name := "ytpdbdpmlppbnnaa", sum := "ad86a442227905c9c357ac56e9b3acfe35cadf184851862b1044ef916c20b704", checked := Try.checked }
namespace Rows
def none {H : Type} : Left H := { results := [], args := [] }

/-- 'perigeelaw28.TelemetryPredict': WHATEVER THE INPUT: true; the input reads as it did. -/
def telemetryPredictSpec : ChangeSpec := { name := "telemetryPredict", fn := fun _ => fun
  | [d1, d2, d3] => { results := [.lit (.bool true)], args := [d1, d2, d3] }
  | _ => none }
def telemetryPredictRow : OpenClaim := { program := "ytpdbdpmlppbnnaa", sum := "ad86a442227905c9c357ac56e9b3acfe35cadf184851862b1044ef916c20b704", func := "perigee/perigeelaw28.TelemetryPredict", spec := "telemetryPredict", unfollowed := true, recurses := true, apart := false }
def TelemetryPredictSaid : Prop := telemetryPredictRow.holds Try.pinned (OpenSpec.ofChange telemetryPredictSpec)

/-- ITS FALSE NEIGHBOUR: 'it returns false'. Refute it at one input. -/
def telemetryPredictWrong : ChangeSpec := { name := "telemetryPredict", fn := fun _ => fun
  | [d1, d2, d3] => { results := [.lit (.bool false)], args := [d1, d2, d3] }
  | _ => none }
def TelemetryPredictWrongFalsely : Prop := telemetryPredictRow.holds Try.pinned (OpenSpec.ofChange telemetryPredictWrong)

/-- 'perigeelaw28.TelemetryDecode': WHATEVER THE INPUT: true; the input reads as it did. -/
def telemetryDecodeSpec : ChangeSpec := { name := "telemetryDecode", fn := fun _ => fun
  | [d1, d2] => { results := [.lit (.bool true)], args := [d1, d2] }
  | _ => none }
def telemetryDecodeRow : OpenClaim := { program := "ytpdbdpmlppbnnaa", sum := "ad86a442227905c9c357ac56e9b3acfe35cadf184851862b1044ef916c20b704", func := "perigee/perigeelaw28.TelemetryDecode", spec := "telemetryDecode", unfollowed := true, recurses := true, apart := false }
def TelemetryDecodeSaid : Prop := telemetryDecodeRow.holds Try.pinned (OpenSpec.ofChange telemetryDecodeSpec)

/-- ITS FALSE NEIGHBOUR: 'it returns false'. Refute it at one input. -/
def telemetryDecodeWrong : ChangeSpec := { name := "telemetryDecode", fn := fun _ => fun
  | [d1, d2] => { results := [.lit (.bool false)], args := [d1, d2] }
  | _ => none }
def TelemetryDecodeWrongFalsely : Prop := telemetryDecodeRow.holds Try.pinned (OpenSpec.ofChange telemetryDecodeWrong)

/-- 'perigeelaw28.TelemetryBack': WHATEVER THE INPUT: true; the input reads as it did. -/
def telemetryBackSpec : ChangeSpec := { name := "telemetryBack", fn := fun _ => fun
  | [d1, d2, d3, d4, d5, d6, d7] => { results := [.lit (.bool true)], args := [d1, d2, d3, d4, d5, d6, d7] }
  | _ => none }
def telemetryBackRow : OpenClaim := { program := "ytpdbdpmlppbnnaa", sum := "ad86a442227905c9c357ac56e9b3acfe35cadf184851862b1044ef916c20b704", func := "perigee/perigeelaw28.TelemetryBack", spec := "telemetryBack", unfollowed := true, recurses := true, apart := false }
def TelemetryBackSaid : Prop := telemetryBackRow.holds Try.pinned (OpenSpec.ofChange telemetryBackSpec)

/-- ITS FALSE NEIGHBOUR: 'it returns false'. Refute it at one input. -/
def telemetryBackWrong : ChangeSpec := { name := "telemetryBack", fn := fun _ => fun
  | [d1, d2, d3, d4, d5, d6, d7] => { results := [.lit (.bool false)], args := [d1, d2, d3, d4, d5, d6, d7] }
  | _ => none }
def TelemetryBackWrongFalsely : Prop := telemetryBackRow.holds Try.pinned (OpenSpec.ofChange telemetryBackWrong)

/-- 'perigeelaw28.TelemetryRoom': WHATEVER THE INPUT: true; the input reads as it did. -/
def telemetryRoomSpec : ChangeSpec := { name := "telemetryRoom", fn := fun _ => fun
  | [d1, d2, d3, d4, d5, d6, d7] => { results := [.lit (.bool true)], args := [d1, d2, d3, d4, d5, d6, d7] }
  | _ => none }
def telemetryRoomRow : OpenClaim := { program := "ytpdbdpmlppbnnaa", sum := "ad86a442227905c9c357ac56e9b3acfe35cadf184851862b1044ef916c20b704", func := "perigee/perigeelaw28.TelemetryRoom", spec := "telemetryRoom", unfollowed := true, recurses := true, apart := false }
def TelemetryRoomSaid : Prop := telemetryRoomRow.holds Try.pinned (OpenSpec.ofChange telemetryRoomSpec)

/-- ITS FALSE NEIGHBOUR: 'it returns false'. Refute it at one input. -/
def telemetryRoomWrong : ChangeSpec := { name := "telemetryRoom", fn := fun _ => fun
  | [d1, d2, d3, d4, d5, d6, d7] => { results := [.lit (.bool false)], args := [d1, d2, d3, d4, d5, d6, d7] }
  | _ => none }
def TelemetryRoomWrongFalsely : Prop := telemetryRoomRow.holds Try.pinned (OpenSpec.ofChange telemetryRoomWrong)

/-- 'perigeelaw28.TelemetryNew': WHATEVER THE INPUT: true; the input reads as it did. -/
def telemetryNewSpec : ChangeSpec := { name := "telemetryNew", fn := fun _ => fun
  | [d1, d2] => { results := [.lit (.bool true)], args := [d1, d2] }
  | _ => none }
def telemetryNewRow : OpenClaim := { program := "ytpdbdpmlppbnnaa", sum := "ad86a442227905c9c357ac56e9b3acfe35cadf184851862b1044ef916c20b704", func := "perigee/perigeelaw28.TelemetryNew", spec := "telemetryNew", unfollowed := true, recurses := true, apart := false }
def TelemetryNewSaid : Prop := telemetryNewRow.holds Try.pinned (OpenSpec.ofChange telemetryNewSpec)

/-- ITS FALSE NEIGHBOUR: 'it returns false'. Refute it at one input. -/
def telemetryNewWrong : ChangeSpec := { name := "telemetryNew", fn := fun _ => fun
  | [d1, d2] => { results := [.lit (.bool false)], args := [d1, d2] }
  | _ => none }
def TelemetryNewWrongFalsely : Prop := telemetryNewRow.holds Try.pinned (OpenSpec.ofChange telemetryNewWrong)

/-- 'perigeelaw28.TelemetryScript': WHATEVER THE INPUT: true; the input reads as it did. -/
def telemetryScriptSpec : ChangeSpec := { name := "telemetryScript", fn := fun _ => fun
  | [d1, d2] => { results := [.lit (.bool true)], args := [d1, d2] }
  | _ => none }
def telemetryScriptRow : OpenClaim := { program := "ytpdbdpmlppbnnaa", sum := "ad86a442227905c9c357ac56e9b3acfe35cadf184851862b1044ef916c20b704", func := "perigee/perigeelaw28.TelemetryScript", spec := "telemetryScript", unfollowed := true, recurses := true, apart := false }
def TelemetryScriptSaid : Prop := telemetryScriptRow.holds Try.pinned (OpenSpec.ofChange telemetryScriptSpec)

/-- ITS FALSE NEIGHBOUR: 'it returns false'. Refute it at one input. -/
def telemetryScriptWrong : ChangeSpec := { name := "telemetryScript", fn := fun _ => fun
  | [d1, d2] => { results := [.lit (.bool false)], args := [d1, d2] }
  | _ => none }
def TelemetryScriptWrongFalsely : Prop := telemetryScriptRow.holds Try.pinned (OpenSpec.ofChange telemetryScriptWrong)

/-- 'perigeelaw28.TelemetrySync': WHATEVER THE INPUT: true; the input reads as it did. -/
def telemetrySyncSpec : ChangeSpec := { name := "telemetrySync", fn := fun _ => fun
  | [d1, d2] => { results := [.lit (.bool true)], args := [d1, d2] }
  | _ => none }
def telemetrySyncRow : OpenClaim := { program := "ytpdbdpmlppbnnaa", sum := "ad86a442227905c9c357ac56e9b3acfe35cadf184851862b1044ef916c20b704", func := "perigee/perigeelaw28.TelemetrySync", spec := "telemetrySync", unfollowed := true, recurses := true, apart := false }
def TelemetrySyncSaid : Prop := telemetrySyncRow.holds Try.pinned (OpenSpec.ofChange telemetrySyncSpec)

/-- ITS FALSE NEIGHBOUR: 'it returns false'. Refute it at one input. -/
def telemetrySyncWrong : ChangeSpec := { name := "telemetrySync", fn := fun _ => fun
  | [d1, d2] => { results := [.lit (.bool false)], args := [d1, d2] }
  | _ => none }
def TelemetrySyncWrongFalsely : Prop := telemetrySyncRow.holds Try.pinned (OpenSpec.ofChange telemetrySyncWrong)

/-- 'perigeelaw29.MonitorGround': WHATEVER THE INPUT: true; the input reads as it did. -/
def monitorGroundSpec : ChangeSpec := { name := "monitorGround", fn := fun _ => fun
  | [d1, d2, d3] => { results := [.lit (.bool true)], args := [d1, d2, d3] }
  | _ => none }
def monitorGroundRow : OpenClaim := { program := "ytpdbdpmlppbnnaa", sum := "ad86a442227905c9c357ac56e9b3acfe35cadf184851862b1044ef916c20b704", func := "perigee/perigeelaw29.MonitorGround", spec := "monitorGround", unfollowed := true, recurses := true, apart := false }
def MonitorGroundSaid : Prop := monitorGroundRow.holds Try.pinned (OpenSpec.ofChange monitorGroundSpec)

/-- ITS FALSE NEIGHBOUR: 'it returns false'. Refute it at one input. -/
def monitorGroundWrong : ChangeSpec := { name := "monitorGround", fn := fun _ => fun
  | [d1, d2, d3] => { results := [.lit (.bool false)], args := [d1, d2, d3] }
  | _ => none }
def MonitorGroundWrongFalsely : Prop := monitorGroundRow.holds Try.pinned (OpenSpec.ofChange monitorGroundWrong)

/- THE SECOND FORM. 'bulk': how many values and letters a reading holds, each counted each time it is reached (what is shared counts as often as it is met; a slice's spare places count too). A statement '..UptoSaid' is the law's where the arguments, and the package variables that the reading takes, are together of bulk at most 1048576: NARROWER than '..Said'. Prove '..Said' where nothing that the law and all that it calls make is longer than what came in: it says more and counts as full. Else prove '..UptoSaid'. A law counts once. -/
mutual
def uptoBulk {H : Type} : DataW H → Nat
  | .lit (.string bytes) => bytes.length + 1
  | .lit _ => 1
  | .nil => 1
  | .ptr d => uptoBulk d + 1
  | .slice elems spare => uptoBulkAll elems + uptoBulkAll spare + 1
  | .agg parts => uptoBulkAll parts + 1
  | .iface _ d => uptoBulk d + 1
  | .map entries => uptoBulkEntries entries + 1
  | .held _ => 1
def uptoBulkAll {H : Type} : List (DataW H) → Nat
  | [] => 0
  | d :: r => uptoBulk d + uptoBulkAll r
def uptoBulkEntries {H : Type} : List (Lit × DataW H) → Nat
  | [] => 0
  | x :: r => uptoBulkEntry x + uptoBulkEntries r
def uptoBulkEntry {H : Type} : Lit × DataW H → Nat
  | (.string bytes, d) => bytes.length + uptoBulk d + 1
  | (_, d) => uptoBulk d + 1
 end
def uptoSmall : (H : Type) → List (DataW H) → Bool := fun _ ds => decide (uptoBulkAll ds ≤ 1048576)
def OpenSpec.upto (s : _root_.Go.ChangeSpec) : _root_.Go.OpenSpec := { _root_.Go.OpenSpec.ofChange s with cond := some uptoSmall }

/-- 'perigeelaw28.TelemetryPredict', WHERE WHAT IT READS IS OF BULK AT MOST 1048576: true; the input reads as it did. -/
def telemetryPredictUptoRow : OpenClaim := { program := "ytpdbdpmlppbnnaa", sum := "ad86a442227905c9c357ac56e9b3acfe35cadf184851862b1044ef916c20b704", func := "perigee/perigeelaw28.TelemetryPredict", spec := "telemetryPredict", unfollowed := true, recurses := true, apart := false, narrowed := true }
def TelemetryPredictUptoSaid : Prop := telemetryPredictUptoRow.holds Try.pinned (OpenSpec.upto telemetryPredictSpec)

/-- 'perigeelaw28.TelemetryDecode', WHERE WHAT IT READS IS OF BULK AT MOST 1048576: true; the input reads as it did. -/
def telemetryDecodeUptoRow : OpenClaim := { program := "ytpdbdpmlppbnnaa", sum := "ad86a442227905c9c357ac56e9b3acfe35cadf184851862b1044ef916c20b704", func := "perigee/perigeelaw28.TelemetryDecode", spec := "telemetryDecode", unfollowed := true, recurses := true, apart := false, narrowed := true }
def TelemetryDecodeUptoSaid : Prop := telemetryDecodeUptoRow.holds Try.pinned (OpenSpec.upto telemetryDecodeSpec)

/-- 'perigeelaw28.TelemetryBack', WHERE WHAT IT READS IS OF BULK AT MOST 1048576: true; the input reads as it did. -/
def telemetryBackUptoRow : OpenClaim := { program := "ytpdbdpmlppbnnaa", sum := "ad86a442227905c9c357ac56e9b3acfe35cadf184851862b1044ef916c20b704", func := "perigee/perigeelaw28.TelemetryBack", spec := "telemetryBack", unfollowed := true, recurses := true, apart := false, narrowed := true }
def TelemetryBackUptoSaid : Prop := telemetryBackUptoRow.holds Try.pinned (OpenSpec.upto telemetryBackSpec)

/-- 'perigeelaw28.TelemetryRoom', WHERE WHAT IT READS IS OF BULK AT MOST 1048576: true; the input reads as it did. -/
def telemetryRoomUptoRow : OpenClaim := { program := "ytpdbdpmlppbnnaa", sum := "ad86a442227905c9c357ac56e9b3acfe35cadf184851862b1044ef916c20b704", func := "perigee/perigeelaw28.TelemetryRoom", spec := "telemetryRoom", unfollowed := true, recurses := true, apart := false, narrowed := true }
def TelemetryRoomUptoSaid : Prop := telemetryRoomUptoRow.holds Try.pinned (OpenSpec.upto telemetryRoomSpec)

/-- 'perigeelaw28.TelemetryNew', WHERE WHAT IT READS IS OF BULK AT MOST 1048576: true; the input reads as it did. -/
def telemetryNewUptoRow : OpenClaim := { program := "ytpdbdpmlppbnnaa", sum := "ad86a442227905c9c357ac56e9b3acfe35cadf184851862b1044ef916c20b704", func := "perigee/perigeelaw28.TelemetryNew", spec := "telemetryNew", unfollowed := true, recurses := true, apart := false, narrowed := true }
def TelemetryNewUptoSaid : Prop := telemetryNewUptoRow.holds Try.pinned (OpenSpec.upto telemetryNewSpec)

/-- 'perigeelaw28.TelemetryScript', WHERE WHAT IT READS IS OF BULK AT MOST 1048576: true; the input reads as it did. -/
def telemetryScriptUptoRow : OpenClaim := { program := "ytpdbdpmlppbnnaa", sum := "ad86a442227905c9c357ac56e9b3acfe35cadf184851862b1044ef916c20b704", func := "perigee/perigeelaw28.TelemetryScript", spec := "telemetryScript", unfollowed := true, recurses := true, apart := false, narrowed := true }
def TelemetryScriptUptoSaid : Prop := telemetryScriptUptoRow.holds Try.pinned (OpenSpec.upto telemetryScriptSpec)

/-- 'perigeelaw28.TelemetrySync', WHERE WHAT IT READS IS OF BULK AT MOST 1048576: true; the input reads as it did. -/
def telemetrySyncUptoRow : OpenClaim := { program := "ytpdbdpmlppbnnaa", sum := "ad86a442227905c9c357ac56e9b3acfe35cadf184851862b1044ef916c20b704", func := "perigee/perigeelaw28.TelemetrySync", spec := "telemetrySync", unfollowed := true, recurses := true, apart := false, narrowed := true }
def TelemetrySyncUptoSaid : Prop := telemetrySyncUptoRow.holds Try.pinned (OpenSpec.upto telemetrySyncSpec)

/-- 'perigeelaw29.MonitorGround', WHERE WHAT IT READS IS OF BULK AT MOST 1048576: true; the input reads as it did. -/
def monitorGroundUptoRow : OpenClaim := { program := "ytpdbdpmlppbnnaa", sum := "ad86a442227905c9c357ac56e9b3acfe35cadf184851862b1044ef916c20b704", func := "perigee/perigeelaw29.MonitorGround", spec := "monitorGround", unfollowed := true, recurses := true, apart := false, narrowed := true }
def MonitorGroundUptoSaid : Prop := monitorGroundUptoRow.holds Try.pinned (OpenSpec.upto monitorGroundSpec)

end Rows
end Go.Proofs.Ytpdbdpmlppbnnaa
