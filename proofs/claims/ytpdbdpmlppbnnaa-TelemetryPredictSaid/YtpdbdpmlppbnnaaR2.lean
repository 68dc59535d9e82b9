/-
  Closed facts on the whole program that each row's builder asks, proved once.
-/
import Derived.Test.YtpdbdpmlppbnnaaR1
namespace Go.Proofs.Ytpdbdpmlppbnnaa
open Go.ChangeShapes Go.WideShapes Go.ChangeAt Go.RowKit

theorem fact_enter : Try.prog.mayEnter = true := by kernel_rfl
theorem fact_lift : Try.prog.liftsFinal = Rows.telemetryPredictRow.lifted := by kernel_rfl
theorem fact_make : Try.prog.make = some Rows.telemetryPredictRow.make := by kernel_rfl
theorem fact_keys : Try.prog.plainKeys = Rows.telemetryPredictRow.plainKeys := by kernel_rfl
theorem fact_heard : Try.prog.stopsHeard = true := by kernel_rfl
theorem fact_maps : mapsRowed Try.prog = true := by kernel_rfl
end Go.Proofs.Ytpdbdpmlppbnnaa
