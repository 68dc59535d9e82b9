/-
  No cell of these rows narrows 'for every input' (looked for: loops, veiled, ifaces, maps, wideKeys, modest, calm, conditions, laid).
  DERIVED. THE GIVEN ROWS OF THIS SEAT. 9 by the template 'for every input the law returns true; each argument reads behind the call as it read before'; 0 by the template 'total and deterministic' (their statements: YtamfifndddldcaaTotals.lean).
  GIVEN WITH THE SEED: the statements are not yours to turn. If you find one false, say at which input.
  Laid BY PROGRAM, IN A SANDBOX (cutbox-rows.mjs): the forced cells as the released guide's own fill.sh prints them over the translation 0d8fdb79cd28073f… (all of the seat's roots in one cut). By AI agents, Wed Nov 11 2026. No macro, syntax, notation, axiom, sorry.
-/
import Derived.Test.YtamfifndddldcaaChecked
import GoSem.Claim
import GoSem.ClaimJoined
import GoSem.ClaimMapViews
import Derived.JoinedTies
import Derived.KernelRfl
namespace Go.Proofs.Ytamfifndddldcaa
/- THE CELL 'sum', in the pinned program and in every row, IS THE sha256 OF THE DUMP (.gsa) THAT YtamfifndddldcaaProg.lean LOADS. Nothing in Lean hashes anything: it is a label: what it is worth is what the hold of that sum in a sandbox is worth. -/
noncomputable def Try.pinned : Pinned := { name := "ytamfifndddldcaa", sum := "0d8fdb79cd28073ffc5925084345eeb4579f9c6174d7896e97eb9a1a83f98c2d", checked := Try.checked }
namespace Rows
def none {H : Type} : Left H := { results := [], args := [] }

/-- 'perigeelaw10.PowerChecks': WHATEVER THE INPUT: true; the input reads as it did. -/
def powerChecksSpec : ChangeSpec := { name := "powerChecks", fn := fun _ => fun
  | [d1, d2] => { results := [.lit (.bool true)], args := [d1, d2] }
  | _ => none }
def powerChecksRow : OpenClaim := { program := "ytamfifndddldcaa", sum := "0d8fdb79cd28073ffc5925084345eeb4579f9c6174d7896e97eb9a1a83f98c2d", func := "perigee/perigeelaw10.PowerChecks", spec := "powerChecks", unfollowed := true, recurses := true, apart := false }
def PowerChecksSaid : Prop := powerChecksRow.holds Try.pinned (OpenSpec.ofChange powerChecksSpec)

/-- ITS FALSE NEIGHBOUR: 'it returns false'. Refute it at one input. -/
def powerChecksWrong : ChangeSpec := { name := "powerChecks", fn := fun _ => fun
  | [d1, d2] => { results := [.lit (.bool false)], args := [d1, d2] }
  | _ => none }
def PowerChecksWrongFalsely : Prop := powerChecksRow.holds Try.pinned (OpenSpec.ofChange powerChecksWrong)

/-- 'perigeelaw10.PowerSteps': WHATEVER THE INPUT: true; the input reads as it did. -/
def powerStepsSpec : ChangeSpec := { name := "powerSteps", fn := fun _ => fun
  | [d1, d2, d3] => { results := [.lit (.bool true)], args := [d1, d2, d3] }
  | _ => none }
def powerStepsRow : OpenClaim := { program := "ytamfifndddldcaa", sum := "0d8fdb79cd28073ffc5925084345eeb4579f9c6174d7896e97eb9a1a83f98c2d", func := "perigee/perigeelaw10.PowerSteps", spec := "powerSteps", unfollowed := true, recurses := true, apart := false }
def PowerStepsSaid : Prop := powerStepsRow.holds Try.pinned (OpenSpec.ofChange powerStepsSpec)

/-- ITS FALSE NEIGHBOUR: 'it returns false'. Refute it at one input. -/
def powerStepsWrong : ChangeSpec := { name := "powerSteps", fn := fun _ => fun
  | [d1, d2, d3] => { results := [.lit (.bool false)], args := [d1, d2, d3] }
  | _ => none }
def PowerStepsWrongFalsely : Prop := powerStepsRow.holds Try.pinned (OpenSpec.ofChange powerStepsWrong)

/-- 'perigeelaw10.PowerConserves': WHATEVER THE INPUT: true; the input reads as it did. -/
def powerConservesSpec : ChangeSpec := { name := "powerConserves", fn := fun _ => fun
  | [d1, d2, d3] => { results := [.lit (.bool true)], args := [d1, d2, d3] }
  | _ => none }
def powerConservesRow : OpenClaim := { program := "ytamfifndddldcaa", sum := "0d8fdb79cd28073ffc5925084345eeb4579f9c6174d7896e97eb9a1a83f98c2d", func := "perigee/perigeelaw10.PowerConserves", spec := "powerConserves", unfollowed := true, recurses := true, apart := false }
def PowerConservesSaid : Prop := powerConservesRow.holds Try.pinned (OpenSpec.ofChange powerConservesSpec)

/-- ITS FALSE NEIGHBOUR: 'it returns false'. Refute it at one input. -/
def powerConservesWrong : ChangeSpec := { name := "powerConserves", fn := fun _ => fun
  | [d1, d2, d3] => { results := [.lit (.bool false)], args := [d1, d2, d3] }
  | _ => none }
def PowerConservesWrongFalsely : Prop := powerConservesRow.holds Try.pinned (OpenSpec.ofChange powerConservesWrong)

/-- 'perigeelaw10.PowerReserves': WHATEVER THE INPUT: true; the input reads as it did. -/
def powerReservesSpec : ChangeSpec := { name := "powerReserves", fn := fun _ => fun
  | [d1, d2, d3, d4, d5] => { results := [.lit (.bool true)], args := [d1, d2, d3, d4, d5] }
  | _ => none }
def powerReservesRow : OpenClaim := { program := "ytamfifndddldcaa", sum := "0d8fdb79cd28073ffc5925084345eeb4579f9c6174d7896e97eb9a1a83f98c2d", func := "perigee/perigeelaw10.PowerReserves", spec := "powerReserves", unfollowed := true, recurses := true, apart := false }
def PowerReservesSaid : Prop := powerReservesRow.holds Try.pinned (OpenSpec.ofChange powerReservesSpec)

/-- ITS FALSE NEIGHBOUR: 'it returns false'. Refute it at one input. -/
def powerReservesWrong : ChangeSpec := { name := "powerReserves", fn := fun _ => fun
  | [d1, d2, d3, d4, d5] => { results := [.lit (.bool false)], args := [d1, d2, d3, d4, d5] }
  | _ => none }
def PowerReservesWrongFalsely : Prop := powerReservesRow.holds Try.pinned (OpenSpec.ofChange powerReservesWrong)

/-- 'perigeelaw10.PowerLeastCharge': WHATEVER THE INPUT: true; the input reads as it did. -/
def powerLeastChargeSpec : ChangeSpec := { name := "powerLeastCharge", fn := fun _ => fun
  | [d] => { results := [.lit (.bool true)], args := [d] }
  | _ => none }
def powerLeastChargeRow : OpenClaim := { program := "ytamfifndddldcaa", sum := "0d8fdb79cd28073ffc5925084345eeb4579f9c6174d7896e97eb9a1a83f98c2d", func := "perigee/perigeelaw10.PowerLeastCharge", spec := "powerLeastCharge", unfollowed := true, recurses := true, apart := false }
def PowerLeastChargeSaid : Prop := powerLeastChargeRow.holds Try.pinned (OpenSpec.ofChange powerLeastChargeSpec)

/-- ITS FALSE NEIGHBOUR: 'it returns false'. Refute it at one input. -/
def powerLeastChargeWrong : ChangeSpec := { name := "powerLeastCharge", fn := fun _ => fun
  | [d] => { results := [.lit (.bool false)], args := [d] }
  | _ => none }
def PowerLeastChargeWrongFalsely : Prop := powerLeastChargeRow.holds Try.pinned (OpenSpec.ofChange powerLeastChargeWrong)

/-- 'perigeelaw10.PowerMonotone': WHATEVER THE INPUT: true; the input reads as it did. -/
def powerMonotoneSpec : ChangeSpec := { name := "powerMonotone", fn := fun _ => fun
  | [d1, d2] => { results := [.lit (.bool true)], args := [d1, d2] }
  | _ => none }
def powerMonotoneRow : OpenClaim := { program := "ytamfifndddldcaa", sum := "0d8fdb79cd28073ffc5925084345eeb4579f9c6174d7896e97eb9a1a83f98c2d", func := "perigee/perigeelaw10.PowerMonotone", spec := "powerMonotone", unfollowed := true, recurses := true, apart := false }
def PowerMonotoneSaid : Prop := powerMonotoneRow.holds Try.pinned (OpenSpec.ofChange powerMonotoneSpec)

/-- ITS FALSE NEIGHBOUR: 'it returns false'. Refute it at one input. -/
def powerMonotoneWrong : ChangeSpec := { name := "powerMonotone", fn := fun _ => fun
  | [d1, d2] => { results := [.lit (.bool false)], args := [d1, d2] }
  | _ => none }
def PowerMonotoneWrongFalsely : Prop := powerMonotoneRow.holds Try.pinned (OpenSpec.ofChange powerMonotoneWrong)

/-- 'perigeelaw10.PowerDeficit': WHATEVER THE INPUT: true; the input reads as it did. -/
def powerDeficitSpec : ChangeSpec := { name := "powerDeficit", fn := fun _ => fun
  | [d1, d2, d3, d4, d5] => { results := [.lit (.bool true)], args := [d1, d2, d3, d4, d5] }
  | _ => none }
def powerDeficitRow : OpenClaim := { program := "ytamfifndddldcaa", sum := "0d8fdb79cd28073ffc5925084345eeb4579f9c6174d7896e97eb9a1a83f98c2d", func := "perigee/perigeelaw10.PowerDeficit", spec := "powerDeficit", unfollowed := true, recurses := true, apart := false }
def PowerDeficitSaid : Prop := powerDeficitRow.holds Try.pinned (OpenSpec.ofChange powerDeficitSpec)

/-- ITS FALSE NEIGHBOUR: 'it returns false'. Refute it at one input. -/
def powerDeficitWrong : ChangeSpec := { name := "powerDeficit", fn := fun _ => fun
  | [d1, d2, d3, d4, d5] => { results := [.lit (.bool false)], args := [d1, d2, d3, d4, d5] }
  | _ => none }
def PowerDeficitWrongFalsely : Prop := powerDeficitRow.holds Try.pinned (OpenSpec.ofChange powerDeficitWrong)

/-- 'perigeelaw10.PowerBySteps': WHATEVER THE INPUT: true; the input reads as it did. -/
def powerByStepsSpec : ChangeSpec := { name := "powerBySteps", fn := fun _ => fun
  | [d] => { results := [.lit (.bool true)], args := [d] }
  | _ => none }
def powerByStepsRow : OpenClaim := { program := "ytamfifndddldcaa", sum := "0d8fdb79cd28073ffc5925084345eeb4579f9c6174d7896e97eb9a1a83f98c2d", func := "perigee/perigeelaw10.PowerBySteps", spec := "powerBySteps", unfollowed := true, recurses := true, apart := false }
def PowerByStepsSaid : Prop := powerByStepsRow.holds Try.pinned (OpenSpec.ofChange powerByStepsSpec)

/-- ITS FALSE NEIGHBOUR: 'it returns false'. Refute it at one input. -/
def powerByStepsWrong : ChangeSpec := { name := "powerBySteps", fn := fun _ => fun
  | [d] => { results := [.lit (.bool false)], args := [d] }
  | _ => none }
def PowerByStepsWrongFalsely : Prop := powerByStepsRow.holds Try.pinned (OpenSpec.ofChange powerByStepsWrong)

/-- 'perigeelaw10.PowerSafe': WHATEVER THE INPUT: true; the input reads as it did. -/
def powerSafeSpec : ChangeSpec := { name := "powerSafe", fn := fun _ => fun
  | [d1, d2, d3, d4, d5] => { results := [.lit (.bool true)], args := [d1, d2, d3, d4, d5] }
  | _ => none }
def powerSafeRow : OpenClaim := { program := "ytamfifndddldcaa", sum := "0d8fdb79cd28073ffc5925084345eeb4579f9c6174d7896e97eb9a1a83f98c2d", func := "perigee/perigeelaw10.PowerSafe", spec := "powerSafe", unfollowed := true, recurses := true, apart := false }
def PowerSafeSaid : Prop := powerSafeRow.holds Try.pinned (OpenSpec.ofChange powerSafeSpec)

/-- ITS FALSE NEIGHBOUR: 'it returns false'. Refute it at one input. -/
def powerSafeWrong : ChangeSpec := { name := "powerSafe", fn := fun _ => fun
  | [d1, d2, d3, d4, d5] => { results := [.lit (.bool false)], args := [d1, d2, d3, d4, d5] }
  | _ => none }
def PowerSafeWrongFalsely : Prop := powerSafeRow.holds Try.pinned (OpenSpec.ofChange powerSafeWrong)

/- THE SECOND FORM. 'bulk': how many values and letters a reading holds, each counted each time it is reached (what is shared counts as often as it is met; a slice's spare places count too). A statement '..UptoSaid' is the law's where the arguments, and the package variables that the reading takes, are together of bulk at most 1048576: NARROWER than '..Said'. Prove '..Said' where nothing that the law and all that it calls make is longer than what came in: it says more and counts as full. Else prove '..UptoSaid'. A law counts once. -/
mutual
def uptoBulk {H : Type} : DataW H → Nat
  | .lit (.string bytes) => bytes.length + 1
  | .lit _ => 1
  | .nil => 1
  | .ptr d => uptoBulk d + 1
  | .slice elems spare => uptoBulkAll elems + uptoBulkAll spare + 1
  | .agg parts => uptoBulkAll parts + 1
  | .iface _ d => uptoBulk d + 1
  | .map entries => uptoBulkEntries entries + 1
  | .held _ => 1
def uptoBulkAll {H : Type} : List (DataW H) → Nat
  | [] => 0
  | d :: r => uptoBulk d + uptoBulkAll r
def uptoBulkEntries {H : Type} : List (Lit × DataW H) → Nat
  | [] => 0
  | x :: r => uptoBulkEntry x + uptoBulkEntries r
def uptoBulkEntry {H : Type} : Lit × DataW H → Nat
  | (.string bytes, d) => bytes.length + uptoBulk d + 1
  | (_, d) => uptoBulk d + 1
 end
def uptoSmall : (H : Type) → List (DataW H) → Bool := fun _ ds => decide (uptoBulkAll ds ≤ 1048576)
def OpenSpec.upto (s : _root_.Go.ChangeSpec) : _root_.Go.OpenSpec := { _root_.Go.OpenSpec.ofChange s with cond := some uptoSmall }

/-- 'perigeelaw10.PowerChecks', WHERE WHAT IT READS IS OF BULK AT MOST 1048576: true; the input reads as it did. -/
def powerChecksUptoRow : OpenClaim := { program := "ytamfifndddldcaa", sum := "0d8fdb79cd28073ffc5925084345eeb4579f9c6174d7896e97eb9a1a83f98c2d", func := "perigee/perigeelaw10.PowerChecks", spec := "powerChecks", unfollowed := true, recurses := true, apart := false, narrowed := true }
def PowerChecksUptoSaid : Prop := powerChecksUptoRow.holds Try.pinned (OpenSpec.upto powerChecksSpec)

/-- 'perigeelaw10.PowerSteps', WHERE WHAT IT READS IS OF BULK AT MOST 1048576: true; the input reads as it did. -/
def powerStepsUptoRow : OpenClaim := { program := "ytamfifndddldcaa", sum := "0d8fdb79cd28073ffc5925084345eeb4579f9c6174d7896e97eb9a1a83f98c2d", func := "perigee/perigeelaw10.PowerSteps", spec := "powerSteps", unfollowed := true, recurses := true, apart := false, narrowed := true }
def PowerStepsUptoSaid : Prop := powerStepsUptoRow.holds Try.pinned (OpenSpec.upto powerStepsSpec)

/-- 'perigeelaw10.PowerConserves', WHERE WHAT IT READS IS OF BULK AT MOST 1048576: true; the input reads as it did. -/
def powerConservesUptoRow : OpenClaim := { program := "ytamfifndddldcaa", sum := "0d8fdb79cd28073ffc5925084345eeb4579f9c6174d7896e97eb9a1a83f98c2d", func := "perigee/perigeelaw10.PowerConserves", spec := "powerConserves", unfollowed := true, recurses := true, apart := false, narrowed := true }
def PowerConservesUptoSaid : Prop := powerConservesUptoRow.holds Try.pinned (OpenSpec.upto powerConservesSpec)

/-- 'perigeelaw10.PowerReserves', WHERE WHAT IT READS IS OF BULK AT MOST 1048576: true; the input reads as it did. -/
def powerReservesUptoRow : OpenClaim := { program := "ytamfifndddldcaa", sum := "0d8fdb79cd28073ffc5925084345eeb4579f9c6174d7896e97eb9a1a83f98c2d", func := "perigee/perigeelaw10.PowerReserves", spec := "powerReserves", unfollowed := true, recurses := true, apart := false, narrowed := true }
def PowerReservesUptoSaid : Prop := powerReservesUptoRow.holds Try.pinned (OpenSpec.upto powerReservesSpec)

/-- 'perigeelaw10.PowerLeastCharge', WHERE WHAT IT READS IS OF BULK AT MOST 1048576: true; the input reads as it did. -/
def powerLeastChargeUptoRow : OpenClaim := { program := "ytamfifndddldcaa", sum := "0d8fdb79cd28073ffc5925084345eeb4579f9c6174d7896e97eb9a1a83f98c2d", func := "perigee/perigeelaw10.PowerLeastCharge", spec := "powerLeastCharge", unfollowed := true, recurses := true, apart := false, narrowed := true }
def PowerLeastChargeUptoSaid : Prop := powerLeastChargeUptoRow.holds Try.pinned (OpenSpec.upto powerLeastChargeSpec)

/-- 'perigeelaw10.PowerMonotone', WHERE WHAT IT READS IS OF BULK AT MOST 1048576: true; the input reads as it did. -/
def powerMonotoneUptoRow : OpenClaim := { program := "ytamfifndddldcaa", sum := "0d8fdb79cd28073ffc5925084345eeb4579f9c6174d7896e97eb9a1a83f98c2d", func := "perigee/perigeelaw10.PowerMonotone", spec := "powerMonotone", unfollowed := true, recurses := true, apart := false, narrowed := true }
def PowerMonotoneUptoSaid : Prop := powerMonotoneUptoRow.holds Try.pinned (OpenSpec.upto powerMonotoneSpec)

/-- 'perigeelaw10.PowerDeficit', WHERE WHAT IT READS IS OF BULK AT MOST 1048576: true; the input reads as it did. -/
def powerDeficitUptoRow : OpenClaim := { program := "ytamfifndddldcaa", sum := "0d8fdb79cd28073ffc5925084345eeb4579f9c6174d7896e97eb9a1a83f98c2d", func := "perigee/perigeelaw10.PowerDeficit", spec := "powerDeficit", unfollowed := true, recurses := true, apart := false, narrowed := true }
def PowerDeficitUptoSaid : Prop := powerDeficitUptoRow.holds Try.pinned (OpenSpec.upto powerDeficitSpec)

/-- 'perigeelaw10.PowerBySteps', WHERE WHAT IT READS IS OF BULK AT MOST 1048576: true; the input reads as it did. -/
def powerByStepsUptoRow : OpenClaim := { program := "ytamfifndddldcaa", sum := "0d8fdb79cd28073ffc5925084345eeb4579f9c6174d7896e97eb9a1a83f98c2d", func := "perigee/perigeelaw10.PowerBySteps", spec := "powerBySteps", unfollowed := true, recurses := true, apart := false, narrowed := true }
def PowerByStepsUptoSaid : Prop := powerByStepsUptoRow.holds Try.pinned (OpenSpec.upto powerByStepsSpec)

/-- 'perigeelaw10.PowerSafe', WHERE WHAT IT READS IS OF BULK AT MOST 1048576: true; the input reads as it did. -/
def powerSafeUptoRow : OpenClaim := { program := "ytamfifndddldcaa", sum := "0d8fdb79cd28073ffc5925084345eeb4579f9c6174d7896e97eb9a1a83f98c2d", func := "perigee/perigeelaw10.PowerSafe", spec := "powerSafe", unfollowed := true, recurses := true, apart := false, narrowed := true }
def PowerSafeUptoSaid : Prop := powerSafeUptoRow.holds Try.pinned (OpenSpec.upto powerSafeSpec)

end Rows
end Go.Proofs.Ytamfifndddldcaa
