/-
  NARROWER THAN 'FOR EVERY INPUT', by the rows' own cells (each row's printed sentence says how): ModeCheck: laid · ModeReact: laid · ModeBudget: laid · ModePermits: laid · ModeConverges: laid · ModeLoads: laid · ModeSafe: laid · ModeRecover: laid.
  DERIVED. THE GIVEN ROWS OF THIS SEAT. 8 by the template 'for every input the law returns true; each argument reads behind the call as it read before'; 0 by the template 'total and deterministic' (their statements: YtgfmnolghbiedaaDoorTotals.lean).
  GIVEN WITH THE SEED: the statements are not yours to turn. If you find one false, say at which input.
  Laid BY PROGRAM, IN A SANDBOX (cutbox-rows.mjs): the forced cells as the released guide's own fill.sh prints them over the translation 32d3766f116ab974… (all of the seat's roots in one cut). By AI agents, Wed Nov 11 2026. No macro, syntax, notation, axiom, sorry.
-/
import Derived.Test.YtgfmnolghbiedaaDoorChecked
import GoSem.Claim
import GoSem.ClaimJoined
import GoSem.ClaimMapViews
import Derived.JoinedTies
import Derived.KernelRfl
namespace Go.Proofs.YtgfmnolghbiedaaDoor
/- THE CELL 'sum', in the pinned program and in every row, IS THE sha256 OF THE DUMP (.gsa) THAT YtgfmnolghbiedaaDoorProg.lean LOADS. Nothing in Lean hashes anything: it is a label: what it is worth is what the hold of that sum in a sandbox is worth. -/
noncomputable def Tryd.pinned : Pinned := { name := "ytgfmnolghbiedaadoor", sum := "32d3766f116ab974ae0301f17a4d3a8fec248ae632fe3630d799601a06fc5dbf", checked := Tryd.checked }
namespace Rows
def none {H : Type} : Left H := { results := [], args := [] }

/- WHAT THE LISTED PACKAGE-LEVEL VARIABLES READ AS WHEN THE CALL BEGINS. Each datum BY PROGRAM (the guide's laid-datum.mjs) off the statement by which the dump's own 'gosem.cut.vars' lays the variable. In a bare row this is a premise. The card (YtgfmnolghbiedaaDoorCards.lean) ties it to the program's text. -/
def laid_perigee_mode_permitted {H : Type} : DataW H := .agg [.agg [.lit (.bool true), .lit (.bool true)], .agg [.lit (.bool true), .lit (.bool false)], .agg [.lit (.bool false), .lit (.bool false)]]

/-- 'perigeelaw31.ModeCheck': WHATEVER THE INPUT: true; the input reads as it did. -/
def modeCheckSpec : ChangeSpec := { name := "modeCheck", fn := fun _ => fun
  | [d] => { results := [.lit (.bool true)], args := [d] }
  | _ => none }
def modeCheckRow : OpenClaim := { program := "ytgfmnolghbiedaadoor", sum := "32d3766f116ab974ae0301f17a4d3a8fec248ae632fe3630d799601a06fc5dbf", func := "perigee/perigeelaw31.ModeCheck", spec := "modeCheck", unfollowed := true, recurses := true, named := ["perigee/mode.permitted"], apart := false, laid := [("perigee/mode.permitted", laid_perigee_mode_permitted)] }
def ModeCheckSaid : Prop := modeCheckRow.holds Tryd.pinned (OpenSpec.ofChange modeCheckSpec)

/-- ITS FALSE NEIGHBOUR: 'it returns false'. Refute it at one input. -/
def modeCheckWrong : ChangeSpec := { name := "modeCheck", fn := fun _ => fun
  | [d] => { results := [.lit (.bool false)], args := [d] }
  | _ => none }
def ModeCheckWrongFalsely : Prop := modeCheckRow.holds Tryd.pinned (OpenSpec.ofChange modeCheckWrong)

/-- 'perigeelaw31.ModeReact': WHATEVER THE INPUT: true; the input reads as it did. -/
def modeReactSpec : ChangeSpec := { name := "modeReact", fn := fun _ => fun
  | [d1, d2, d3, d4, d5] => { results := [.lit (.bool true)], args := [d1, d2, d3, d4, d5] }
  | _ => none }
def modeReactRow : OpenClaim := { program := "ytgfmnolghbiedaadoor", sum := "32d3766f116ab974ae0301f17a4d3a8fec248ae632fe3630d799601a06fc5dbf", func := "perigee/perigeelaw31.ModeReact", spec := "modeReact", unfollowed := true, recurses := true, named := ["perigee/mode.permitted"], apart := false, laid := [("perigee/mode.permitted", laid_perigee_mode_permitted)] }
def ModeReactSaid : Prop := modeReactRow.holds Tryd.pinned (OpenSpec.ofChange modeReactSpec)

/-- ITS FALSE NEIGHBOUR: 'it returns false'. Refute it at one input. -/
def modeReactWrong : ChangeSpec := { name := "modeReact", fn := fun _ => fun
  | [d1, d2, d3, d4, d5] => { results := [.lit (.bool false)], args := [d1, d2, d3, d4, d5] }
  | _ => none }
def ModeReactWrongFalsely : Prop := modeReactRow.holds Tryd.pinned (OpenSpec.ofChange modeReactWrong)

/-- 'perigeelaw31.ModeBudget': WHATEVER THE INPUT: true; the input reads as it did. -/
def modeBudgetSpec : ChangeSpec := { name := "modeBudget", fn := fun _ => fun
  | [d1, d2, d3, d4, d5, d6, d7, d8] => { results := [.lit (.bool true)], args := [d1, d2, d3, d4, d5, d6, d7, d8] }
  | _ => none }
def modeBudgetRow : OpenClaim := { program := "ytgfmnolghbiedaadoor", sum := "32d3766f116ab974ae0301f17a4d3a8fec248ae632fe3630d799601a06fc5dbf", func := "perigee/perigeelaw31.ModeBudget", spec := "modeBudget", unfollowed := true, recurses := true, named := ["perigee/mode.permitted"], apart := false, laid := [("perigee/mode.permitted", laid_perigee_mode_permitted)] }
def ModeBudgetSaid : Prop := modeBudgetRow.holds Tryd.pinned (OpenSpec.ofChange modeBudgetSpec)

/-- ITS FALSE NEIGHBOUR: 'it returns false'. Refute it at one input. -/
def modeBudgetWrong : ChangeSpec := { name := "modeBudget", fn := fun _ => fun
  | [d1, d2, d3, d4, d5, d6, d7, d8] => { results := [.lit (.bool false)], args := [d1, d2, d3, d4, d5, d6, d7, d8] }
  | _ => none }
def ModeBudgetWrongFalsely : Prop := modeBudgetRow.holds Tryd.pinned (OpenSpec.ofChange modeBudgetWrong)

/-- 'perigeelaw31.ModePermits': WHATEVER THE INPUT: true; the input reads as it did. -/
def modePermitsSpec : ChangeSpec := { name := "modePermits", fn := fun _ => fun
  | [d1, d2] => { results := [.lit (.bool true)], args := [d1, d2] }
  | _ => none }
def modePermitsRow : OpenClaim := { program := "ytgfmnolghbiedaadoor", sum := "32d3766f116ab974ae0301f17a4d3a8fec248ae632fe3630d799601a06fc5dbf", func := "perigee/perigeelaw31.ModePermits", spec := "modePermits", unfollowed := true, recurses := true, named := ["perigee/mode.permitted"], apart := false, laid := [("perigee/mode.permitted", laid_perigee_mode_permitted)] }
def ModePermitsSaid : Prop := modePermitsRow.holds Tryd.pinned (OpenSpec.ofChange modePermitsSpec)

/-- ITS FALSE NEIGHBOUR: 'it returns false'. Refute it at one input. -/
def modePermitsWrong : ChangeSpec := { name := "modePermits", fn := fun _ => fun
  | [d1, d2] => { results := [.lit (.bool false)], args := [d1, d2] }
  | _ => none }
def ModePermitsWrongFalsely : Prop := modePermitsRow.holds Tryd.pinned (OpenSpec.ofChange modePermitsWrong)

/-- 'perigeelaw31.ModeConverges': WHATEVER THE INPUT: true; the input reads as it did. -/
def modeConvergesSpec : ChangeSpec := { name := "modeConverges", fn := fun _ => fun
  | [d1, d2, d3, d4, d5, d6] => { results := [.lit (.bool true)], args := [d1, d2, d3, d4, d5, d6] }
  | _ => none }
def modeConvergesRow : OpenClaim := { program := "ytgfmnolghbiedaadoor", sum := "32d3766f116ab974ae0301f17a4d3a8fec248ae632fe3630d799601a06fc5dbf", func := "perigee/perigeelaw31.ModeConverges", spec := "modeConverges", unfollowed := true, recurses := true, named := ["perigee/mode.permitted"], apart := false, laid := [("perigee/mode.permitted", laid_perigee_mode_permitted)] }
def ModeConvergesSaid : Prop := modeConvergesRow.holds Tryd.pinned (OpenSpec.ofChange modeConvergesSpec)

/-- ITS FALSE NEIGHBOUR: 'it returns false'. Refute it at one input. -/
def modeConvergesWrong : ChangeSpec := { name := "modeConverges", fn := fun _ => fun
  | [d1, d2, d3, d4, d5, d6] => { results := [.lit (.bool false)], args := [d1, d2, d3, d4, d5, d6] }
  | _ => none }
def ModeConvergesWrongFalsely : Prop := modeConvergesRow.holds Tryd.pinned (OpenSpec.ofChange modeConvergesWrong)

/-- 'perigeelaw31.ModeLoads': WHATEVER THE INPUT: true; the input reads as it did. -/
def modeLoadsSpec : ChangeSpec := { name := "modeLoads", fn := fun _ => fun
  | [d1, d2] => { results := [.lit (.bool true)], args := [d1, d2] }
  | _ => none }
def modeLoadsRow : OpenClaim := { program := "ytgfmnolghbiedaadoor", sum := "32d3766f116ab974ae0301f17a4d3a8fec248ae632fe3630d799601a06fc5dbf", func := "perigee/perigeelaw31.ModeLoads", spec := "modeLoads", unfollowed := true, recurses := true, named := ["perigee/mode.permitted"], apart := false, laid := [("perigee/mode.permitted", laid_perigee_mode_permitted)] }
def ModeLoadsSaid : Prop := modeLoadsRow.holds Tryd.pinned (OpenSpec.ofChange modeLoadsSpec)

/-- ITS FALSE NEIGHBOUR: 'it returns false'. Refute it at one input. -/
def modeLoadsWrong : ChangeSpec := { name := "modeLoads", fn := fun _ => fun
  | [d1, d2] => { results := [.lit (.bool false)], args := [d1, d2] }
  | _ => none }
def ModeLoadsWrongFalsely : Prop := modeLoadsRow.holds Tryd.pinned (OpenSpec.ofChange modeLoadsWrong)

/-- 'perigeelaw31.ModeSafe': WHATEVER THE INPUT: true; the input reads as it did. -/
def modeSafeSpec : ChangeSpec := { name := "modeSafe", fn := fun _ => fun
  | [d1, d2, d3, d4] => { results := [.lit (.bool true)], args := [d1, d2, d3, d4] }
  | _ => none }
def modeSafeRow : OpenClaim := { program := "ytgfmnolghbiedaadoor", sum := "32d3766f116ab974ae0301f17a4d3a8fec248ae632fe3630d799601a06fc5dbf", func := "perigee/perigeelaw31.ModeSafe", spec := "modeSafe", unfollowed := true, recurses := true, named := ["perigee/mode.permitted"], apart := false, laid := [("perigee/mode.permitted", laid_perigee_mode_permitted)] }
def ModeSafeSaid : Prop := modeSafeRow.holds Tryd.pinned (OpenSpec.ofChange modeSafeSpec)

/-- ITS FALSE NEIGHBOUR: 'it returns false'. Refute it at one input. -/
def modeSafeWrong : ChangeSpec := { name := "modeSafe", fn := fun _ => fun
  | [d1, d2, d3, d4] => { results := [.lit (.bool false)], args := [d1, d2, d3, d4] }
  | _ => none }
def ModeSafeWrongFalsely : Prop := modeSafeRow.holds Tryd.pinned (OpenSpec.ofChange modeSafeWrong)

/-- 'perigeelaw31.ModeRecover': WHATEVER THE INPUT: true; the input reads as it did. -/
def modeRecoverSpec : ChangeSpec := { name := "modeRecover", fn := fun _ => fun
  | [d1, d2] => { results := [.lit (.bool true)], args := [d1, d2] }
  | _ => none }
def modeRecoverRow : OpenClaim := { program := "ytgfmnolghbiedaadoor", sum := "32d3766f116ab974ae0301f17a4d3a8fec248ae632fe3630d799601a06fc5dbf", func := "perigee/perigeelaw31.ModeRecover", spec := "modeRecover", unfollowed := true, recurses := true, named := ["perigee/mode.permitted"], apart := false, laid := [("perigee/mode.permitted", laid_perigee_mode_permitted)] }
def ModeRecoverSaid : Prop := modeRecoverRow.holds Tryd.pinned (OpenSpec.ofChange modeRecoverSpec)

/-- ITS FALSE NEIGHBOUR: 'it returns false'. Refute it at one input. -/
def modeRecoverWrong : ChangeSpec := { name := "modeRecover", fn := fun _ => fun
  | [d1, d2] => { results := [.lit (.bool false)], args := [d1, d2] }
  | _ => none }
def ModeRecoverWrongFalsely : Prop := modeRecoverRow.holds Tryd.pinned (OpenSpec.ofChange modeRecoverWrong)

/- THE SECOND FORM. 'bulk': how many values and letters a reading holds, each counted each time it is reached (what is shared counts as often as it is met; a slice's spare places count too). A statement '..UptoSaid' is the law's where the arguments, and the package variables that the reading takes, are together of bulk at most 1048576: NARROWER than '..Said'. Prove '..Said' where nothing that the law and all that it calls make is longer than what came in: it says more and counts as full. Else prove '..UptoSaid'. A law counts once. -/
mutual
def uptoBulk {H : Type} : DataW H → Nat
  | .lit (.string bytes) => bytes.length + 1
  | .lit _ => 1
  | .nil => 1
  | .ptr d => uptoBulk d + 1
  | .slice elems spare => uptoBulkAll elems + uptoBulkAll spare + 1
  | .agg parts => uptoBulkAll parts + 1
  | .iface _ d => uptoBulk d + 1
  | .map entries => uptoBulkEntries entries + 1
  | .held _ => 1
def uptoBulkAll {H : Type} : List (DataW H) → Nat
  | [] => 0
  | d :: r => uptoBulk d + uptoBulkAll r
def uptoBulkEntries {H : Type} : List (Lit × DataW H) → Nat
  | [] => 0
  | x :: r => uptoBulkEntry x + uptoBulkEntries r
def uptoBulkEntry {H : Type} : Lit × DataW H → Nat
  | (.string bytes, d) => bytes.length + uptoBulk d + 1
  | (_, d) => uptoBulk d + 1
 end
def uptoSmall : (H : Type) → List (DataW H) → Bool := fun _ ds => decide (uptoBulkAll ds ≤ 1048576)
def OpenSpec.upto (s : _root_.Go.ChangeSpec) : _root_.Go.OpenSpec := { _root_.Go.OpenSpec.ofChange s with cond := some uptoSmall }

/-- 'perigeelaw31.ModeCheck', WHERE WHAT IT READS IS OF BULK AT MOST 1048576: true; the input reads as it did. -/
def modeCheckUptoRow : OpenClaim := { program := "ytgfmnolghbiedaadoor", sum := "32d3766f116ab974ae0301f17a4d3a8fec248ae632fe3630d799601a06fc5dbf", func := "perigee/perigeelaw31.ModeCheck", spec := "modeCheck", unfollowed := true, recurses := true, named := ["perigee/mode.permitted"], apart := false, laid := [("perigee/mode.permitted", laid_perigee_mode_permitted)], narrowed := true }
def ModeCheckUptoSaid : Prop := modeCheckUptoRow.holds Tryd.pinned (OpenSpec.upto modeCheckSpec)

/-- 'perigeelaw31.ModeReact', WHERE WHAT IT READS IS OF BULK AT MOST 1048576: true; the input reads as it did. -/
def modeReactUptoRow : OpenClaim := { program := "ytgfmnolghbiedaadoor", sum := "32d3766f116ab974ae0301f17a4d3a8fec248ae632fe3630d799601a06fc5dbf", func := "perigee/perigeelaw31.ModeReact", spec := "modeReact", unfollowed := true, recurses := true, named := ["perigee/mode.permitted"], apart := false, laid := [("perigee/mode.permitted", laid_perigee_mode_permitted)], narrowed := true }
def ModeReactUptoSaid : Prop := modeReactUptoRow.holds Tryd.pinned (OpenSpec.upto modeReactSpec)

/-- 'perigeelaw31.ModeBudget', WHERE WHAT IT READS IS OF BULK AT MOST 1048576: true; the input reads as it did. -/
def modeBudgetUptoRow : OpenClaim := { program := "ytgfmnolghbiedaadoor", sum := "32d3766f116ab974ae0301f17a4d3a8fec248ae632fe3630d799601a06fc5dbf", func := "perigee/perigeelaw31.ModeBudget", spec := "modeBudget", unfollowed := true, recurses := true, named := ["perigee/mode.permitted"], apart := false, laid := [("perigee/mode.permitted", laid_perigee_mode_permitted)], narrowed := true }
def ModeBudgetUptoSaid : Prop := modeBudgetUptoRow.holds Tryd.pinned (OpenSpec.upto modeBudgetSpec)

/-- 'perigeelaw31.ModePermits', WHERE WHAT IT READS IS OF BULK AT MOST 1048576: true; the input reads as it did. -/
def modePermitsUptoRow : OpenClaim := { program := "ytgfmnolghbiedaadoor", sum := "32d3766f116ab974ae0301f17a4d3a8fec248ae632fe3630d799601a06fc5dbf", func := "perigee/perigeelaw31.ModePermits", spec := "modePermits", unfollowed := true, recurses := true, named := ["perigee/mode.permitted"], apart := false, laid := [("perigee/mode.permitted", laid_perigee_mode_permitted)], narrowed := true }
def ModePermitsUptoSaid : Prop := modePermitsUptoRow.holds Tryd.pinned (OpenSpec.upto modePermitsSpec)

/-- 'perigeelaw31.ModeConverges', WHERE WHAT IT READS IS OF BULK AT MOST 1048576: true; the input reads as it did. -/
def modeConvergesUptoRow : OpenClaim := { program := "ytgfmnolghbiedaadoor", sum := "32d3766f116ab974ae0301f17a4d3a8fec248ae632fe3630d799601a06fc5dbf", func := "perigee/perigeelaw31.ModeConverges", spec := "modeConverges", unfollowed := true, recurses := true, named := ["perigee/mode.permitted"], apart := false, laid := [("perigee/mode.permitted", laid_perigee_mode_permitted)], narrowed := true }
def ModeConvergesUptoSaid : Prop := modeConvergesUptoRow.holds Tryd.pinned (OpenSpec.upto modeConvergesSpec)

/-- 'perigeelaw31.ModeLoads', WHERE WHAT IT READS IS OF BULK AT MOST 1048576: true; the input reads as it did. -/
def modeLoadsUptoRow : OpenClaim := { program := "ytgfmnolghbiedaadoor", sum := "32d3766f116ab974ae0301f17a4d3a8fec248ae632fe3630d799601a06fc5dbf", func := "perigee/perigeelaw31.ModeLoads", spec := "modeLoads", unfollowed := true, recurses := true, named := ["perigee/mode.permitted"], apart := false, laid := [("perigee/mode.permitted", laid_perigee_mode_permitted)], narrowed := true }
def ModeLoadsUptoSaid : Prop := modeLoadsUptoRow.holds Tryd.pinned (OpenSpec.upto modeLoadsSpec)

/-- 'perigeelaw31.ModeSafe', WHERE WHAT IT READS IS OF BULK AT MOST 1048576: true; the input reads as it did. -/
def modeSafeUptoRow : OpenClaim := { program := "ytgfmnolghbiedaadoor", sum := "32d3766f116ab974ae0301f17a4d3a8fec248ae632fe3630d799601a06fc5dbf", func := "perigee/perigeelaw31.ModeSafe", spec := "modeSafe", unfollowed := true, recurses := true, named := ["perigee/mode.permitted"], apart := false, laid := [("perigee/mode.permitted", laid_perigee_mode_permitted)], narrowed := true }
def ModeSafeUptoSaid : Prop := modeSafeUptoRow.holds Tryd.pinned (OpenSpec.upto modeSafeSpec)

/-- 'perigeelaw31.ModeRecover', WHERE WHAT IT READS IS OF BULK AT MOST 1048576: true; the input reads as it did. -/
def modeRecoverUptoRow : OpenClaim := { program := "ytgfmnolghbiedaadoor", sum := "32d3766f116ab974ae0301f17a4d3a8fec248ae632fe3630d799601a06fc5dbf", func := "perigee/perigeelaw31.ModeRecover", spec := "modeRecover", unfollowed := true, recurses := true, named := ["perigee/mode.permitted"], apart := false, laid := [("perigee/mode.permitted", laid_perigee_mode_permitted)], narrowed := true }
def ModeRecoverUptoSaid : Prop := modeRecoverUptoRow.holds Tryd.pinned (OpenSpec.upto modeRecoverSpec)

end Rows
end Go.Proofs.YtgfmnolghbiedaaDoor
