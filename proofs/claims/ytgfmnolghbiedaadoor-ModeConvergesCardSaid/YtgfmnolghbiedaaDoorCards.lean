/-
  DERIVED. GIVEN WITH THE SEED: THE CARDS: each row of YtgfmnolghbiedaaDoorRows.lean that lists a variable, with what it lists TIED to the program's text (the seventh form; the later family's looks); each row that meets fmt, with fmt's text TOLD by the authors' own Lean function (tested against real Go, not proved from fmt's source: count such statements apart). THE CARD IS WHAT COUNTS. Prove the row's statement (the work); the ties are given (YtgfmnolghbiedaaDoorTie.lean); close each card by the builder's one call (the guide's Derived/Test/ToyasCard.lean, 'card_holds'). Laid BY PROGRAM, IN A SANDBOX (cutbox-door.mjs). By AI agents, Wed Nov 11 2026. No macro, syntax, notation, axiom, sorry.
-/
import Derived.Test.YtgfmnolghbiedaaDoorRows
import GoSem.ClaimSeven
namespace Go.Proofs.YtgfmnolghbiedaaDoor
namespace Rows

/-- THE TIED CARD OF 'perigeelaw31.ModeCheck'. -/
def modeCheckCard : Claim7 := { stood := { row := modeCheckRow, standIns := [], harness := (true, "ccf4692eb785d681fff224e6627c9955642b593329d036456035bd106bbb8178"), looks := false }, kinds := [], alts := [], laidByText := true, laidKinds := [.data], laidTests := true, laidLooks := .later }
def ModeCheckCardSaid : Prop := Claim7.holds Tryd.pinned (.plain (OpenSpec.ofChange modeCheckSpec)) modeCheckCard

/-- THE TIED CARD OF 'perigeelaw31.ModeReact'. -/
def modeReactCard : Claim7 := { stood := { row := modeReactRow, standIns := [], harness := (true, "ccf4692eb785d681fff224e6627c9955642b593329d036456035bd106bbb8178"), looks := false }, kinds := [], alts := [], laidByText := true, laidKinds := [.data], laidTests := true, laidLooks := .later }
def ModeReactCardSaid : Prop := Claim7.holds Tryd.pinned (.plain (OpenSpec.ofChange modeReactSpec)) modeReactCard

/-- THE TIED CARD OF 'perigeelaw31.ModeBudget'. -/
def modeBudgetCard : Claim7 := { stood := { row := modeBudgetRow, standIns := [], harness := (true, "ccf4692eb785d681fff224e6627c9955642b593329d036456035bd106bbb8178"), looks := false }, kinds := [], alts := [], laidByText := true, laidKinds := [.data], laidTests := true, laidLooks := .later }
def ModeBudgetCardSaid : Prop := Claim7.holds Tryd.pinned (.plain (OpenSpec.ofChange modeBudgetSpec)) modeBudgetCard

/-- THE TIED CARD OF 'perigeelaw31.ModePermits'. -/
def modePermitsCard : Claim7 := { stood := { row := modePermitsRow, standIns := [], harness := (true, "ccf4692eb785d681fff224e6627c9955642b593329d036456035bd106bbb8178"), looks := false }, kinds := [], alts := [], laidByText := true, laidKinds := [.data], laidTests := true, laidLooks := .later }
def ModePermitsCardSaid : Prop := Claim7.holds Tryd.pinned (.plain (OpenSpec.ofChange modePermitsSpec)) modePermitsCard

/-- THE TIED CARD OF 'perigeelaw31.ModeConverges'. -/
def modeConvergesCard : Claim7 := { stood := { row := modeConvergesRow, standIns := [], harness := (true, "ccf4692eb785d681fff224e6627c9955642b593329d036456035bd106bbb8178"), looks := false }, kinds := [], alts := [], laidByText := true, laidKinds := [.data], laidTests := true, laidLooks := .later }
def ModeConvergesCardSaid : Prop := Claim7.holds Tryd.pinned (.plain (OpenSpec.ofChange modeConvergesSpec)) modeConvergesCard

/-- THE TIED CARD OF 'perigeelaw31.ModeLoads'. -/
def modeLoadsCard : Claim7 := { stood := { row := modeLoadsRow, standIns := [], harness := (true, "ccf4692eb785d681fff224e6627c9955642b593329d036456035bd106bbb8178"), looks := false }, kinds := [], alts := [], laidByText := true, laidKinds := [.data], laidTests := true, laidLooks := .later }
def ModeLoadsCardSaid : Prop := Claim7.holds Tryd.pinned (.plain (OpenSpec.ofChange modeLoadsSpec)) modeLoadsCard

/-- THE TIED CARD OF 'perigeelaw31.ModeSafe'. -/
def modeSafeCard : Claim7 := { stood := { row := modeSafeRow, standIns := [], harness := (true, "ccf4692eb785d681fff224e6627c9955642b593329d036456035bd106bbb8178"), looks := false }, kinds := [], alts := [], laidByText := true, laidKinds := [.data], laidTests := true, laidLooks := .later }
def ModeSafeCardSaid : Prop := Claim7.holds Tryd.pinned (.plain (OpenSpec.ofChange modeSafeSpec)) modeSafeCard

/-- THE TIED CARD OF 'perigeelaw31.ModeRecover'. -/
def modeRecoverCard : Claim7 := { stood := { row := modeRecoverRow, standIns := [], harness := (true, "ccf4692eb785d681fff224e6627c9955642b593329d036456035bd106bbb8178"), looks := false }, kinds := [], alts := [], laidByText := true, laidKinds := [.data], laidTests := true, laidLooks := .later }
def ModeRecoverCardSaid : Prop := Claim7.holds Tryd.pinned (.plain (OpenSpec.ofChange modeRecoverSpec)) modeRecoverCard

/-- THE SECOND FORM's CARD OF 'perigeelaw31.ModeCheck'. -/
def modeCheckUptoCard : Claim7 := { stood := { row := modeCheckUptoRow, standIns := [], harness := (true, "ccf4692eb785d681fff224e6627c9955642b593329d036456035bd106bbb8178"), looks := false }, kinds := [], alts := [], laidByText := true, laidKinds := [.data], laidTests := true, laidLooks := .later }
def ModeCheckUptoCardSaid : Prop := Claim7.holds Tryd.pinned (.plain (OpenSpec.upto modeCheckSpec)) modeCheckUptoCard

/-- THE SECOND FORM's CARD OF 'perigeelaw31.ModeReact'. -/
def modeReactUptoCard : Claim7 := { stood := { row := modeReactUptoRow, standIns := [], harness := (true, "ccf4692eb785d681fff224e6627c9955642b593329d036456035bd106bbb8178"), looks := false }, kinds := [], alts := [], laidByText := true, laidKinds := [.data], laidTests := true, laidLooks := .later }
def ModeReactUptoCardSaid : Prop := Claim7.holds Tryd.pinned (.plain (OpenSpec.upto modeReactSpec)) modeReactUptoCard

/-- THE SECOND FORM's CARD OF 'perigeelaw31.ModeBudget'. -/
def modeBudgetUptoCard : Claim7 := { stood := { row := modeBudgetUptoRow, standIns := [], harness := (true, "ccf4692eb785d681fff224e6627c9955642b593329d036456035bd106bbb8178"), looks := false }, kinds := [], alts := [], laidByText := true, laidKinds := [.data], laidTests := true, laidLooks := .later }
def ModeBudgetUptoCardSaid : Prop := Claim7.holds Tryd.pinned (.plain (OpenSpec.upto modeBudgetSpec)) modeBudgetUptoCard

/-- THE SECOND FORM's CARD OF 'perigeelaw31.ModePermits'. -/
def modePermitsUptoCard : Claim7 := { stood := { row := modePermitsUptoRow, standIns := [], harness := (true, "ccf4692eb785d681fff224e6627c9955642b593329d036456035bd106bbb8178"), looks := false }, kinds := [], alts := [], laidByText := true, laidKinds := [.data], laidTests := true, laidLooks := .later }
def ModePermitsUptoCardSaid : Prop := Claim7.holds Tryd.pinned (.plain (OpenSpec.upto modePermitsSpec)) modePermitsUptoCard

/-- THE SECOND FORM's CARD OF 'perigeelaw31.ModeConverges'. -/
def modeConvergesUptoCard : Claim7 := { stood := { row := modeConvergesUptoRow, standIns := [], harness := (true, "ccf4692eb785d681fff224e6627c9955642b593329d036456035bd106bbb8178"), looks := false }, kinds := [], alts := [], laidByText := true, laidKinds := [.data], laidTests := true, laidLooks := .later }
def ModeConvergesUptoCardSaid : Prop := Claim7.holds Tryd.pinned (.plain (OpenSpec.upto modeConvergesSpec)) modeConvergesUptoCard

/-- THE SECOND FORM's CARD OF 'perigeelaw31.ModeLoads'. -/
def modeLoadsUptoCard : Claim7 := { stood := { row := modeLoadsUptoRow, standIns := [], harness := (true, "ccf4692eb785d681fff224e6627c9955642b593329d036456035bd106bbb8178"), looks := false }, kinds := [], alts := [], laidByText := true, laidKinds := [.data], laidTests := true, laidLooks := .later }
def ModeLoadsUptoCardSaid : Prop := Claim7.holds Tryd.pinned (.plain (OpenSpec.upto modeLoadsSpec)) modeLoadsUptoCard

/-- THE SECOND FORM's CARD OF 'perigeelaw31.ModeSafe'. -/
def modeSafeUptoCard : Claim7 := { stood := { row := modeSafeUptoRow, standIns := [], harness := (true, "ccf4692eb785d681fff224e6627c9955642b593329d036456035bd106bbb8178"), looks := false }, kinds := [], alts := [], laidByText := true, laidKinds := [.data], laidTests := true, laidLooks := .later }
def ModeSafeUptoCardSaid : Prop := Claim7.holds Tryd.pinned (.plain (OpenSpec.upto modeSafeSpec)) modeSafeUptoCard

/-- THE SECOND FORM's CARD OF 'perigeelaw31.ModeRecover'. -/
def modeRecoverUptoCard : Claim7 := { stood := { row := modeRecoverUptoRow, standIns := [], harness := (true, "ccf4692eb785d681fff224e6627c9955642b593329d036456035bd106bbb8178"), looks := false }, kinds := [], alts := [], laidByText := true, laidKinds := [.data], laidTests := true, laidLooks := .later }
def ModeRecoverUptoCardSaid : Prop := Claim7.holds Tryd.pinned (.plain (OpenSpec.upto modeRecoverSpec)) modeRecoverUptoCard
end Rows
end Go.Proofs.YtgfmnolghbiedaaDoor
