/-
  DERIVED. GIVEN WITH THE SEED: THE CARDS: each row of YtinhkngomojheaaDoorRows.lean that lists a variable, with what it lists TIED to the program's text (the seventh form; the later family's looks); each row that meets fmt, with fmt's text TOLD by the authors' own Lean function (tested against real Go, not proved from fmt's source: count such statements apart). THE CARD IS WHAT COUNTS. Prove the row's statement (the work); the ties are given (YtinhkngomojheaaDoorTie.lean); close each card by the builder's one call (the guide's Derived/Test/ToyasCard.lean, 'card_holds'). Laid BY PROGRAM, IN A SANDBOX (cutbox-door.mjs). By AI agents, Wed Nov 11 2026. No macro, syntax, notation, axiom, sorry.
-/
import Derived.Test.YtinhkngomojheaaDoorRows
import GoSem.ClaimSeven
namespace Go.Proofs.YtinhkngomojheaaDoor
namespace Rows

/-- THE TIED CARD OF 'platformfwlaw22.InterruptsBalance'. -/
def interruptsBalanceCard : Claim7 := { stood := { row := interruptsBalanceRow, standIns := [], harness := (true, "f2ce4b4436c9e4ca532097f8a3b7b50c3be87faba16f454b4e0a84876faf55f0"), looks := false }, kinds := [], alts := [], laidByText := true, laidKinds := [.data], laidTests := true, laidLooks := .later }
def InterruptsBalanceCardSaid : Prop := Claim7.holds Tryd.pinned (.plain (OpenSpec.ofChange interruptsBalanceSpec)) interruptsBalanceCard

/-- THE TIED CARD OF 'platformfwlaw22.InterruptsConnect'. -/
def interruptsConnectCard : Claim7 := { stood := { row := interruptsConnectRow, standIns := [], harness := (true, "f2ce4b4436c9e4ca532097f8a3b7b50c3be87faba16f454b4e0a84876faf55f0"), looks := false }, kinds := [], alts := [], laidByText := true, laidKinds := [.data], laidTests := true, laidLooks := .later }
def InterruptsConnectCardSaid : Prop := Claim7.holds Tryd.pinned (.plain (OpenSpec.ofChange interruptsConnectSpec)) interruptsConnectCard

/-- THE TIED CARD OF 'platformfwlaw22.InterruptsSharing'. -/
def interruptsSharingCard : Claim7 := { stood := { row := interruptsSharingRow, standIns := [], harness := (true, "f2ce4b4436c9e4ca532097f8a3b7b50c3be87faba16f454b4e0a84876faf55f0"), looks := false }, kinds := [], alts := [], laidByText := true, laidKinds := [.data], laidTests := true, laidLooks := .later }
def InterruptsSharingCardSaid : Prop := Claim7.holds Tryd.pinned (.plain (OpenSpec.ofChange interruptsSharingSpec)) interruptsSharingCard

/-- THE SECOND FORM's CARD OF 'platformfwlaw22.InterruptsBalance'. -/
def interruptsBalanceUptoCard : Claim7 := { stood := { row := interruptsBalanceUptoRow, standIns := [], harness := (true, "f2ce4b4436c9e4ca532097f8a3b7b50c3be87faba16f454b4e0a84876faf55f0"), looks := false }, kinds := [], alts := [], laidByText := true, laidKinds := [.data], laidTests := true, laidLooks := .later }
def InterruptsBalanceUptoCardSaid : Prop := Claim7.holds Tryd.pinned (.plain (OpenSpec.upto interruptsBalanceSpec)) interruptsBalanceUptoCard

/-- THE SECOND FORM's CARD OF 'platformfwlaw22.InterruptsConnect'. -/
def interruptsConnectUptoCard : Claim7 := { stood := { row := interruptsConnectUptoRow, standIns := [], harness := (true, "f2ce4b4436c9e4ca532097f8a3b7b50c3be87faba16f454b4e0a84876faf55f0"), looks := false }, kinds := [], alts := [], laidByText := true, laidKinds := [.data], laidTests := true, laidLooks := .later }
def InterruptsConnectUptoCardSaid : Prop := Claim7.holds Tryd.pinned (.plain (OpenSpec.upto interruptsConnectSpec)) interruptsConnectUptoCard

/-- THE SECOND FORM's CARD OF 'platformfwlaw22.InterruptsSharing'. -/
def interruptsSharingUptoCard : Claim7 := { stood := { row := interruptsSharingUptoRow, standIns := [], harness := (true, "f2ce4b4436c9e4ca532097f8a3b7b50c3be87faba16f454b4e0a84876faf55f0"), looks := false }, kinds := [], alts := [], laidByText := true, laidKinds := [.data], laidTests := true, laidLooks := .later }
def InterruptsSharingUptoCardSaid : Prop := Claim7.holds Tryd.pinned (.plain (OpenSpec.upto interruptsSharingSpec)) interruptsSharingUptoCard
end Rows
end Go.Proofs.YtinhkngomojheaaDoor
