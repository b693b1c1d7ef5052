/-
  DERIVED. GIVEN WITH THE SEED: THE CARDS: each row of YtcmponmgaikkfaaDoorRows.lean that lists a variable, with what it lists TIED to the program's text (the seventh form; the later family's looks); each row that meets fmt, with fmt's text TOLD by the authors' own Lean function (tested against real Go, not proved from fmt's source: count such statements apart). THE CARD IS WHAT COUNTS. Prove the row's statement (the work); the ties are given (YtcmponmgaikkfaaDoorTie.lean); close each card by the builder's one call (the guide's Derived/Test/ToyasCard.lean, 'card_holds'). Laid BY PROGRAM, IN A SANDBOX (cutbox-door.mjs). By AI agents, Wed Nov 11 2026. No macro, syntax, notation, axiom, sorry.
-/
import Derived.Test.YtcmponmgaikkfaaDoorRows
import GoSem.ClaimSeven
namespace Go.Proofs.YtcmponmgaikkfaaDoor
namespace Rows

/-- THE TIED CARD OF 'docketlaw17.ProofJoined'. -/
def proofJoinedCard : Claim7 := { stood := { row := proofJoinedRow, standIns := [], harness := (true, "c6bce77bcae95152f47642ea6e6c9815827512213a28bbefda4862de5042e965"), looks := false }, kinds := [], alts := [], laidByText := true, laidKinds := [.data], laidTests := true, laidLooks := .later }
def ProofJoinedCardSaid : Prop := Claim7.holds Tryd.pinned (.plain (OpenSpec.ofChange proofJoinedSpec)) proofJoinedCard

/-- THE SECOND FORM's CARD OF 'docketlaw17.ProofJoined'. -/
def proofJoinedUptoCard : Claim7 := { stood := { row := proofJoinedUptoRow, standIns := [], harness := (true, "c6bce77bcae95152f47642ea6e6c9815827512213a28bbefda4862de5042e965"), looks := false }, kinds := [], alts := [], laidByText := true, laidKinds := [.data], laidTests := true, laidLooks := .later }
def ProofJoinedUptoCardSaid : Prop := Claim7.holds Tryd.pinned (.plain (OpenSpec.upto proofJoinedSpec)) proofJoinedUptoCard
end Rows
end Go.Proofs.YtcmponmgaikkfaaDoor
