/-
  DERIVED. GIVEN WITH THE SEED: THE CARDS: each row of YtpnjebpbglgebaaDoorRows.lean that lists a variable, with what it lists TIED to the program's text (the seventh form; the later family's looks); each row that meets fmt, with fmt's text TOLD by the authors' own Lean function (tested against real Go, not proved from fmt's source: count such statements apart). THE CARD IS WHAT COUNTS. Prove the row's statement (the work); the ties are given (YtpnjebpbglgebaaDoorTie.lean); close each card by the builder's one call (the guide's Derived/Test/ToyasCard.lean, 'card_holds'). Laid BY PROGRAM, IN A SANDBOX (cutbox-door.mjs). By AI agents, Wed Nov 11 2026. No macro, syntax, notation, axiom, sorry.
-/
import Derived.Test.YtpnjebpbglgebaaDoorRows
import GoSem.ClaimSeven
namespace Go.Proofs.YtpnjebpbglgebaaDoor
namespace Rows

/-- THE TIED CARD OF 'turnkeylaw18.BankCounts'. -/
def bankCountsCard : Claim7 := { stood := { row := bankCountsRow, standIns := [], harness := (true, "a7468d535acb34bf5a5241bc5b85c6f0de0870de3c81a865cfd4790c3a4b0583"), looks := true }, kinds := [], alts := [], laidByText := true, laidKinds := [.sentinel, .sentinel, .sentinel, .sentinel, .sentinel, .sentinel, .sentinel, .sentinel, .sentinel, .sentinel, .sentinel, .sentinel], laidTests := true, laidLooks := .later }
def BankCountsCardSaid : Prop := Claim7.holds Tryd.pinned (.plain (OpenSpec.ofChange bankCountsSpec)) bankCountsCard

/-- THE TIED CARD OF 'turnkeylaw18.BankEnds'. -/
def bankEndsCard : Claim7 := { stood := { row := bankEndsRow, standIns := [], harness := (true, "a7468d535acb34bf5a5241bc5b85c6f0de0870de3c81a865cfd4790c3a4b0583"), looks := true }, kinds := [], alts := [], laidByText := true, laidKinds := [.sentinel, .sentinel, .sentinel, .sentinel, .sentinel, .sentinel, .sentinel, .sentinel, .sentinel, .sentinel, .sentinel, .sentinel], laidTests := true, laidLooks := .later }
def BankEndsCardSaid : Prop := Claim7.holds Tryd.pinned (.plain (OpenSpec.ofChange bankEndsSpec)) bankEndsCard

/-- THE SECOND FORM's CARD OF 'turnkeylaw18.BankCounts'. -/
def bankCountsUptoCard : Claim7 := { stood := { row := bankCountsUptoRow, standIns := [], harness := (true, "a7468d535acb34bf5a5241bc5b85c6f0de0870de3c81a865cfd4790c3a4b0583"), looks := true }, kinds := [], alts := [], laidByText := true, laidKinds := [.sentinel, .sentinel, .sentinel, .sentinel, .sentinel, .sentinel, .sentinel, .sentinel, .sentinel, .sentinel, .sentinel, .sentinel], laidTests := true, laidLooks := .later }
def BankCountsUptoCardSaid : Prop := Claim7.holds Tryd.pinned (.plain (OpenSpec.upto bankCountsSpec)) bankCountsUptoCard

/-- THE SECOND FORM's CARD OF 'turnkeylaw18.BankEnds'. -/
def bankEndsUptoCard : Claim7 := { stood := { row := bankEndsUptoRow, standIns := [], harness := (true, "a7468d535acb34bf5a5241bc5b85c6f0de0870de3c81a865cfd4790c3a4b0583"), looks := true }, kinds := [], alts := [], laidByText := true, laidKinds := [.sentinel, .sentinel, .sentinel, .sentinel, .sentinel, .sentinel, .sentinel, .sentinel, .sentinel, .sentinel, .sentinel, .sentinel], laidTests := true, laidLooks := .later }
def BankEndsUptoCardSaid : Prop := Claim7.holds Tryd.pinned (.plain (OpenSpec.upto bankEndsSpec)) bankEndsUptoCard
end Rows
end Go.Proofs.YtpnjebpbglgebaaDoor
