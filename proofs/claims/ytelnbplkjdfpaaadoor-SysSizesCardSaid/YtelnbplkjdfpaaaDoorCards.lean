/-
  DERIVED. GIVEN WITH THE SEED: THE CARDS: each row of YtelnbplkjdfpaaaDoorRows.lean that lists a variable, with what it lists TIED to the program's text (the seventh form; the later family's looks); each row that meets fmt, with fmt's text TOLD by the authors' own Lean function (tested against real Go, not proved from fmt's source: count such statements apart). THE CARD IS WHAT COUNTS. Prove the row's statement (the work); the ties are given (YtelnbplkjdfpaaaDoorTie.lean); close each card by the builder's one call (the guide's Derived/Test/ToyasCard.lean, 'card_holds'). Laid BY PROGRAM, IN A SANDBOX (cutbox-door.mjs). By AI agents, Wed Nov 11 2026. No macro, syntax, notation, axiom, sorry.
-/
import Derived.Test.YtelnbplkjdfpaaaDoorRows
import GoSem.ClaimSeven
namespace Go.Proofs.YtelnbplkjdfpaaaDoor
namespace Rows

/-- THE TIED CARD OF 'turnkeylaw21.SysSizes'. -/
def sysSizesCard : Claim7 := { stood := { row := sysSizesRow, standIns := [], harness := (true, "9daa8106d3c52ce401be045693113a466ccbd8d70f77d3785c1b862c8b478944"), looks := true }, kinds := [], alts := [], laidByText := true, laidKinds := [.sentinel, .sentinel, .sentinel, .sentinel, .sentinel, .sentinel, .sentinel, .sentinel, .sentinel, .sentinel, .sentinel, .sentinel], laidTests := true, laidLooks := .later }
def SysSizesCardSaid : Prop := Claim7.holds Tryd.pinned (.plain (OpenSpec.ofChange sysSizesSpec)) sysSizesCard

/-- THE TIED CARD OF 'turnkeylaw18.BankCounts'. -/
def bankCountsCard : Claim7 := { stood := { row := bankCountsRow, standIns := [], harness := (true, "9daa8106d3c52ce401be045693113a466ccbd8d70f77d3785c1b862c8b478944"), looks := true }, kinds := [], alts := [], laidByText := true, laidKinds := [.sentinel, .sentinel, .sentinel, .sentinel, .sentinel, .sentinel, .sentinel, .sentinel, .sentinel, .sentinel, .sentinel, .sentinel], laidTests := true, laidLooks := .later }
def BankCountsCardSaid : Prop := Claim7.holds Tryd.pinned (.plain (OpenSpec.ofChange bankCountsSpec)) bankCountsCard

/-- THE TIED CARD OF 'turnkeylaw18.BankEnds'. -/
def bankEndsCard : Claim7 := { stood := { row := bankEndsRow, standIns := [], harness := (true, "9daa8106d3c52ce401be045693113a466ccbd8d70f77d3785c1b862c8b478944"), looks := true }, kinds := [], alts := [], laidByText := true, laidKinds := [.sentinel, .sentinel, .sentinel, .sentinel, .sentinel, .sentinel, .sentinel, .sentinel, .sentinel, .sentinel, .sentinel, .sentinel], laidTests := true, laidLooks := .later }
def BankEndsCardSaid : Prop := Claim7.holds Tryd.pinned (.plain (OpenSpec.ofChange bankEndsSpec)) bankEndsCard

/-- THE TIED CARD OF 'turnkeylaw26.BootGrants'. -/
def bootGrantsCard : Claim7 := { stood := { row := bootGrantsRow, standIns := [], harness := (true, "9daa8106d3c52ce401be045693113a466ccbd8d70f77d3785c1b862c8b478944"), looks := true }, kinds := [], alts := [], laidByText := true, laidKinds := [.sentinel, .sentinel, .sentinel, .sentinel, .sentinel, .sentinel], laidTests := true, laidLooks := .later }
def BootGrantsCardSaid : Prop := Claim7.holds Tryd.pinned (.plain (OpenSpec.ofChange bootGrantsSpec)) bootGrantsCard

/-- THE TIED CARD OF 'turnkeylaw14.CodeSays'. -/
def codeSaysCard : Claim7 := { stood := { row := codeSaysRow, standIns := [], harness := (true, "9daa8106d3c52ce401be045693113a466ccbd8d70f77d3785c1b862c8b478944"), looks := true }, kinds := [], alts := [], laidByText := true, laidKinds := [.data, .data, .data, .data, .sentinel, .sentinel, .sentinel, .sentinel, .sentinel, .sentinel, .sentinel, .sentinel, .sentinel, .sentinel, .sentinel, .sentinel, .pinned], laidTests := true, laidLooks := .later }
def CodeSaysCardSaid : Prop := Claim7.holds Tryd.pinned (.plain (OpenSpec.ofChange codeSaysSpec)) codeSaysCard

/-- THE TIED CARD OF 'turnkeylaw14.CodeBack'. -/
def codeBackCard : Claim7 := { stood := { row := codeBackRow, standIns := [], harness := (true, "9daa8106d3c52ce401be045693113a466ccbd8d70f77d3785c1b862c8b478944"), looks := true }, kinds := [], alts := [], laidByText := true, laidKinds := [.data, .data, .data, .data, .sentinel, .sentinel, .pinned], laidTests := true, laidLooks := .later }
def CodeBackCardSaid : Prop := Claim7.holds Tryd.pinned (.plain (OpenSpec.ofChange codeBackSpec)) codeBackCard

/-- THE TIED CARD OF 'turnkeylaw14.CodeRows'. -/
def codeRowsCard : Claim7 := { stood := { row := codeRowsRow, standIns := [], harness := (true, "9daa8106d3c52ce401be045693113a466ccbd8d70f77d3785c1b862c8b478944"), looks := true }, kinds := [], alts := [], laidByText := true, laidKinds := [.data, .data, .data, .data, .sentinel, .sentinel, .sentinel, .sentinel, .sentinel, .sentinel, .sentinel, .sentinel, .sentinel, .sentinel, .sentinel, .sentinel, .pinned], laidTests := true, laidLooks := .later }
def CodeRowsCardSaid : Prop := Claim7.holds Tryd.pinned (.plain (OpenSpec.ofChange codeRowsSpec)) codeRowsCard

/-- THE TIED CARD OF 'turnkeylaw26.BootApart'. -/
def bootApartCard : Claim7 := { stood := { row := bootApartRow, standIns := [], harness := (true, "9daa8106d3c52ce401be045693113a466ccbd8d70f77d3785c1b862c8b478944"), looks := true }, kinds := [], alts := [], laidByText := true, laidKinds := [.sentinel, .sentinel, .sentinel, .sentinel, .sentinel, .sentinel], laidTests := true, laidLooks := .later }
def BootApartCardSaid : Prop := Claim7.holds Tryd.pinned (.plain (OpenSpec.ofChange bootApartSpec)) bootApartCard

/-- THE SECOND FORM's CARD OF 'turnkeylaw21.SysSizes'. -/
def sysSizesUptoCard : Claim7 := { stood := { row := sysSizesUptoRow, standIns := [], harness := (true, "9daa8106d3c52ce401be045693113a466ccbd8d70f77d3785c1b862c8b478944"), looks := true }, kinds := [], alts := [], laidByText := true, laidKinds := [.sentinel, .sentinel, .sentinel, .sentinel, .sentinel, .sentinel, .sentinel, .sentinel, .sentinel, .sentinel, .sentinel, .sentinel], laidTests := true, laidLooks := .later }
def SysSizesUptoCardSaid : Prop := Claim7.holds Tryd.pinned (.plain (OpenSpec.upto sysSizesSpec)) sysSizesUptoCard

/-- THE SECOND FORM's CARD OF 'turnkeylaw18.BankCounts'. -/
def bankCountsUptoCard : Claim7 := { stood := { row := bankCountsUptoRow, standIns := [], harness := (true, "9daa8106d3c52ce401be045693113a466ccbd8d70f77d3785c1b862c8b478944"), looks := true }, kinds := [], alts := [], laidByText := true, laidKinds := [.sentinel, .sentinel, .sentinel, .sentinel, .sentinel, .sentinel, .sentinel, .sentinel, .sentinel, .sentinel, .sentinel, .sentinel], laidTests := true, laidLooks := .later }
def BankCountsUptoCardSaid : Prop := Claim7.holds Tryd.pinned (.plain (OpenSpec.upto bankCountsSpec)) bankCountsUptoCard

/-- THE SECOND FORM's CARD OF 'turnkeylaw18.BankEnds'. -/
def bankEndsUptoCard : Claim7 := { stood := { row := bankEndsUptoRow, standIns := [], harness := (true, "9daa8106d3c52ce401be045693113a466ccbd8d70f77d3785c1b862c8b478944"), looks := true }, kinds := [], alts := [], laidByText := true, laidKinds := [.sentinel, .sentinel, .sentinel, .sentinel, .sentinel, .sentinel, .sentinel, .sentinel, .sentinel, .sentinel, .sentinel, .sentinel], laidTests := true, laidLooks := .later }
def BankEndsUptoCardSaid : Prop := Claim7.holds Tryd.pinned (.plain (OpenSpec.upto bankEndsSpec)) bankEndsUptoCard

/-- THE SECOND FORM's CARD OF 'turnkeylaw26.BootGrants'. -/
def bootGrantsUptoCard : Claim7 := { stood := { row := bootGrantsUptoRow, standIns := [], harness := (true, "9daa8106d3c52ce401be045693113a466ccbd8d70f77d3785c1b862c8b478944"), looks := true }, kinds := [], alts := [], laidByText := true, laidKinds := [.sentinel, .sentinel, .sentinel, .sentinel, .sentinel, .sentinel], laidTests := true, laidLooks := .later }
def BootGrantsUptoCardSaid : Prop := Claim7.holds Tryd.pinned (.plain (OpenSpec.upto bootGrantsSpec)) bootGrantsUptoCard

/-- THE SECOND FORM's CARD OF 'turnkeylaw14.CodeSays'. -/
def codeSaysUptoCard : Claim7 := { stood := { row := codeSaysUptoRow, standIns := [], harness := (true, "9daa8106d3c52ce401be045693113a466ccbd8d70f77d3785c1b862c8b478944"), looks := true }, kinds := [], alts := [], laidByText := true, laidKinds := [.data, .data, .data, .data, .sentinel, .sentinel, .sentinel, .sentinel, .sentinel, .sentinel, .sentinel, .sentinel, .sentinel, .sentinel, .sentinel, .sentinel, .pinned], laidTests := true, laidLooks := .later }
def CodeSaysUptoCardSaid : Prop := Claim7.holds Tryd.pinned (.plain (OpenSpec.upto codeSaysSpec)) codeSaysUptoCard

/-- THE SECOND FORM's CARD OF 'turnkeylaw14.CodeBack'. -/
def codeBackUptoCard : Claim7 := { stood := { row := codeBackUptoRow, standIns := [], harness := (true, "9daa8106d3c52ce401be045693113a466ccbd8d70f77d3785c1b862c8b478944"), looks := true }, kinds := [], alts := [], laidByText := true, laidKinds := [.data, .data, .data, .data, .sentinel, .sentinel, .pinned], laidTests := true, laidLooks := .later }
def CodeBackUptoCardSaid : Prop := Claim7.holds Tryd.pinned (.plain (OpenSpec.upto codeBackSpec)) codeBackUptoCard

/-- THE SECOND FORM's CARD OF 'turnkeylaw14.CodeRows'. -/
def codeRowsUptoCard : Claim7 := { stood := { row := codeRowsUptoRow, standIns := [], harness := (true, "9daa8106d3c52ce401be045693113a466ccbd8d70f77d3785c1b862c8b478944"), looks := true }, kinds := [], alts := [], laidByText := true, laidKinds := [.data, .data, .data, .data, .sentinel, .sentinel, .sentinel, .sentinel, .sentinel, .sentinel, .sentinel, .sentinel, .sentinel, .sentinel, .sentinel, .sentinel, .pinned], laidTests := true, laidLooks := .later }
def CodeRowsUptoCardSaid : Prop := Claim7.holds Tryd.pinned (.plain (OpenSpec.upto codeRowsSpec)) codeRowsUptoCard

/-- THE SECOND FORM's CARD OF 'turnkeylaw26.BootApart'. -/
def bootApartUptoCard : Claim7 := { stood := { row := bootApartUptoRow, standIns := [], harness := (true, "9daa8106d3c52ce401be045693113a466ccbd8d70f77d3785c1b862c8b478944"), looks := true }, kinds := [], alts := [], laidByText := true, laidKinds := [.sentinel, .sentinel, .sentinel, .sentinel, .sentinel, .sentinel], laidTests := true, laidLooks := .later }
def BootApartUptoCardSaid : Prop := Claim7.holds Tryd.pinned (.plain (OpenSpec.upto bootApartSpec)) bootApartUptoCard
end Rows
end Go.Proofs.YtelnbplkjdfpaaaDoor
