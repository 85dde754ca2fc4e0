/-
  DERIVED. GIVEN WITH THE SEED: THE CARDS: each row of YteediemhcocgdaaDoorRows.lean that lists a variable, with what it lists TIED to the program's text (the seventh form; the later family's looks); each row that meets fmt, with fmt's text TOLD by the authors' own Lean function (tested against real Go, not proved from fmt's source: count such statements apart). THE CARD IS WHAT COUNTS. Prove the row's statement (the work); the ties are given (YteediemhcocgdaaDoorTie.lean); close each card by the builder's one call (the guide's Derived/Test/ToyasCard.lean, 'card_holds'). Laid BY PROGRAM, IN A SANDBOX (cutbox-door.mjs). By AI agents, Wed Nov 11 2026. No macro, syntax, notation, axiom, sorry.
-/
import Derived.Test.YteediemhcocgdaaDoorRows
import GoSem.ClaimSeven
namespace Go.Proofs.YteediemhcocgdaaDoor
namespace Rows

/-- THE TIED CARD OF 'blotterlaw09.SumOrder'. -/
def sumOrderCard : Claim7 := { stood := { row := sumOrderRow, standIns := [], harness := (true, "eed9d051fca822ce5dfd67c05773ab48a612b88593344446b500cafbab33ae01"), looks := true }, kinds := [], alts := [], laidByText := true, laidKinds := [.data], laidTests := true, laidLooks := .later }
def SumOrderCardSaid : Prop := Claim7.holds Tryd.pinned (.plain (OpenSpec.ofChange sumOrderSpec)) sumOrderCard

/-- THE TIED CARD OF 'blotterlaw09.SumWorks'. -/
def sumWorksCard : Claim7 := { stood := { row := sumWorksRow, standIns := [], harness := (true, "eed9d051fca822ce5dfd67c05773ab48a612b88593344446b500cafbab33ae01"), looks := true }, kinds := [], alts := [], laidByText := true, laidKinds := [.data], laidTests := true, laidLooks := .later }
def SumWorksCardSaid : Prop := Claim7.holds Tryd.pinned (.plain (OpenSpec.ofChange sumWorksSpec)) sumWorksCard

/-- THE TIED CARD OF 'blotterlaw09.SumBack'. -/
def sumBackCard : Claim7 := { stood := { row := sumBackRow, standIns := [], harness := (true, "eed9d051fca822ce5dfd67c05773ab48a612b88593344446b500cafbab33ae01"), looks := true }, kinds := [], alts := [], laidByText := true, laidKinds := [.data], laidTests := true, laidLooks := .later }
def SumBackCardSaid : Prop := Claim7.holds Tryd.pinned (.plain (OpenSpec.ofChange sumBackSpec)) sumBackCard

/-- THE TIED CARD OF 'blotterlaw09.SumTells'. -/
def sumTellsCard : Claim7 := { stood := { row := sumTellsRow, standIns := [], harness := (true, "eed9d051fca822ce5dfd67c05773ab48a612b88593344446b500cafbab33ae01"), looks := true }, kinds := [], alts := [], laidByText := true, laidKinds := [.data], laidTests := true, laidLooks := .later }
def SumTellsCardSaid : Prop := Claim7.holds Tryd.pinned (.plain (OpenSpec.ofChange sumTellsSpec)) sumTellsCard

/-- THE TIED CARD OF 'blotterlaw13.PagerTakes'. -/
def pagerTakesCard : Claim7 := { stood := { row := pagerTakesRow, standIns := [], harness := (true, "eed9d051fca822ce5dfd67c05773ab48a612b88593344446b500cafbab33ae01"), looks := true }, kinds := [], alts := [], laidByText := true, laidKinds := [.handle, .data], laidTests := true, laidLooks := .later }
def PagerTakesCardSaid : Prop := Claim7.holds Tryd.pinned (.plain (OpenSpec.ofChange pagerTakesSpec)) pagerTakesCard

/-- THE TIED CARD OF 'blotterlaw12.WalBack'. -/
def walBackCard : Claim7 := { stood := { row := walBackRow, standIns := [], harness := (true, "eed9d051fca822ce5dfd67c05773ab48a612b88593344446b500cafbab33ae01"), looks := true }, kinds := [], alts := [], laidByText := true, laidKinds := [.handle, .data], laidTests := true, laidLooks := .later }
def WalBackCardSaid : Prop := Claim7.holds Tryd.pinned (.plain (OpenSpec.ofChange walBackSpec)) walBackCard

/-- THE TIED CARD OF 'blotterlaw12.WalApart'. -/
def walApartCard : Claim7 := { stood := { row := walApartRow, standIns := [], harness := (true, "eed9d051fca822ce5dfd67c05773ab48a612b88593344446b500cafbab33ae01"), looks := true }, kinds := [], alts := [], laidByText := true, laidKinds := [.handle, .data], laidTests := true, laidLooks := .later }
def WalApartCardSaid : Prop := Claim7.holds Tryd.pinned (.plain (OpenSpec.ofChange walApartSpec)) walApartCard

/-- THE TIED CARD OF 'blotterlaw12.WalRooms'. -/
def walRoomsCard : Claim7 := { stood := { row := walRoomsRow, standIns := [], harness := (true, "eed9d051fca822ce5dfd67c05773ab48a612b88593344446b500cafbab33ae01"), looks := true }, kinds := [], alts := [], laidByText := true, laidKinds := [.handle, .data], laidTests := true, laidLooks := .later }
def WalRoomsCardSaid : Prop := Claim7.holds Tryd.pinned (.plain (OpenSpec.ofChange walRoomsSpec)) walRoomsCard

/-- THE TIED CARD OF 'blotterlaw12.WalPower'. -/
def walPowerCard : Claim7 := { stood := { row := walPowerRow, standIns := [], harness := (true, "eed9d051fca822ce5dfd67c05773ab48a612b88593344446b500cafbab33ae01"), looks := true }, kinds := [], alts := [], laidByText := true, laidKinds := [.handle, .data], laidTests := true, laidLooks := .later }
def WalPowerCardSaid : Prop := Claim7.holds Tryd.pinned (.plain (OpenSpec.ofChange walPowerSpec)) walPowerCard

/-- THE TIED CARD OF 'blotterlaw13.PagerWrites'. -/
def pagerWritesCard : Claim7 := { stood := { row := pagerWritesRow, standIns := [], harness := (true, "eed9d051fca822ce5dfd67c05773ab48a612b88593344446b500cafbab33ae01"), looks := true }, kinds := [], alts := [], laidByText := true, laidKinds := [.handle, .data], laidTests := true, laidLooks := .later }
def PagerWritesCardSaid : Prop := Claim7.holds Tryd.pinned (.plain (OpenSpec.ofChange pagerWritesSpec)) pagerWritesCard

/-- THE TIED CARD OF 'blotterlaw13.PagerSafe'. -/
def pagerSafeCard : Claim7 := { stood := { row := pagerSafeRow, standIns := [], harness := (true, "eed9d051fca822ce5dfd67c05773ab48a612b88593344446b500cafbab33ae01"), looks := true }, kinds := [], alts := [], laidByText := true, laidKinds := [.handle, .data], laidTests := true, laidLooks := .later }
def PagerSafeCardSaid : Prop := Claim7.holds Tryd.pinned (.plain (OpenSpec.ofChange pagerSafeSpec)) pagerSafeCard

/-- THE SECOND FORM's CARD OF 'blotterlaw09.SumOrder'. -/
def sumOrderUptoCard : Claim7 := { stood := { row := sumOrderUptoRow, standIns := [], harness := (true, "eed9d051fca822ce5dfd67c05773ab48a612b88593344446b500cafbab33ae01"), looks := true }, kinds := [], alts := [], laidByText := true, laidKinds := [.data], laidTests := true, laidLooks := .later }
def SumOrderUptoCardSaid : Prop := Claim7.holds Tryd.pinned (.plain (OpenSpec.upto sumOrderSpec)) sumOrderUptoCard

/-- THE SECOND FORM's CARD OF 'blotterlaw09.SumWorks'. -/
def sumWorksUptoCard : Claim7 := { stood := { row := sumWorksUptoRow, standIns := [], harness := (true, "eed9d051fca822ce5dfd67c05773ab48a612b88593344446b500cafbab33ae01"), looks := true }, kinds := [], alts := [], laidByText := true, laidKinds := [.data], laidTests := true, laidLooks := .later }
def SumWorksUptoCardSaid : Prop := Claim7.holds Tryd.pinned (.plain (OpenSpec.upto sumWorksSpec)) sumWorksUptoCard

/-- THE SECOND FORM's CARD OF 'blotterlaw09.SumBack'. -/
def sumBackUptoCard : Claim7 := { stood := { row := sumBackUptoRow, standIns := [], harness := (true, "eed9d051fca822ce5dfd67c05773ab48a612b88593344446b500cafbab33ae01"), looks := true }, kinds := [], alts := [], laidByText := true, laidKinds := [.data], laidTests := true, laidLooks := .later }
def SumBackUptoCardSaid : Prop := Claim7.holds Tryd.pinned (.plain (OpenSpec.upto sumBackSpec)) sumBackUptoCard

/-- THE SECOND FORM's CARD OF 'blotterlaw09.SumTells'. -/
def sumTellsUptoCard : Claim7 := { stood := { row := sumTellsUptoRow, standIns := [], harness := (true, "eed9d051fca822ce5dfd67c05773ab48a612b88593344446b500cafbab33ae01"), looks := true }, kinds := [], alts := [], laidByText := true, laidKinds := [.data], laidTests := true, laidLooks := .later }
def SumTellsUptoCardSaid : Prop := Claim7.holds Tryd.pinned (.plain (OpenSpec.upto sumTellsSpec)) sumTellsUptoCard

/-- THE SECOND FORM's CARD OF 'blotterlaw13.PagerTakes'. -/
def pagerTakesUptoCard : Claim7 := { stood := { row := pagerTakesUptoRow, standIns := [], harness := (true, "eed9d051fca822ce5dfd67c05773ab48a612b88593344446b500cafbab33ae01"), looks := true }, kinds := [], alts := [], laidByText := true, laidKinds := [.handle, .data], laidTests := true, laidLooks := .later }
def PagerTakesUptoCardSaid : Prop := Claim7.holds Tryd.pinned (.plain (OpenSpec.upto pagerTakesSpec)) pagerTakesUptoCard

/-- THE SECOND FORM's CARD OF 'blotterlaw12.WalBack'. -/
def walBackUptoCard : Claim7 := { stood := { row := walBackUptoRow, standIns := [], harness := (true, "eed9d051fca822ce5dfd67c05773ab48a612b88593344446b500cafbab33ae01"), looks := true }, kinds := [], alts := [], laidByText := true, laidKinds := [.handle, .data], laidTests := true, laidLooks := .later }
def WalBackUptoCardSaid : Prop := Claim7.holds Tryd.pinned (.plain (OpenSpec.upto walBackSpec)) walBackUptoCard

/-- THE SECOND FORM's CARD OF 'blotterlaw12.WalApart'. -/
def walApartUptoCard : Claim7 := { stood := { row := walApartUptoRow, standIns := [], harness := (true, "eed9d051fca822ce5dfd67c05773ab48a612b88593344446b500cafbab33ae01"), looks := true }, kinds := [], alts := [], laidByText := true, laidKinds := [.handle, .data], laidTests := true, laidLooks := .later }
def WalApartUptoCardSaid : Prop := Claim7.holds Tryd.pinned (.plain (OpenSpec.upto walApartSpec)) walApartUptoCard

/-- THE SECOND FORM's CARD OF 'blotterlaw12.WalRooms'. -/
def walRoomsUptoCard : Claim7 := { stood := { row := walRoomsUptoRow, standIns := [], harness := (true, "eed9d051fca822ce5dfd67c05773ab48a612b88593344446b500cafbab33ae01"), looks := true }, kinds := [], alts := [], laidByText := true, laidKinds := [.handle, .data], laidTests := true, laidLooks := .later }
def WalRoomsUptoCardSaid : Prop := Claim7.holds Tryd.pinned (.plain (OpenSpec.upto walRoomsSpec)) walRoomsUptoCard

/-- THE SECOND FORM's CARD OF 'blotterlaw12.WalPower'. -/
def walPowerUptoCard : Claim7 := { stood := { row := walPowerUptoRow, standIns := [], harness := (true, "eed9d051fca822ce5dfd67c05773ab48a612b88593344446b500cafbab33ae01"), looks := true }, kinds := [], alts := [], laidByText := true, laidKinds := [.handle, .data], laidTests := true, laidLooks := .later }
def WalPowerUptoCardSaid : Prop := Claim7.holds Tryd.pinned (.plain (OpenSpec.upto walPowerSpec)) walPowerUptoCard

/-- THE SECOND FORM's CARD OF 'blotterlaw13.PagerWrites'. -/
def pagerWritesUptoCard : Claim7 := { stood := { row := pagerWritesUptoRow, standIns := [], harness := (true, "eed9d051fca822ce5dfd67c05773ab48a612b88593344446b500cafbab33ae01"), looks := true }, kinds := [], alts := [], laidByText := true, laidKinds := [.handle, .data], laidTests := true, laidLooks := .later }
def PagerWritesUptoCardSaid : Prop := Claim7.holds Tryd.pinned (.plain (OpenSpec.upto pagerWritesSpec)) pagerWritesUptoCard

/-- THE SECOND FORM's CARD OF 'blotterlaw13.PagerSafe'. -/
def pagerSafeUptoCard : Claim7 := { stood := { row := pagerSafeUptoRow, standIns := [], harness := (true, "eed9d051fca822ce5dfd67c05773ab48a612b88593344446b500cafbab33ae01"), looks := true }, kinds := [], alts := [], laidByText := true, laidKinds := [.handle, .data], laidTests := true, laidLooks := .later }
def PagerSafeUptoCardSaid : Prop := Claim7.holds Tryd.pinned (.plain (OpenSpec.upto pagerSafeSpec)) pagerSafeUptoCard
end Rows
end Go.Proofs.YteediemhcocgdaaDoor
