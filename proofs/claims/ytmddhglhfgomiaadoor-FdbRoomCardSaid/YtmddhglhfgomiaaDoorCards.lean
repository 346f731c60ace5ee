/-
  DERIVED. GIVEN WITH THE SEED: THE CARDS: each row of YtmddhglhfgomiaaDoorRows.lean that lists a variable, with what it lists TIED to the program's text (the seventh form; the later family's looks); each row that meets fmt, with fmt's text TOLD by the authors' own Lean function (tested against real Go, not proved from fmt's source: count such statements apart). THE CARD IS WHAT COUNTS. Prove the row's statement (the work); the ties are given (YtmddhglhfgomiaaDoorTie.lean); close each card by the builder's one call (the guide's Derived/Test/ToyasCard.lean, 'card_holds'). Laid BY PROGRAM, IN A SANDBOX (cutbox-door.mjs). By AI agents, Wed Nov 11 2026. No macro, syntax, notation, axiom, sorry.
-/
import Derived.Test.YtmddhglhfgomiaaDoorRows
import GoSem.ClaimSeven
namespace Go.Proofs.YtmddhglhfgomiaaDoor
namespace Rows

/-- THE TIED CARD OF 'underpasslaw16.BridgeMoves'. -/
def bridgeMovesCard : Claim7 := { stood := { row := bridgeMovesRow, standIns := [], harness := (true, "10c1d008e4f888d0a2021a43f67be42f8f59aafcee365c3c4308b7536c3b6496"), looks := false }, kinds := [], alts := [], laidByText := true, laidKinds := [.data], laidTests := true, laidLooks := .later }
def BridgeMovesCardSaid : Prop := Claim7.holds Tryd.pinned (.plain (OpenSpec.ofChange bridgeMovesSpec)) bridgeMovesCard

/-- THE TIED CARD OF 'underpasslaw15.FdbRoom'. -/
def fdbRoomCard : Claim7 := { stood := { row := fdbRoomRow, standIns := [], harness := (true, "10c1d008e4f888d0a2021a43f67be42f8f59aafcee365c3c4308b7536c3b6496"), looks := false }, kinds := [], alts := [], laidByText := true, laidKinds := [.data], laidTests := true, laidLooks := .later }
def FdbRoomCardSaid : Prop := Claim7.holds Tryd.pinned (.plain (OpenSpec.ofChange fdbRoomSpec)) fdbRoomCard

/-- THE TIED CARD OF 'underpasslaw15.FdbAges'. -/
def fdbAgesCard : Claim7 := { stood := { row := fdbAgesRow, standIns := [], harness := (true, "10c1d008e4f888d0a2021a43f67be42f8f59aafcee365c3c4308b7536c3b6496"), looks := false }, kinds := [], alts := [], laidByText := true, laidKinds := [.data], laidTests := true, laidLooks := .later }
def FdbAgesCardSaid : Prop := Claim7.holds Tryd.pinned (.plain (OpenSpec.ofChange fdbAgesSpec)) fdbAgesCard

/-- THE TIED CARD OF 'underpasslaw15.FdbTells'. -/
def fdbTellsCard : Claim7 := { stood := { row := fdbTellsRow, standIns := [], harness := (true, "10c1d008e4f888d0a2021a43f67be42f8f59aafcee365c3c4308b7536c3b6496"), looks := false }, kinds := [], alts := [], laidByText := true, laidKinds := [.data], laidTests := true, laidLooks := .later }
def FdbTellsCardSaid : Prop := Claim7.holds Tryd.pinned (.plain (OpenSpec.ofChange fdbTellsSpec)) fdbTellsCard

/-- THE TIED CARD OF 'underpasslaw15.FdbStatic'. -/
def fdbStaticCard : Claim7 := { stood := { row := fdbStaticRow, standIns := [], harness := (true, "10c1d008e4f888d0a2021a43f67be42f8f59aafcee365c3c4308b7536c3b6496"), looks := false }, kinds := [], alts := [], laidByText := true, laidKinds := [.data], laidTests := true, laidLooks := .later }
def FdbStaticCardSaid : Prop := Claim7.holds Tryd.pinned (.plain (OpenSpec.ofChange fdbStaticSpec)) fdbStaticCard

/-- THE TIED CARD OF 'underpasslaw15.FdbForgets'. -/
def fdbForgetsCard : Claim7 := { stood := { row := fdbForgetsRow, standIns := [], harness := (true, "10c1d008e4f888d0a2021a43f67be42f8f59aafcee365c3c4308b7536c3b6496"), looks := false }, kinds := [], alts := [], laidByText := true, laidKinds := [.data], laidTests := true, laidLooks := .later }
def FdbForgetsCardSaid : Prop := Claim7.holds Tryd.pinned (.plain (OpenSpec.ofChange fdbForgetsSpec)) fdbForgetsCard

/-- THE SECOND FORM's CARD OF 'underpasslaw16.BridgeMoves'. -/
def bridgeMovesUptoCard : Claim7 := { stood := { row := bridgeMovesUptoRow, standIns := [], harness := (true, "10c1d008e4f888d0a2021a43f67be42f8f59aafcee365c3c4308b7536c3b6496"), looks := false }, kinds := [], alts := [], laidByText := true, laidKinds := [.data], laidTests := true, laidLooks := .later }
def BridgeMovesUptoCardSaid : Prop := Claim7.holds Tryd.pinned (.plain (OpenSpec.upto bridgeMovesSpec)) bridgeMovesUptoCard

/-- THE SECOND FORM's CARD OF 'underpasslaw15.FdbRoom'. -/
def fdbRoomUptoCard : Claim7 := { stood := { row := fdbRoomUptoRow, standIns := [], harness := (true, "10c1d008e4f888d0a2021a43f67be42f8f59aafcee365c3c4308b7536c3b6496"), looks := false }, kinds := [], alts := [], laidByText := true, laidKinds := [.data], laidTests := true, laidLooks := .later }
def FdbRoomUptoCardSaid : Prop := Claim7.holds Tryd.pinned (.plain (OpenSpec.upto fdbRoomSpec)) fdbRoomUptoCard

/-- THE SECOND FORM's CARD OF 'underpasslaw15.FdbAges'. -/
def fdbAgesUptoCard : Claim7 := { stood := { row := fdbAgesUptoRow, standIns := [], harness := (true, "10c1d008e4f888d0a2021a43f67be42f8f59aafcee365c3c4308b7536c3b6496"), looks := false }, kinds := [], alts := [], laidByText := true, laidKinds := [.data], laidTests := true, laidLooks := .later }
def FdbAgesUptoCardSaid : Prop := Claim7.holds Tryd.pinned (.plain (OpenSpec.upto fdbAgesSpec)) fdbAgesUptoCard

/-- THE SECOND FORM's CARD OF 'underpasslaw15.FdbTells'. -/
def fdbTellsUptoCard : Claim7 := { stood := { row := fdbTellsUptoRow, standIns := [], harness := (true, "10c1d008e4f888d0a2021a43f67be42f8f59aafcee365c3c4308b7536c3b6496"), looks := false }, kinds := [], alts := [], laidByText := true, laidKinds := [.data], laidTests := true, laidLooks := .later }
def FdbTellsUptoCardSaid : Prop := Claim7.holds Tryd.pinned (.plain (OpenSpec.upto fdbTellsSpec)) fdbTellsUptoCard

/-- THE SECOND FORM's CARD OF 'underpasslaw15.FdbStatic'. -/
def fdbStaticUptoCard : Claim7 := { stood := { row := fdbStaticUptoRow, standIns := [], harness := (true, "10c1d008e4f888d0a2021a43f67be42f8f59aafcee365c3c4308b7536c3b6496"), looks := false }, kinds := [], alts := [], laidByText := true, laidKinds := [.data], laidTests := true, laidLooks := .later }
def FdbStaticUptoCardSaid : Prop := Claim7.holds Tryd.pinned (.plain (OpenSpec.upto fdbStaticSpec)) fdbStaticUptoCard

/-- THE SECOND FORM's CARD OF 'underpasslaw15.FdbForgets'. -/
def fdbForgetsUptoCard : Claim7 := { stood := { row := fdbForgetsUptoRow, standIns := [], harness := (true, "10c1d008e4f888d0a2021a43f67be42f8f59aafcee365c3c4308b7536c3b6496"), looks := false }, kinds := [], alts := [], laidByText := true, laidKinds := [.data], laidTests := true, laidLooks := .later }
def FdbForgetsUptoCardSaid : Prop := Claim7.holds Tryd.pinned (.plain (OpenSpec.upto fdbForgetsSpec)) fdbForgetsUptoCard
end Rows
end Go.Proofs.YtmddhglhfgomiaaDoor
