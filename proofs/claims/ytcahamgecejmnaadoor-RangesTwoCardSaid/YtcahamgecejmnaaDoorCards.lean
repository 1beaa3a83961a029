/-
  DERIVED. GIVEN WITH THE SEED: THE CARDS: each row of YtcahamgecejmnaaDoorRows.lean that lists a variable, with what it lists TIED to the program's text (the seventh form; the later family's looks); each row that meets fmt, with fmt's text TOLD by the authors' own Lean function (tested against real Go, not proved from fmt's source: count such statements apart). THE CARD IS WHAT COUNTS. Prove the row's statement (the work); the ties are given (YtcahamgecejmnaaDoorTie.lean); close each card by the builder's one call (the guide's Derived/Test/ToyasCard.lean, 'card_holds'). Laid BY PROGRAM, IN A SANDBOX (cutbox-door.mjs). By AI agents, Wed Nov 11 2026. No macro, syntax, notation, axiom, sorry.
-/
import Derived.Test.YtcahamgecejmnaaDoorRows
import GoSem.ClaimSeven
namespace Go.Proofs.YtcahamgecejmnaaDoor
namespace Rows

/-- THE TIED CARD OF 'mandolinelaw02.RangesAt'. -/
def rangesAtCard : Claim7 := { stood := { row := rangesAtRow, standIns := [], harness := (true, "90b53404b4472e9a141bbbcbe29320fab8d2b0c061ee352f868ac0a525554f54"), looks := false }, kinds := [], alts := [], laidByText := true, laidKinds := [.data, .data, .data], laidTests := true, laidLooks := .later }
def RangesAtCardSaid : Prop := Claim7.holds Tryd.pinned (.plain (OpenSpec.ofChange rangesAtSpec)) rangesAtCard

/-- THE TIED CARD OF 'mandolinelaw02.RangesStops'. -/
def rangesStopsCard : Claim7 := { stood := { row := rangesStopsRow, standIns := [], harness := (true, "90b53404b4472e9a141bbbcbe29320fab8d2b0c061ee352f868ac0a525554f54"), looks := false }, kinds := [], alts := [], laidByText := true, laidKinds := [.data, .data, .data], laidTests := true, laidLooks := .later }
def RangesStopsCardSaid : Prop := Claim7.holds Tryd.pinned (.plain (OpenSpec.ofChange rangesStopsSpec)) rangesStopsCard

/-- THE TIED CARD OF 'mandolinelaw02.RangesHolds'. -/
def rangesHoldsCard : Claim7 := { stood := { row := rangesHoldsRow, standIns := [], harness := (true, "90b53404b4472e9a141bbbcbe29320fab8d2b0c061ee352f868ac0a525554f54"), looks := false }, kinds := [], alts := [], laidByText := true, laidKinds := [.data, .data, .data], laidTests := true, laidLooks := .later }
def RangesHoldsCardSaid : Prop := Claim7.holds Tryd.pinned (.plain (OpenSpec.ofChange rangesHoldsSpec)) rangesHoldsCard

/-- THE TIED CARD OF 'mandolinelaw02.RangesOf'. -/
def rangesOfCard : Claim7 := { stood := { row := rangesOfRow, standIns := [], harness := (true, "90b53404b4472e9a141bbbcbe29320fab8d2b0c061ee352f868ac0a525554f54"), looks := false }, kinds := [], alts := [], laidByText := true, laidKinds := [.data, .data, .data], laidTests := true, laidLooks := .later }
def RangesOfCardSaid : Prop := Claim7.holds Tryd.pinned (.plain (OpenSpec.ofChange rangesOfSpec)) rangesOfCard

/-- THE TIED CARD OF 'mandolinelaw02.RangesNear'. -/
def rangesNearCard : Claim7 := { stood := { row := rangesNearRow, standIns := [], harness := (true, "90b53404b4472e9a141bbbcbe29320fab8d2b0c061ee352f868ac0a525554f54"), looks := false }, kinds := [], alts := [], laidByText := true, laidKinds := [.data, .data, .data], laidTests := true, laidLooks := .later }
def RangesNearCardSaid : Prop := Claim7.holds Tryd.pinned (.plain (OpenSpec.ofChange rangesNearSpec)) rangesNearCard

/-- THE TIED CARD OF 'mandolinelaw02.RangesKept'. -/
def rangesKeptCard : Claim7 := { stood := { row := rangesKeptRow, standIns := [], harness := (true, "90b53404b4472e9a141bbbcbe29320fab8d2b0c061ee352f868ac0a525554f54"), looks := false }, kinds := [], alts := [], laidByText := true, laidKinds := [.data, .data, .data], laidTests := true, laidLooks := .later }
def RangesKeptCardSaid : Prop := Claim7.holds Tryd.pinned (.plain (OpenSpec.ofChange rangesKeptSpec)) rangesKeptCard

/-- THE TIED CARD OF 'mandolinelaw02.RangesTwo'. -/
def rangesTwoCard : Claim7 := { stood := { row := rangesTwoRow, standIns := [], harness := (true, "90b53404b4472e9a141bbbcbe29320fab8d2b0c061ee352f868ac0a525554f54"), looks := false }, kinds := [], alts := [], laidByText := true, laidKinds := [.data, .data, .data], laidTests := true, laidLooks := .later }
def RangesTwoCardSaid : Prop := Claim7.holds Tryd.pinned (.plain (OpenSpec.ofChange rangesTwoSpec)) rangesTwoCard

/-- THE TIED CARD OF 'mandolinelaw02.RangesLaws'. -/
def rangesLawsCard : Claim7 := { stood := { row := rangesLawsRow, standIns := [], harness := (true, "90b53404b4472e9a141bbbcbe29320fab8d2b0c061ee352f868ac0a525554f54"), looks := false }, kinds := [], alts := [], laidByText := true, laidKinds := [.data, .data, .data], laidTests := true, laidLooks := .later }
def RangesLawsCardSaid : Prop := Claim7.holds Tryd.pinned (.plain (OpenSpec.ofChange rangesLawsSpec)) rangesLawsCard

/-- THE SECOND FORM's CARD OF 'mandolinelaw02.RangesAt'. -/
def rangesAtUptoCard : Claim7 := { stood := { row := rangesAtUptoRow, standIns := [], harness := (true, "90b53404b4472e9a141bbbcbe29320fab8d2b0c061ee352f868ac0a525554f54"), looks := false }, kinds := [], alts := [], laidByText := true, laidKinds := [.data, .data, .data], laidTests := true, laidLooks := .later }
def RangesAtUptoCardSaid : Prop := Claim7.holds Tryd.pinned (.plain (OpenSpec.upto rangesAtSpec)) rangesAtUptoCard

/-- THE SECOND FORM's CARD OF 'mandolinelaw02.RangesStops'. -/
def rangesStopsUptoCard : Claim7 := { stood := { row := rangesStopsUptoRow, standIns := [], harness := (true, "90b53404b4472e9a141bbbcbe29320fab8d2b0c061ee352f868ac0a525554f54"), looks := false }, kinds := [], alts := [], laidByText := true, laidKinds := [.data, .data, .data], laidTests := true, laidLooks := .later }
def RangesStopsUptoCardSaid : Prop := Claim7.holds Tryd.pinned (.plain (OpenSpec.upto rangesStopsSpec)) rangesStopsUptoCard

/-- THE SECOND FORM's CARD OF 'mandolinelaw02.RangesHolds'. -/
def rangesHoldsUptoCard : Claim7 := { stood := { row := rangesHoldsUptoRow, standIns := [], harness := (true, "90b53404b4472e9a141bbbcbe29320fab8d2b0c061ee352f868ac0a525554f54"), looks := false }, kinds := [], alts := [], laidByText := true, laidKinds := [.data, .data, .data], laidTests := true, laidLooks := .later }
def RangesHoldsUptoCardSaid : Prop := Claim7.holds Tryd.pinned (.plain (OpenSpec.upto rangesHoldsSpec)) rangesHoldsUptoCard

/-- THE SECOND FORM's CARD OF 'mandolinelaw02.RangesOf'. -/
def rangesOfUptoCard : Claim7 := { stood := { row := rangesOfUptoRow, standIns := [], harness := (true, "90b53404b4472e9a141bbbcbe29320fab8d2b0c061ee352f868ac0a525554f54"), looks := false }, kinds := [], alts := [], laidByText := true, laidKinds := [.data, .data, .data], laidTests := true, laidLooks := .later }
def RangesOfUptoCardSaid : Prop := Claim7.holds Tryd.pinned (.plain (OpenSpec.upto rangesOfSpec)) rangesOfUptoCard

/-- THE SECOND FORM's CARD OF 'mandolinelaw02.RangesNear'. -/
def rangesNearUptoCard : Claim7 := { stood := { row := rangesNearUptoRow, standIns := [], harness := (true, "90b53404b4472e9a141bbbcbe29320fab8d2b0c061ee352f868ac0a525554f54"), looks := false }, kinds := [], alts := [], laidByText := true, laidKinds := [.data, .data, .data], laidTests := true, laidLooks := .later }
def RangesNearUptoCardSaid : Prop := Claim7.holds Tryd.pinned (.plain (OpenSpec.upto rangesNearSpec)) rangesNearUptoCard

/-- THE SECOND FORM's CARD OF 'mandolinelaw02.RangesKept'. -/
def rangesKeptUptoCard : Claim7 := { stood := { row := rangesKeptUptoRow, standIns := [], harness := (true, "90b53404b4472e9a141bbbcbe29320fab8d2b0c061ee352f868ac0a525554f54"), looks := false }, kinds := [], alts := [], laidByText := true, laidKinds := [.data, .data, .data], laidTests := true, laidLooks := .later }
def RangesKeptUptoCardSaid : Prop := Claim7.holds Tryd.pinned (.plain (OpenSpec.upto rangesKeptSpec)) rangesKeptUptoCard

/-- THE SECOND FORM's CARD OF 'mandolinelaw02.RangesTwo'. -/
def rangesTwoUptoCard : Claim7 := { stood := { row := rangesTwoUptoRow, standIns := [], harness := (true, "90b53404b4472e9a141bbbcbe29320fab8d2b0c061ee352f868ac0a525554f54"), looks := false }, kinds := [], alts := [], laidByText := true, laidKinds := [.data, .data, .data], laidTests := true, laidLooks := .later }
def RangesTwoUptoCardSaid : Prop := Claim7.holds Tryd.pinned (.plain (OpenSpec.upto rangesTwoSpec)) rangesTwoUptoCard

/-- THE SECOND FORM's CARD OF 'mandolinelaw02.RangesLaws'. -/
def rangesLawsUptoCard : Claim7 := { stood := { row := rangesLawsUptoRow, standIns := [], harness := (true, "90b53404b4472e9a141bbbcbe29320fab8d2b0c061ee352f868ac0a525554f54"), looks := false }, kinds := [], alts := [], laidByText := true, laidKinds := [.data, .data, .data], laidTests := true, laidLooks := .later }
def RangesLawsUptoCardSaid : Prop := Claim7.holds Tryd.pinned (.plain (OpenSpec.upto rangesLawsSpec)) rangesLawsUptoCard
end Rows
end Go.Proofs.YtcahamgecejmnaaDoor
