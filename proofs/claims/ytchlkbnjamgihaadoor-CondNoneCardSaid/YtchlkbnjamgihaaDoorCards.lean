/-
  DERIVED. GIVEN WITH THE SEED: THE CARDS: each row of YtchlkbnjamgihaaDoorRows.lean that lists a variable, with what it lists TIED to the program's text (the seventh form; the later family's looks); each row that meets fmt, with fmt's text TOLD by the authors' own Lean function (tested against real Go, not proved from fmt's source: count such statements apart). THE CARD IS WHAT COUNTS. Prove the row's statement (the work); the ties are given (YtchlkbnjamgihaaDoorTie.lean); close each card by the builder's one call (the guide's Derived/Test/ToyasCard.lean, 'card_holds'). Laid BY PROGRAM, IN A SANDBOX (cutbox-door.mjs). By AI agents, Wed Nov 11 2026. No macro, syntax, notation, axiom, sorry.
-/
import Derived.Test.YtchlkbnjamgihaaDoorRows
import GoSem.ClaimSeven
namespace Go.Proofs.YtchlkbnjamgihaaDoor
namespace Rows

/-- THE TIED CARD OF 'mandolinelaw08.CondNone'. -/
def condNoneCard : Claim7 := { stood := { row := condNoneRow, standIns := [], harness := (true, "c2952406c3d0199c4926530defd07cacbf80ee6404e2080c2cd27313e1d6749b"), looks := false }, kinds := [], alts := [], laidByText := true, laidKinds := [.data, .data, .data], laidTests := true, laidLooks := .later }
def CondNoneCardSaid : Prop := Claim7.holds Tryd.pinned (.plain (OpenSpec.ofChange condNoneSpec)) condNoneCard

/-- THE SECOND FORM's CARD OF 'mandolinelaw08.CondNone'. -/
def condNoneUptoCard : Claim7 := { stood := { row := condNoneUptoRow, standIns := [], harness := (true, "c2952406c3d0199c4926530defd07cacbf80ee6404e2080c2cd27313e1d6749b"), looks := false }, kinds := [], alts := [], laidByText := true, laidKinds := [.data, .data, .data], laidTests := true, laidLooks := .later }
def CondNoneUptoCardSaid : Prop := Claim7.holds Tryd.pinned (.plain (OpenSpec.upto condNoneSpec)) condNoneUptoCard
end Rows
end Go.Proofs.YtchlkbnjamgihaaDoor
