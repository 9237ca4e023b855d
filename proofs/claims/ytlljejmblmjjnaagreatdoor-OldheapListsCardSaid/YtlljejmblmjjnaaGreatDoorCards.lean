/-
  DERIVED. GIVEN WITH THE SEED: THE CARDS: each row of YtlljejmblmjjnaaGreatDoorRows.lean that lists a variable, with what it lists TIED to the program's text (the seventh form; the later family's looks); each row that meets fmt, with fmt's text TOLD by the authors' own Lean function (tested against real Go, not proved from fmt's source: count such statements apart). THE CARD IS WHAT COUNTS. Prove the row's statement (the work); the ties are given (YtlljejmblmjjnaaGreatDoorTie.lean); close each card by the builder's one call (the guide's Derived/Test/ToyasCard.lean, 'card_holds'). Laid BY PROGRAM, IN A SANDBOX (cutbox-door.mjs). By AI agents, Wed Nov 11 2026. No macro, syntax, notation, axiom, sorry.
-/
import Derived.Test.YtlljejmblmjjnaaGreatDoorRows
import GoSem.ClaimSeven
namespace Go.Proofs.YtlljejmblmjjnaaGreatDoor
namespace Rows

/-- THE TIED CARD OF 'underpinlaw14.OldheapApart'. -/
def oldheapApartCard : Claim7 := { stood := { row := oldheapApartRow, standIns := [], harness := (true, "5a77009b4504033c06caeb8f1a08e21dca2103ed4b9bc46a15360864fff08c5f"), looks := false }, kinds := [], alts := [], laidByText := true, laidKinds := [.data], laidTests := true, laidLooks := .later }
def OldheapApartCardSaid : Prop := Claim7.holds Tryz.pinned (.plain (OpenSpec.ofChange oldheapApartSpec)) oldheapApartCard

/-- THE TIED CARD OF 'underpinlaw14.OldheapLists'. -/
def oldheapListsCard : Claim7 := { stood := { row := oldheapListsRow, standIns := [], harness := (true, "5a77009b4504033c06caeb8f1a08e21dca2103ed4b9bc46a15360864fff08c5f"), looks := false }, kinds := [], alts := [], laidByText := true, laidKinds := [.data], laidTests := true, laidLooks := .later }
def OldheapListsCardSaid : Prop := Claim7.holds Tryz.pinned (.plain (OpenSpec.ofChange oldheapListsSpec)) oldheapListsCard

/-- THE TIED CARD OF 'underpinlaw14.OldheapBack'. -/
def oldheapBackCard : Claim7 := { stood := { row := oldheapBackRow, standIns := [], harness := (true, "5a77009b4504033c06caeb8f1a08e21dca2103ed4b9bc46a15360864fff08c5f"), looks := false }, kinds := [], alts := [], laidByText := true, laidKinds := [.data], laidTests := true, laidLooks := .later }
def OldheapBackCardSaid : Prop := Claim7.holds Tryz.pinned (.plain (OpenSpec.ofChange oldheapBackSpec)) oldheapBackCard

/-- THE TIED CARD OF 'underpinlaw14.OldheapSeals'. -/
def oldheapSealsCard : Claim7 := { stood := { row := oldheapSealsRow, standIns := [], harness := (true, "5a77009b4504033c06caeb8f1a08e21dca2103ed4b9bc46a15360864fff08c5f"), looks := false }, kinds := [], alts := [], laidByText := true, laidKinds := [.data], laidTests := true, laidLooks := .later }
def OldheapSealsCardSaid : Prop := Claim7.holds Tryz.pinned (.plain (OpenSpec.ofChange oldheapSealsSpec)) oldheapSealsCard

/-- THE SECOND FORM's CARD OF 'underpinlaw14.OldheapApart'. -/
def oldheapApartUptoCard : Claim7 := { stood := { row := oldheapApartUptoRow, standIns := [], harness := (true, "5a77009b4504033c06caeb8f1a08e21dca2103ed4b9bc46a15360864fff08c5f"), looks := false }, kinds := [], alts := [], laidByText := true, laidKinds := [.data], laidTests := true, laidLooks := .later }
def OldheapApartUptoCardSaid : Prop := Claim7.holds Tryz.pinned (.plain (OpenSpec.upto oldheapApartSpec)) oldheapApartUptoCard

/-- THE SECOND FORM's CARD OF 'underpinlaw14.OldheapLists'. -/
def oldheapListsUptoCard : Claim7 := { stood := { row := oldheapListsUptoRow, standIns := [], harness := (true, "5a77009b4504033c06caeb8f1a08e21dca2103ed4b9bc46a15360864fff08c5f"), looks := false }, kinds := [], alts := [], laidByText := true, laidKinds := [.data], laidTests := true, laidLooks := .later }
def OldheapListsUptoCardSaid : Prop := Claim7.holds Tryz.pinned (.plain (OpenSpec.upto oldheapListsSpec)) oldheapListsUptoCard

/-- THE SECOND FORM's CARD OF 'underpinlaw14.OldheapBack'. -/
def oldheapBackUptoCard : Claim7 := { stood := { row := oldheapBackUptoRow, standIns := [], harness := (true, "5a77009b4504033c06caeb8f1a08e21dca2103ed4b9bc46a15360864fff08c5f"), looks := false }, kinds := [], alts := [], laidByText := true, laidKinds := [.data], laidTests := true, laidLooks := .later }
def OldheapBackUptoCardSaid : Prop := Claim7.holds Tryz.pinned (.plain (OpenSpec.upto oldheapBackSpec)) oldheapBackUptoCard

/-- THE SECOND FORM's CARD OF 'underpinlaw14.OldheapSeals'. -/
def oldheapSealsUptoCard : Claim7 := { stood := { row := oldheapSealsUptoRow, standIns := [], harness := (true, "5a77009b4504033c06caeb8f1a08e21dca2103ed4b9bc46a15360864fff08c5f"), looks := false }, kinds := [], alts := [], laidByText := true, laidKinds := [.data], laidTests := true, laidLooks := .later }
def OldheapSealsUptoCardSaid : Prop := Claim7.holds Tryz.pinned (.plain (OpenSpec.upto oldheapSealsSpec)) oldheapSealsUptoCard
end Rows
end Go.Proofs.YtlljejmblmjjnaaGreatDoor
