/-
  NARROWER THAN 'FOR EVERY INPUT', by the rows' own cells (each row's printed sentence says how): OldheapApart: laid · OldheapLists: laid · OldheapBack: laid · OldheapSeals: laid.
  DERIVED. THE GIVEN ROWS OF THIS SEAT. 4 by the template 'for every input the law returns true; each argument reads behind the call as it read before'; 0 by the template 'total and deterministic' (their statements: YtlljejmblmjjnaaGreatDoorTotals.lean).
  GIVEN WITH THE SEED: the statements are not yours to turn. If you find one false, say at which input.
  Laid BY PROGRAM, IN A SANDBOX (cutbox-rows.mjs): the forced cells as the released guide's own fill.sh prints them over the translation f810bdd24b64e956… (all of the seat's roots in one cut). By AI agents, Wed Nov 11 2026. No macro, syntax, notation, axiom, sorry.
-/
import Derived.Test.YtlljejmblmjjnaaGreatDoorChecked
import GoSem.Claim
import GoSem.ClaimJoined
import GoSem.ClaimMapViews
import Derived.JoinedTies
import Derived.KernelRfl
namespace Go.Proofs.YtlljejmblmjjnaaGreatDoor
/- THE CELL 'sum', in the pinned program and in every row, IS THE sha256 OF THE DUMP (.gsa) THAT YtlljejmblmjjnaaGreatDoorProg.lean LOADS. Nothing in Lean hashes anything: it is a label: what it is worth is what the hold of that sum in a sandbox is worth. -/
noncomputable def Tryz.pinned : Pinned := { name := "ytlljejmblmjjnaagreatdoor", sum := "f810bdd24b64e956f05998e0e99219fe4482056d43a88856a9d0eb1c5a3bd7c8", checked := Tryz.checked }
namespace Rows
def none {H : Type} : Left H := { results := [], args := [] }

/- WHAT THE LISTED PACKAGE-LEVEL VARIABLES READ AS WHEN THE CALL BEGINS. Each datum BY PROGRAM (the guide's laid-datum.mjs) off the statement by which the dump's own 'gosem.cut.vars' lays the variable. In a bare row this is a premise. The card (YtlljejmblmjjnaaGreatDoorCards.lean) ties it to the program's text. -/
def laid_math_bits_deBruijn64tab {H : Type} : DataW H := .agg [.lit (.int .u8 0), .lit (.int .u8 1), .lit (.int .u8 56), .lit (.int .u8 2), .lit (.int .u8 57), .lit (.int .u8 49), .lit (.int .u8 28), .lit (.int .u8 3), .lit (.int .u8 61), .lit (.int .u8 58), .lit (.int .u8 42), .lit (.int .u8 50), .lit (.int .u8 38), .lit (.int .u8 29), .lit (.int .u8 17), .lit (.int .u8 4), .lit (.int .u8 62), .lit (.int .u8 47), .lit (.int .u8 59), .lit (.int .u8 36), .lit (.int .u8 45), .lit (.int .u8 43), .lit (.int .u8 51), .lit (.int .u8 22), .lit (.int .u8 53), .lit (.int .u8 39), .lit (.int .u8 33), .lit (.int .u8 30), .lit (.int .u8 24), .lit (.int .u8 18), .lit (.int .u8 12), .lit (.int .u8 5), .lit (.int .u8 63), .lit (.int .u8 55), .lit (.int .u8 48), .lit (.int .u8 27), .lit (.int .u8 60), .lit (.int .u8 41), .lit (.int .u8 37), .lit (.int .u8 16), .lit (.int .u8 46), .lit (.int .u8 35), .lit (.int .u8 44), .lit (.int .u8 21), .lit (.int .u8 52), .lit (.int .u8 32), .lit (.int .u8 23), .lit (.int .u8 11), .lit (.int .u8 54), .lit (.int .u8 26), .lit (.int .u8 40), .lit (.int .u8 15), .lit (.int .u8 34), .lit (.int .u8 20), .lit (.int .u8 31), .lit (.int .u8 10), .lit (.int .u8 25), .lit (.int .u8 14), .lit (.int .u8 19), .lit (.int .u8 9), .lit (.int .u8 13), .lit (.int .u8 8), .lit (.int .u8 7), .lit (.int .u8 6)]

/-- 'underpinlaw14.OldheapApart': WHATEVER THE INPUT: true; the input reads as it did. -/
def oldheapApartSpec : ChangeSpec := { name := "oldheapApart", fn := fun _ => fun
  | [d1, d2] => { results := [.lit (.bool true)], args := [d1, d2] }
  | _ => none }
def oldheapApartRow : OpenClaim := { program := "ytlljejmblmjjnaagreatdoor", sum := "f810bdd24b64e956f05998e0e99219fe4482056d43a88856a9d0eb1c5a3bd7c8", func := "underpin/underpinlaw14.OldheapApart", spec := "oldheapApart", inPlace := ["slices.overlaps[underpin/spans.Run]"], unfollowed := true, recurses := true, named := ["math/bits.deBruijn64tab"], plainKeys := false, apart := false, laid := [("math/bits.deBruijn64tab", laid_math_bits_deBruijn64tab)] }
def OldheapApartSaid : Prop := oldheapApartRow.holds Tryz.pinned (OpenSpec.ofChange oldheapApartSpec)

/-- ITS FALSE NEIGHBOUR: 'it returns false'. Refute it at one input. -/
def oldheapApartWrong : ChangeSpec := { name := "oldheapApart", fn := fun _ => fun
  | [d1, d2] => { results := [.lit (.bool false)], args := [d1, d2] }
  | _ => none }
def OldheapApartWrongFalsely : Prop := oldheapApartRow.holds Tryz.pinned (OpenSpec.ofChange oldheapApartWrong)

/-- 'underpinlaw14.OldheapLists': WHATEVER THE INPUT: true; the input reads as it did. -/
def oldheapListsSpec : ChangeSpec := { name := "oldheapLists", fn := fun _ => fun
  | [d1, d2] => { results := [.lit (.bool true)], args := [d1, d2] }
  | _ => none }
def oldheapListsRow : OpenClaim := { program := "ytlljejmblmjjnaagreatdoor", sum := "f810bdd24b64e956f05998e0e99219fe4482056d43a88856a9d0eb1c5a3bd7c8", func := "underpin/underpinlaw14.OldheapLists", spec := "oldheapLists", inPlace := ["slices.overlaps[underpin/spans.Run]"], unfollowed := true, recurses := true, named := ["math/bits.deBruijn64tab"], plainKeys := false, apart := false, laid := [("math/bits.deBruijn64tab", laid_math_bits_deBruijn64tab)] }
def OldheapListsSaid : Prop := oldheapListsRow.holds Tryz.pinned (OpenSpec.ofChange oldheapListsSpec)

/-- ITS FALSE NEIGHBOUR: 'it returns false'. Refute it at one input. -/
def oldheapListsWrong : ChangeSpec := { name := "oldheapLists", fn := fun _ => fun
  | [d1, d2] => { results := [.lit (.bool false)], args := [d1, d2] }
  | _ => none }
def OldheapListsWrongFalsely : Prop := oldheapListsRow.holds Tryz.pinned (OpenSpec.ofChange oldheapListsWrong)

/-- 'underpinlaw14.OldheapBack': WHATEVER THE INPUT: true; the input reads as it did. -/
def oldheapBackSpec : ChangeSpec := { name := "oldheapBack", fn := fun _ => fun
  | [d1, d2, d3] => { results := [.lit (.bool true)], args := [d1, d2, d3] }
  | _ => none }
def oldheapBackRow : OpenClaim := { program := "ytlljejmblmjjnaagreatdoor", sum := "f810bdd24b64e956f05998e0e99219fe4482056d43a88856a9d0eb1c5a3bd7c8", func := "underpin/underpinlaw14.OldheapBack", spec := "oldheapBack", inPlace := ["slices.overlaps[underpin/spans.Run]"], unfollowed := true, recurses := true, named := ["math/bits.deBruijn64tab"], plainKeys := false, apart := false, laid := [("math/bits.deBruijn64tab", laid_math_bits_deBruijn64tab)] }
def OldheapBackSaid : Prop := oldheapBackRow.holds Tryz.pinned (OpenSpec.ofChange oldheapBackSpec)

/-- ITS FALSE NEIGHBOUR: 'it returns false'. Refute it at one input. -/
def oldheapBackWrong : ChangeSpec := { name := "oldheapBack", fn := fun _ => fun
  | [d1, d2, d3] => { results := [.lit (.bool false)], args := [d1, d2, d3] }
  | _ => none }
def OldheapBackWrongFalsely : Prop := oldheapBackRow.holds Tryz.pinned (OpenSpec.ofChange oldheapBackWrong)

/-- 'underpinlaw14.OldheapSeals': WHATEVER THE INPUT: true; the input reads as it did. -/
def oldheapSealsSpec : ChangeSpec := { name := "oldheapSeals", fn := fun _ => fun
  | [d1, d2, d3, d4] => { results := [.lit (.bool true)], args := [d1, d2, d3, d4] }
  | _ => none }
def oldheapSealsRow : OpenClaim := { program := "ytlljejmblmjjnaagreatdoor", sum := "f810bdd24b64e956f05998e0e99219fe4482056d43a88856a9d0eb1c5a3bd7c8", func := "underpin/underpinlaw14.OldheapSeals", spec := "oldheapSeals", inPlace := ["slices.overlaps[underpin/spans.Run]"], unfollowed := true, recurses := true, named := ["math/bits.deBruijn64tab"], plainKeys := false, apart := false, laid := [("math/bits.deBruijn64tab", laid_math_bits_deBruijn64tab)] }
def OldheapSealsSaid : Prop := oldheapSealsRow.holds Tryz.pinned (OpenSpec.ofChange oldheapSealsSpec)

/-- ITS FALSE NEIGHBOUR: 'it returns false'. Refute it at one input. -/
def oldheapSealsWrong : ChangeSpec := { name := "oldheapSeals", fn := fun _ => fun
  | [d1, d2, d3, d4] => { results := [.lit (.bool false)], args := [d1, d2, d3, d4] }
  | _ => none }
def OldheapSealsWrongFalsely : Prop := oldheapSealsRow.holds Tryz.pinned (OpenSpec.ofChange oldheapSealsWrong)

/- THE SECOND FORM. 'bulk': how many values and letters a reading holds, each counted each time it is reached (what is shared counts as often as it is met; a slice's spare places count too). A statement '..UptoSaid' is the law's where the arguments, and the package variables that the reading takes, are together of bulk at most 1048576: NARROWER than '..Said'. Prove '..Said' where nothing that the law and all that it calls make is longer than what came in: it says more and counts as full. Else prove '..UptoSaid'. A law counts once. -/
mutual
def uptoBulk {H : Type} : DataW H → Nat
  | .lit (.string bytes) => bytes.length + 1
  | .lit _ => 1
  | .nil => 1
  | .ptr d => uptoBulk d + 1
  | .slice elems spare => uptoBulkAll elems + uptoBulkAll spare + 1
  | .agg parts => uptoBulkAll parts + 1
  | .iface _ d => uptoBulk d + 1
  | .map entries => uptoBulkEntries entries + 1
  | .held _ => 1
def uptoBulkAll {H : Type} : List (DataW H) → Nat
  | [] => 0
  | d :: r => uptoBulk d + uptoBulkAll r
def uptoBulkEntries {H : Type} : List (Lit × DataW H) → Nat
  | [] => 0
  | x :: r => uptoBulkEntry x + uptoBulkEntries r
def uptoBulkEntry {H : Type} : Lit × DataW H → Nat
  | (.string bytes, d) => bytes.length + uptoBulk d + 1
  | (_, d) => uptoBulk d + 1
 end
def uptoSmall : (H : Type) → List (DataW H) → Bool := fun _ ds => decide (uptoBulkAll ds ≤ 1048576)
def OpenSpec.upto (s : _root_.Go.ChangeSpec) : _root_.Go.OpenSpec := { _root_.Go.OpenSpec.ofChange s with cond := some uptoSmall }

/-- 'underpinlaw14.OldheapApart', WHERE WHAT IT READS IS OF BULK AT MOST 1048576: true; the input reads as it did. -/
def oldheapApartUptoRow : OpenClaim := { program := "ytlljejmblmjjnaagreatdoor", sum := "f810bdd24b64e956f05998e0e99219fe4482056d43a88856a9d0eb1c5a3bd7c8", func := "underpin/underpinlaw14.OldheapApart", spec := "oldheapApart", inPlace := ["slices.overlaps[underpin/spans.Run]"], unfollowed := true, recurses := true, named := ["math/bits.deBruijn64tab"], plainKeys := false, apart := false, laid := [("math/bits.deBruijn64tab", laid_math_bits_deBruijn64tab)], narrowed := true }
def OldheapApartUptoSaid : Prop := oldheapApartUptoRow.holds Tryz.pinned (OpenSpec.upto oldheapApartSpec)

/-- 'underpinlaw14.OldheapLists', WHERE WHAT IT READS IS OF BULK AT MOST 1048576: true; the input reads as it did. -/
def oldheapListsUptoRow : OpenClaim := { program := "ytlljejmblmjjnaagreatdoor", sum := "f810bdd24b64e956f05998e0e99219fe4482056d43a88856a9d0eb1c5a3bd7c8", func := "underpin/underpinlaw14.OldheapLists", spec := "oldheapLists", inPlace := ["slices.overlaps[underpin/spans.Run]"], unfollowed := true, recurses := true, named := ["math/bits.deBruijn64tab"], plainKeys := false, apart := false, laid := [("math/bits.deBruijn64tab", laid_math_bits_deBruijn64tab)], narrowed := true }
def OldheapListsUptoSaid : Prop := oldheapListsUptoRow.holds Tryz.pinned (OpenSpec.upto oldheapListsSpec)

/-- 'underpinlaw14.OldheapBack', WHERE WHAT IT READS IS OF BULK AT MOST 1048576: true; the input reads as it did. -/
def oldheapBackUptoRow : OpenClaim := { program := "ytlljejmblmjjnaagreatdoor", sum := "f810bdd24b64e956f05998e0e99219fe4482056d43a88856a9d0eb1c5a3bd7c8", func := "underpin/underpinlaw14.OldheapBack", spec := "oldheapBack", inPlace := ["slices.overlaps[underpin/spans.Run]"], unfollowed := true, recurses := true, named := ["math/bits.deBruijn64tab"], plainKeys := false, apart := false, laid := [("math/bits.deBruijn64tab", laid_math_bits_deBruijn64tab)], narrowed := true }
def OldheapBackUptoSaid : Prop := oldheapBackUptoRow.holds Tryz.pinned (OpenSpec.upto oldheapBackSpec)

/-- 'underpinlaw14.OldheapSeals', WHERE WHAT IT READS IS OF BULK AT MOST 1048576: true; the input reads as it did. -/
def oldheapSealsUptoRow : OpenClaim := { program := "ytlljejmblmjjnaagreatdoor", sum := "f810bdd24b64e956f05998e0e99219fe4482056d43a88856a9d0eb1c5a3bd7c8", func := "underpin/underpinlaw14.OldheapSeals", spec := "oldheapSeals", inPlace := ["slices.overlaps[underpin/spans.Run]"], unfollowed := true, recurses := true, named := ["math/bits.deBruijn64tab"], plainKeys := false, apart := false, laid := [("math/bits.deBruijn64tab", laid_math_bits_deBruijn64tab)], narrowed := true }
def OldheapSealsUptoSaid : Prop := oldheapSealsUptoRow.holds Tryz.pinned (OpenSpec.upto oldheapSealsSpec)

end Rows
end Go.Proofs.YtlljejmblmjjnaaGreatDoor
