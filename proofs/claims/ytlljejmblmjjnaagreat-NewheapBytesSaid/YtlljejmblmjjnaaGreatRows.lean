/-
  No cell of these rows narrows 'for every input' (looked for: loops, veiled, ifaces, maps, wideKeys, modest, calm, conditions, laid).
  DERIVED. THE GIVEN ROWS OF THIS SEAT. 5 by the template 'for every input the law returns true; each argument reads behind the call as it read before'; 0 by the template 'total and deterministic' (their statements: YtlljejmblmjjnaaGreatTotals.lean).
  GIVEN WITH THE SEED: the statements are not yours to turn. If you find one false, say at which input.
  Laid BY PROGRAM, IN A SANDBOX (cutbox-rows.mjs): the forced cells as the released guide's own fill.sh prints them over the translation 63fa34c2a0fdded0… (all of the seat's roots in one cut). By AI agents, Wed Nov 11 2026. No macro, syntax, notation, axiom, sorry.
-/
import Derived.Test.YtlljejmblmjjnaaGreatChecked
import GoSem.Claim
import GoSem.ClaimJoined
import GoSem.ClaimMapViews
import Derived.JoinedTies
import Derived.KernelRfl
namespace Go.Proofs.YtlljejmblmjjnaaGreat
/- THE CELL 'sum', in the pinned program and in every row, IS THE sha256 OF THE DUMP (.gsa) THAT YtlljejmblmjjnaaGreatProg.lean LOADS. Nothing in Lean hashes anything: it is a label: what it is worth is what the hold of that sum in a sandbox is worth. -/
noncomputable def Tryz.pinned : Pinned := { name := "ytlljejmblmjjnaagreat", sum := "63fa34c2a0fdded0f079234b76c65022f6dec2ec659d26ab87d3164b8a270f74", checked := Tryz.checked }
namespace Rows
def none {H : Type} : Left H := { results := [], args := [] }

/-- 'underpinlaw16.NewheapApart': WHATEVER THE INPUT: true; the input reads as it did. -/
def newheapApartSpec : ChangeSpec := { name := "newheapApart", fn := fun _ => fun
  | [d1, d2] => { results := [.lit (.bool true)], args := [d1, d2] }
  | _ => none }
def newheapApartRow : OpenClaim := { program := "ytlljejmblmjjnaagreat", sum := "63fa34c2a0fdded0f079234b76c65022f6dec2ec659d26ab87d3164b8a270f74", func := "underpin/underpinlaw16.NewheapApart", spec := "newheapApart", inPlace := ["slices.overlaps[underpin/spans.Run]"], unfollowed := true, recurses := true, plainKeys := false, apart := false }
def NewheapApartSaid : Prop := newheapApartRow.holds Tryz.pinned (OpenSpec.ofChange newheapApartSpec)

/-- ITS FALSE NEIGHBOUR: 'it returns false'. Refute it at one input. -/
def newheapApartWrong : ChangeSpec := { name := "newheapApart", fn := fun _ => fun
  | [d1, d2] => { results := [.lit (.bool false)], args := [d1, d2] }
  | _ => none }
def NewheapApartWrongFalsely : Prop := newheapApartRow.holds Tryz.pinned (OpenSpec.ofChange newheapApartWrong)

/-- 'underpinlaw16.NewheapFullest': WHATEVER THE INPUT: true; the input reads as it did. -/
def newheapFullestSpec : ChangeSpec := { name := "newheapFullest", fn := fun _ => fun
  | [d1, d2, d3] => { results := [.lit (.bool true)], args := [d1, d2, d3] }
  | _ => none }
def newheapFullestRow : OpenClaim := { program := "ytlljejmblmjjnaagreat", sum := "63fa34c2a0fdded0f079234b76c65022f6dec2ec659d26ab87d3164b8a270f74", func := "underpin/underpinlaw16.NewheapFullest", spec := "newheapFullest", inPlace := ["slices.overlaps[underpin/spans.Run]"], unfollowed := true, recurses := true, plainKeys := false, apart := false }
def NewheapFullestSaid : Prop := newheapFullestRow.holds Tryz.pinned (OpenSpec.ofChange newheapFullestSpec)

/-- ITS FALSE NEIGHBOUR: 'it returns false'. Refute it at one input. -/
def newheapFullestWrong : ChangeSpec := { name := "newheapFullest", fn := fun _ => fun
  | [d1, d2, d3] => { results := [.lit (.bool false)], args := [d1, d2, d3] }
  | _ => none }
def NewheapFullestWrongFalsely : Prop := newheapFullestRow.holds Tryz.pinned (OpenSpec.ofChange newheapFullestWrong)

/-- 'underpinlaw16.NewheapRows': WHATEVER THE INPUT: true; the input reads as it did. -/
def newheapRowsSpec : ChangeSpec := { name := "newheapRows", fn := fun _ => fun
  | [d1, d2] => { results := [.lit (.bool true)], args := [d1, d2] }
  | _ => none }
def newheapRowsRow : OpenClaim := { program := "ytlljejmblmjjnaagreat", sum := "63fa34c2a0fdded0f079234b76c65022f6dec2ec659d26ab87d3164b8a270f74", func := "underpin/underpinlaw16.NewheapRows", spec := "newheapRows", inPlace := ["slices.overlaps[underpin/spans.Run]"], unfollowed := true, recurses := true, plainKeys := false, apart := false }
def NewheapRowsSaid : Prop := newheapRowsRow.holds Tryz.pinned (OpenSpec.ofChange newheapRowsSpec)

/-- ITS FALSE NEIGHBOUR: 'it returns false'. Refute it at one input. -/
def newheapRowsWrong : ChangeSpec := { name := "newheapRows", fn := fun _ => fun
  | [d1, d2] => { results := [.lit (.bool false)], args := [d1, d2] }
  | _ => none }
def NewheapRowsWrongFalsely : Prop := newheapRowsRow.holds Tryz.pinned (OpenSpec.ofChange newheapRowsWrong)

/-- 'underpinlaw16.NewheapBack': WHATEVER THE INPUT: true; the input reads as it did. -/
def newheapBackSpec : ChangeSpec := { name := "newheapBack", fn := fun _ => fun
  | [d1, d2, d3] => { results := [.lit (.bool true)], args := [d1, d2, d3] }
  | _ => none }
def newheapBackRow : OpenClaim := { program := "ytlljejmblmjjnaagreat", sum := "63fa34c2a0fdded0f079234b76c65022f6dec2ec659d26ab87d3164b8a270f74", func := "underpin/underpinlaw16.NewheapBack", spec := "newheapBack", inPlace := ["slices.overlaps[underpin/spans.Run]"], unfollowed := true, recurses := true, plainKeys := false, apart := false }
def NewheapBackSaid : Prop := newheapBackRow.holds Tryz.pinned (OpenSpec.ofChange newheapBackSpec)

/-- ITS FALSE NEIGHBOUR: 'it returns false'. Refute it at one input. -/
def newheapBackWrong : ChangeSpec := { name := "newheapBack", fn := fun _ => fun
  | [d1, d2, d3] => { results := [.lit (.bool false)], args := [d1, d2, d3] }
  | _ => none }
def NewheapBackWrongFalsely : Prop := newheapBackRow.holds Tryz.pinned (OpenSpec.ofChange newheapBackWrong)

/-- 'underpinlaw16.NewheapBytes': WHATEVER THE INPUT: true; the input reads as it did. -/
def newheapBytesSpec : ChangeSpec := { name := "newheapBytes", fn := fun _ => fun
  | [d1, d2, d3] => { results := [.lit (.bool true)], args := [d1, d2, d3] }
  | _ => none }
def newheapBytesRow : OpenClaim := { program := "ytlljejmblmjjnaagreat", sum := "63fa34c2a0fdded0f079234b76c65022f6dec2ec659d26ab87d3164b8a270f74", func := "underpin/underpinlaw16.NewheapBytes", spec := "newheapBytes", inPlace := ["slices.overlaps[underpin/spans.Run]"], unfollowed := true, recurses := true, plainKeys := false, apart := false }
def NewheapBytesSaid : Prop := newheapBytesRow.holds Tryz.pinned (OpenSpec.ofChange newheapBytesSpec)

/-- ITS FALSE NEIGHBOUR: 'it returns false'. Refute it at one input. -/
def newheapBytesWrong : ChangeSpec := { name := "newheapBytes", fn := fun _ => fun
  | [d1, d2, d3] => { results := [.lit (.bool false)], args := [d1, d2, d3] }
  | _ => none }
def NewheapBytesWrongFalsely : Prop := newheapBytesRow.holds Tryz.pinned (OpenSpec.ofChange newheapBytesWrong)

/- THE SECOND FORM. 'bulk': how many values and letters a reading holds, each counted each time it is reached (what is shared counts as often as it is met; a slice's spare places count too). A statement '..UptoSaid' is the law's where the arguments, and the package variables that the reading takes, are together of bulk at most 1048576: NARROWER than '..Said'. Prove '..Said' where nothing that the law and all that it calls make is longer than what came in: it says more and counts as full. Else prove '..UptoSaid'. A law counts once. -/
mutual
def uptoBulk {H : Type} : DataW H → Nat
  | .lit (.string bytes) => bytes.length + 1
  | .lit _ => 1
  | .nil => 1
  | .ptr d => uptoBulk d + 1
  | .slice elems spare => uptoBulkAll elems + uptoBulkAll spare + 1
  | .agg parts => uptoBulkAll parts + 1
  | .iface _ d => uptoBulk d + 1
  | .map entries => uptoBulkEntries entries + 1
  | .held _ => 1
def uptoBulkAll {H : Type} : List (DataW H) → Nat
  | [] => 0
  | d :: r => uptoBulk d + uptoBulkAll r
def uptoBulkEntries {H : Type} : List (Lit × DataW H) → Nat
  | [] => 0
  | x :: r => uptoBulkEntry x + uptoBulkEntries r
def uptoBulkEntry {H : Type} : Lit × DataW H → Nat
  | (.string bytes, d) => bytes.length + uptoBulk d + 1
  | (_, d) => uptoBulk d + 1
 end
def uptoSmall : (H : Type) → List (DataW H) → Bool := fun _ ds => decide (uptoBulkAll ds ≤ 1048576)
def OpenSpec.upto (s : _root_.Go.ChangeSpec) : _root_.Go.OpenSpec := { _root_.Go.OpenSpec.ofChange s with cond := some uptoSmall }

/-- 'underpinlaw16.NewheapApart', WHERE WHAT IT READS IS OF BULK AT MOST 1048576: true; the input reads as it did. -/
def newheapApartUptoRow : OpenClaim := { program := "ytlljejmblmjjnaagreat", sum := "63fa34c2a0fdded0f079234b76c65022f6dec2ec659d26ab87d3164b8a270f74", func := "underpin/underpinlaw16.NewheapApart", spec := "newheapApart", inPlace := ["slices.overlaps[underpin/spans.Run]"], unfollowed := true, recurses := true, plainKeys := false, apart := false, narrowed := true }
def NewheapApartUptoSaid : Prop := newheapApartUptoRow.holds Tryz.pinned (OpenSpec.upto newheapApartSpec)

/-- 'underpinlaw16.NewheapFullest', WHERE WHAT IT READS IS OF BULK AT MOST 1048576: true; the input reads as it did. -/
def newheapFullestUptoRow : OpenClaim := { program := "ytlljejmblmjjnaagreat", sum := "63fa34c2a0fdded0f079234b76c65022f6dec2ec659d26ab87d3164b8a270f74", func := "underpin/underpinlaw16.NewheapFullest", spec := "newheapFullest", inPlace := ["slices.overlaps[underpin/spans.Run]"], unfollowed := true, recurses := true, plainKeys := false, apart := false, narrowed := true }
def NewheapFullestUptoSaid : Prop := newheapFullestUptoRow.holds Tryz.pinned (OpenSpec.upto newheapFullestSpec)

/-- 'underpinlaw16.NewheapRows', WHERE WHAT IT READS IS OF BULK AT MOST 1048576: true; the input reads as it did. -/
def newheapRowsUptoRow : OpenClaim := { program := "ytlljejmblmjjnaagreat", sum := "63fa34c2a0fdded0f079234b76c65022f6dec2ec659d26ab87d3164b8a270f74", func := "underpin/underpinlaw16.NewheapRows", spec := "newheapRows", inPlace := ["slices.overlaps[underpin/spans.Run]"], unfollowed := true, recurses := true, plainKeys := false, apart := false, narrowed := true }
def NewheapRowsUptoSaid : Prop := newheapRowsUptoRow.holds Tryz.pinned (OpenSpec.upto newheapRowsSpec)

/-- 'underpinlaw16.NewheapBack', WHERE WHAT IT READS IS OF BULK AT MOST 1048576: true; the input reads as it did. -/
def newheapBackUptoRow : OpenClaim := { program := "ytlljejmblmjjnaagreat", sum := "63fa34c2a0fdded0f079234b76c65022f6dec2ec659d26ab87d3164b8a270f74", func := "underpin/underpinlaw16.NewheapBack", spec := "newheapBack", inPlace := ["slices.overlaps[underpin/spans.Run]"], unfollowed := true, recurses := true, plainKeys := false, apart := false, narrowed := true }
def NewheapBackUptoSaid : Prop := newheapBackUptoRow.holds Tryz.pinned (OpenSpec.upto newheapBackSpec)

/-- 'underpinlaw16.NewheapBytes', WHERE WHAT IT READS IS OF BULK AT MOST 1048576: true; the input reads as it did. -/
def newheapBytesUptoRow : OpenClaim := { program := "ytlljejmblmjjnaagreat", sum := "63fa34c2a0fdded0f079234b76c65022f6dec2ec659d26ab87d3164b8a270f74", func := "underpin/underpinlaw16.NewheapBytes", spec := "newheapBytes", inPlace := ["slices.overlaps[underpin/spans.Run]"], unfollowed := true, recurses := true, plainKeys := false, apart := false, narrowed := true }
def NewheapBytesUptoSaid : Prop := newheapBytesUptoRow.holds Tryz.pinned (OpenSpec.upto newheapBytesSpec)

end Rows
end Go.Proofs.YtlljejmblmjjnaaGreat
