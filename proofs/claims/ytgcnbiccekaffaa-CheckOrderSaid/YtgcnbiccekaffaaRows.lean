/-
  No cell of these rows narrows 'for every input' (looked for: loops, veiled, ifaces, maps, wideKeys, modest, calm, conditions, laid).
  DERIVED. THE GIVEN ROWS OF THIS SEAT. 4 by the template 'for every input the law returns true; each argument reads behind the call as it read before'; 0 by the template 'total and deterministic' (their statements: YtgcnbiccekaffaaTotals.lean).
  GIVEN WITH THE SEED: the statements are not yours to turn. If you find one false, say at which input.
  Laid BY PROGRAM, IN A SANDBOX (cutbox-rows.mjs): the forced cells as the released guide's own fill.sh prints them over the translation 6a9e0b65325847c4… (all of the seat's roots in one cut). By AI agents, Wed Nov 11 2026. No macro, syntax, notation, axiom, sorry.
-/
import Derived.Test.YtgcnbiccekaffaaChecked
import GoSem.Claim
import GoSem.ClaimJoined
import GoSem.ClaimMapViews
import Derived.JoinedTies
import Derived.KernelRfl
namespace Go.Proofs.Ytgcnbiccekaffaa
/- THE CELL 'sum', in the pinned program and in every row, IS THE sha256 OF THE DUMP (.gsa) THAT YtgcnbiccekaffaaProg.lean LOADS. Nothing in Lean hashes anything: it is a label: what it is worth is what the hold of that sum in a sandbox is worth. -/
noncomputable def Try.pinned : Pinned := { name := "ytgcnbiccekaffaa", sum := "6a9e0b65325847c4509d5384a1491601e0be30cc5c1bf69af825b5aaad2b7cd9", checked := Try.checked }
namespace Rows
def none {H : Type} : Left H := { results := [], args := [] }

/-- 'underpinlaw27.CheckApart': WHATEVER THE INPUT: true; the input reads as it did. -/
def checkApartSpec : ChangeSpec := { name := "checkApart", fn := fun _ => fun
  | [d1, d2, d3, d4] => { results := [.lit (.bool true)], args := [d1, d2, d3, d4] }
  | _ => none }
def checkApartRow : OpenClaim := { program := "ytgcnbiccekaffaa", sum := "6a9e0b65325847c4509d5384a1491601e0be30cc5c1bf69af825b5aaad2b7cd9", func := "underpin/underpinlaw27.CheckApart", spec := "checkApart", unfollowed := true, recurses := true, apart := false }
def CheckApartSaid : Prop := checkApartRow.holds Try.pinned (OpenSpec.ofChange checkApartSpec)

/-- ITS FALSE NEIGHBOUR: 'it returns false'. Refute it at one input. -/
def checkApartWrong : ChangeSpec := { name := "checkApart", fn := fun _ => fun
  | [d1, d2, d3, d4] => { results := [.lit (.bool false)], args := [d1, d2, d3, d4] }
  | _ => none }
def CheckApartWrongFalsely : Prop := checkApartRow.holds Try.pinned (OpenSpec.ofChange checkApartWrong)

/-- 'underpinlaw27.CheckRefuses': WHATEVER THE INPUT: true; the input reads as it did. -/
def checkRefusesSpec : ChangeSpec := { name := "checkRefuses", fn := fun _ => fun
  | [d1, d2, d3] => { results := [.lit (.bool true)], args := [d1, d2, d3] }
  | _ => none }
def checkRefusesRow : OpenClaim := { program := "ytgcnbiccekaffaa", sum := "6a9e0b65325847c4509d5384a1491601e0be30cc5c1bf69af825b5aaad2b7cd9", func := "underpin/underpinlaw27.CheckRefuses", spec := "checkRefuses", unfollowed := true, recurses := true, apart := false }
def CheckRefusesSaid : Prop := checkRefusesRow.holds Try.pinned (OpenSpec.ofChange checkRefusesSpec)

/-- ITS FALSE NEIGHBOUR: 'it returns false'. Refute it at one input. -/
def checkRefusesWrong : ChangeSpec := { name := "checkRefuses", fn := fun _ => fun
  | [d1, d2, d3] => { results := [.lit (.bool false)], args := [d1, d2, d3] }
  | _ => none }
def CheckRefusesWrongFalsely : Prop := checkRefusesRow.holds Try.pinned (OpenSpec.ofChange checkRefusesWrong)

/-- 'underpinlaw27.CheckOrder': WHATEVER THE INPUT: true; the input reads as it did. -/
def checkOrderSpec : ChangeSpec := { name := "checkOrder", fn := fun _ => fun
  | [d] => { results := [.lit (.bool true)], args := [d] }
  | _ => none }
def checkOrderRow : OpenClaim := { program := "ytgcnbiccekaffaa", sum := "6a9e0b65325847c4509d5384a1491601e0be30cc5c1bf69af825b5aaad2b7cd9", func := "underpin/underpinlaw27.CheckOrder", spec := "checkOrder", unfollowed := true, recurses := true, apart := false }
def CheckOrderSaid : Prop := checkOrderRow.holds Try.pinned (OpenSpec.ofChange checkOrderSpec)

/-- ITS FALSE NEIGHBOUR: 'it returns false'. Refute it at one input. -/
def checkOrderWrong : ChangeSpec := { name := "checkOrder", fn := fun _ => fun
  | [d] => { results := [.lit (.bool false)], args := [d] }
  | _ => none }
def CheckOrderWrongFalsely : Prop := checkOrderRow.holds Try.pinned (OpenSpec.ofChange checkOrderWrong)

/-- 'underpinlaw27.CheckSpoilt': WHATEVER THE INPUT: true; the input reads as it did. -/
def checkSpoiltSpec : ChangeSpec := { name := "checkSpoilt", fn := fun _ => fun
  | [d1, d2, d3, d4, d5] => { results := [.lit (.bool true)], args := [d1, d2, d3, d4, d5] }
  | _ => none }
def checkSpoiltRow : OpenClaim := { program := "ytgcnbiccekaffaa", sum := "6a9e0b65325847c4509d5384a1491601e0be30cc5c1bf69af825b5aaad2b7cd9", func := "underpin/underpinlaw27.CheckSpoilt", spec := "checkSpoilt", unfollowed := true, recurses := true, apart := false }
def CheckSpoiltSaid : Prop := checkSpoiltRow.holds Try.pinned (OpenSpec.ofChange checkSpoiltSpec)

/-- ITS FALSE NEIGHBOUR: 'it returns false'. Refute it at one input. -/
def checkSpoiltWrong : ChangeSpec := { name := "checkSpoilt", fn := fun _ => fun
  | [d1, d2, d3, d4, d5] => { results := [.lit (.bool false)], args := [d1, d2, d3, d4, d5] }
  | _ => none }
def CheckSpoiltWrongFalsely : Prop := checkSpoiltRow.holds Try.pinned (OpenSpec.ofChange checkSpoiltWrong)

/- THE SECOND FORM. 'bulk': how many values and letters a reading holds, each counted each time it is reached (what is shared counts as often as it is met; a slice's spare places count too). A statement '..UptoSaid' is the law's where the arguments, and the package variables that the reading takes, are together of bulk at most 1048576: NARROWER than '..Said'. Prove '..Said' where nothing that the law and all that it calls make is longer than what came in: it says more and counts as full. Else prove '..UptoSaid'. A law counts once. -/
mutual
def uptoBulk {H : Type} : DataW H → Nat
  | .lit (.string bytes) => bytes.length + 1
  | .lit _ => 1
  | .nil => 1
  | .ptr d => uptoBulk d + 1
  | .slice elems spare => uptoBulkAll elems + uptoBulkAll spare + 1
  | .agg parts => uptoBulkAll parts + 1
  | .iface _ d => uptoBulk d + 1
  | .map entries => uptoBulkEntries entries + 1
  | .held _ => 1
def uptoBulkAll {H : Type} : List (DataW H) → Nat
  | [] => 0
  | d :: r => uptoBulk d + uptoBulkAll r
def uptoBulkEntries {H : Type} : List (Lit × DataW H) → Nat
  | [] => 0
  | x :: r => uptoBulkEntry x + uptoBulkEntries r
def uptoBulkEntry {H : Type} : Lit × DataW H → Nat
  | (.string bytes, d) => bytes.length + uptoBulk d + 1
  | (_, d) => uptoBulk d + 1
 end
def uptoSmall : (H : Type) → List (DataW H) → Bool := fun _ ds => decide (uptoBulkAll ds ≤ 1048576)
def OpenSpec.upto (s : _root_.Go.ChangeSpec) : _root_.Go.OpenSpec := { _root_.Go.OpenSpec.ofChange s with cond := some uptoSmall }

/-- 'underpinlaw27.CheckApart', WHERE WHAT IT READS IS OF BULK AT MOST 1048576: true; the input reads as it did. -/
def checkApartUptoRow : OpenClaim := { program := "ytgcnbiccekaffaa", sum := "6a9e0b65325847c4509d5384a1491601e0be30cc5c1bf69af825b5aaad2b7cd9", func := "underpin/underpinlaw27.CheckApart", spec := "checkApart", unfollowed := true, recurses := true, apart := false, narrowed := true }
def CheckApartUptoSaid : Prop := checkApartUptoRow.holds Try.pinned (OpenSpec.upto checkApartSpec)

/-- 'underpinlaw27.CheckRefuses', WHERE WHAT IT READS IS OF BULK AT MOST 1048576: true; the input reads as it did. -/
def checkRefusesUptoRow : OpenClaim := { program := "ytgcnbiccekaffaa", sum := "6a9e0b65325847c4509d5384a1491601e0be30cc5c1bf69af825b5aaad2b7cd9", func := "underpin/underpinlaw27.CheckRefuses", spec := "checkRefuses", unfollowed := true, recurses := true, apart := false, narrowed := true }
def CheckRefusesUptoSaid : Prop := checkRefusesUptoRow.holds Try.pinned (OpenSpec.upto checkRefusesSpec)

/-- 'underpinlaw27.CheckOrder', WHERE WHAT IT READS IS OF BULK AT MOST 1048576: true; the input reads as it did. -/
def checkOrderUptoRow : OpenClaim := { program := "ytgcnbiccekaffaa", sum := "6a9e0b65325847c4509d5384a1491601e0be30cc5c1bf69af825b5aaad2b7cd9", func := "underpin/underpinlaw27.CheckOrder", spec := "checkOrder", unfollowed := true, recurses := true, apart := false, narrowed := true }
def CheckOrderUptoSaid : Prop := checkOrderUptoRow.holds Try.pinned (OpenSpec.upto checkOrderSpec)

/-- 'underpinlaw27.CheckSpoilt', WHERE WHAT IT READS IS OF BULK AT MOST 1048576: true; the input reads as it did. -/
def checkSpoiltUptoRow : OpenClaim := { program := "ytgcnbiccekaffaa", sum := "6a9e0b65325847c4509d5384a1491601e0be30cc5c1bf69af825b5aaad2b7cd9", func := "underpin/underpinlaw27.CheckSpoilt", spec := "checkSpoilt", unfollowed := true, recurses := true, apart := false, narrowed := true }
def CheckSpoiltUptoSaid : Prop := checkSpoiltUptoRow.holds Try.pinned (OpenSpec.upto checkSpoiltSpec)

end Rows
end Go.Proofs.Ytgcnbiccekaffaa
