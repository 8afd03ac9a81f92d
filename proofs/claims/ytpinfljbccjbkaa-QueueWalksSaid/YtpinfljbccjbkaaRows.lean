/-
  No cell of these rows narrows 'for every input' (looked for: loops, veiled, ifaces, maps, wideKeys, modest, calm, conditions, laid).
  DERIVED. THE GIVEN ROWS OF THIS SEAT. 4 by the template 'for every input the law returns true; each argument reads behind the call as it read before'; 0 by the template 'total and deterministic' (their statements: YtpinfljbccjbkaaTotals.lean).
  GIVEN WITH THE SEED: the statements are not yours to turn. If you find one false, say at which input.
  Laid BY PROGRAM, IN A SANDBOX (cutbox-rows.mjs): the forced cells as the released guide's own fill.sh prints them over the translation 44efc240626d7eea… (all of the seat's roots in one cut). By AI agents, Wed Nov 11 2026. No macro, syntax, notation, axiom, sorry.
-/
import Derived.Test.YtpinfljbccjbkaaChecked
import GoSem.Claim
import GoSem.ClaimJoined
import GoSem.ClaimMapViews
import Derived.JoinedTies
import Derived.KernelRfl
namespace Go.Proofs.Ytpinfljbccjbkaa
/- THE CELL 'sum', in the pinned program and in every row, IS THE sha256 OF THE DUMP (.gsa) THAT YtpinfljbccjbkaaProg.lean LOADS. Nothing in Lean hashes anything: it is a label: what it is worth is what the hold of that sum in a sandbox is worth. -/
noncomputable def Try.pinned : Pinned := { name := "ytpinfljbccjbkaa", sum := "44efc240626d7eea631e28fd140385eefd48fd05b4232390d21790ee47ab1c1f", checked := Try.checked }
namespace Rows
def none {H : Type} : Left H := { results := [], args := [] }

/-- 'novationlaw16.QueueDrawn': WHATEVER THE INPUT: true; the input reads as it did. -/
def queueDrawnSpec : ChangeSpec := { name := "queueDrawn", fn := fun _ => fun
  | [d1, d2] => { results := [.lit (.bool true)], args := [d1, d2] }
  | _ => none }
def queueDrawnRow : OpenClaim := { program := "ytpinfljbccjbkaa", sum := "44efc240626d7eea631e28fd140385eefd48fd05b4232390d21790ee47ab1c1f", func := "novation/novationlaw16.QueueDrawn", spec := "queueDrawn", inPlace := ["slices.overlaps[novation/api.Order]"], unfollowed := true, recurses := true, apart := false }
def QueueDrawnSaid : Prop := queueDrawnRow.holds Try.pinned (OpenSpec.ofChange queueDrawnSpec)

/-- ITS FALSE NEIGHBOUR: 'it returns false'. Refute it at one input. -/
def queueDrawnWrong : ChangeSpec := { name := "queueDrawn", fn := fun _ => fun
  | [d1, d2] => { results := [.lit (.bool false)], args := [d1, d2] }
  | _ => none }
def QueueDrawnWrongFalsely : Prop := queueDrawnRow.holds Try.pinned (OpenSpec.ofChange queueDrawnWrong)

/-- 'novationlaw16.QueueWalks': WHATEVER THE INPUT: true; the input reads as it did. -/
def queueWalksSpec : ChangeSpec := { name := "queueWalks", fn := fun _ => fun
  | [d1, d2, d3, d4] => { results := [.lit (.bool true)], args := [d1, d2, d3, d4] }
  | _ => none }
def queueWalksRow : OpenClaim := { program := "ytpinfljbccjbkaa", sum := "44efc240626d7eea631e28fd140385eefd48fd05b4232390d21790ee47ab1c1f", func := "novation/novationlaw16.QueueWalks", spec := "queueWalks", inPlace := ["slices.overlaps[novation/api.Order]"], unfollowed := true, recurses := true, apart := false }
def QueueWalksSaid : Prop := queueWalksRow.holds Try.pinned (OpenSpec.ofChange queueWalksSpec)

/-- ITS FALSE NEIGHBOUR: 'it returns false'. Refute it at one input. -/
def queueWalksWrong : ChangeSpec := { name := "queueWalks", fn := fun _ => fun
  | [d1, d2, d3, d4] => { results := [.lit (.bool false)], args := [d1, d2, d3, d4] }
  | _ => none }
def QueueWalksWrongFalsely : Prop := queueWalksRow.holds Try.pinned (OpenSpec.ofChange queueWalksWrong)

/-- 'novationlaw16.QueueTakes': WHATEVER THE INPUT: true; the input reads as it did. -/
def queueTakesSpec : ChangeSpec := { name := "queueTakes", fn := fun _ => fun
  | [d1, d2] => { results := [.lit (.bool true)], args := [d1, d2] }
  | _ => none }
def queueTakesRow : OpenClaim := { program := "ytpinfljbccjbkaa", sum := "44efc240626d7eea631e28fd140385eefd48fd05b4232390d21790ee47ab1c1f", func := "novation/novationlaw16.QueueTakes", spec := "queueTakes", inPlace := ["slices.overlaps[novation/api.Order]"], unfollowed := true, recurses := true, apart := false }
def QueueTakesSaid : Prop := queueTakesRow.holds Try.pinned (OpenSpec.ofChange queueTakesSpec)

/-- ITS FALSE NEIGHBOUR: 'it returns false'. Refute it at one input. -/
def queueTakesWrong : ChangeSpec := { name := "queueTakes", fn := fun _ => fun
  | [d1, d2] => { results := [.lit (.bool false)], args := [d1, d2] }
  | _ => none }
def QueueTakesWrongFalsely : Prop := queueTakesRow.holds Try.pinned (OpenSpec.ofChange queueTakesWrong)

/-- 'novationlaw16.QueueOpens': WHATEVER THE INPUT: true; the input reads as it did. -/
def queueOpensSpec : ChangeSpec := { name := "queueOpens", fn := fun _ => fun
  | [d] => { results := [.lit (.bool true)], args := [d] }
  | _ => none }
def queueOpensRow : OpenClaim := { program := "ytpinfljbccjbkaa", sum := "44efc240626d7eea631e28fd140385eefd48fd05b4232390d21790ee47ab1c1f", func := "novation/novationlaw16.QueueOpens", spec := "queueOpens", inPlace := ["slices.overlaps[novation/api.Order]"], unfollowed := true, recurses := true, apart := false }
def QueueOpensSaid : Prop := queueOpensRow.holds Try.pinned (OpenSpec.ofChange queueOpensSpec)

/-- ITS FALSE NEIGHBOUR: 'it returns false'. Refute it at one input. -/
def queueOpensWrong : ChangeSpec := { name := "queueOpens", fn := fun _ => fun
  | [d] => { results := [.lit (.bool false)], args := [d] }
  | _ => none }
def QueueOpensWrongFalsely : Prop := queueOpensRow.holds Try.pinned (OpenSpec.ofChange queueOpensWrong)

/- THE SECOND FORM. 'bulk': how many values and letters a reading holds, each counted each time it is reached (what is shared counts as often as it is met; a slice's spare places count too). A statement '..UptoSaid' is the law's where the arguments, and the package variables that the reading takes, are together of bulk at most 1048576: NARROWER than '..Said'. Prove '..Said' where nothing that the law and all that it calls make is longer than what came in: it says more and counts as full. Else prove '..UptoSaid'. A law counts once. -/
mutual
def uptoBulk {H : Type} : DataW H → Nat
  | .lit (.string bytes) => bytes.length + 1
  | .lit _ => 1
  | .nil => 1
  | .ptr d => uptoBulk d + 1
  | .slice elems spare => uptoBulkAll elems + uptoBulkAll spare + 1
  | .agg parts => uptoBulkAll parts + 1
  | .iface _ d => uptoBulk d + 1
  | .map entries => uptoBulkEntries entries + 1
  | .held _ => 1
def uptoBulkAll {H : Type} : List (DataW H) → Nat
  | [] => 0
  | d :: r => uptoBulk d + uptoBulkAll r
def uptoBulkEntries {H : Type} : List (Lit × DataW H) → Nat
  | [] => 0
  | x :: r => uptoBulkEntry x + uptoBulkEntries r
def uptoBulkEntry {H : Type} : Lit × DataW H → Nat
  | (.string bytes, d) => bytes.length + uptoBulk d + 1
  | (_, d) => uptoBulk d + 1
 end
def uptoSmall : (H : Type) → List (DataW H) → Bool := fun _ ds => decide (uptoBulkAll ds ≤ 1048576)
def OpenSpec.upto (s : _root_.Go.ChangeSpec) : _root_.Go.OpenSpec := { _root_.Go.OpenSpec.ofChange s with cond := some uptoSmall }

/-- 'novationlaw16.QueueDrawn', WHERE WHAT IT READS IS OF BULK AT MOST 1048576: true; the input reads as it did. -/
def queueDrawnUptoRow : OpenClaim := { program := "ytpinfljbccjbkaa", sum := "44efc240626d7eea631e28fd140385eefd48fd05b4232390d21790ee47ab1c1f", func := "novation/novationlaw16.QueueDrawn", spec := "queueDrawn", inPlace := ["slices.overlaps[novation/api.Order]"], unfollowed := true, recurses := true, apart := false, narrowed := true }
def QueueDrawnUptoSaid : Prop := queueDrawnUptoRow.holds Try.pinned (OpenSpec.upto queueDrawnSpec)

/-- 'novationlaw16.QueueWalks', WHERE WHAT IT READS IS OF BULK AT MOST 1048576: true; the input reads as it did. -/
def queueWalksUptoRow : OpenClaim := { program := "ytpinfljbccjbkaa", sum := "44efc240626d7eea631e28fd140385eefd48fd05b4232390d21790ee47ab1c1f", func := "novation/novationlaw16.QueueWalks", spec := "queueWalks", inPlace := ["slices.overlaps[novation/api.Order]"], unfollowed := true, recurses := true, apart := false, narrowed := true }
def QueueWalksUptoSaid : Prop := queueWalksUptoRow.holds Try.pinned (OpenSpec.upto queueWalksSpec)

/-- 'novationlaw16.QueueTakes', WHERE WHAT IT READS IS OF BULK AT MOST 1048576: true; the input reads as it did. -/
def queueTakesUptoRow : OpenClaim := { program := "ytpinfljbccjbkaa", sum := "44efc240626d7eea631e28fd140385eefd48fd05b4232390d21790ee47ab1c1f", func := "novation/novationlaw16.QueueTakes", spec := "queueTakes", inPlace := ["slices.overlaps[novation/api.Order]"], unfollowed := true, recurses := true, apart := false, narrowed := true }
def QueueTakesUptoSaid : Prop := queueTakesUptoRow.holds Try.pinned (OpenSpec.upto queueTakesSpec)

/-- 'novationlaw16.QueueOpens', WHERE WHAT IT READS IS OF BULK AT MOST 1048576: true; the input reads as it did. -/
def queueOpensUptoRow : OpenClaim := { program := "ytpinfljbccjbkaa", sum := "44efc240626d7eea631e28fd140385eefd48fd05b4232390d21790ee47ab1c1f", func := "novation/novationlaw16.QueueOpens", spec := "queueOpens", inPlace := ["slices.overlaps[novation/api.Order]"], unfollowed := true, recurses := true, apart := false, narrowed := true }
def QueueOpensUptoSaid : Prop := queueOpensUptoRow.holds Try.pinned (OpenSpec.upto queueOpensSpec)

end Rows
end Go.Proofs.Ytpinfljbccjbkaa
