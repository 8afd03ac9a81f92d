/-
  No cell of these rows narrows 'for every input' (looked for: loops, veiled, ifaces, maps, wideKeys, modest, calm, conditions, laid).
  DERIVED. THE GIVEN ROWS OF THIS SEAT. 5 by the template 'for every input the law returns true; each argument reads behind the call as it read before'; 0 by the template 'total and deterministic' (their statements: YtjpmddjibeecbaaTotals.lean).
  GIVEN WITH THE SEED: the statements are not yours to turn. If you find one false, say at which input.
  Laid BY PROGRAM, IN A SANDBOX (cutbox-rows.mjs): the forced cells as the released guide's own fill.sh prints them over the translation d659023d62464ffa… (all of the seat's roots in one cut). By AI agents, Wed Nov 11 2026. No macro, syntax, notation, axiom, sorry.
-/
import Derived.Test.YtjpmddjibeecbaaChecked
import GoSem.Claim
import GoSem.ClaimJoined
import GoSem.ClaimMapViews
import Derived.JoinedTies
import Derived.KernelRfl
namespace Go.Proofs.Ytjpmddjibeecbaa
/- THE CELL 'sum', in the pinned program and in every row, IS THE sha256 OF THE DUMP (.gsa) THAT YtjpmddjibeecbaaProg.lean LOADS. Nothing in Lean hashes anything: it is a label: what it is worth is what the hold of that sum in a sandbox is worth. -/
noncomputable def Try.pinned : Pinned := { name := "ytjpmddjibeecbaa", sum := "d659023d62464ffa43855448440a1dc004d9c6da50588707dc96f784f2e965ce", checked := Try.checked }
namespace Rows
def none {H : Type} : Left H := { results := [], args := [] }

/-- 'novationlaw17.MatchAll': WHATEVER THE INPUT: true; the input reads as it did. -/
def matchAllSpec : ChangeSpec := { name := "matchAll", fn := fun _ => fun
  | [d1, d2, d3] => { results := [.lit (.bool true)], args := [d1, d2, d3] }
  | _ => none }
def matchAllRow : OpenClaim := { program := "ytjpmddjibeecbaa", sum := "d659023d62464ffa43855448440a1dc004d9c6da50588707dc96f784f2e965ce", func := "novation/novationlaw17.MatchAll", spec := "matchAll", inPlace := ["slices.overlaps[novation/api.Order]"], unfollowed := true, recurses := true, apart := false }
def MatchAllSaid : Prop := matchAllRow.holds Try.pinned (OpenSpec.ofChange matchAllSpec)

/-- ITS FALSE NEIGHBOUR: 'it returns false'. Refute it at one input. -/
def matchAllWrong : ChangeSpec := { name := "matchAll", fn := fun _ => fun
  | [d1, d2, d3] => { results := [.lit (.bool false)], args := [d1, d2, d3] }
  | _ => none }
def MatchAllWrongFalsely : Prop := matchAllRow.holds Try.pinned (OpenSpec.ofChange matchAllWrong)

/-- 'novationlaw17.MatchDrawn': WHATEVER THE INPUT: true; the input reads as it did. -/
def matchDrawnSpec : ChangeSpec := { name := "matchDrawn", fn := fun _ => fun
  | [d] => { results := [.lit (.bool true)], args := [d] }
  | _ => none }
def matchDrawnRow : OpenClaim := { program := "ytjpmddjibeecbaa", sum := "d659023d62464ffa43855448440a1dc004d9c6da50588707dc96f784f2e965ce", func := "novation/novationlaw17.MatchDrawn", spec := "matchDrawn", inPlace := ["slices.overlaps[novation/api.Order]"], unfollowed := true, recurses := true, apart := false }
def MatchDrawnSaid : Prop := matchDrawnRow.holds Try.pinned (OpenSpec.ofChange matchDrawnSpec)

/-- ITS FALSE NEIGHBOUR: 'it returns false'. Refute it at one input. -/
def matchDrawnWrong : ChangeSpec := { name := "matchDrawn", fn := fun _ => fun
  | [d] => { results := [.lit (.bool false)], args := [d] }
  | _ => none }
def MatchDrawnWrongFalsely : Prop := matchDrawnRow.holds Try.pinned (OpenSpec.ofChange matchDrawnWrong)

/-- 'novationlaw17.MatchKeeps': WHATEVER THE INPUT: true; the input reads as it did. -/
def matchKeepsSpec : ChangeSpec := { name := "matchKeeps", fn := fun _ => fun
  | [d] => { results := [.lit (.bool true)], args := [d] }
  | _ => none }
def matchKeepsRow : OpenClaim := { program := "ytjpmddjibeecbaa", sum := "d659023d62464ffa43855448440a1dc004d9c6da50588707dc96f784f2e965ce", func := "novation/novationlaw17.MatchKeeps", spec := "matchKeeps", inPlace := ["slices.overlaps[novation/api.Order]"], unfollowed := true, recurses := true, apart := false }
def MatchKeepsSaid : Prop := matchKeepsRow.holds Try.pinned (OpenSpec.ofChange matchKeepsSpec)

/-- ITS FALSE NEIGHBOUR: 'it returns false'. Refute it at one input. -/
def matchKeepsWrong : ChangeSpec := { name := "matchKeeps", fn := fun _ => fun
  | [d] => { results := [.lit (.bool false)], args := [d] }
  | _ => none }
def MatchKeepsWrongFalsely : Prop := matchKeepsRow.holds Try.pinned (OpenSpec.ofChange matchKeepsWrong)

/-- 'novationlaw17.MatchStops': WHATEVER THE INPUT: true; the input reads as it did. -/
def matchStopsSpec : ChangeSpec := { name := "matchStops", fn := fun _ => fun
  | [d] => { results := [.lit (.bool true)], args := [d] }
  | _ => none }
def matchStopsRow : OpenClaim := { program := "ytjpmddjibeecbaa", sum := "d659023d62464ffa43855448440a1dc004d9c6da50588707dc96f784f2e965ce", func := "novation/novationlaw17.MatchStops", spec := "matchStops", inPlace := ["slices.overlaps[novation/api.Order]"], unfollowed := true, recurses := true, apart := false }
def MatchStopsSaid : Prop := matchStopsRow.holds Try.pinned (OpenSpec.ofChange matchStopsSpec)

/-- ITS FALSE NEIGHBOUR: 'it returns false'. Refute it at one input. -/
def matchStopsWrong : ChangeSpec := { name := "matchStops", fn := fun _ => fun
  | [d] => { results := [.lit (.bool false)], args := [d] }
  | _ => none }
def MatchStopsWrongFalsely : Prop := matchStopsRow.holds Try.pinned (OpenSpec.ofChange matchStopsWrong)

/-- 'novationlaw17.MatchTwice': WHATEVER THE INPUT: true; the input reads as it did. -/
def matchTwiceSpec : ChangeSpec := { name := "matchTwice", fn := fun _ => fun
  | [d1, d2] => { results := [.lit (.bool true)], args := [d1, d2] }
  | _ => none }
def matchTwiceRow : OpenClaim := { program := "ytjpmddjibeecbaa", sum := "d659023d62464ffa43855448440a1dc004d9c6da50588707dc96f784f2e965ce", func := "novation/novationlaw17.MatchTwice", spec := "matchTwice", inPlace := ["slices.overlaps[novation/api.Order]"], unfollowed := true, recurses := true, apart := false }
def MatchTwiceSaid : Prop := matchTwiceRow.holds Try.pinned (OpenSpec.ofChange matchTwiceSpec)

/-- ITS FALSE NEIGHBOUR: 'it returns false'. Refute it at one input. -/
def matchTwiceWrong : ChangeSpec := { name := "matchTwice", fn := fun _ => fun
  | [d1, d2] => { results := [.lit (.bool false)], args := [d1, d2] }
  | _ => none }
def MatchTwiceWrongFalsely : Prop := matchTwiceRow.holds Try.pinned (OpenSpec.ofChange matchTwiceWrong)

/- THE SECOND FORM. 'bulk': how many values and letters a reading holds, each counted each time it is reached (what is shared counts as often as it is met; a slice's spare places count too). A statement '..UptoSaid' is the law's where the arguments, and the package variables that the reading takes, are together of bulk at most 1048576: NARROWER than '..Said'. Prove '..Said' where nothing that the law and all that it calls make is longer than what came in: it says more and counts as full. Else prove '..UptoSaid'. A law counts once. -/
mutual
def uptoBulk {H : Type} : DataW H → Nat
  | .lit (.string bytes) => bytes.length + 1
  | .lit _ => 1
  | .nil => 1
  | .ptr d => uptoBulk d + 1
  | .slice elems spare => uptoBulkAll elems + uptoBulkAll spare + 1
  | .agg parts => uptoBulkAll parts + 1
  | .iface _ d => uptoBulk d + 1
  | .map entries => uptoBulkEntries entries + 1
  | .held _ => 1
def uptoBulkAll {H : Type} : List (DataW H) → Nat
  | [] => 0
  | d :: r => uptoBulk d + uptoBulkAll r
def uptoBulkEntries {H : Type} : List (Lit × DataW H) → Nat
  | [] => 0
  | x :: r => uptoBulkEntry x + uptoBulkEntries r
def uptoBulkEntry {H : Type} : Lit × DataW H → Nat
  | (.string bytes, d) => bytes.length + uptoBulk d + 1
  | (_, d) => uptoBulk d + 1
 end
def uptoSmall : (H : Type) → List (DataW H) → Bool := fun _ ds => decide (uptoBulkAll ds ≤ 1048576)
def OpenSpec.upto (s : _root_.Go.ChangeSpec) : _root_.Go.OpenSpec := { _root_.Go.OpenSpec.ofChange s with cond := some uptoSmall }

/-- 'novationlaw17.MatchAll', WHERE WHAT IT READS IS OF BULK AT MOST 1048576: true; the input reads as it did. -/
def matchAllUptoRow : OpenClaim := { program := "ytjpmddjibeecbaa", sum := "d659023d62464ffa43855448440a1dc004d9c6da50588707dc96f784f2e965ce", func := "novation/novationlaw17.MatchAll", spec := "matchAll", inPlace := ["slices.overlaps[novation/api.Order]"], unfollowed := true, recurses := true, apart := false, narrowed := true }
def MatchAllUptoSaid : Prop := matchAllUptoRow.holds Try.pinned (OpenSpec.upto matchAllSpec)

/-- 'novationlaw17.MatchDrawn', WHERE WHAT IT READS IS OF BULK AT MOST 1048576: true; the input reads as it did. -/
def matchDrawnUptoRow : OpenClaim := { program := "ytjpmddjibeecbaa", sum := "d659023d62464ffa43855448440a1dc004d9c6da50588707dc96f784f2e965ce", func := "novation/novationlaw17.MatchDrawn", spec := "matchDrawn", inPlace := ["slices.overlaps[novation/api.Order]"], unfollowed := true, recurses := true, apart := false, narrowed := true }
def MatchDrawnUptoSaid : Prop := matchDrawnUptoRow.holds Try.pinned (OpenSpec.upto matchDrawnSpec)

/-- 'novationlaw17.MatchKeeps', WHERE WHAT IT READS IS OF BULK AT MOST 1048576: true; the input reads as it did. -/
def matchKeepsUptoRow : OpenClaim := { program := "ytjpmddjibeecbaa", sum := "d659023d62464ffa43855448440a1dc004d9c6da50588707dc96f784f2e965ce", func := "novation/novationlaw17.MatchKeeps", spec := "matchKeeps", inPlace := ["slices.overlaps[novation/api.Order]"], unfollowed := true, recurses := true, apart := false, narrowed := true }
def MatchKeepsUptoSaid : Prop := matchKeepsUptoRow.holds Try.pinned (OpenSpec.upto matchKeepsSpec)

/-- 'novationlaw17.MatchStops', WHERE WHAT IT READS IS OF BULK AT MOST 1048576: true; the input reads as it did. -/
def matchStopsUptoRow : OpenClaim := { program := "ytjpmddjibeecbaa", sum := "d659023d62464ffa43855448440a1dc004d9c6da50588707dc96f784f2e965ce", func := "novation/novationlaw17.MatchStops", spec := "matchStops", inPlace := ["slices.overlaps[novation/api.Order]"], unfollowed := true, recurses := true, apart := false, narrowed := true }
def MatchStopsUptoSaid : Prop := matchStopsUptoRow.holds Try.pinned (OpenSpec.upto matchStopsSpec)

/-- 'novationlaw17.MatchTwice', WHERE WHAT IT READS IS OF BULK AT MOST 1048576: true; the input reads as it did. -/
def matchTwiceUptoRow : OpenClaim := { program := "ytjpmddjibeecbaa", sum := "d659023d62464ffa43855448440a1dc004d9c6da50588707dc96f784f2e965ce", func := "novation/novationlaw17.MatchTwice", spec := "matchTwice", inPlace := ["slices.overlaps[novation/api.Order]"], unfollowed := true, recurses := true, apart := false, narrowed := true }
def MatchTwiceUptoSaid : Prop := matchTwiceUptoRow.holds Try.pinned (OpenSpec.upto matchTwiceSpec)

end Rows
end Go.Proofs.Ytjpmddjibeecbaa
