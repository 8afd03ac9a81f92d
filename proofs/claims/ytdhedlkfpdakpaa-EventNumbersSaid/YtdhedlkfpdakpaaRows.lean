/-
  No cell of these rows narrows 'for every input' (looked for: loops, veiled, ifaces, maps, wideKeys, modest, calm, conditions, laid).
  DERIVED. THE GIVEN ROWS OF THIS SEAT. 6 by the template 'for every input the law returns true; each argument reads behind the call as it read before'; 0 by the template 'total and deterministic' (their statements: YtdhedlkfpdakpaaTotals.lean).
  GIVEN WITH THE SEED: the statements are not yours to turn. If you find one false, say at which input.
  Laid BY PROGRAM, IN A SANDBOX (cutbox-rows.mjs): the forced cells as the released guide's own fill.sh prints them over the translation 46d3cff7214c1960… (all of the seat's roots in one cut). By AI agents, Wed Nov 11 2026. No macro, syntax, notation, axiom, sorry.
-/
import Derived.Test.YtdhedlkfpdakpaaChecked
import GoSem.Claim
import GoSem.ClaimJoined
import GoSem.ClaimMapViews
import Derived.JoinedTies
import Derived.KernelRfl
namespace Go.Proofs.Ytdhedlkfpdakpaa
/- THE CELL 'sum', in the pinned program and in every row, IS THE sha256 OF THE DUMP (.gsa) THAT YtdhedlkfpdakpaaProg.lean LOADS. Nothing in Lean hashes anything: it is a label: what it is worth is what the hold of that sum in a sandbox is worth. -/
noncomputable def Try.pinned : Pinned := { name := "ytdhedlkfpdakpaa", sum := "46d3cff7214c19603eccb2b71091d759f5797e2c3927dcba77c05810fa577f52", checked := Try.checked }
namespace Rows
def none {H : Type} : Left H := { results := [], args := [] }

/-- 'novationlaw6.EventPuts': WHATEVER THE INPUT: true; the input reads as it did. -/
def eventPutsSpec : ChangeSpec := { name := "eventPuts", fn := fun _ => fun
  | [d1, d2] => { results := [.lit (.bool true)], args := [d1, d2] }
  | _ => none }
def eventPutsRow : OpenClaim := { program := "ytdhedlkfpdakpaa", sum := "46d3cff7214c19603eccb2b71091d759f5797e2c3927dcba77c05810fa577f52", func := "novation/novationlaw6.EventPuts", spec := "eventPuts", apart := false }
def EventPutsSaid : Prop := eventPutsRow.holds Try.pinned (OpenSpec.ofChange eventPutsSpec)

/-- ITS FALSE NEIGHBOUR: 'it returns false'. Refute it at one input. -/
def eventPutsWrong : ChangeSpec := { name := "eventPuts", fn := fun _ => fun
  | [d1, d2] => { results := [.lit (.bool false)], args := [d1, d2] }
  | _ => none }
def EventPutsWrongFalsely : Prop := eventPutsRow.holds Try.pinned (OpenSpec.ofChange eventPutsWrong)

/-- 'novationlaw6.EventDrawn': WHATEVER THE INPUT: true; the input reads as it did. -/
def eventDrawnSpec : ChangeSpec := { name := "eventDrawn", fn := fun _ => fun
  | [d1, d2, d3] => { results := [.lit (.bool true)], args := [d1, d2, d3] }
  | _ => none }
def eventDrawnRow : OpenClaim := { program := "ytdhedlkfpdakpaa", sum := "46d3cff7214c19603eccb2b71091d759f5797e2c3927dcba77c05810fa577f52", func := "novation/novationlaw6.EventDrawn", spec := "eventDrawn", apart := false }
def EventDrawnSaid : Prop := eventDrawnRow.holds Try.pinned (OpenSpec.ofChange eventDrawnSpec)

/-- ITS FALSE NEIGHBOUR: 'it returns false'. Refute it at one input. -/
def eventDrawnWrong : ChangeSpec := { name := "eventDrawn", fn := fun _ => fun
  | [d1, d2, d3] => { results := [.lit (.bool false)], args := [d1, d2, d3] }
  | _ => none }
def EventDrawnWrongFalsely : Prop := eventDrawnRow.holds Try.pinned (OpenSpec.ofChange eventDrawnWrong)

/-- 'novationlaw6.EventReads': WHATEVER THE INPUT: true; the input reads as it did. -/
def eventReadsSpec : ChangeSpec := { name := "eventReads", fn := fun _ => fun
  | [d] => { results := [.lit (.bool true)], args := [d] }
  | _ => none }
def eventReadsRow : OpenClaim := { program := "ytdhedlkfpdakpaa", sum := "46d3cff7214c19603eccb2b71091d759f5797e2c3927dcba77c05810fa577f52", func := "novation/novationlaw6.EventReads", spec := "eventReads", apart := false }
def EventReadsSaid : Prop := eventReadsRow.holds Try.pinned (OpenSpec.ofChange eventReadsSpec)

/-- ITS FALSE NEIGHBOUR: 'it returns false'. Refute it at one input. -/
def eventReadsWrong : ChangeSpec := { name := "eventReads", fn := fun _ => fun
  | [d] => { results := [.lit (.bool false)], args := [d] }
  | _ => none }
def EventReadsWrongFalsely : Prop := eventReadsRow.holds Try.pinned (OpenSpec.ofChange eventReadsWrong)

/-- 'novationlaw6.EventBack': WHATEVER THE INPUT: true; the input reads as it did. -/
def eventBackSpec : ChangeSpec := { name := "eventBack", fn := fun _ => fun
  | [d] => { results := [.lit (.bool true)], args := [d] }
  | _ => none }
def eventBackRow : OpenClaim := { program := "ytdhedlkfpdakpaa", sum := "46d3cff7214c19603eccb2b71091d759f5797e2c3927dcba77c05810fa577f52", func := "novation/novationlaw6.EventBack", spec := "eventBack", apart := false }
def EventBackSaid : Prop := eventBackRow.holds Try.pinned (OpenSpec.ofChange eventBackSpec)

/-- ITS FALSE NEIGHBOUR: 'it returns false'. Refute it at one input. -/
def eventBackWrong : ChangeSpec := { name := "eventBack", fn := fun _ => fun
  | [d] => { results := [.lit (.bool false)], args := [d] }
  | _ => none }
def EventBackWrongFalsely : Prop := eventBackRow.holds Try.pinned (OpenSpec.ofChange eventBackWrong)

/-- 'novationlaw6.EventSpoilt': WHATEVER THE INPUT: true; the input reads as it did. -/
def eventSpoiltSpec : ChangeSpec := { name := "eventSpoilt", fn := fun _ => fun
  | [d1, d2, d3, d4] => { results := [.lit (.bool true)], args := [d1, d2, d3, d4] }
  | _ => none }
def eventSpoiltRow : OpenClaim := { program := "ytdhedlkfpdakpaa", sum := "46d3cff7214c19603eccb2b71091d759f5797e2c3927dcba77c05810fa577f52", func := "novation/novationlaw6.EventSpoilt", spec := "eventSpoilt", apart := false }
def EventSpoiltSaid : Prop := eventSpoiltRow.holds Try.pinned (OpenSpec.ofChange eventSpoiltSpec)

/-- ITS FALSE NEIGHBOUR: 'it returns false'. Refute it at one input. -/
def eventSpoiltWrong : ChangeSpec := { name := "eventSpoilt", fn := fun _ => fun
  | [d1, d2, d3, d4] => { results := [.lit (.bool false)], args := [d1, d2, d3, d4] }
  | _ => none }
def EventSpoiltWrongFalsely : Prop := eventSpoiltRow.holds Try.pinned (OpenSpec.ofChange eventSpoiltWrong)

/-- 'novationlaw6.EventNumbers': WHATEVER THE INPUT: true; the input reads as it did. -/
def eventNumbersSpec : ChangeSpec := { name := "eventNumbers", fn := fun _ => fun
  | [d1, d2] => { results := [.lit (.bool true)], args := [d1, d2] }
  | _ => none }
def eventNumbersRow : OpenClaim := { program := "ytdhedlkfpdakpaa", sum := "46d3cff7214c19603eccb2b71091d759f5797e2c3927dcba77c05810fa577f52", func := "novation/novationlaw6.EventNumbers", spec := "eventNumbers", apart := false }
def EventNumbersSaid : Prop := eventNumbersRow.holds Try.pinned (OpenSpec.ofChange eventNumbersSpec)

/-- ITS FALSE NEIGHBOUR: 'it returns false'. Refute it at one input. -/
def eventNumbersWrong : ChangeSpec := { name := "eventNumbers", fn := fun _ => fun
  | [d1, d2] => { results := [.lit (.bool false)], args := [d1, d2] }
  | _ => none }
def EventNumbersWrongFalsely : Prop := eventNumbersRow.holds Try.pinned (OpenSpec.ofChange eventNumbersWrong)

/- THE SECOND FORM. 'bulk': how many values and letters a reading holds, each counted each time it is reached (what is shared counts as often as it is met; a slice's spare places count too). A statement '..UptoSaid' is the law's where the arguments, and the package variables that the reading takes, are together of bulk at most 1048576: NARROWER than '..Said'. Prove '..Said' where nothing that the law and all that it calls make is longer than what came in: it says more and counts as full. Else prove '..UptoSaid'. A law counts once. -/
mutual
def uptoBulk {H : Type} : DataW H → Nat
  | .lit (.string bytes) => bytes.length + 1
  | .lit _ => 1
  | .nil => 1
  | .ptr d => uptoBulk d + 1
  | .slice elems spare => uptoBulkAll elems + uptoBulkAll spare + 1
  | .agg parts => uptoBulkAll parts + 1
  | .iface _ d => uptoBulk d + 1
  | .map entries => uptoBulkEntries entries + 1
  | .held _ => 1
def uptoBulkAll {H : Type} : List (DataW H) → Nat
  | [] => 0
  | d :: r => uptoBulk d + uptoBulkAll r
def uptoBulkEntries {H : Type} : List (Lit × DataW H) → Nat
  | [] => 0
  | x :: r => uptoBulkEntry x + uptoBulkEntries r
def uptoBulkEntry {H : Type} : Lit × DataW H → Nat
  | (.string bytes, d) => bytes.length + uptoBulk d + 1
  | (_, d) => uptoBulk d + 1
 end
def uptoSmall : (H : Type) → List (DataW H) → Bool := fun _ ds => decide (uptoBulkAll ds ≤ 1048576)
def OpenSpec.upto (s : _root_.Go.ChangeSpec) : _root_.Go.OpenSpec := { _root_.Go.OpenSpec.ofChange s with cond := some uptoSmall }

/-- 'novationlaw6.EventPuts', WHERE WHAT IT READS IS OF BULK AT MOST 1048576: true; the input reads as it did. -/
def eventPutsUptoRow : OpenClaim := { program := "ytdhedlkfpdakpaa", sum := "46d3cff7214c19603eccb2b71091d759f5797e2c3927dcba77c05810fa577f52", func := "novation/novationlaw6.EventPuts", spec := "eventPuts", apart := false, narrowed := true }
def EventPutsUptoSaid : Prop := eventPutsUptoRow.holds Try.pinned (OpenSpec.upto eventPutsSpec)

/-- 'novationlaw6.EventDrawn', WHERE WHAT IT READS IS OF BULK AT MOST 1048576: true; the input reads as it did. -/
def eventDrawnUptoRow : OpenClaim := { program := "ytdhedlkfpdakpaa", sum := "46d3cff7214c19603eccb2b71091d759f5797e2c3927dcba77c05810fa577f52", func := "novation/novationlaw6.EventDrawn", spec := "eventDrawn", apart := false, narrowed := true }
def EventDrawnUptoSaid : Prop := eventDrawnUptoRow.holds Try.pinned (OpenSpec.upto eventDrawnSpec)

/-- 'novationlaw6.EventReads', WHERE WHAT IT READS IS OF BULK AT MOST 1048576: true; the input reads as it did. -/
def eventReadsUptoRow : OpenClaim := { program := "ytdhedlkfpdakpaa", sum := "46d3cff7214c19603eccb2b71091d759f5797e2c3927dcba77c05810fa577f52", func := "novation/novationlaw6.EventReads", spec := "eventReads", apart := false, narrowed := true }
def EventReadsUptoSaid : Prop := eventReadsUptoRow.holds Try.pinned (OpenSpec.upto eventReadsSpec)

/-- 'novationlaw6.EventBack', WHERE WHAT IT READS IS OF BULK AT MOST 1048576: true; the input reads as it did. -/
def eventBackUptoRow : OpenClaim := { program := "ytdhedlkfpdakpaa", sum := "46d3cff7214c19603eccb2b71091d759f5797e2c3927dcba77c05810fa577f52", func := "novation/novationlaw6.EventBack", spec := "eventBack", apart := false, narrowed := true }
def EventBackUptoSaid : Prop := eventBackUptoRow.holds Try.pinned (OpenSpec.upto eventBackSpec)

/-- 'novationlaw6.EventSpoilt', WHERE WHAT IT READS IS OF BULK AT MOST 1048576: true; the input reads as it did. -/
def eventSpoiltUptoRow : OpenClaim := { program := "ytdhedlkfpdakpaa", sum := "46d3cff7214c19603eccb2b71091d759f5797e2c3927dcba77c05810fa577f52", func := "novation/novationlaw6.EventSpoilt", spec := "eventSpoilt", apart := false, narrowed := true }
def EventSpoiltUptoSaid : Prop := eventSpoiltUptoRow.holds Try.pinned (OpenSpec.upto eventSpoiltSpec)

/-- 'novationlaw6.EventNumbers', WHERE WHAT IT READS IS OF BULK AT MOST 1048576: true; the input reads as it did. -/
def eventNumbersUptoRow : OpenClaim := { program := "ytdhedlkfpdakpaa", sum := "46d3cff7214c19603eccb2b71091d759f5797e2c3927dcba77c05810fa577f52", func := "novation/novationlaw6.EventNumbers", spec := "eventNumbers", apart := false, narrowed := true }
def EventNumbersUptoSaid : Prop := eventNumbersUptoRow.holds Try.pinned (OpenSpec.upto eventNumbersSpec)

end Rows
end Go.Proofs.Ytdhedlkfpdakpaa
