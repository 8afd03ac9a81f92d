/-
  No cell of these rows narrows 'for every input' (looked for: loops, veiled, ifaces, maps, wideKeys, modest, calm, conditions, laid).
  DERIVED. THE GIVEN ROWS OF THIS SEAT. 5 by the template 'for every input the law returns true; each argument reads behind the call as it read before'; 0 by the template 'total and deterministic' (their statements: YtndgfpknegoleaaTotals.lean).
  GIVEN WITH THE SEED: the statements are not yours to turn. If you find one false, say at which input.
  Laid BY PROGRAM, IN A SANDBOX (cutbox-rows.mjs): the forced cells as the released guide's own fill.sh prints them over the translation b513fe3c3ceb5531… (all of the seat's roots in one cut). By AI agents, Wed Nov 11 2026. No macro, syntax, notation, axiom, sorry.
-/
import Derived.Test.YtndgfpknegoleaaChecked
import GoSem.Claim
import GoSem.ClaimJoined
import GoSem.ClaimMapViews
import Derived.JoinedTies
import Derived.KernelRfl
namespace Go.Proofs.Ytndgfpknegoleaa
/- THE CELL 'sum', in the pinned program and in every row, IS THE sha256 OF THE DUMP (.gsa) THAT YtndgfpknegoleaaProg.lean LOADS. Nothing in Lean hashes anything: it is a label: what it is worth is what the hold of that sum in a sandbox is worth. -/
noncomputable def Try.pinned : Pinned := { name := "ytndgfpknegoleaa", sum := "b513fe3c3ceb55310a8802245c4d0b75e02b05ca6553ab72ceac59530f78748c", checked := Try.checked }
namespace Rows
def none {H : Type} : Left H := { results := [], args := [] }

/-- 'novationlaw7.PlanAll': WHATEVER THE INPUT: true; the input reads as it did. -/
def planAllSpec : ChangeSpec := { name := "planAll", fn := fun _ => fun
  | [d1, d2, d3] => { results := [.lit (.bool true)], args := [d1, d2, d3] }
  | _ => none }
def planAllRow : OpenClaim := { program := "ytndgfpknegoleaa", sum := "b513fe3c3ceb55310a8802245c4d0b75e02b05ca6553ab72ceac59530f78748c", func := "novation/novationlaw7.PlanAll", spec := "planAll", unfollowed := true, recurses := true, apart := false }
def PlanAllSaid : Prop := planAllRow.holds Try.pinned (OpenSpec.ofChange planAllSpec)

/-- ITS FALSE NEIGHBOUR: 'it returns false'. Refute it at one input. -/
def planAllWrong : ChangeSpec := { name := "planAll", fn := fun _ => fun
  | [d1, d2, d3] => { results := [.lit (.bool false)], args := [d1, d2, d3] }
  | _ => none }
def PlanAllWrongFalsely : Prop := planAllRow.holds Try.pinned (OpenSpec.ofChange planAllWrong)

/-- 'novationlaw7.PlanDrawn': WHATEVER THE INPUT: true; the input reads as it did. -/
def planDrawnSpec : ChangeSpec := { name := "planDrawn", fn := fun _ => fun
  | [d1, d2, d3] => { results := [.lit (.bool true)], args := [d1, d2, d3] }
  | _ => none }
def planDrawnRow : OpenClaim := { program := "ytndgfpknegoleaa", sum := "b513fe3c3ceb55310a8802245c4d0b75e02b05ca6553ab72ceac59530f78748c", func := "novation/novationlaw7.PlanDrawn", spec := "planDrawn", unfollowed := true, recurses := true, apart := false }
def PlanDrawnSaid : Prop := planDrawnRow.holds Try.pinned (OpenSpec.ofChange planDrawnSpec)

/-- ITS FALSE NEIGHBOUR: 'it returns false'. Refute it at one input. -/
def planDrawnWrong : ChangeSpec := { name := "planDrawn", fn := fun _ => fun
  | [d1, d2, d3] => { results := [.lit (.bool false)], args := [d1, d2, d3] }
  | _ => none }
def PlanDrawnWrongFalsely : Prop := planDrawnRow.holds Try.pinned (OpenSpec.ofChange planDrawnWrong)

/-- 'novationlaw7.PlanReads': WHATEVER THE INPUT: true; the input reads as it did. -/
def planReadsSpec : ChangeSpec := { name := "planReads", fn := fun _ => fun
  | [d] => { results := [.lit (.bool true)], args := [d] }
  | _ => none }
def planReadsRow : OpenClaim := { program := "ytndgfpknegoleaa", sum := "b513fe3c3ceb55310a8802245c4d0b75e02b05ca6553ab72ceac59530f78748c", func := "novation/novationlaw7.PlanReads", spec := "planReads", unfollowed := true, recurses := true, apart := false }
def PlanReadsSaid : Prop := planReadsRow.holds Try.pinned (OpenSpec.ofChange planReadsSpec)

/-- ITS FALSE NEIGHBOUR: 'it returns false'. Refute it at one input. -/
def planReadsWrong : ChangeSpec := { name := "planReads", fn := fun _ => fun
  | [d] => { results := [.lit (.bool false)], args := [d] }
  | _ => none }
def PlanReadsWrongFalsely : Prop := planReadsRow.holds Try.pinned (OpenSpec.ofChange planReadsWrong)

/-- 'novationlaw7.PlanBack': WHATEVER THE INPUT: true; the input reads as it did. -/
def planBackSpec : ChangeSpec := { name := "planBack", fn := fun _ => fun
  | [d1, d2, d3, d4] => { results := [.lit (.bool true)], args := [d1, d2, d3, d4] }
  | _ => none }
def planBackRow : OpenClaim := { program := "ytndgfpknegoleaa", sum := "b513fe3c3ceb55310a8802245c4d0b75e02b05ca6553ab72ceac59530f78748c", func := "novation/novationlaw7.PlanBack", spec := "planBack", unfollowed := true, recurses := true, apart := false }
def PlanBackSaid : Prop := planBackRow.holds Try.pinned (OpenSpec.ofChange planBackSpec)

/-- ITS FALSE NEIGHBOUR: 'it returns false'. Refute it at one input. -/
def planBackWrong : ChangeSpec := { name := "planBack", fn := fun _ => fun
  | [d1, d2, d3, d4] => { results := [.lit (.bool false)], args := [d1, d2, d3, d4] }
  | _ => none }
def PlanBackWrongFalsely : Prop := planBackRow.holds Try.pinned (OpenSpec.ofChange planBackWrong)

/-- 'novationlaw7.PlanBuckets': WHATEVER THE INPUT: true; the input reads as it did. -/
def planBucketsSpec : ChangeSpec := { name := "planBuckets", fn := fun _ => fun
  | [d] => { results := [.lit (.bool true)], args := [d] }
  | _ => none }
def planBucketsRow : OpenClaim := { program := "ytndgfpknegoleaa", sum := "b513fe3c3ceb55310a8802245c4d0b75e02b05ca6553ab72ceac59530f78748c", func := "novation/novationlaw7.PlanBuckets", spec := "planBuckets", unfollowed := true, recurses := true, apart := false }
def PlanBucketsSaid : Prop := planBucketsRow.holds Try.pinned (OpenSpec.ofChange planBucketsSpec)

/-- ITS FALSE NEIGHBOUR: 'it returns false'. Refute it at one input. -/
def planBucketsWrong : ChangeSpec := { name := "planBuckets", fn := fun _ => fun
  | [d] => { results := [.lit (.bool false)], args := [d] }
  | _ => none }
def PlanBucketsWrongFalsely : Prop := planBucketsRow.holds Try.pinned (OpenSpec.ofChange planBucketsWrong)

/- THE SECOND FORM. 'bulk': how many values and letters a reading holds, each counted each time it is reached (what is shared counts as often as it is met; a slice's spare places count too). A statement '..UptoSaid' is the law's where the arguments, and the package variables that the reading takes, are together of bulk at most 1048576: NARROWER than '..Said'. Prove '..Said' where nothing that the law and all that it calls make is longer than what came in: it says more and counts as full. Else prove '..UptoSaid'. A law counts once. -/
mutual
def uptoBulk {H : Type} : DataW H → Nat
  | .lit (.string bytes) => bytes.length + 1
  | .lit _ => 1
  | .nil => 1
  | .ptr d => uptoBulk d + 1
  | .slice elems spare => uptoBulkAll elems + uptoBulkAll spare + 1
  | .agg parts => uptoBulkAll parts + 1
  | .iface _ d => uptoBulk d + 1
  | .map entries => uptoBulkEntries entries + 1
  | .held _ => 1
def uptoBulkAll {H : Type} : List (DataW H) → Nat
  | [] => 0
  | d :: r => uptoBulk d + uptoBulkAll r
def uptoBulkEntries {H : Type} : List (Lit × DataW H) → Nat
  | [] => 0
  | x :: r => uptoBulkEntry x + uptoBulkEntries r
def uptoBulkEntry {H : Type} : Lit × DataW H → Nat
  | (.string bytes, d) => bytes.length + uptoBulk d + 1
  | (_, d) => uptoBulk d + 1
 end
def uptoSmall : (H : Type) → List (DataW H) → Bool := fun _ ds => decide (uptoBulkAll ds ≤ 1048576)
def OpenSpec.upto (s : _root_.Go.ChangeSpec) : _root_.Go.OpenSpec := { _root_.Go.OpenSpec.ofChange s with cond := some uptoSmall }

/-- 'novationlaw7.PlanAll', WHERE WHAT IT READS IS OF BULK AT MOST 1048576: true; the input reads as it did. -/
def planAllUptoRow : OpenClaim := { program := "ytndgfpknegoleaa", sum := "b513fe3c3ceb55310a8802245c4d0b75e02b05ca6553ab72ceac59530f78748c", func := "novation/novationlaw7.PlanAll", spec := "planAll", unfollowed := true, recurses := true, apart := false, narrowed := true }
def PlanAllUptoSaid : Prop := planAllUptoRow.holds Try.pinned (OpenSpec.upto planAllSpec)

/-- 'novationlaw7.PlanDrawn', WHERE WHAT IT READS IS OF BULK AT MOST 1048576: true; the input reads as it did. -/
def planDrawnUptoRow : OpenClaim := { program := "ytndgfpknegoleaa", sum := "b513fe3c3ceb55310a8802245c4d0b75e02b05ca6553ab72ceac59530f78748c", func := "novation/novationlaw7.PlanDrawn", spec := "planDrawn", unfollowed := true, recurses := true, apart := false, narrowed := true }
def PlanDrawnUptoSaid : Prop := planDrawnUptoRow.holds Try.pinned (OpenSpec.upto planDrawnSpec)

/-- 'novationlaw7.PlanReads', WHERE WHAT IT READS IS OF BULK AT MOST 1048576: true; the input reads as it did. -/
def planReadsUptoRow : OpenClaim := { program := "ytndgfpknegoleaa", sum := "b513fe3c3ceb55310a8802245c4d0b75e02b05ca6553ab72ceac59530f78748c", func := "novation/novationlaw7.PlanReads", spec := "planReads", unfollowed := true, recurses := true, apart := false, narrowed := true }
def PlanReadsUptoSaid : Prop := planReadsUptoRow.holds Try.pinned (OpenSpec.upto planReadsSpec)

/-- 'novationlaw7.PlanBack', WHERE WHAT IT READS IS OF BULK AT MOST 1048576: true; the input reads as it did. -/
def planBackUptoRow : OpenClaim := { program := "ytndgfpknegoleaa", sum := "b513fe3c3ceb55310a8802245c4d0b75e02b05ca6553ab72ceac59530f78748c", func := "novation/novationlaw7.PlanBack", spec := "planBack", unfollowed := true, recurses := true, apart := false, narrowed := true }
def PlanBackUptoSaid : Prop := planBackUptoRow.holds Try.pinned (OpenSpec.upto planBackSpec)

/-- 'novationlaw7.PlanBuckets', WHERE WHAT IT READS IS OF BULK AT MOST 1048576: true; the input reads as it did. -/
def planBucketsUptoRow : OpenClaim := { program := "ytndgfpknegoleaa", sum := "b513fe3c3ceb55310a8802245c4d0b75e02b05ca6553ab72ceac59530f78748c", func := "novation/novationlaw7.PlanBuckets", spec := "planBuckets", unfollowed := true, recurses := true, apart := false, narrowed := true }
def PlanBucketsUptoSaid : Prop := planBucketsUptoRow.holds Try.pinned (OpenSpec.upto planBucketsSpec)

end Rows
end Go.Proofs.Ytndgfpknegoleaa
