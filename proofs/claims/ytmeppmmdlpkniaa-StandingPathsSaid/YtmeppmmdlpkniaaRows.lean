/-
  No cell of these rows narrows 'for every input' (looked for: loops, veiled, ifaces, maps, wideKeys, modest, calm, conditions, laid).
  DERIVED. THE GIVEN ROWS OF THIS SEAT. 4 by the template 'for every input the law returns true; each argument reads behind the call as it read before'; 0 by the template 'total and deterministic' (their statements: YtmeppmmdlpkniaaTotals.lean).
  GIVEN WITH THE SEED: the statements are not yours to turn. If you find one false, say at which input.
  Laid BY PROGRAM, IN A SANDBOX (cutbox-rows.mjs): the forced cells as the released guide's own fill.sh prints them over the translation 54f4b640efb4039f… (all of the seat's roots in one cut). By AI agents, Wed Nov 11 2026. No macro, syntax, notation, axiom, sorry.
-/
import Derived.Test.YtmeppmmdlpkniaaChecked
import GoSem.Claim
import GoSem.ClaimJoined
import GoSem.ClaimMapViews
import Derived.JoinedTies
import Derived.KernelRfl
namespace Go.Proofs.Ytmeppmmdlpkniaa
/- THE CELL 'sum', in the pinned program and in every row, IS THE sha256 OF THE DUMP (.gsa) THAT YtmeppmmdlpkniaaProg.lean LOADS. Nothing in Lean hashes anything: it is a label: what it is worth is what the hold of that sum in a sandbox is worth. -/
noncomputable def Try.pinned : Pinned := { name := "ytmeppmmdlpkniaa", sum := "54f4b640efb4039fe3dd6f3a3e8f1deefcea1f20373cce884272a3ee4f4b3370", checked := Try.checked }
namespace Rows
def none {H : Type} : Left H := { results := [], args := [] }

/-- 'novationlaw10.StandingAll': WHATEVER THE INPUT: true; the input reads as it did. -/
def standingAllSpec : ChangeSpec := { name := "standingAll", fn := fun _ => fun
  | [d1, d2] => { results := [.lit (.bool true)], args := [d1, d2] }
  | _ => none }
def standingAllRow : OpenClaim := { program := "ytmeppmmdlpkniaa", sum := "54f4b640efb4039fe3dd6f3a3e8f1deefcea1f20373cce884272a3ee4f4b3370", func := "novation/novationlaw10.StandingAll", spec := "standingAll", apart := false }
def StandingAllSaid : Prop := standingAllRow.holds Try.pinned (OpenSpec.ofChange standingAllSpec)

/-- ITS FALSE NEIGHBOUR: 'it returns false'. Refute it at one input. -/
def standingAllWrong : ChangeSpec := { name := "standingAll", fn := fun _ => fun
  | [d1, d2] => { results := [.lit (.bool false)], args := [d1, d2] }
  | _ => none }
def StandingAllWrongFalsely : Prop := standingAllRow.holds Try.pinned (OpenSpec.ofChange standingAllWrong)

/-- 'novationlaw10.StandingPaths': WHATEVER THE INPUT: true; the input reads as it did. -/
def standingPathsSpec : ChangeSpec := { name := "standingPaths", fn := fun _ => fun
  | [d1, d2] => { results := [.lit (.bool true)], args := [d1, d2] }
  | _ => none }
def standingPathsRow : OpenClaim := { program := "ytmeppmmdlpkniaa", sum := "54f4b640efb4039fe3dd6f3a3e8f1deefcea1f20373cce884272a3ee4f4b3370", func := "novation/novationlaw10.StandingPaths", spec := "standingPaths", apart := false }
def StandingPathsSaid : Prop := standingPathsRow.holds Try.pinned (OpenSpec.ofChange standingPathsSpec)

/-- ITS FALSE NEIGHBOUR: 'it returns false'. Refute it at one input. -/
def standingPathsWrong : ChangeSpec := { name := "standingPaths", fn := fun _ => fun
  | [d1, d2] => { results := [.lit (.bool false)], args := [d1, d2] }
  | _ => none }
def StandingPathsWrongFalsely : Prop := standingPathsRow.holds Try.pinned (OpenSpec.ofChange standingPathsWrong)

/-- 'novationlaw10.StandingSteps': WHATEVER THE INPUT: true; the input reads as it did. -/
def standingStepsSpec : ChangeSpec := { name := "standingSteps", fn := fun _ => fun
  | [d1, d2] => { results := [.lit (.bool true)], args := [d1, d2] }
  | _ => none }
def standingStepsRow : OpenClaim := { program := "ytmeppmmdlpkniaa", sum := "54f4b640efb4039fe3dd6f3a3e8f1deefcea1f20373cce884272a3ee4f4b3370", func := "novation/novationlaw10.StandingSteps", spec := "standingSteps", apart := false }
def StandingStepsSaid : Prop := standingStepsRow.holds Try.pinned (OpenSpec.ofChange standingStepsSpec)

/-- ITS FALSE NEIGHBOUR: 'it returns false'. Refute it at one input. -/
def standingStepsWrong : ChangeSpec := { name := "standingSteps", fn := fun _ => fun
  | [d1, d2] => { results := [.lit (.bool false)], args := [d1, d2] }
  | _ => none }
def StandingStepsWrongFalsely : Prop := standingStepsRow.holds Try.pinned (OpenSpec.ofChange standingStepsWrong)

/-- 'novationlaw10.StandingEnds': WHATEVER THE INPUT: true; the input reads as it did. -/
def standingEndsSpec : ChangeSpec := { name := "standingEnds", fn := fun _ => fun
  | [d1, d2] => { results := [.lit (.bool true)], args := [d1, d2] }
  | _ => none }
def standingEndsRow : OpenClaim := { program := "ytmeppmmdlpkniaa", sum := "54f4b640efb4039fe3dd6f3a3e8f1deefcea1f20373cce884272a3ee4f4b3370", func := "novation/novationlaw10.StandingEnds", spec := "standingEnds", apart := false }
def StandingEndsSaid : Prop := standingEndsRow.holds Try.pinned (OpenSpec.ofChange standingEndsSpec)

/-- ITS FALSE NEIGHBOUR: 'it returns false'. Refute it at one input. -/
def standingEndsWrong : ChangeSpec := { name := "standingEnds", fn := fun _ => fun
  | [d1, d2] => { results := [.lit (.bool false)], args := [d1, d2] }
  | _ => none }
def StandingEndsWrongFalsely : Prop := standingEndsRow.holds Try.pinned (OpenSpec.ofChange standingEndsWrong)

/- THE SECOND FORM. 'bulk': how many values and letters a reading holds, each counted each time it is reached (what is shared counts as often as it is met; a slice's spare places count too). A statement '..UptoSaid' is the law's where the arguments, and the package variables that the reading takes, are together of bulk at most 1048576: NARROWER than '..Said'. Prove '..Said' where nothing that the law and all that it calls make is longer than what came in: it says more and counts as full. Else prove '..UptoSaid'. A law counts once. -/
mutual
def uptoBulk {H : Type} : DataW H → Nat
  | .lit (.string bytes) => bytes.length + 1
  | .lit _ => 1
  | .nil => 1
  | .ptr d => uptoBulk d + 1
  | .slice elems spare => uptoBulkAll elems + uptoBulkAll spare + 1
  | .agg parts => uptoBulkAll parts + 1
  | .iface _ d => uptoBulk d + 1
  | .map entries => uptoBulkEntries entries + 1
  | .held _ => 1
def uptoBulkAll {H : Type} : List (DataW H) → Nat
  | [] => 0
  | d :: r => uptoBulk d + uptoBulkAll r
def uptoBulkEntries {H : Type} : List (Lit × DataW H) → Nat
  | [] => 0
  | x :: r => uptoBulkEntry x + uptoBulkEntries r
def uptoBulkEntry {H : Type} : Lit × DataW H → Nat
  | (.string bytes, d) => bytes.length + uptoBulk d + 1
  | (_, d) => uptoBulk d + 1
 end
def uptoSmall : (H : Type) → List (DataW H) → Bool := fun _ ds => decide (uptoBulkAll ds ≤ 1048576)
def OpenSpec.upto (s : _root_.Go.ChangeSpec) : _root_.Go.OpenSpec := { _root_.Go.OpenSpec.ofChange s with cond := some uptoSmall }

/-- 'novationlaw10.StandingAll', WHERE WHAT IT READS IS OF BULK AT MOST 1048576: true; the input reads as it did. -/
def standingAllUptoRow : OpenClaim := { program := "ytmeppmmdlpkniaa", sum := "54f4b640efb4039fe3dd6f3a3e8f1deefcea1f20373cce884272a3ee4f4b3370", func := "novation/novationlaw10.StandingAll", spec := "standingAll", apart := false, narrowed := true }
def StandingAllUptoSaid : Prop := standingAllUptoRow.holds Try.pinned (OpenSpec.upto standingAllSpec)

/-- 'novationlaw10.StandingPaths', WHERE WHAT IT READS IS OF BULK AT MOST 1048576: true; the input reads as it did. -/
def standingPathsUptoRow : OpenClaim := { program := "ytmeppmmdlpkniaa", sum := "54f4b640efb4039fe3dd6f3a3e8f1deefcea1f20373cce884272a3ee4f4b3370", func := "novation/novationlaw10.StandingPaths", spec := "standingPaths", apart := false, narrowed := true }
def StandingPathsUptoSaid : Prop := standingPathsUptoRow.holds Try.pinned (OpenSpec.upto standingPathsSpec)

/-- 'novationlaw10.StandingSteps', WHERE WHAT IT READS IS OF BULK AT MOST 1048576: true; the input reads as it did. -/
def standingStepsUptoRow : OpenClaim := { program := "ytmeppmmdlpkniaa", sum := "54f4b640efb4039fe3dd6f3a3e8f1deefcea1f20373cce884272a3ee4f4b3370", func := "novation/novationlaw10.StandingSteps", spec := "standingSteps", apart := false, narrowed := true }
def StandingStepsUptoSaid : Prop := standingStepsUptoRow.holds Try.pinned (OpenSpec.upto standingStepsSpec)

/-- 'novationlaw10.StandingEnds', WHERE WHAT IT READS IS OF BULK AT MOST 1048576: true; the input reads as it did. -/
def standingEndsUptoRow : OpenClaim := { program := "ytmeppmmdlpkniaa", sum := "54f4b640efb4039fe3dd6f3a3e8f1deefcea1f20373cce884272a3ee4f4b3370", func := "novation/novationlaw10.StandingEnds", spec := "standingEnds", apart := false, narrowed := true }
def StandingEndsUptoSaid : Prop := standingEndsUptoRow.holds Try.pinned (OpenSpec.upto standingEndsSpec)

end Rows
end Go.Proofs.Ytmeppmmdlpkniaa
