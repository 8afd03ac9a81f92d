/-
  No cell of these rows narrows 'for every input' (looked for: loops, veiled, ifaces, maps, wideKeys, modest, calm, conditions, laid).
  DERIVED. THE GIVEN ROWS OF THIS SEAT. 5 by the template 'for every input the law returns true; each argument reads behind the call as it read before'; 0 by the template 'total and deterministic' (their statements: YtpohdapcbcjidaaTotals.lean).
  GIVEN WITH THE SEED: the statements are not yours to turn. If you find one false, say at which input.
  Laid BY PROGRAM, IN A SANDBOX (cutbox-rows.mjs): the forced cells as the released guide's own fill.sh prints them over the translation df6ab73527bff2ed… (all of the seat's roots in one cut). By AI agents, Wed Nov 11 2026. No macro, syntax, notation, axiom, sorry.
-/
import Derived.Test.YtpohdapcbcjidaaChecked
import GoSem.Claim
import GoSem.ClaimJoined
import GoSem.ClaimMapViews
import Derived.JoinedTies
import Derived.KernelRfl
namespace Go.Proofs.Ytpohdapcbcjidaa
/- THE CELL 'sum', in the pinned program and in every row, IS THE sha256 OF THE DUMP (.gsa) THAT YtpohdapcbcjidaaProg.lean LOADS. Nothing in Lean hashes anything: it is a label: what it is worth is what the hold of that sum in a sandbox is worth. -/
noncomputable def Try.pinned : Pinned := { name := "ytpohdapcbcjidaa", sum := "df6ab73527bff2ed5d3d85c2154f3a031638e079dc0869176af8441d758adb95", checked := Try.checked }
namespace Rows
def none {H : Type} : Left H := { results := [], args := [] }

/-- 'novationlaw5.TapeFronts': WHATEVER THE INPUT: true; the input reads as it did. -/
def tapeFrontsSpec : ChangeSpec := { name := "tapeFronts", fn := fun _ => fun
  | [d1, d2, d3] => { results := [.lit (.bool true)], args := [d1, d2, d3] }
  | _ => none }
def tapeFrontsRow : OpenClaim := { program := "ytpohdapcbcjidaa", sum := "df6ab73527bff2ed5d3d85c2154f3a031638e079dc0869176af8441d758adb95", func := "novation/novationlaw5.TapeFronts", spec := "tapeFronts", apart := false }
def TapeFrontsSaid : Prop := tapeFrontsRow.holds Try.pinned (OpenSpec.ofChange tapeFrontsSpec)

/-- ITS FALSE NEIGHBOUR: 'it returns false'. Refute it at one input. -/
def tapeFrontsWrong : ChangeSpec := { name := "tapeFronts", fn := fun _ => fun
  | [d1, d2, d3] => { results := [.lit (.bool false)], args := [d1, d2, d3] }
  | _ => none }
def TapeFrontsWrongFalsely : Prop := tapeFrontsRow.holds Try.pinned (OpenSpec.ofChange tapeFrontsWrong)

/-- 'novationlaw5.TapeKeeps': WHATEVER THE INPUT: true; the input reads as it did. -/
def tapeKeepsSpec : ChangeSpec := { name := "tapeKeeps", fn := fun _ => fun
  | [d1, d2] => { results := [.lit (.bool true)], args := [d1, d2] }
  | _ => none }
def tapeKeepsRow : OpenClaim := { program := "ytpohdapcbcjidaa", sum := "df6ab73527bff2ed5d3d85c2154f3a031638e079dc0869176af8441d758adb95", func := "novation/novationlaw5.TapeKeeps", spec := "tapeKeeps", apart := false }
def TapeKeepsSaid : Prop := tapeKeepsRow.holds Try.pinned (OpenSpec.ofChange tapeKeepsSpec)

/-- ITS FALSE NEIGHBOUR: 'it returns false'. Refute it at one input. -/
def tapeKeepsWrong : ChangeSpec := { name := "tapeKeeps", fn := fun _ => fun
  | [d1, d2] => { results := [.lit (.bool false)], args := [d1, d2] }
  | _ => none }
def TapeKeepsWrongFalsely : Prop := tapeKeepsRow.holds Try.pinned (OpenSpec.ofChange tapeKeepsWrong)

/-- 'novationlaw5.TapePlays': WHATEVER THE INPUT: true; the input reads as it did. -/
def tapePlaysSpec : ChangeSpec := { name := "tapePlays", fn := fun _ => fun
  | [d1, d2] => { results := [.lit (.bool true)], args := [d1, d2] }
  | _ => none }
def tapePlaysRow : OpenClaim := { program := "ytpohdapcbcjidaa", sum := "df6ab73527bff2ed5d3d85c2154f3a031638e079dc0869176af8441d758adb95", func := "novation/novationlaw5.TapePlays", spec := "tapePlays", apart := false }
def TapePlaysSaid : Prop := tapePlaysRow.holds Try.pinned (OpenSpec.ofChange tapePlaysSpec)

/-- ITS FALSE NEIGHBOUR: 'it returns false'. Refute it at one input. -/
def tapePlaysWrong : ChangeSpec := { name := "tapePlays", fn := fun _ => fun
  | [d1, d2] => { results := [.lit (.bool false)], args := [d1, d2] }
  | _ => none }
def TapePlaysWrongFalsely : Prop := tapePlaysRow.holds Try.pinned (OpenSpec.ofChange tapePlaysWrong)

/-- 'novationlaw5.TapeCopies': WHATEVER THE INPUT: true; the input reads as it did. -/
def tapeCopiesSpec : ChangeSpec := { name := "tapeCopies", fn := fun _ => fun
  | [d1, d2, d3] => { results := [.lit (.bool true)], args := [d1, d2, d3] }
  | _ => none }
def tapeCopiesRow : OpenClaim := { program := "ytpohdapcbcjidaa", sum := "df6ab73527bff2ed5d3d85c2154f3a031638e079dc0869176af8441d758adb95", func := "novation/novationlaw5.TapeCopies", spec := "tapeCopies", apart := false }
def TapeCopiesSaid : Prop := tapeCopiesRow.holds Try.pinned (OpenSpec.ofChange tapeCopiesSpec)

/-- ITS FALSE NEIGHBOUR: 'it returns false'. Refute it at one input. -/
def tapeCopiesWrong : ChangeSpec := { name := "tapeCopies", fn := fun _ => fun
  | [d1, d2, d3] => { results := [.lit (.bool false)], args := [d1, d2, d3] }
  | _ => none }
def TapeCopiesWrongFalsely : Prop := tapeCopiesRow.holds Try.pinned (OpenSpec.ofChange tapeCopiesWrong)

/-- 'novationlaw5.TapeNone': WHATEVER THE INPUT: true; the input reads as it did. -/
def tapeNoneSpec : ChangeSpec := { name := "tapeNone", fn := fun _ => fun
  | [d1, d2] => { results := [.lit (.bool true)], args := [d1, d2] }
  | _ => none }
def tapeNoneRow : OpenClaim := { program := "ytpohdapcbcjidaa", sum := "df6ab73527bff2ed5d3d85c2154f3a031638e079dc0869176af8441d758adb95", func := "novation/novationlaw5.TapeNone", spec := "tapeNone", apart := false }
def TapeNoneSaid : Prop := tapeNoneRow.holds Try.pinned (OpenSpec.ofChange tapeNoneSpec)

/-- ITS FALSE NEIGHBOUR: 'it returns false'. Refute it at one input. -/
def tapeNoneWrong : ChangeSpec := { name := "tapeNone", fn := fun _ => fun
  | [d1, d2] => { results := [.lit (.bool false)], args := [d1, d2] }
  | _ => none }
def TapeNoneWrongFalsely : Prop := tapeNoneRow.holds Try.pinned (OpenSpec.ofChange tapeNoneWrong)

/- THE SECOND FORM. 'bulk': how many values and letters a reading holds, each counted each time it is reached (what is shared counts as often as it is met; a slice's spare places count too). A statement '..UptoSaid' is the law's where the arguments, and the package variables that the reading takes, are together of bulk at most 1048576: NARROWER than '..Said'. Prove '..Said' where nothing that the law and all that it calls make is longer than what came in: it says more and counts as full. Else prove '..UptoSaid'. A law counts once. -/
mutual
def uptoBulk {H : Type} : DataW H → Nat
  | .lit (.string bytes) => bytes.length + 1
  | .lit _ => 1
  | .nil => 1
  | .ptr d => uptoBulk d + 1
  | .slice elems spare => uptoBulkAll elems + uptoBulkAll spare + 1
  | .agg parts => uptoBulkAll parts + 1
  | .iface _ d => uptoBulk d + 1
  | .map entries => uptoBulkEntries entries + 1
  | .held _ => 1
def uptoBulkAll {H : Type} : List (DataW H) → Nat
  | [] => 0
  | d :: r => uptoBulk d + uptoBulkAll r
def uptoBulkEntries {H : Type} : List (Lit × DataW H) → Nat
  | [] => 0
  | x :: r => uptoBulkEntry x + uptoBulkEntries r
def uptoBulkEntry {H : Type} : Lit × DataW H → Nat
  | (.string bytes, d) => bytes.length + uptoBulk d + 1
  | (_, d) => uptoBulk d + 1
 end
def uptoSmall : (H : Type) → List (DataW H) → Bool := fun _ ds => decide (uptoBulkAll ds ≤ 1048576)
def OpenSpec.upto (s : _root_.Go.ChangeSpec) : _root_.Go.OpenSpec := { _root_.Go.OpenSpec.ofChange s with cond := some uptoSmall }

/-- 'novationlaw5.TapeFronts', WHERE WHAT IT READS IS OF BULK AT MOST 1048576: true; the input reads as it did. -/
def tapeFrontsUptoRow : OpenClaim := { program := "ytpohdapcbcjidaa", sum := "df6ab73527bff2ed5d3d85c2154f3a031638e079dc0869176af8441d758adb95", func := "novation/novationlaw5.TapeFronts", spec := "tapeFronts", apart := false, narrowed := true }
def TapeFrontsUptoSaid : Prop := tapeFrontsUptoRow.holds Try.pinned (OpenSpec.upto tapeFrontsSpec)

/-- 'novationlaw5.TapeKeeps', WHERE WHAT IT READS IS OF BULK AT MOST 1048576: true; the input reads as it did. -/
def tapeKeepsUptoRow : OpenClaim := { program := "ytpohdapcbcjidaa", sum := "df6ab73527bff2ed5d3d85c2154f3a031638e079dc0869176af8441d758adb95", func := "novation/novationlaw5.TapeKeeps", spec := "tapeKeeps", apart := false, narrowed := true }
def TapeKeepsUptoSaid : Prop := tapeKeepsUptoRow.holds Try.pinned (OpenSpec.upto tapeKeepsSpec)

/-- 'novationlaw5.TapePlays', WHERE WHAT IT READS IS OF BULK AT MOST 1048576: true; the input reads as it did. -/
def tapePlaysUptoRow : OpenClaim := { program := "ytpohdapcbcjidaa", sum := "df6ab73527bff2ed5d3d85c2154f3a031638e079dc0869176af8441d758adb95", func := "novation/novationlaw5.TapePlays", spec := "tapePlays", apart := false, narrowed := true }
def TapePlaysUptoSaid : Prop := tapePlaysUptoRow.holds Try.pinned (OpenSpec.upto tapePlaysSpec)

/-- 'novationlaw5.TapeCopies', WHERE WHAT IT READS IS OF BULK AT MOST 1048576: true; the input reads as it did. -/
def tapeCopiesUptoRow : OpenClaim := { program := "ytpohdapcbcjidaa", sum := "df6ab73527bff2ed5d3d85c2154f3a031638e079dc0869176af8441d758adb95", func := "novation/novationlaw5.TapeCopies", spec := "tapeCopies", apart := false, narrowed := true }
def TapeCopiesUptoSaid : Prop := tapeCopiesUptoRow.holds Try.pinned (OpenSpec.upto tapeCopiesSpec)

/-- 'novationlaw5.TapeNone', WHERE WHAT IT READS IS OF BULK AT MOST 1048576: true; the input reads as it did. -/
def tapeNoneUptoRow : OpenClaim := { program := "ytpohdapcbcjidaa", sum := "df6ab73527bff2ed5d3d85c2154f3a031638e079dc0869176af8441d758adb95", func := "novation/novationlaw5.TapeNone", spec := "tapeNone", apart := false, narrowed := true }
def TapeNoneUptoSaid : Prop := tapeNoneUptoRow.holds Try.pinned (OpenSpec.upto tapeNoneSpec)

end Rows
end Go.Proofs.Ytpohdapcbcjidaa
