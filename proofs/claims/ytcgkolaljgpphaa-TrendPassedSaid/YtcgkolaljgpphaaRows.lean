/-
  No cell of these rows narrows 'for every input' (looked for: loops, veiled, ifaces, maps, wideKeys, modest, calm, conditions, laid).
  DERIVED. THE GIVEN ROWS OF THIS SEAT. 5 by the template 'for every input the law returns true; each argument reads behind the call as it read before'; 0 by the template 'total and deterministic' (their statements: YtcgkolaljgpphaaTotals.lean).
  GIVEN WITH THE SEED: the statements are not yours to turn. If you find one false, say at which input.
  Laid BY PROGRAM, IN A SANDBOX (cutbox-rows.mjs): the forced cells as the released guide's own fill.sh prints them over the translation 2005f7acca33d7ac… (all of the seat's roots in one cut). By AI agents, Wed Nov 11 2026. No macro, syntax, notation, axiom, sorry.
-/
import Derived.Test.YtcgkolaljgpphaaChecked
import GoSem.Claim
import GoSem.ClaimJoined
import GoSem.ClaimMapViews
import Derived.JoinedTies
import Derived.KernelRfl
namespace Go.Proofs.Ytcgkolaljgpphaa
/- THE CELL 'sum', in the pinned program and in every row, IS THE sha256 OF THE DUMP (.gsa) THAT YtcgkolaljgpphaaProg.lean LOADS. Nothing in Lean hashes anything: it is a label: what it is worth is what the hold of that sum in a sandbox is worth. -/
noncomputable def Try.pinned : Pinned := { name := "ytcgkolaljgpphaa", sum := "2005f7acca33d7ac2805486c8590b3bc615033a7263d70b3c5b107f26ab3c721", checked := Try.checked }
namespace Rows
def none {H : Type} : Left H := { results := [], args := [] }

/-- 'quadrillelaw32.TrendAll': WHATEVER THE INPUT: true; the input reads as it did. -/
def trendAllSpec : ChangeSpec := { name := "trendAll", fn := fun _ => fun
  | [d] => { results := [.lit (.bool true)], args := [d] }
  | _ => none }
def trendAllRow : OpenClaim := { program := "ytcgkolaljgpphaa", sum := "2005f7acca33d7ac2805486c8590b3bc615033a7263d70b3c5b107f26ab3c721", func := "quadrille/quadrillelaw32.TrendAll", spec := "trendAll", apart := false }
def TrendAllSaid : Prop := trendAllRow.holds Try.pinned (OpenSpec.ofChange trendAllSpec)

/-- ITS FALSE NEIGHBOUR: 'it returns false'. Refute it at one input. -/
def trendAllWrong : ChangeSpec := { name := "trendAll", fn := fun _ => fun
  | [d] => { results := [.lit (.bool false)], args := [d] }
  | _ => none }
def TrendAllWrongFalsely : Prop := trendAllRow.holds Try.pinned (OpenSpec.ofChange trendAllWrong)

/-- 'quadrillelaw32.TrendLines': WHATEVER THE INPUT: true; the input reads as it did. -/
def trendLinesSpec : ChangeSpec := { name := "trendLines", fn := fun _ => fun
  | [d1, d2] => { results := [.lit (.bool true)], args := [d1, d2] }
  | _ => none }
def trendLinesRow : OpenClaim := { program := "ytcgkolaljgpphaa", sum := "2005f7acca33d7ac2805486c8590b3bc615033a7263d70b3c5b107f26ab3c721", func := "quadrille/quadrillelaw32.TrendLines", spec := "trendLines", apart := false }
def TrendLinesSaid : Prop := trendLinesRow.holds Try.pinned (OpenSpec.ofChange trendLinesSpec)

/-- ITS FALSE NEIGHBOUR: 'it returns false'. Refute it at one input. -/
def trendLinesWrong : ChangeSpec := { name := "trendLines", fn := fun _ => fun
  | [d1, d2] => { results := [.lit (.bool false)], args := [d1, d2] }
  | _ => none }
def TrendLinesWrongFalsely : Prop := trendLinesRow.holds Try.pinned (OpenSpec.ofChange trendLinesWrong)

/-- 'quadrillelaw32.TrendMeans': WHATEVER THE INPUT: true; the input reads as it did. -/
def trendMeansSpec : ChangeSpec := { name := "trendMeans", fn := fun _ => fun
  | [d] => { results := [.lit (.bool true)], args := [d] }
  | _ => none }
def trendMeansRow : OpenClaim := { program := "ytcgkolaljgpphaa", sum := "2005f7acca33d7ac2805486c8590b3bc615033a7263d70b3c5b107f26ab3c721", func := "quadrille/quadrillelaw32.TrendMeans", spec := "trendMeans", apart := false }
def TrendMeansSaid : Prop := trendMeansRow.holds Try.pinned (OpenSpec.ofChange trendMeansSpec)

/-- ITS FALSE NEIGHBOUR: 'it returns false'. Refute it at one input. -/
def trendMeansWrong : ChangeSpec := { name := "trendMeans", fn := fun _ => fun
  | [d] => { results := [.lit (.bool false)], args := [d] }
  | _ => none }
def TrendMeansWrongFalsely : Prop := trendMeansRow.holds Try.pinned (OpenSpec.ofChange trendMeansWrong)

/-- 'quadrillelaw32.TrendTwo': WHATEVER THE INPUT: true; the input reads as it did. -/
def trendTwoSpec : ChangeSpec := { name := "trendTwo", fn := fun _ => fun
  | [d1, d2, d3, d4] => { results := [.lit (.bool true)], args := [d1, d2, d3, d4] }
  | _ => none }
def trendTwoRow : OpenClaim := { program := "ytcgkolaljgpphaa", sum := "2005f7acca33d7ac2805486c8590b3bc615033a7263d70b3c5b107f26ab3c721", func := "quadrille/quadrillelaw32.TrendTwo", spec := "trendTwo", apart := false }
def TrendTwoSaid : Prop := trendTwoRow.holds Try.pinned (OpenSpec.ofChange trendTwoSpec)

/-- ITS FALSE NEIGHBOUR: 'it returns false'. Refute it at one input. -/
def trendTwoWrong : ChangeSpec := { name := "trendTwo", fn := fun _ => fun
  | [d1, d2, d3, d4] => { results := [.lit (.bool false)], args := [d1, d2, d3, d4] }
  | _ => none }
def TrendTwoWrongFalsely : Prop := trendTwoRow.holds Try.pinned (OpenSpec.ofChange trendTwoWrong)

/-- 'quadrillelaw32.TrendPassed': WHATEVER THE INPUT: true; the input reads as it did. -/
def trendPassedSpec : ChangeSpec := { name := "trendPassed", fn := fun _ => fun
  | [d1, d2, d3] => { results := [.lit (.bool true)], args := [d1, d2, d3] }
  | _ => none }
def trendPassedRow : OpenClaim := { program := "ytcgkolaljgpphaa", sum := "2005f7acca33d7ac2805486c8590b3bc615033a7263d70b3c5b107f26ab3c721", func := "quadrille/quadrillelaw32.TrendPassed", spec := "trendPassed", apart := false }
def TrendPassedSaid : Prop := trendPassedRow.holds Try.pinned (OpenSpec.ofChange trendPassedSpec)

/-- ITS FALSE NEIGHBOUR: 'it returns false'. Refute it at one input. -/
def trendPassedWrong : ChangeSpec := { name := "trendPassed", fn := fun _ => fun
  | [d1, d2, d3] => { results := [.lit (.bool false)], args := [d1, d2, d3] }
  | _ => none }
def TrendPassedWrongFalsely : Prop := trendPassedRow.holds Try.pinned (OpenSpec.ofChange trendPassedWrong)

/- THE SECOND FORM. 'bulk': how many values and letters a reading holds, each counted each time it is reached (what is shared counts as often as it is met; a slice's spare places count too). A statement '..UptoSaid' is the law's where the arguments, and the package variables that the reading takes, are together of bulk at most 1048576: NARROWER than '..Said'. Prove '..Said' where nothing that the law and all that it calls make is longer than what came in: it says more and counts as full. Else prove '..UptoSaid'. A law counts once. -/
mutual
def uptoBulk {H : Type} : DataW H → Nat
  | .lit (.string bytes) => bytes.length + 1
  | .lit _ => 1
  | .nil => 1
  | .ptr d => uptoBulk d + 1
  | .slice elems spare => uptoBulkAll elems + uptoBulkAll spare + 1
  | .agg parts => uptoBulkAll parts + 1
  | .iface _ d => uptoBulk d + 1
  | .map entries => uptoBulkEntries entries + 1
  | .held _ => 1
def uptoBulkAll {H : Type} : List (DataW H) → Nat
  | [] => 0
  | d :: r => uptoBulk d + uptoBulkAll r
def uptoBulkEntries {H : Type} : List (Lit × DataW H) → Nat
  | [] => 0
  | x :: r => uptoBulkEntry x + uptoBulkEntries r
def uptoBulkEntry {H : Type} : Lit × DataW H → Nat
  | (.string bytes, d) => bytes.length + uptoBulk d + 1
  | (_, d) => uptoBulk d + 1
 end
def uptoSmall : (H : Type) → List (DataW H) → Bool := fun _ ds => decide (uptoBulkAll ds ≤ 1048576)
def OpenSpec.upto (s : _root_.Go.ChangeSpec) : _root_.Go.OpenSpec := { _root_.Go.OpenSpec.ofChange s with cond := some uptoSmall }

/-- 'quadrillelaw32.TrendAll', WHERE WHAT IT READS IS OF BULK AT MOST 1048576: true; the input reads as it did. -/
def trendAllUptoRow : OpenClaim := { program := "ytcgkolaljgpphaa", sum := "2005f7acca33d7ac2805486c8590b3bc615033a7263d70b3c5b107f26ab3c721", func := "quadrille/quadrillelaw32.TrendAll", spec := "trendAll", apart := false, narrowed := true }
def TrendAllUptoSaid : Prop := trendAllUptoRow.holds Try.pinned (OpenSpec.upto trendAllSpec)

/-- 'quadrillelaw32.TrendLines', WHERE WHAT IT READS IS OF BULK AT MOST 1048576: true; the input reads as it did. -/
def trendLinesUptoRow : OpenClaim := { program := "ytcgkolaljgpphaa", sum := "2005f7acca33d7ac2805486c8590b3bc615033a7263d70b3c5b107f26ab3c721", func := "quadrille/quadrillelaw32.TrendLines", spec := "trendLines", apart := false, narrowed := true }
def TrendLinesUptoSaid : Prop := trendLinesUptoRow.holds Try.pinned (OpenSpec.upto trendLinesSpec)

/-- 'quadrillelaw32.TrendMeans', WHERE WHAT IT READS IS OF BULK AT MOST 1048576: true; the input reads as it did. -/
def trendMeansUptoRow : OpenClaim := { program := "ytcgkolaljgpphaa", sum := "2005f7acca33d7ac2805486c8590b3bc615033a7263d70b3c5b107f26ab3c721", func := "quadrille/quadrillelaw32.TrendMeans", spec := "trendMeans", apart := false, narrowed := true }
def TrendMeansUptoSaid : Prop := trendMeansUptoRow.holds Try.pinned (OpenSpec.upto trendMeansSpec)

/-- 'quadrillelaw32.TrendTwo', WHERE WHAT IT READS IS OF BULK AT MOST 1048576: true; the input reads as it did. -/
def trendTwoUptoRow : OpenClaim := { program := "ytcgkolaljgpphaa", sum := "2005f7acca33d7ac2805486c8590b3bc615033a7263d70b3c5b107f26ab3c721", func := "quadrille/quadrillelaw32.TrendTwo", spec := "trendTwo", apart := false, narrowed := true }
def TrendTwoUptoSaid : Prop := trendTwoUptoRow.holds Try.pinned (OpenSpec.upto trendTwoSpec)

/-- 'quadrillelaw32.TrendPassed', WHERE WHAT IT READS IS OF BULK AT MOST 1048576: true; the input reads as it did. -/
def trendPassedUptoRow : OpenClaim := { program := "ytcgkolaljgpphaa", sum := "2005f7acca33d7ac2805486c8590b3bc615033a7263d70b3c5b107f26ab3c721", func := "quadrille/quadrillelaw32.TrendPassed", spec := "trendPassed", apart := false, narrowed := true }
def TrendPassedUptoSaid : Prop := trendPassedUptoRow.holds Try.pinned (OpenSpec.upto trendPassedSpec)

end Rows
end Go.Proofs.Ytcgkolaljgpphaa
