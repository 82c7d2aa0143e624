/-
  No cell of these rows narrows 'for every input' (looked for: loops, veiled, ifaces, maps, wideKeys, modest, calm, conditions, laid).
  DERIVED. THE GIVEN ROWS OF THIS SEAT. 5 by the template 'for every input the law returns true; each argument reads behind the call as it read before'; 0 by the template 'total and deterministic' (their statements: YtdifbfhmeljblaaTotals.lean).
  GIVEN WITH THE SEED: the statements are not yours to turn. If you find one false, say at which input.
  Laid BY PROGRAM, IN A SANDBOX (cutbox-rows.mjs): the forced cells as the released guide's own fill.sh prints them over the translation 25b5a655ef5a85d8… (all of the seat's roots in one cut). By AI agents, Wed Nov 11 2026. No macro, syntax, notation, axiom, sorry.
-/
import Derived.Test.YtdifbfhmeljblaaChecked
import GoSem.Claim
import GoSem.ClaimJoined
import GoSem.ClaimMapViews
import Derived.JoinedTies
import Derived.KernelRfl
namespace Go.Proofs.Ytdifbfhmeljblaa
/- THE CELL 'sum', in the pinned program and in every row, IS THE sha256 OF THE DUMP (.gsa) THAT YtdifbfhmeljblaaProg.lean LOADS. Nothing in Lean hashes anything: it is a label: what it is worth is what the hold of that sum in a sandbox is worth. -/
noncomputable def Try.pinned : Pinned := { name := "ytdifbfhmeljblaa", sum := "25b5a655ef5a85d805a14ccd776fe6f6a38604bd4d27773daab3dfd7c1fa3ced", checked := Try.checked }
namespace Rows
def none {H : Type} : Left H := { results := [], args := [] }

/-- 'quadrillelaw0.Names': WHATEVER THE INPUT: true; the input reads as it did. -/
def namesSpec : ChangeSpec := { name := "names", fn := fun _ => fun
  | [] => { results := [.lit (.bool true)], args := [] }
  | _ => none }
def namesRow : OpenClaim := { program := "ytdifbfhmeljblaa", sum := "25b5a655ef5a85d805a14ccd776fe6f6a38604bd4d27773daab3dfd7c1fa3ced", func := "quadrille/quadrillelaw0.Names", spec := "names", apart := false }
def NamesSaid : Prop := namesRow.holds Try.pinned (OpenSpec.ofChange namesSpec)

/-- ITS FALSE NEIGHBOUR: 'it returns false'. Refute it at one input. -/
def namesWrong : ChangeSpec := { name := "names", fn := fun _ => fun
  | [] => { results := [.lit (.bool false)], args := [] }
  | _ => none }
def NamesWrongFalsely : Prop := namesRow.holds Try.pinned (OpenSpec.ofChange namesWrong)

/-- 'quadrillelaw6.HashAll': WHATEVER THE INPUT: true; the input reads as it did. -/
def hashAllSpec : ChangeSpec := { name := "hashAll", fn := fun _ => fun
  | [d1, d2] => { results := [.lit (.bool true)], args := [d1, d2] }
  | _ => none }
def hashAllRow : OpenClaim := { program := "ytdifbfhmeljblaa", sum := "25b5a655ef5a85d805a14ccd776fe6f6a38604bd4d27773daab3dfd7c1fa3ced", func := "quadrille/quadrillelaw6.HashAll", spec := "hashAll", apart := false }
def HashAllSaid : Prop := hashAllRow.holds Try.pinned (OpenSpec.ofChange hashAllSpec)

/-- ITS FALSE NEIGHBOUR: 'it returns false'. Refute it at one input. -/
def hashAllWrong : ChangeSpec := { name := "hashAll", fn := fun _ => fun
  | [d1, d2] => { results := [.lit (.bool false)], args := [d1, d2] }
  | _ => none }
def HashAllWrongFalsely : Prop := hashAllRow.holds Try.pinned (OpenSpec.ofChange hashAllWrong)

/-- 'quadrillelaw6.HashLow': WHATEVER THE INPUT: true; the input reads as it did. -/
def hashLowSpec : ChangeSpec := { name := "hashLow", fn := fun _ => fun
  | [d1, d2] => { results := [.lit (.bool true)], args := [d1, d2] }
  | _ => none }
def hashLowRow : OpenClaim := { program := "ytdifbfhmeljblaa", sum := "25b5a655ef5a85d805a14ccd776fe6f6a38604bd4d27773daab3dfd7c1fa3ced", func := "quadrille/quadrillelaw6.HashLow", spec := "hashLow", apart := false }
def HashLowSaid : Prop := hashLowRow.holds Try.pinned (OpenSpec.ofChange hashLowSpec)

/-- ITS FALSE NEIGHBOUR: 'it returns false'. Refute it at one input. -/
def hashLowWrong : ChangeSpec := { name := "hashLow", fn := fun _ => fun
  | [d1, d2] => { results := [.lit (.bool false)], args := [d1, d2] }
  | _ => none }
def HashLowWrongFalsely : Prop := hashLowRow.holds Try.pinned (OpenSpec.ofChange hashLowWrong)

/-- 'quadrillelaw6.HashApart': WHATEVER THE INPUT: true; the input reads as it did. -/
def hashApartSpec : ChangeSpec := { name := "hashApart", fn := fun _ => fun
  | [d] => { results := [.lit (.bool true)], args := [d] }
  | _ => none }
def hashApartRow : OpenClaim := { program := "ytdifbfhmeljblaa", sum := "25b5a655ef5a85d805a14ccd776fe6f6a38604bd4d27773daab3dfd7c1fa3ced", func := "quadrille/quadrillelaw6.HashApart", spec := "hashApart", apart := false }
def HashApartSaid : Prop := hashApartRow.holds Try.pinned (OpenSpec.ofChange hashApartSpec)

/-- ITS FALSE NEIGHBOUR: 'it returns false'. Refute it at one input. -/
def hashApartWrong : ChangeSpec := { name := "hashApart", fn := fun _ => fun
  | [d] => { results := [.lit (.bool false)], args := [d] }
  | _ => none }
def HashApartWrongFalsely : Prop := hashApartRow.holds Try.pinned (OpenSpec.ofChange hashApartWrong)

/-- 'quadrillelaw6.HashFresh': WHATEVER THE INPUT: true; the input reads as it did. -/
def hashFreshSpec : ChangeSpec := { name := "hashFresh", fn := fun _ => fun
  | [d] => { results := [.lit (.bool true)], args := [d] }
  | _ => none }
def hashFreshRow : OpenClaim := { program := "ytdifbfhmeljblaa", sum := "25b5a655ef5a85d805a14ccd776fe6f6a38604bd4d27773daab3dfd7c1fa3ced", func := "quadrille/quadrillelaw6.HashFresh", spec := "hashFresh", apart := false }
def HashFreshSaid : Prop := hashFreshRow.holds Try.pinned (OpenSpec.ofChange hashFreshSpec)

/-- ITS FALSE NEIGHBOUR: 'it returns false'. Refute it at one input. -/
def hashFreshWrong : ChangeSpec := { name := "hashFresh", fn := fun _ => fun
  | [d] => { results := [.lit (.bool false)], args := [d] }
  | _ => none }
def HashFreshWrongFalsely : Prop := hashFreshRow.holds Try.pinned (OpenSpec.ofChange hashFreshWrong)

/- THE SECOND FORM. 'bulk': how many values and letters a reading holds, each counted each time it is reached (what is shared counts as often as it is met; a slice's spare places count too). A statement '..UptoSaid' is the law's where the arguments, and the package variables that the reading takes, are together of bulk at most 1048576: NARROWER than '..Said'. Prove '..Said' where nothing that the law and all that it calls make is longer than what came in: it says more and counts as full. Else prove '..UptoSaid'. A law counts once. -/
mutual
def uptoBulk {H : Type} : DataW H → Nat
  | .lit (.string bytes) => bytes.length + 1
  | .lit _ => 1
  | .nil => 1
  | .ptr d => uptoBulk d + 1
  | .slice elems spare => uptoBulkAll elems + uptoBulkAll spare + 1
  | .agg parts => uptoBulkAll parts + 1
  | .iface _ d => uptoBulk d + 1
  | .map entries => uptoBulkEntries entries + 1
  | .held _ => 1
def uptoBulkAll {H : Type} : List (DataW H) → Nat
  | [] => 0
  | d :: r => uptoBulk d + uptoBulkAll r
def uptoBulkEntries {H : Type} : List (Lit × DataW H) → Nat
  | [] => 0
  | x :: r => uptoBulkEntry x + uptoBulkEntries r
def uptoBulkEntry {H : Type} : Lit × DataW H → Nat
  | (.string bytes, d) => bytes.length + uptoBulk d + 1
  | (_, d) => uptoBulk d + 1
 end
def uptoSmall : (H : Type) → List (DataW H) → Bool := fun _ ds => decide (uptoBulkAll ds ≤ 1048576)
def OpenSpec.upto (s : _root_.Go.ChangeSpec) : _root_.Go.OpenSpec := { _root_.Go.OpenSpec.ofChange s with cond := some uptoSmall }

/-- 'quadrillelaw0.Names', WHERE WHAT IT READS IS OF BULK AT MOST 1048576: true; the input reads as it did. -/
def namesUptoRow : OpenClaim := { program := "ytdifbfhmeljblaa", sum := "25b5a655ef5a85d805a14ccd776fe6f6a38604bd4d27773daab3dfd7c1fa3ced", func := "quadrille/quadrillelaw0.Names", spec := "names", apart := false, narrowed := true }
def NamesUptoSaid : Prop := namesUptoRow.holds Try.pinned (OpenSpec.upto namesSpec)

/-- 'quadrillelaw6.HashAll', WHERE WHAT IT READS IS OF BULK AT MOST 1048576: true; the input reads as it did. -/
def hashAllUptoRow : OpenClaim := { program := "ytdifbfhmeljblaa", sum := "25b5a655ef5a85d805a14ccd776fe6f6a38604bd4d27773daab3dfd7c1fa3ced", func := "quadrille/quadrillelaw6.HashAll", spec := "hashAll", apart := false, narrowed := true }
def HashAllUptoSaid : Prop := hashAllUptoRow.holds Try.pinned (OpenSpec.upto hashAllSpec)

/-- 'quadrillelaw6.HashLow', WHERE WHAT IT READS IS OF BULK AT MOST 1048576: true; the input reads as it did. -/
def hashLowUptoRow : OpenClaim := { program := "ytdifbfhmeljblaa", sum := "25b5a655ef5a85d805a14ccd776fe6f6a38604bd4d27773daab3dfd7c1fa3ced", func := "quadrille/quadrillelaw6.HashLow", spec := "hashLow", apart := false, narrowed := true }
def HashLowUptoSaid : Prop := hashLowUptoRow.holds Try.pinned (OpenSpec.upto hashLowSpec)

/-- 'quadrillelaw6.HashApart', WHERE WHAT IT READS IS OF BULK AT MOST 1048576: true; the input reads as it did. -/
def hashApartUptoRow : OpenClaim := { program := "ytdifbfhmeljblaa", sum := "25b5a655ef5a85d805a14ccd776fe6f6a38604bd4d27773daab3dfd7c1fa3ced", func := "quadrille/quadrillelaw6.HashApart", spec := "hashApart", apart := false, narrowed := true }
def HashApartUptoSaid : Prop := hashApartUptoRow.holds Try.pinned (OpenSpec.upto hashApartSpec)

/-- 'quadrillelaw6.HashFresh', WHERE WHAT IT READS IS OF BULK AT MOST 1048576: true; the input reads as it did. -/
def hashFreshUptoRow : OpenClaim := { program := "ytdifbfhmeljblaa", sum := "25b5a655ef5a85d805a14ccd776fe6f6a38604bd4d27773daab3dfd7c1fa3ced", func := "quadrille/quadrillelaw6.HashFresh", spec := "hashFresh", apart := false, narrowed := true }
def HashFreshUptoSaid : Prop := hashFreshUptoRow.holds Try.pinned (OpenSpec.upto hashFreshSpec)

end Rows
end Go.Proofs.Ytdifbfhmeljblaa
