/-
  No cell of these rows narrows 'for every input' (looked for: loops, veiled, ifaces, maps, wideKeys, modest, calm, conditions, laid).
  DERIVED. THE GIVEN ROWS OF THIS SEAT. 4 by the template 'for every input the law returns true; each argument reads behind the call as it read before'; 0 by the template 'total and deterministic' (their statements: YtfbmfcipaikaoaaTotals.lean).
  GIVEN WITH THE SEED: the statements are not yours to turn. If you find one false, say at which input.
  Laid BY PROGRAM, IN A SANDBOX (cutbox-rows.mjs): the forced cells as the released guide's own fill.sh prints them over the translation 4d0ef7d85004a799… (all of the seat's roots in one cut). By AI agents, Wed Nov 11 2026. No macro, syntax, notation, axiom, sorry.
-/
import Derived.Test.YtfbmfcipaikaoaaChecked
import GoSem.Claim
import GoSem.ClaimJoined
import GoSem.ClaimMapViews
import Derived.JoinedTies
import Derived.KernelRfl
namespace Go.Proofs.Ytfbmfcipaikaoaa
/- THE CELL 'sum', in the pinned program and in every row, IS THE sha256 OF THE DUMP (.gsa) THAT YtfbmfcipaikaoaaProg.lean LOADS. Nothing in Lean hashes anything: it is a label: what it is worth is what the hold of that sum in a sandbox is worth. -/
noncomputable def Try.pinned : Pinned := { name := "ytfbmfcipaikaoaa", sum := "4d0ef7d85004a79902819b6ddd2313bde0f38f077a7b8cc5947f9e61429af9f3", checked := Try.checked }
namespace Rows
def none {H : Type} : Left H := { results := [], args := [] }

/-- 'quadrillelaw23.FrameOnce': WHATEVER THE INPUT: true; the input reads as it did. -/
def frameOnceSpec : ChangeSpec := { name := "frameOnce", fn := fun _ => fun
  | [d] => { results := [.lit (.bool true)], args := [d] }
  | _ => none }
def frameOnceRow : OpenClaim := { program := "ytfbmfcipaikaoaa", sum := "4d0ef7d85004a79902819b6ddd2313bde0f38f077a7b8cc5947f9e61429af9f3", func := "quadrille/quadrillelaw23.FrameOnce", spec := "frameOnce", plainKeys := false, apart := false }
def FrameOnceSaid : Prop := frameOnceRow.holds Try.pinned (OpenSpec.ofChange frameOnceSpec)

/-- ITS FALSE NEIGHBOUR: 'it returns false'. Refute it at one input. -/
def frameOnceWrong : ChangeSpec := { name := "frameOnce", fn := fun _ => fun
  | [d] => { results := [.lit (.bool false)], args := [d] }
  | _ => none }
def FrameOnceWrongFalsely : Prop := frameOnceRow.holds Try.pinned (OpenSpec.ofChange frameOnceWrong)

/-- 'quadrillelaw23.FrameApart': WHATEVER THE INPUT: true; the input reads as it did. -/
def frameApartSpec : ChangeSpec := { name := "frameApart", fn := fun _ => fun
  | [d1, d2] => { results := [.lit (.bool true)], args := [d1, d2] }
  | _ => none }
def frameApartRow : OpenClaim := { program := "ytfbmfcipaikaoaa", sum := "4d0ef7d85004a79902819b6ddd2313bde0f38f077a7b8cc5947f9e61429af9f3", func := "quadrille/quadrillelaw23.FrameApart", spec := "frameApart", plainKeys := false, apart := false }
def FrameApartSaid : Prop := frameApartRow.holds Try.pinned (OpenSpec.ofChange frameApartSpec)

/-- ITS FALSE NEIGHBOUR: 'it returns false'. Refute it at one input. -/
def frameApartWrong : ChangeSpec := { name := "frameApart", fn := fun _ => fun
  | [d1, d2] => { results := [.lit (.bool false)], args := [d1, d2] }
  | _ => none }
def FrameApartWrongFalsely : Prop := frameApartRow.holds Try.pinned (OpenSpec.ofChange frameApartWrong)

/-- 'quadrillelaw23.FrameAll': WHATEVER THE INPUT: true; the input reads as it did. -/
def frameAllSpec : ChangeSpec := { name := "frameAll", fn := fun _ => fun
  | [d] => { results := [.lit (.bool true)], args := [d] }
  | _ => none }
def frameAllRow : OpenClaim := { program := "ytfbmfcipaikaoaa", sum := "4d0ef7d85004a79902819b6ddd2313bde0f38f077a7b8cc5947f9e61429af9f3", func := "quadrille/quadrillelaw23.FrameAll", spec := "frameAll", plainKeys := false, apart := false }
def FrameAllSaid : Prop := frameAllRow.holds Try.pinned (OpenSpec.ofChange frameAllSpec)

/-- ITS FALSE NEIGHBOUR: 'it returns false'. Refute it at one input. -/
def frameAllWrong : ChangeSpec := { name := "frameAll", fn := fun _ => fun
  | [d] => { results := [.lit (.bool false)], args := [d] }
  | _ => none }
def FrameAllWrongFalsely : Prop := frameAllRow.holds Try.pinned (OpenSpec.ofChange frameAllWrong)

/-- 'quadrillelaw23.FrameFresh': WHATEVER THE INPUT: true; the input reads as it did. -/
def frameFreshSpec : ChangeSpec := { name := "frameFresh", fn := fun _ => fun
  | [d] => { results := [.lit (.bool true)], args := [d] }
  | _ => none }
def frameFreshRow : OpenClaim := { program := "ytfbmfcipaikaoaa", sum := "4d0ef7d85004a79902819b6ddd2313bde0f38f077a7b8cc5947f9e61429af9f3", func := "quadrille/quadrillelaw23.FrameFresh", spec := "frameFresh", plainKeys := false, apart := false }
def FrameFreshSaid : Prop := frameFreshRow.holds Try.pinned (OpenSpec.ofChange frameFreshSpec)

/-- ITS FALSE NEIGHBOUR: 'it returns false'. Refute it at one input. -/
def frameFreshWrong : ChangeSpec := { name := "frameFresh", fn := fun _ => fun
  | [d] => { results := [.lit (.bool false)], args := [d] }
  | _ => none }
def FrameFreshWrongFalsely : Prop := frameFreshRow.holds Try.pinned (OpenSpec.ofChange frameFreshWrong)

/- THE SECOND FORM. 'bulk': how many values and letters a reading holds, each counted each time it is reached (what is shared counts as often as it is met; a slice's spare places count too). A statement '..UptoSaid' is the law's where the arguments, and the package variables that the reading takes, are together of bulk at most 1048576: NARROWER than '..Said'. Prove '..Said' where nothing that the law and all that it calls make is longer than what came in: it says more and counts as full. Else prove '..UptoSaid'. A law counts once. -/
mutual
def uptoBulk {H : Type} : DataW H → Nat
  | .lit (.string bytes) => bytes.length + 1
  | .lit _ => 1
  | .nil => 1
  | .ptr d => uptoBulk d + 1
  | .slice elems spare => uptoBulkAll elems + uptoBulkAll spare + 1
  | .agg parts => uptoBulkAll parts + 1
  | .iface _ d => uptoBulk d + 1
  | .map entries => uptoBulkEntries entries + 1
  | .held _ => 1
def uptoBulkAll {H : Type} : List (DataW H) → Nat
  | [] => 0
  | d :: r => uptoBulk d + uptoBulkAll r
def uptoBulkEntries {H : Type} : List (Lit × DataW H) → Nat
  | [] => 0
  | x :: r => uptoBulkEntry x + uptoBulkEntries r
def uptoBulkEntry {H : Type} : Lit × DataW H → Nat
  | (.string bytes, d) => bytes.length + uptoBulk d + 1
  | (_, d) => uptoBulk d + 1
 end
def uptoSmall : (H : Type) → List (DataW H) → Bool := fun _ ds => decide (uptoBulkAll ds ≤ 1048576)
def OpenSpec.upto (s : _root_.Go.ChangeSpec) : _root_.Go.OpenSpec := { _root_.Go.OpenSpec.ofChange s with cond := some uptoSmall }

/-- 'quadrillelaw23.FrameOnce', WHERE WHAT IT READS IS OF BULK AT MOST 1048576: true; the input reads as it did. -/
def frameOnceUptoRow : OpenClaim := { program := "ytfbmfcipaikaoaa", sum := "4d0ef7d85004a79902819b6ddd2313bde0f38f077a7b8cc5947f9e61429af9f3", func := "quadrille/quadrillelaw23.FrameOnce", spec := "frameOnce", plainKeys := false, apart := false, narrowed := true }
def FrameOnceUptoSaid : Prop := frameOnceUptoRow.holds Try.pinned (OpenSpec.upto frameOnceSpec)

/-- 'quadrillelaw23.FrameApart', WHERE WHAT IT READS IS OF BULK AT MOST 1048576: true; the input reads as it did. -/
def frameApartUptoRow : OpenClaim := { program := "ytfbmfcipaikaoaa", sum := "4d0ef7d85004a79902819b6ddd2313bde0f38f077a7b8cc5947f9e61429af9f3", func := "quadrille/quadrillelaw23.FrameApart", spec := "frameApart", plainKeys := false, apart := false, narrowed := true }
def FrameApartUptoSaid : Prop := frameApartUptoRow.holds Try.pinned (OpenSpec.upto frameApartSpec)

/-- 'quadrillelaw23.FrameAll', WHERE WHAT IT READS IS OF BULK AT MOST 1048576: true; the input reads as it did. -/
def frameAllUptoRow : OpenClaim := { program := "ytfbmfcipaikaoaa", sum := "4d0ef7d85004a79902819b6ddd2313bde0f38f077a7b8cc5947f9e61429af9f3", func := "quadrille/quadrillelaw23.FrameAll", spec := "frameAll", plainKeys := false, apart := false, narrowed := true }
def FrameAllUptoSaid : Prop := frameAllUptoRow.holds Try.pinned (OpenSpec.upto frameAllSpec)

/-- 'quadrillelaw23.FrameFresh', WHERE WHAT IT READS IS OF BULK AT MOST 1048576: true; the input reads as it did. -/
def frameFreshUptoRow : OpenClaim := { program := "ytfbmfcipaikaoaa", sum := "4d0ef7d85004a79902819b6ddd2313bde0f38f077a7b8cc5947f9e61429af9f3", func := "quadrille/quadrillelaw23.FrameFresh", spec := "frameFresh", plainKeys := false, apart := false, narrowed := true }
def FrameFreshUptoSaid : Prop := frameFreshUptoRow.holds Try.pinned (OpenSpec.upto frameFreshSpec)

end Rows
end Go.Proofs.Ytfbmfcipaikaoaa
