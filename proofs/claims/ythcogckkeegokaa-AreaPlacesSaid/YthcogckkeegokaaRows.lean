/-
  No cell of these rows narrows 'for every input' (looked for: loops, veiled, ifaces, maps, wideKeys, modest, calm, conditions, laid).
  DERIVED. THE GIVEN ROWS OF THIS SEAT. 5 by the template 'for every input the law returns true; each argument reads behind the call as it read before'; 0 by the template 'total and deterministic' (their statements: YthcogckkeegokaaTotals.lean).
  GIVEN WITH THE SEED: the statements are not yours to turn. If you find one false, say at which input.
  Laid BY PROGRAM, IN A SANDBOX (cutbox-rows.mjs): the forced cells as the released guide's own fill.sh prints them over the translation f81ba40d5ca315c4… (all of the seat's roots in one cut). By AI agents, Wed Nov 11 2026. No macro, syntax, notation, axiom, sorry.
-/
import Derived.Test.YthcogckkeegokaaChecked
import GoSem.Claim
import GoSem.ClaimJoined
import GoSem.ClaimMapViews
import Derived.JoinedTies
import Derived.KernelRfl
namespace Go.Proofs.Ythcogckkeegokaa
/- THE CELL 'sum', in the pinned program and in every row, IS THE sha256 OF THE DUMP (.gsa) THAT YthcogckkeegokaaProg.lean LOADS. Nothing in Lean hashes anything: it is a label: what it is worth is what the hold of that sum in a sandbox is worth. -/
noncomputable def Try.pinned : Pinned := { name := "ythcogckkeegokaa", sum := "f81ba40d5ca315c4dc897fc5505153c813a103ed7529ebd4d354ff8c0ce4f117", checked := Try.checked }
namespace Rows
def none {H : Type} : Left H := { results := [], args := [] }

/-- 'quadrillelaw3.AreaPlaces': WHATEVER THE INPUT: true; the input reads as it did. -/
def areaPlacesSpec : ChangeSpec := { name := "areaPlaces", fn := fun _ => fun
  | [d1, d2, d3] => { results := [.lit (.bool true)], args := [d1, d2, d3] }
  | _ => none }
def areaPlacesRow : OpenClaim := { program := "ythcogckkeegokaa", sum := "f81ba40d5ca315c4dc897fc5505153c813a103ed7529ebd4d354ff8c0ce4f117", func := "quadrille/quadrillelaw3.AreaPlaces", spec := "areaPlaces", unfollowed := true, recurses := true, apart := false }
def AreaPlacesSaid : Prop := areaPlacesRow.holds Try.pinned (OpenSpec.ofChange areaPlacesSpec)

/-- ITS FALSE NEIGHBOUR: 'it returns false'. Refute it at one input. -/
def areaPlacesWrong : ChangeSpec := { name := "areaPlaces", fn := fun _ => fun
  | [d1, d2, d3] => { results := [.lit (.bool false)], args := [d1, d2, d3] }
  | _ => none }
def AreaPlacesWrongFalsely : Prop := areaPlacesRow.holds Try.pinned (OpenSpec.ofChange areaPlacesWrong)

/-- 'quadrillelaw3.AreaMoves': WHATEVER THE INPUT: true; the input reads as it did. -/
def areaMovesSpec : ChangeSpec := { name := "areaMoves", fn := fun _ => fun
  | [d1, d2, d3] => { results := [.lit (.bool true)], args := [d1, d2, d3] }
  | _ => none }
def areaMovesRow : OpenClaim := { program := "ythcogckkeegokaa", sum := "f81ba40d5ca315c4dc897fc5505153c813a103ed7529ebd4d354ff8c0ce4f117", func := "quadrille/quadrillelaw3.AreaMoves", spec := "areaMoves", unfollowed := true, recurses := true, apart := false }
def AreaMovesSaid : Prop := areaMovesRow.holds Try.pinned (OpenSpec.ofChange areaMovesSpec)

/-- ITS FALSE NEIGHBOUR: 'it returns false'. Refute it at one input. -/
def areaMovesWrong : ChangeSpec := { name := "areaMoves", fn := fun _ => fun
  | [d1, d2, d3] => { results := [.lit (.bool false)], args := [d1, d2, d3] }
  | _ => none }
def AreaMovesWrongFalsely : Prop := areaMovesRow.holds Try.pinned (OpenSpec.ofChange areaMovesWrong)

/-- 'quadrillelaw3.AreaMeets': WHATEVER THE INPUT: true; the input reads as it did. -/
def areaMeetsSpec : ChangeSpec := { name := "areaMeets", fn := fun _ => fun
  | [d1, d2, d3] => { results := [.lit (.bool true)], args := [d1, d2, d3] }
  | _ => none }
def areaMeetsRow : OpenClaim := { program := "ythcogckkeegokaa", sum := "f81ba40d5ca315c4dc897fc5505153c813a103ed7529ebd4d354ff8c0ce4f117", func := "quadrille/quadrillelaw3.AreaMeets", spec := "areaMeets", unfollowed := true, recurses := true, apart := false }
def AreaMeetsSaid : Prop := areaMeetsRow.holds Try.pinned (OpenSpec.ofChange areaMeetsSpec)

/-- ITS FALSE NEIGHBOUR: 'it returns false'. Refute it at one input. -/
def areaMeetsWrong : ChangeSpec := { name := "areaMeets", fn := fun _ => fun
  | [d1, d2, d3] => { results := [.lit (.bool false)], args := [d1, d2, d3] }
  | _ => none }
def AreaMeetsWrongFalsely : Prop := areaMeetsRow.holds Try.pinned (OpenSpec.ofChange areaMeetsWrong)

/-- 'quadrillelaw3.AreaAll': WHATEVER THE INPUT: true; the input reads as it did. -/
def areaAllSpec : ChangeSpec := { name := "areaAll", fn := fun _ => fun
  | [d] => { results := [.lit (.bool true)], args := [d] }
  | _ => none }
def areaAllRow : OpenClaim := { program := "ythcogckkeegokaa", sum := "f81ba40d5ca315c4dc897fc5505153c813a103ed7529ebd4d354ff8c0ce4f117", func := "quadrille/quadrillelaw3.AreaAll", spec := "areaAll", unfollowed := true, recurses := true, apart := false }
def AreaAllSaid : Prop := areaAllRow.holds Try.pinned (OpenSpec.ofChange areaAllSpec)

/-- ITS FALSE NEIGHBOUR: 'it returns false'. Refute it at one input. -/
def areaAllWrong : ChangeSpec := { name := "areaAll", fn := fun _ => fun
  | [d] => { results := [.lit (.bool false)], args := [d] }
  | _ => none }
def AreaAllWrongFalsely : Prop := areaAllRow.holds Try.pinned (OpenSpec.ofChange areaAllWrong)

/-- 'quadrillelaw3.AreaOf': WHATEVER THE INPUT: true; the input reads as it did. -/
def areaOfSpec : ChangeSpec := { name := "areaOf", fn := fun _ => fun
  | [d1, d2] => { results := [.lit (.bool true)], args := [d1, d2] }
  | _ => none }
def areaOfRow : OpenClaim := { program := "ythcogckkeegokaa", sum := "f81ba40d5ca315c4dc897fc5505153c813a103ed7529ebd4d354ff8c0ce4f117", func := "quadrille/quadrillelaw3.AreaOf", spec := "areaOf", unfollowed := true, recurses := true, apart := false }
def AreaOfSaid : Prop := areaOfRow.holds Try.pinned (OpenSpec.ofChange areaOfSpec)

/-- ITS FALSE NEIGHBOUR: 'it returns false'. Refute it at one input. -/
def areaOfWrong : ChangeSpec := { name := "areaOf", fn := fun _ => fun
  | [d1, d2] => { results := [.lit (.bool false)], args := [d1, d2] }
  | _ => none }
def AreaOfWrongFalsely : Prop := areaOfRow.holds Try.pinned (OpenSpec.ofChange areaOfWrong)

/- THE SECOND FORM. 'bulk': how many values and letters a reading holds, each counted each time it is reached (what is shared counts as often as it is met; a slice's spare places count too). A statement '..UptoSaid' is the law's where the arguments, and the package variables that the reading takes, are together of bulk at most 1048576: NARROWER than '..Said'. Prove '..Said' where nothing that the law and all that it calls make is longer than what came in: it says more and counts as full. Else prove '..UptoSaid'. A law counts once. -/
mutual
def uptoBulk {H : Type} : DataW H → Nat
  | .lit (.string bytes) => bytes.length + 1
  | .lit _ => 1
  | .nil => 1
  | .ptr d => uptoBulk d + 1
  | .slice elems spare => uptoBulkAll elems + uptoBulkAll spare + 1
  | .agg parts => uptoBulkAll parts + 1
  | .iface _ d => uptoBulk d + 1
  | .map entries => uptoBulkEntries entries + 1
  | .held _ => 1
def uptoBulkAll {H : Type} : List (DataW H) → Nat
  | [] => 0
  | d :: r => uptoBulk d + uptoBulkAll r
def uptoBulkEntries {H : Type} : List (Lit × DataW H) → Nat
  | [] => 0
  | x :: r => uptoBulkEntry x + uptoBulkEntries r
def uptoBulkEntry {H : Type} : Lit × DataW H → Nat
  | (.string bytes, d) => bytes.length + uptoBulk d + 1
  | (_, d) => uptoBulk d + 1
 end
def uptoSmall : (H : Type) → List (DataW H) → Bool := fun _ ds => decide (uptoBulkAll ds ≤ 1048576)
def OpenSpec.upto (s : _root_.Go.ChangeSpec) : _root_.Go.OpenSpec := { _root_.Go.OpenSpec.ofChange s with cond := some uptoSmall }

/-- 'quadrillelaw3.AreaPlaces', WHERE WHAT IT READS IS OF BULK AT MOST 1048576: true; the input reads as it did. -/
def areaPlacesUptoRow : OpenClaim := { program := "ythcogckkeegokaa", sum := "f81ba40d5ca315c4dc897fc5505153c813a103ed7529ebd4d354ff8c0ce4f117", func := "quadrille/quadrillelaw3.AreaPlaces", spec := "areaPlaces", unfollowed := true, recurses := true, apart := false, narrowed := true }
def AreaPlacesUptoSaid : Prop := areaPlacesUptoRow.holds Try.pinned (OpenSpec.upto areaPlacesSpec)

/-- 'quadrillelaw3.AreaMoves', WHERE WHAT IT READS IS OF BULK AT MOST 1048576: true; the input reads as it did. -/
def areaMovesUptoRow : OpenClaim := { program := "ythcogckkeegokaa", sum := "f81ba40d5ca315c4dc897fc5505153c813a103ed7529ebd4d354ff8c0ce4f117", func := "quadrille/quadrillelaw3.AreaMoves", spec := "areaMoves", unfollowed := true, recurses := true, apart := false, narrowed := true }
def AreaMovesUptoSaid : Prop := areaMovesUptoRow.holds Try.pinned (OpenSpec.upto areaMovesSpec)

/-- 'quadrillelaw3.AreaMeets', WHERE WHAT IT READS IS OF BULK AT MOST 1048576: true; the input reads as it did. -/
def areaMeetsUptoRow : OpenClaim := { program := "ythcogckkeegokaa", sum := "f81ba40d5ca315c4dc897fc5505153c813a103ed7529ebd4d354ff8c0ce4f117", func := "quadrille/quadrillelaw3.AreaMeets", spec := "areaMeets", unfollowed := true, recurses := true, apart := false, narrowed := true }
def AreaMeetsUptoSaid : Prop := areaMeetsUptoRow.holds Try.pinned (OpenSpec.upto areaMeetsSpec)

/-- 'quadrillelaw3.AreaAll', WHERE WHAT IT READS IS OF BULK AT MOST 1048576: true; the input reads as it did. -/
def areaAllUptoRow : OpenClaim := { program := "ythcogckkeegokaa", sum := "f81ba40d5ca315c4dc897fc5505153c813a103ed7529ebd4d354ff8c0ce4f117", func := "quadrille/quadrillelaw3.AreaAll", spec := "areaAll", unfollowed := true, recurses := true, apart := false, narrowed := true }
def AreaAllUptoSaid : Prop := areaAllUptoRow.holds Try.pinned (OpenSpec.upto areaAllSpec)

/-- 'quadrillelaw3.AreaOf', WHERE WHAT IT READS IS OF BULK AT MOST 1048576: true; the input reads as it did. -/
def areaOfUptoRow : OpenClaim := { program := "ythcogckkeegokaa", sum := "f81ba40d5ca315c4dc897fc5505153c813a103ed7529ebd4d354ff8c0ce4f117", func := "quadrille/quadrillelaw3.AreaOf", spec := "areaOf", unfollowed := true, recurses := true, apart := false, narrowed := true }
def AreaOfUptoSaid : Prop := areaOfUptoRow.holds Try.pinned (OpenSpec.upto areaOfSpec)

end Rows
end Go.Proofs.Ythcogckkeegokaa
