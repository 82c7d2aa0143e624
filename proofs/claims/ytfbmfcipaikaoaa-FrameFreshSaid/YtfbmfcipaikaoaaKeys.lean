/- A map from places to numbers, as a function. -/
import Derived.Test.YtfbmfcipaikaoaaRows
import Derived.WalkKit
import Derived.WalkSpells
import Derived.WalkLawsBesides
import Derived.BigQuiet
import Derived.Deep.QuietTactic
import Derived.Deep.RegionHeld3
import Derived.Lib.Hide
import Derived.Maps.OwnSet
import Derived.DeepKeys4
namespace Go.Proofs.Ytfbmfcipaikaoaa
set_option linter.unusedVariables false
set_option linter.unusedSimpArgs false
open Go.RowKit Go.Maps

theorem laidOut : laidOutB Try.prog = true := by kernel_rfl
theorem wide27 : (match Try.prog.underlying 27 with | some (.array _ _) | some (.struct _) => true | _ => false) = true := by kernel_rfl
theorem row27 : (27 : TypeId) < Try.prog.types.size := of_decide_eq_true (by kernel_rfl)
theorem law27 : Keyed Try.prog 27 := Keyed.of_law (deep_law_laid laidOut (m := 2) (by omega) row27 (by kernel_rfl) wide27)
def I64 (n : Int) : Prop := -9223372036854775808 ≤ n ∧ n ≤ 9223372036854775807
theorem wfI {n : Int} (h : I64 n) : (Lit.int .i64 n).wf = true := by simpa [Lit.wf, IntKind.min, IntKind.max, IntKind.signed, IntKind.bits, I64] using h
theorem cells27 : Try.prog.cellsOf 27 = 2 := by kernel_rfl
theorem keyType27 : Try.prog.keyType 27 = true := by kernel_rfl
theorem size_succ : ∃ m, Try.prog.types.size = m + 1 := ⟨Try.prog.types.size - 1, by have := row27; have h : (27 : Nat) < Try.prog.types.size := row27; omega⟩
theorem cells3 : Try.prog.cellsOf 3 = 1 := by kernel_rfl
theorem key_spot {r c : Int} (hr : I64 r) (hc : I64 c) : ∃ l, keyOf Try.prog 27 (.agg #[.int .i64 r, .int .i64 c]) = some l := by
  obtain ⟨m, hm⟩ := size_succ
  unfold keyOf
  simp only [Try.underlying27]
  rw [if_pos (by simp [keyType27, Value.formed, Try.underlying27, cells27]), hm]
  unfold Program.keyLits
  simp only [Try.underlying27, Value.cells]
  simp [cells27, cells3, Program.keyLits, Try.underlying3, wfI hr, wfI hc]
theorem zero3 (w : World) : (zeroValue 3).run Try.prog w = .ok (.int .i64 0) w := by kernel_rfl
/-- What a place reads as, as a key. -/
noncomputable def kl (r c : Int) : Lit := (keyOf Try.prog 27 (.agg #[.int .i64 r, .int .i64 c])).getD (.bool false)
theorem kl_is {r c : Int} (hr : I64 r) (hc : I64 c) : keyOf Try.prog 27 (.agg #[.int .i64 r, .int .i64 c]) = some (kl r c) := by
  obtain ⟨l, h⟩ := key_spot hr hc
  rw [kl, h]; rfl
theorem kl_ne {r c r' c' : Int} (hr : I64 r) (hc : I64 c) (hr' : I64 r') (hc' : I64 c') (h : ¬ (r = r' ∧ c = c')) : kl r c ≠ kl r' c' := fun e => h (by
  have h1 := kl_is hr hc
  have h2 := kl_is hr' hc'
  rw [e] at h1
  have := law27.inj h1 h2
  simp at this
  exact this)

abbrev DU := DataW Unit
noncomputable def elem3 : Value → Option (DU × List MemPlace) := plainElem Try.prog 3
noncomputable abbrev li (n : Int) : DU := .lit (.int .i64 n)
def putF (f : Int → Int → Option Int) (r c i : Int) (a b : Int) : Option Int := if a = r ∧ b = c then some i else f a b
def delF (f : Int → Int → Option Int) (r c : Int) (a b : Int) : Option Int := if a = r ∧ b = c then none else f a b
/-- Block M is a map of sz entries, that answers f. -/
def MapAt (W : World) (M sz : Nat) (f : Int → Int → Option Int) : Prop := ∃ D : DU, W.ownsMap Try.prog 27 elem3 M sz D ∧ Maps.size D = sz ∧
  ∀ r c, I64 r → I64 c → Maps.has D (kl r c) = (f r c).isSome ∧ D.atKey (kl r c) (li 0) = li ((f r c).getD 0)
theorem MapAt.kept {W W' : World} {M sz : Nat} {f : Int → Int → Option Int} {row : Option Nat} (h : MapAt W M sz f) (hg : W.grownBy W' row) (hne : some M ≠ row) : MapAt W' M sz f := by
  obtain ⟨D, h1, h2⟩ := h
  exact ⟨D, h1.kept hg hne, h2⟩
theorem MapAt.lt {W : World} {M sz : Nat} {f : Int → Int → Option Int} (h : MapAt W M sz f) : M < W.heap.size := by
  obtain ⟨D, h1, _⟩ := h
  exact h1.lt
theorem elem3_zero : elem3 (.int .i64 0) = some (li 0, []) := plainElem_int Try.underlying3 (by decide)
theorem MapAt.look {W : World} {M sz : Nat} {f : Int → Int → Option Int} (h : MapAt W M sz f) {r c : Int} (hr : I64 r) (hc : I64 c) :
    (Instr.lookup 60 (.map (some M)) (.agg #[.int .i64 r, .int .i64 c]) true).run Try.prog W = .ok (.tuple #[.int .i64 ((f r c).getD 0), .bool (f r c).isSome]) W := by
  obtain ⟨D, h1, h2, h3⟩ := h
  obtain ⟨v, ps, e1, e2⟩ := h1.look_ok law27 Try.underlying60 (zero3 W) elem3_zero (kl_is hr hc)
  obtain ⟨a, b⟩ := h3 r c hr hc
  rw [a] at e1
  rw [b] at e2
  obtain ⟨x, rfl, hz, _⟩ := plainElem_int_inv Try.underlying3 e2
  simp only [li, Prod.mk.injEq, DataW.lit.injEq, Lit.int.injEq, true_and] at hz
  rw [e1, hz.1]
theorem MapAt.tight {W : World} {M n : Nat} {D : DU} (h : W.ownsMap Try.prog 27 elem3 M n D) : W.ownsMap Try.prog 27 elem3 M (Maps.size D) D := by
  obtain ⟨es, clock, h1, h2, h3, h4⟩ := h
  refine ⟨es, clock, h1, h2, ?_, h4⟩
  rw [h4]
  simp [Maps.size, length_sorted]
theorem MapAt.store {W : World} {M sz : Nat} {f : Int → Int → Option Int} (h : MapAt W M sz f) {r c i : Int} (hr : I64 r) (hc : I64 c) (hi : I64 i) (hf : f r c = none) (hsz : sz < maxLen) :
    ∃ W', (Instr.mapUpdate 60 (.map (some M)) (.agg #[.int .i64 r, .int .i64 c]) (.int .i64 i)).run Try.prog W = .ok () W' ∧ MapAt W' M (sz + 1) (putF f r c i) ∧ W.grownBy W' (some M) := by
  obtain ⟨D, h1, h2, h3⟩ := h
  obtain ⟨W', e1, e2, e3⟩ := h1.store law27 Try.underlying60 hsz (kl_is hr hc) (plainElem_int Try.underlying3 (wfI hi))
  have hs : Maps.size (D.put (kl r c) (li i)) = sz + 1 := by
    rw [size_put (h1.tidy law27), (h3 r c hr hc).1, hf, h2]
    simp
  refine ⟨W', e1, ⟨D.put (kl r c) (li i), ?_, hs, fun a b ha hb => ?_⟩, e3.grown⟩
  · have := MapAt.tight e2
    rw [hs] at this
    exact this
  · by_cases hab : a = r ∧ b = c
    · obtain ⟨rfl, rfl⟩ := hab
      unfold putF
      rw [if_pos (show a = a ∧ b = b from ⟨rfl, rfl⟩), has_put_same h1.isMap (law27.key (kl_is hr hc)), atKey_put_same h1.isMap (law27.key (kl_is hr hc))]
      exact ⟨rfl, rfl⟩
    · unfold putF
      rw [if_neg hab, has_put_other (kl_ne ha hb hr hc hab), atKey_put_other (kl_ne ha hb hr hc hab)]
      exact h3 a b ha hb
theorem MapAt.drop {W : World} {M sz : Nat} {f : Int → Int → Option Int} (h : MapAt W M sz f) {r c i : Int} (hr : I64 r) (hc : I64 c) (hf : f r c = some i) (ty : TypeId) :
    ∃ W', (Builtin.delete_ #[60, 27] ty #[.map (some M), .agg #[.int .i64 r, .int .i64 c]]).run Try.prog W = .ok (.tuple #[]) W' ∧ MapAt W' M (sz - 1) (delF f r c) ∧ W.grownBy W' (some M) := by
  obtain ⟨D, h1, h2, h3⟩ := h
  obtain ⟨W', e1, e2, e3⟩ := h1.drop law27 Try.underlying60 (kl_is hr hc) ty
  have hs : Maps.size (D.del (kl r c)) = sz - 1 := by
    have := size_del (k := kl r c) (h1.tidy law27)
    rw [(h3 r c hr hc).1, hf, h2] at this
    simp at this
    omega
  refine ⟨W', e1, ⟨D.del (kl r c), ?_, hs, fun a b ha hb => ?_⟩, e3.grown⟩
  · have := MapAt.tight e2
    rw [hs] at this
    exact this
  · by_cases hab : a = r ∧ b = c
    · obtain ⟨rfl, rfl⟩ := hab
      unfold delF
      rw [if_pos (show a = a ∧ b = b from ⟨rfl, rfl⟩), has_del_same, atKey_del_same]
      exact ⟨rfl, rfl⟩
    · unfold delF
      rw [if_neg hab, has_del_other (kl_ne ha hb hr hc hab), atKey_del_other (kl_ne ha hb hr hc hab)]
      exact h3 a b ha hb
theorem map_made (W : World) : MapAt (W.alloc (.map #[] 0)) W.heap.size 0 (fun _ _ => none) :=
  ⟨.map [], World.ownsMap_made _ _ _ _, rfl, fun r c _ _ => ⟨rfl, rfl⟩⟩
theorem MapAt.clear {W : World} {M sz : Nat} {f : Int → Int → Option Int} (h : MapAt W M sz f) (ty : TypeId) :
    ∃ W', (Builtin.clear_ #[60] ty #[.map (some M)]).run Try.prog W = .ok (.tuple #[]) W' ∧ MapAt W' M 0 (fun _ _ => none) ∧ W.grownBy W' (some M) := by
  obtain ⟨D, ⟨es, clock, hb, F, _⟩, h2, h3⟩ := h
  refine ⟨ChangeMaps.setBlock W M (.map #[] clock), ?_, ⟨.map [], ⟨#[], clock, ChangeMaps.heap_setBlock_same hb _, ?_, by simp, rfl⟩, rfl, fun r c _ _ => ⟨rfl, rfl⟩⟩, ?_⟩
  · simp [Builtin.clear_, run_underlying Try.underlying60, MapKept.run_getObj_map hb, MapKept.run_setObj_map _ hb, Result.andThen]
    rfl
  · exact ⟨by simp, MapKept.stamped_empty clock, by simp⟩
  · exact (show W.mapTurned _ M from ⟨es, clock, #[], clock, hb, rfl⟩).grown
end Go.Proofs.Ytfbmfcipaikaoaa
