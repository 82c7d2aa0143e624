/- quadrillelaw3.AreaPlaces answers true at every input. -/
import Derived.Test.YthcogckkeegokaaFrame
import Derived.Test.YthcogckkeegokaaPlaces
namespace Go.Proofs.Ythcogckkeegokaa
set_option linter.unusedVariables false
set_option linter.unusedSimpArgs false
open Go.RowKit Go.ChangeShapes Go.WideShapes Go.ChangeAt

set_option maxRecDepth 100000 in
theorem areaPlaces_lifted (os : Os) (started : os.Started) (H : Type) (enc : TypeId × Value → H) :
    ReturnsInHanded {} Try.checked os 3 .any (Rows.areaPlacesSpec.pre6 enc Try.prog Try.f3 Rows.areaPlacesRow.domain false) (Rows.areaPlacesSpec.post enc Try.prog Try.f3 false true false false) := by
  refine returnsInHanded_of_change (C := Try.checked) own_knob started (by kernel_rfl) Try.func3
    (ChangeSpec.witness6 (enc := enc) (C := Try.checked) false ⟨#[], #[.agg #[.int .i64 0, .int .i64 0, .int .i64 0, .int .i64 0], .int .i64 0, .int .i64 0], []⟩ 8 (by kernel_rfl) (by kernel_rfl) (by kernel_rfl) (by kernel_rfl)) ?_
  intro W base args ds gs before hval0 hW _ _
  have hval : ∀ (j : Nat) t v, Try.f3.params[j]? = some t → args[j]? = some v → Value.okWide Try.prog W .any base t v := hval0
  have hW' := hW
  obtain ⟨p, q, hA0, hV, rfl, _, _⟩ := hW
  have hA : DataW.TrodAll enc Try.prog W 0 (fun _ => true) true Try.f3.params.toList args.toList ds p := hA0
  obtain ⟨rfl, rfl⟩ := trodVars_none hV
  rw [Try.params3] at hA hval
  obtain ⟨v0, v1, v2, d0, d1, d2, p0, p1, p2, rfl, rfl, rfl, h0, h1, h2⟩ := trodAll_three hA
  obtain ⟨a0, a1, a2, a3, rfl, aw0, aw1, aw2, aw3⟩ := open_area (hval 0 23 v0 rfl rfl) h0
  obtain ⟨stop, rfl, _, _, stopw⟩ := open_int Try.underlying3 (hval 1 3 v1 rfl rfl) h1
  obtain ⟨within, rfl, _, _, withinw⟩ := open_int Try.underlying3 (hval 2 3 v2 rfl rfl) h2
  exact calls_law laidOut (by kernel_rfl) rfl Try.underlying4 rfl hW' ⟨rfl, rfl, rfl⟩ (places_walk a0 a1 a2 a3 stop within W (wf64 stopw) (wf64 withinw))

theorem areaPlaces_over : Rows.areaPlacesRow.holds Try.pinned (OpenSpec.ofChange Rows.areaPlacesSpec) :=
  OpenClaim.holds_of_wide 3 Try.f3 rfl rfl rfl rfl rfl rfl rfl ⟨rfl, rfl, rfl, rfl, rfl⟩ rfl rfl rfl rfl rfl (by kernel_rfl) Try.func3 (by kernel_rfl)
    (of_decide_eq_true (by kernel_rfl)) (by unfold Func.isWrapper; first | (rw [if_pos (by decide +kernel)]; kernel_rfl) | (rw [if_neg (by decide +kernel)]; exact ⟨rfl, rfl⟩))
    (fun os started H enc _ => areaPlaces_lifted os started H enc)

theorem areaPlaces_proved : Rows.AreaPlacesSaid := areaPlaces_over
#print axioms areaPlaces_proved
end Go.Proofs.Ythcogckkeegokaa
