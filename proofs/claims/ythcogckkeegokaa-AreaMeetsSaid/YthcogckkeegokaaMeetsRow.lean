/- quadrillelaw3.AreaMeets answers true at every input. -/
import Derived.Test.YthcogckkeegokaaFrame
import Derived.Test.YthcogckkeegokaaMeets
namespace Go.Proofs.Ythcogckkeegokaa
set_option linter.unusedVariables false
set_option linter.unusedSimpArgs false
open Go.RowKit Go.ChangeShapes Go.WideShapes Go.ChangeAt

set_option maxRecDepth 100000 in
theorem areaMeets_lifted (os : Os) (started : os.Started) (H : Type) (enc : TypeId × Value → H) :
    ReturnsInHanded {} Try.checked os 5 .any (Rows.areaMeetsSpec.pre6 enc Try.prog Try.f5 Rows.areaMeetsRow.domain false) (Rows.areaMeetsSpec.post enc Try.prog Try.f5 false true false false) := by
  refine returnsInHanded_of_change (C := Try.checked) own_knob started (by kernel_rfl) Try.func5
    (ChangeSpec.witness6 (enc := enc) (C := Try.checked) false ⟨#[], #[.agg #[.int .i64 0, .int .i64 0, .int .i64 0, .int .i64 0], .agg #[.int .i64 0, .int .i64 0, .int .i64 0, .int .i64 0], .agg #[.int .i64 0, .int .i64 0]], []⟩ 8 (by kernel_rfl) (by kernel_rfl) (by kernel_rfl) (by kernel_rfl)) ?_
  intro W base args ds gs before hval0 hW _ _
  have hval : ∀ (j : Nat) t v, Try.f5.params[j]? = some t → args[j]? = some v → Value.okWide Try.prog W .any base t v := hval0
  have hW' := hW
  obtain ⟨p, q, hA0, hV, rfl, _, _⟩ := hW
  have hA : DataW.TrodAll enc Try.prog W 0 (fun _ => true) true Try.f5.params.toList args.toList ds p := hA0
  obtain ⟨rfl, rfl⟩ := trodVars_none hV
  rw [Try.params5] at hA hval
  obtain ⟨v0, v1, v2, d0, d1, d2, p0, p1, p2, rfl, rfl, rfl, h0, h1, h2⟩ := trodAll_three hA
  obtain ⟨a0, a1, a2, a3, rfl, aw0, aw1, aw2, aw3⟩ := open_area (hval 0 23 v0 rfl rfl) h0
  obtain ⟨b0, b1, b2, b3, rfl, bw0, bw1, bw2, bw3⟩ := open_area (hval 1 23 v1 rfl rfl) h1
  obtain ⟨s0, s1, rfl, sw0, sw1⟩ := open_spot (hval 2 30 v2 rfl rfl) h2
  exact calls_law laidOut (by kernel_rfl) rfl Try.underlying4 rfl hW' ⟨rfl, rfl, rfl⟩ (meets_walk a0 a1 a2 a3 b0 b1 b2 b3 s0 s1 W)

theorem areaMeets_over : Rows.areaMeetsRow.holds Try.pinned (OpenSpec.ofChange Rows.areaMeetsSpec) :=
  OpenClaim.holds_of_wide 5 Try.f5 rfl rfl rfl rfl rfl rfl rfl ⟨rfl, rfl, rfl, rfl, rfl⟩ rfl rfl rfl rfl rfl (by kernel_rfl) Try.func5 (by kernel_rfl)
    (of_decide_eq_true (by kernel_rfl)) (by unfold Func.isWrapper; first | (rw [if_pos (by decide +kernel)]; kernel_rfl) | (rw [if_neg (by decide +kernel)]; exact ⟨rfl, rfl⟩))
    (fun os started H enc _ => areaMeets_lifted os started H enc)

theorem areaMeets_proved : Rows.AreaMeetsSaid := areaMeets_over
#print axioms areaMeets_proved
end Go.Proofs.Ythcogckkeegokaa
