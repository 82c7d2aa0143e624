/- quadrillelaw32.TrendTwo answers true at every input. No condition. -/
import Derived.Test.YtcgkolaljgpphaaTwoLaw
namespace Go.Proofs.Ytcgkolaljgpphaa
set_option linter.unusedVariables false
set_option linter.unusedSimpArgs false
open Go.RowKit Go.ChangeShapes Go.WideShapes Go.ChangeAt

set_option maxRecDepth 100000 in
theorem trendTwo_lifted (os : Os) (started : os.Started) (H : Type) (enc : TypeId × Value → H) :
    ReturnsInHanded {} Try.checked os 6 .any (Rows.trendTwoSpec.pre6 enc Try.prog Try.f6 Rows.trendTwoRow.domain false) (Rows.trendTwoSpec.post enc Try.prog Try.f6 false true false false) := by
  refine returnsInHanded_of_change (C := Try.checked) own_knob started (by kernel_rfl) Try.func6
    (ChangeSpec.witness6 (enc := enc) (C := Try.checked) false ⟨#[], #[.int .i16 0, .int .i16 0, .int .i16 0, .int .i16 0], []⟩ 8 (by kernel_rfl) (by kernel_rfl) (by kernel_rfl) (by kernel_rfl)) ?_
  intro W base args ds gs before hval0 hW _ _
  have hval : ∀ (j : Nat) t v, Try.f6.params[j]? = some t → args[j]? = some v → Value.okWide Try.prog W .any base t v := hval0
  have hW' := hW
  obtain ⟨p, q, hA0, hV, rfl, _, _⟩ := hW
  have hA : DataW.TrodAll enc Try.prog W 0 (fun _ => true) true Try.f6.params.toList args.toList ds p := hA0
  obtain ⟨rfl, rfl⟩ := trodVars_none hV
  rw [Try.params6] at hA hval
  obtain ⟨v0, v1, v2, v3, d0, d1, d2, d3, p0, p1, p2, p3, rfl, rfl, rfl, h0, h1, h2, h3⟩ := trodAll_four hA
  obtain ⟨a, rfl, _, _, aw⟩ := open_int Try.underlying41 (hval 0 41 v0 rfl rfl) h0
  obtain ⟨b, rfl, _, _, bw⟩ := open_int Try.underlying41 (hval 1 41 v1 rfl rfl) h1
  obtain ⟨c, rfl, _, _, cw⟩ := open_int Try.underlying41 (hval 2 41 v2 rfl rfl) h2
  obtain ⟨d, rfl, _, _, dw⟩ := open_int Try.underlying41 (hval 3 41 v3 rfl rfl) h3
  exact calls_law laidOut (by kernel_rfl) rfl Try.underlying4 rfl hW' ⟨rfl, rfl, rfl⟩ (trendTwo_walk a b c d W (wf16 aw) (wf16 bw) (wf16 cw) (wf16 dw))

theorem trendTwo_over : Rows.trendTwoRow.holds Try.pinned (OpenSpec.ofChange Rows.trendTwoSpec) :=
  OpenClaim.holds_of_wide 6 Try.f6 rfl rfl rfl rfl rfl rfl rfl ⟨rfl, rfl, rfl, rfl, rfl⟩ rfl rfl rfl rfl rfl (by kernel_rfl) Try.func6 (by kernel_rfl)
    (of_decide_eq_true (by kernel_rfl)) (by unfold Func.isWrapper; first | (rw [if_pos (by decide +kernel)]; kernel_rfl) | (rw [if_neg (by decide +kernel)]; exact ⟨rfl, rfl⟩))
    (fun os started H enc _ => trendTwo_lifted os started H enc)

theorem trendTwo_proved : Rows.TrendTwoSaid := trendTwo_over
#print axioms trendTwo_proved
end Go.Proofs.Ytcgkolaljgpphaa
