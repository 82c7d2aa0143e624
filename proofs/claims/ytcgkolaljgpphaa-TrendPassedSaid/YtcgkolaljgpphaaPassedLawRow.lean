/- quadrillelaw32.TrendPassed answers true at every input, and leaves its arguments as they were. No condition. -/
import Derived.Test.YtcgkolaljgpphaaPassedLaw
namespace Go.Proofs.Ytcgkolaljgpphaa
set_option linter.unusedVariables false
set_option linter.unusedSimpArgs false
open Go.RowKit Go.ChangeShapes Go.WideShapes Go.ChangeAt

set_option maxRecDepth 100000 in
theorem trendPassed_lifted (os : Os) (started : os.Started) (H : Type) (enc : TypeId × Value → H) :
    ReturnsInHanded {} Try.checked os 7 .any (Rows.trendPassedSpec.pre6 enc Try.prog Try.f7 Rows.trendPassedRow.domain false) (Rows.trendPassedSpec.post enc Try.prog Try.f7 false true false false) := by
  refine returnsInHanded_of_change_sized (C := Try.checked) own_knob started (by kernel_rfl) Try.func7
    (ChangeSpec.witness6 (enc := enc) (C := Try.checked) false ⟨#[], #[.slice none 0 0, .int .u8 0, .int .u8 0], []⟩ 8 (by kernel_rfl) (by kernel_rfl) (by kernel_rfl) (by kernel_rfl)) ?_
  intro W base args ds gs before hval0 hW _ hsz0 _
  have hval : ∀ (j : Nat) t v, Try.f7.params[j]? = some t → args[j]? = some v → Value.okWide Try.prog W .any base t v := hval0
  have hW' := hW
  obtain ⟨p, q, hA0, hV, rfl, _, _⟩ := hW
  have hA : DataW.TrodAll enc Try.prog W 0 (fun _ => true) true Try.f7.params.toList args.toList ds p := hA0
  obtain ⟨rfl, rfl⟩ := trodVars_none hV
  have hsz : (DataW.weightsEach Try.prog (Try.f7.params.toList ++ []) (ds ++ [])).all (· ≤ reachBytes) = true := hsz0
  simp only [List.append_nil] at hsz
  rw [Try.params7] at hA hval hsz
  obtain ⟨v0, v1, v2, d0, d1, d2, p0, p1, p2, rfl, rfl, rfl, h0, h1, h2⟩ := trodAll_three hA
  obtain ⟨xA, xl, xc, x, rfl, rfl, xcap, xv, xwf, xd⟩ := open_wide (hval 0 36 v0 rfl rfl) h0
  have xs := sized_wide hsz (j := 0) rfl rfl xd
  obtain ⟨a, rfl, _, _, aw⟩ := open_int Try.underlying5 (hval 1 5 v1 rfl rfl) h1
  obtain ⟨b, rfl, _, _, bw⟩ := open_int Try.underlying5 (hval 2 5 v2 rfl rfl) h2
  exact calls_law laidOut (by kernel_rfl) rfl Try.underlying4 rfl hW' ⟨rfl, rfl, rfl⟩ (trendPassed_walk xA xc x.length x a b W xv (fun v hv => by have h := xwf v hv; simpa [Lit.wf, IntKind.min, IntKind.max, IntKind.signed, IntKind.bits] using h) rfl (by omega) (wf8 aw) (wf8 bw))

theorem trendPassed_over : Rows.trendPassedRow.holds Try.pinned (OpenSpec.ofChange Rows.trendPassedSpec) :=
  OpenClaim.holds_of_wide 7 Try.f7 rfl rfl rfl rfl rfl rfl rfl ⟨rfl, rfl, rfl, rfl, rfl⟩ rfl rfl rfl rfl rfl (by kernel_rfl) Try.func7 (by kernel_rfl)
    (of_decide_eq_true (by kernel_rfl)) (by unfold Func.isWrapper; first | (rw [if_pos (by decide +kernel)]; kernel_rfl) | (rw [if_neg (by decide +kernel)]; exact ⟨rfl, rfl⟩))
    (fun os started H enc _ => trendPassed_lifted os started H enc)

theorem trendPassed_proved : Rows.TrendPassedSaid := trendPassed_over
#print axioms trendPassed_proved
end Go.Proofs.Ytcgkolaljgpphaa
