/- quadrillelaw32.TrendLines answers true at every input, and leaves its arguments as they were. No condition. -/
import Derived.Test.YtcgkolaljgpphaaLinesLaw
namespace Go.Proofs.Ytcgkolaljgpphaa
set_option linter.unusedVariables false
set_option linter.unusedSimpArgs false
open Go.RowKit Go.ChangeShapes Go.WideShapes Go.ChangeAt

set_option maxRecDepth 100000 in
theorem trendLines_lifted (os : Os) (started : os.Started) (H : Type) (enc : TypeId × Value → H) :
    ReturnsInHanded {} Try.checked os 4 .any (Rows.trendLinesSpec.pre6 enc Try.prog Try.f4 Rows.trendLinesRow.domain false) (Rows.trendLinesSpec.post enc Try.prog Try.f4 false true false false) := by
  refine returnsInHanded_of_change_sized (C := Try.checked) own_knob started (by kernel_rfl) Try.func4
    (ChangeSpec.witness6 (enc := enc) (C := Try.checked) false ⟨#[], #[.slice none 0 0, .slice none 0 0], []⟩ 8 (by kernel_rfl) (by kernel_rfl) (by kernel_rfl) (by kernel_rfl)) ?_
  intro W base args ds gs before hval0 hW _ hsz0 _
  have hval : ∀ (j : Nat) t v, Try.f4.params[j]? = some t → args[j]? = some v → Value.okWide Try.prog W .any base t v := hval0
  have hW' := hW
  obtain ⟨p, q, hA0, hV, rfl, _, _⟩ := hW
  have hA : DataW.TrodAll enc Try.prog W 0 (fun _ => true) true Try.f4.params.toList args.toList ds p := hA0
  obtain ⟨rfl, rfl⟩ := trodVars_none hV
  have hsz : (DataW.weightsEach Try.prog (Try.f4.params.toList ++ []) (ds ++ [])).all (· ≤ reachBytes) = true := hsz0
  simp only [List.append_nil] at hsz
  rw [Try.params4] at hA hval hsz
  obtain ⟨v0, v1, d0, d1, p0, p1, rfl, rfl, rfl, h0, h1⟩ := trodAll_two hA
  obtain ⟨xA, xl, xc, x, rfl, rfl, xcap, xv, xwf, xd⟩ := open_vals (hval 0 22 v0 rfl rfl) h0
  have xs := sized_vals hsz (j := 0) rfl rfl xd
  obtain ⟨yA, yl, yc, y, rfl, rfl, ycap, yv, ywf, yd⟩ := open_vals (hval 1 22 v1 rfl rfl) h1
  have ys := sized_vals hsz (j := 1) rfl rfl yd
  exact calls_law laidOut (by kernel_rfl) rfl Try.underlying4 rfl hW' ⟨rfl, rfl, rfl⟩ (trendLines_walk xA yA xc yc x.length y.length x y W xv yv (fun v hv => ⟨wf64 (xwf v hv).1, wf64 (xwf v hv).2, xs.2 v hv⟩) (fun v hv => ⟨wf64 (ywf v hv).1, wf64 (ywf v hv).2, ys.2 v hv⟩) rfl rfl xcap ycap (fun e => by subst e; exact nil_vals h0) (fun e => by subst e; exact nil_vals h1))

theorem trendLines_over : Rows.trendLinesRow.holds Try.pinned (OpenSpec.ofChange Rows.trendLinesSpec) :=
  OpenClaim.holds_of_wide 4 Try.f4 rfl rfl rfl rfl rfl rfl rfl ⟨rfl, rfl, rfl, rfl, rfl⟩ rfl rfl rfl rfl rfl (by kernel_rfl) Try.func4 (by kernel_rfl)
    (of_decide_eq_true (by kernel_rfl)) (by unfold Func.isWrapper; first | (rw [if_pos (by decide +kernel)]; kernel_rfl) | (rw [if_neg (by decide +kernel)]; exact ⟨rfl, rfl⟩))
    (fun os started H enc _ => trendLines_lifted os started H enc)

theorem trendLines_proved : Rows.TrendLinesSaid := trendLines_over
#print axioms trendLines_proved
end Go.Proofs.Ytcgkolaljgpphaa
