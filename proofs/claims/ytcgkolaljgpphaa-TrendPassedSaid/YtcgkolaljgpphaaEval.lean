/- The answers that the law's begun asks, evaluated. -/
import Derived.Test.YtcgkolaljgpphaaOf
namespace Go.Proofs.Ytcgkolaljgpphaa
set_option linter.unusedVariables false
set_option linter.unusedSimpArgs false
open Go.RowKit

def bV1 : List Val := [⟨1, 1, ⟨#[]⟩⟩, ⟨3, 0, ⟨#[51]⟩⟩, ⟨1, 3, ⟨#[]⟩⟩]
def bV2 : List Val := [⟨0, 0, ⟨#[]⟩⟩]
theorem b_scan : scan bV1 = 0 := by decide +kernel
theorem b_nums : numsV bV1 = [floatOfInt .f64 1, floatOfInt .f64 3] := by decide +kernel
theorem b_mean : meanV [floatOfInt .f64 1, floatOfInt .f64 3] = 4611686018427387904 := by decide +kernel
theorem b_var : varV [floatOfInt .f64 1, floatOfInt .f64 3] = 4607182418800017408 := by decide +kernel
theorem b_least : leastV [floatOfInt .f64 1, floatOfInt .f64 3] = 4607182418800017408 := by decide +kernel
theorem b_most : mostV [floatOfInt .f64 1, floatOfInt .f64 3] = 4613937818241073152 := by decide +kernel
end Go.Proofs.Ytcgkolaljgpphaa
