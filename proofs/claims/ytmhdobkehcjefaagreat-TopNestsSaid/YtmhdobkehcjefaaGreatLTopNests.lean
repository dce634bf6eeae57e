/- The law TopNests: for every input the call returns true, and each argument reads afterwards as before. No condition. -/
import Derived.Test.YtmhdobkehcjefaaGreatLTopNestsA
import Derived.Test.YtmhdobkehcjefaaGreatRows
set_option linter.unusedVariables false
set_option linter.unusedSimpArgs false
set_option linter.unusedSectionVars false
namespace Go.Proofs.YtmhdobkehcjefaaGreat
open Go Go.VI Go.SM Go.Proofs Go.ChangeShapes Go.WideShapes Go.ChangeAt Go.RowKit
set_option maxRecDepth 100000
theorem kE {a b:Bool} (h:a=true) (g:b=true):(a&&b)=true:=by rw [h,g];rfl
set_option maxHeartbeats 0
theorem topNests_holds:Rows.TopNestsSaid:=by
 refine OpenClaim.holds_of_wide 3 Tryz.f3 rfl rfl rfl rfl rfl rfl rfl ⟨rfl,rfl,rfl,rfl,rfl⟩ rfl rfl rfl rfl rfl (by kernel_rfl) Tryz.func3 ?_
  (of_decide_eq_true (by kernel_rfl)) (by unfold Func.isWrapper;first | (rw [if_pos (by decide +kernel)];kernel_rfl) | (rw [if_neg (by decide +kernel)];exact ⟨rfl,rfl⟩))
  (fun os started H enc _=>Tt os started H enc)
 unfold joinedFacts
 refine kE ?_ ?_
 refine kE ?_ ?_
 refine kE ?_ ?_
 refine kE ?_ ?_
 refine kE ?_ ?_
 refine kE ?_ ?_
 refine kE ?_ ?_
 refine kE ?_ ?_
 refine kE ?_ ?_
 refine kE ?_ ?_
 refine kE ?_ ?_
 refine kE ?_ ?_
 refine kE ?_ ?_
 refine kE ?_ ?_
 refine kE ?_ ?_
 refine kE ?_ ?_
 refine kE ?_ ?_
 refine kE ?_ ?_
 refine kE ?_ ?_
 refine kE ?_ ?_
 refine kE ?_ ?_
 refine kE ?_ ?_
 refine kE ?_ ?_
 refine kE ?_ ?_
 refine kE ?_ ?_
 refine kE ?_ ?_
 refine kE ?_ ?_
 refine kE ?_ ?_
 refine kE ?_ ?_
 refine kE ?_ ?_
 refine kE ?_ ?_
 ·decide +kernel
 ·decide +kernel
 ·decide +kernel
 ·decide +kernel
 ·decide +kernel
 ·decide +kernel
 ·decide +kernel
 ·decide +kernel
 ·decide +kernel
 ·decide +kernel
 ·decide +kernel
 ·decide +kernel
 ·decide +kernel
 ·decide +kernel
 ·decide +kernel
 ·decide +kernel
 ·decide +kernel
 ·decide +kernel
 ·decide +kernel
 ·decide +kernel
 ·decide +kernel
 ·decide +kernel
 ·decide +kernel
 ·decide +kernel
 ·decide +kernel
 ·decide +kernel
 ·decide +kernel
 ·decide +kernel
 ·decide +kernel
 ·decide +kernel
 ·decide +kernel
 ·decide +kernel
end Go.Proofs.YtmhdobkehcjefaaGreat
