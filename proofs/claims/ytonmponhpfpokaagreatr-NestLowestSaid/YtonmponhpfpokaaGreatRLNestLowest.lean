/- The law NestLowest: for every input the call returns true, and each argument reads afterwards as before. No condition. -/
import Derived.Test.YtonmponhpfpokaaGreatRLNestLowestA
import Derived.Test.YtonmponhpfpokaaGreatRRows
set_option linter.unusedVariables false
set_option linter.unusedSimpArgs false
set_option linter.unusedSectionVars false
namespace Go.Proofs.YtonmponhpfpokaaGreatR
open Go Go.VI Go.SM Go.Proofs Go.ChangeShapes Go.WideShapes Go.ChangeAt Go.RowKit
set_option maxRecDepth 100000
theorem iF {a b:Bool} (h:a=true) (g:b=true):(a&&b)=true:=by rw [h,g];rfl
set_option maxHeartbeats 0
theorem nestLowest_holds:Rows.NestLowestSaid:=by
 refine OpenClaim.holds_of_wide 9 Tryz.f9 rfl rfl rfl rfl rfl rfl rfl ⟨rfl,rfl,rfl,rfl,rfl⟩ rfl rfl rfl rfl rfl (by kernel_rfl) Tryz.func9 ?_
  (of_decide_eq_true (by kernel_rfl)) (by unfold Func.isWrapper;first | (rw [if_pos (by decide +kernel)];kernel_rfl) | (rw [if_neg (by decide +kernel)];exact ⟨rfl,rfl⟩))
  (fun os started H enc _=>Jx os started H enc)
 unfold joinedFacts
 refine iF ?_ ?_
 refine iF ?_ ?_
 refine iF ?_ ?_
 refine iF ?_ ?_
 refine iF ?_ ?_
 refine iF ?_ ?_
 refine iF ?_ ?_
 refine iF ?_ ?_
 refine iF ?_ ?_
 refine iF ?_ ?_
 refine iF ?_ ?_
 refine iF ?_ ?_
 refine iF ?_ ?_
 refine iF ?_ ?_
 refine iF ?_ ?_
 refine iF ?_ ?_
 refine iF ?_ ?_
 refine iF ?_ ?_
 refine iF ?_ ?_
 refine iF ?_ ?_
 refine iF ?_ ?_
 refine iF ?_ ?_
 refine iF ?_ ?_
 refine iF ?_ ?_
 refine iF ?_ ?_
 refine iF ?_ ?_
 refine iF ?_ ?_
 refine iF ?_ ?_
 refine iF ?_ ?_
 refine iF ?_ ?_
 refine iF ?_ ?_
 ·decide +kernel
 ·decide +kernel
 ·decide +kernel
 ·decide +kernel
 ·decide +kernel
 ·decide +kernel
 ·decide +kernel
 ·decide +kernel
 ·decide +kernel
 ·decide +kernel
 ·decide +kernel
 ·decide +kernel
 ·decide +kernel
 ·decide +kernel
 ·decide +kernel
 ·decide +kernel
 ·decide +kernel
 ·decide +kernel
 ·decide +kernel
 ·decide +kernel
 ·decide +kernel
 ·decide +kernel
 ·decide +kernel
 ·decide +kernel
 ·decide +kernel
 ·decide +kernel
 ·decide +kernel
 ·decide +kernel
 ·decide +kernel
 ·decide +kernel
 ·decide +kernel
 ·decide +kernel
end Go.Proofs.YtonmponhpfpokaaGreatR
