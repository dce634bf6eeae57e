/- The sorts of cut: what they yield. -/
import Derived.Test.YtgfjbgoehhnaeaaGreatGCompact
import Derived.Test.YtgfjbgoehhnaeaaGreatCzMG
set_option linter.unusedVariables false
set_option linter.unusedSimpArgs false
set_option linter.unusedSectionVars false
namespace Go.SM
open Go Go.VI
set_option maxRecDepth 10000
theorem MO (h:List Int):dP h=Pi (brC cmp_Compare_int) h:=by kernel_rfl
theorem CL (h:List Int):uN h=Tc (fun x y=>x==y) 0 h:=by kernel_rfl
def ltI (x y:Int):Bool:=decide (x<y)
theorem ZQ:Xv ltI where
  asymm x y h:=by unfold ltI at *;simp at *;omega
  neg x y z h:=by unfold ltI at *;simp at *;omega
theorem O0 (x y:Int):cmp_Compare_int x y=some (if x<y then -1 else if y<x then 1 else 0):=by
  unfold cmp_Compare_int cmp_isNaN_int
  have e:∀ z:Int,(z != z)=false:=fun z=>by simp
  simp only [e,Option.bind_some,Bool.false_eq_true,if_false]
  by_cases h1:x<y
  · simp [h1]
  · by_cases h2:x>y
    · have:y<x:=h2
      simp [h1,h2,this]
    · have:¬ y<x:=h2
      simp [h1,h2,this]
theorem brI (β:Type) (x y:Int) (k:Bool→Option β):brC cmp_Compare_int β x y k=k (ltI x y):=by
  unfold brC ltI
  rw [O0,Option.bind_some]
  congr 1
  by_cases h1:x<y
  · simp [h1]
  · by_cases h2:y<x <;> simp [h1,h2]
theorem MP {l:List Int} (hl:l.length≤1073741824):∃ r,dP l=some r∧r.Perm l∧r.Pairwise fun x y=>ltI y x=false:=by
  rw [MO]
  exact KE (P:=fun _=>True) (d:=0) (fun β x y k _ _=>brI β x y k) ZQ ⟨by omega,fun _ _ _=>trivial⟩
theorem WF {l:List Int} (hl:l.length≤1073741824):∃ r,Um l=some r∧r.Pairwise (fun x y=>x<y)∧∀ x,x ∈ r↔x ∈ l:=by
  obtain ⟨r,h1,h2,h3⟩:=MP hl
  have hr:r.length=l.length:=h2.length_eq
  obtain ⟨q,q1,q2,q3⟩:=KP ZQ (fun x y a b=>by unfold ltI at a b;simp at a b;omega) (eqb:=fun x y=>x==y) (fun x y=>by simp) (0:Int) (l:=r) (by omega) h3
  refine ⟨q, ?_,q2.imp (fun h=>by unfold ltI at h;simpa using h),fun x=>by rw [q3,h2.mem_iff]⟩
  unfold Um
  simp only [Option.bind_some,h1,CL,q1]
end Go.SM
