/- The law NestAllows, on the models. -/
import Derived.Test.YtgfjbgoehhnaeaaGreatCzML
import Derived.Test.YtgfjbgoehhnaeaaGreatCzK
set_option linter.unusedVariables false
set_option linter.unusedSimpArgs false
set_option linter.unusedSectionVars false
namespace Go.SM
open Go Go.VI
theorem tmod_two (n : Int) (h : ¬ n < 0) (h3 : ¬ n > 3) : Int.tmod n 2=0∨Int.tmod n 2=1:=by
  have : n=0∨n=1∨n=2∨n=3:=by omega
  rcases this with rfl | rfl | rfl | rfl <;> decide
theorem Allowed_same (x : Piece) (s : Sheet) (t : Int) : ∃ b,nest_Allowed x s t=some b∧sheetmetalref06_Allowed x s t=some b:=by
  unfold nest_Allowed sheetmetalref06_Allowed nest_from
  cases hm : x.Material.toList==s.Material.toList with
  | false=>exact ⟨false,by simp,by simp⟩
  | true =>
    by_cases hg : x.Gauge=s.Gauge
    · by_cases h0 : t < 0
      · exact ⟨false,by simp [hg,show ¬ 0≤t by omega],by simp [hg,h0]⟩
      · by_cases h3 : t > 3
        · exact ⟨false,by simp [hg,show 0≤t by omega,show ¬ t≤3 by omega],by simp [hg,h0,h3]⟩
        · refine ⟨if x.Grain=0 then true else if s.Grain=0 then true else ((x.Grain==s.Grain)==(Int.tmod t 2==0)), ?_, ?_⟩
          · simp only [hg,bne_self_eq_false,Bool.false_eq_true,if_false,if_true,show (0≤t)=True by simp; omega,show (t≤3)=True by simp; omega,decide_true,Option.bind_some,Bool.not_true,beq_iff_eq]
            by_cases q1 : x.Grain=0 <;> by_cases q2 : s.Grain=0 <;> simp [q1,q2]
          · simp only [hg,bne_self_eq_false,Bool.false_eq_true,if_false,if_true,h0,h3,decide_false,Option.bind_some,beq_iff_eq]
            by_cases q1 : x.Grain=0
            · simp [q1]
            · by_cases q2 : s.Grain=0
              · simp [q1,q2]
              · rcases tmod_two t h0 h3 with e | e
                · by_cases q3 : x.Grain=s.Grain
                  · simp [e,q3,q2]
                  · simp [q1,q2,e,q3]
                · by_cases q3 : x.Grain=s.Grain
                  · simp [e,q3,q2]
                  · have q4 : (x.Grain==s.Grain)=false:=by rw [beq_eq_false_iff_ne]; exact q3
                    simp [q1,q2,e,q3,bne]
    · exact ⟨false,by simp [hg],by simp [hg]⟩
end Go.SM
