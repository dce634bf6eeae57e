/- The program, and what is known of its equalities. -/
import Derived.Test.YtiodkdpfkchkjaaVHC3
import Derived.Test.YtiodkdpfkchkjaaProg
set_option linter.unusedVariables false
set_option linter.unusedSimpArgs false
set_option linter.unusedSectionVars false
namespace Go.Proofs.Ytiodkdpfkchkjaa
open Go Go.VI Go.Proofs
def eqn : TypeId → Nat := fun t => if Nat.beq t 23 = true then 2 else if Nat.beq t 36 = true then 4 else if Nat.beq t 41 = true then 4 else if Nat.beq t 100 = true then 4 else 0
theorem hE : ∀ t, 0 < eqn t → EqC Try.prog t (eqn t) := by
  intro t h
  unfold eqn at h ⊢
  split
  · rename_i e; obtain rfl := Nat.eq_of_beq_eq_true e; exact eqC_struct _ 23 2 (by kernel_rfl) (by kernel_rfl) (by kernel_rfl)
  split
  · rename_i e; obtain rfl := Nat.eq_of_beq_eq_true e; exact eqC_struct _ 36 4 (by kernel_rfl) (by kernel_rfl) (by kernel_rfl)
  split
  · rename_i e; obtain rfl := Nat.eq_of_beq_eq_true e; exact eqC_struct _ 41 4 (by kernel_rfl) (by kernel_rfl) (by kernel_rfl)
  split
  · rename_i e; obtain rfl := Nat.eq_of_beq_eq_true e; exact eqC_struct _ 100 4 (by kernel_rfl) (by kernel_rfl) (by kernel_rfl)
  all_goals simp_all
noncomputable def G : Prg := ⟨Try.prog, eqn, hE, by kernel_rfl⟩
end Go.Proofs.Ytiodkdpfkchkjaa
