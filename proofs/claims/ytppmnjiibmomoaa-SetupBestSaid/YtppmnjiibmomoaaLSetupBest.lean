/- The law SetupBest: for every input the call returns true, and each argument reads afterwards as before. No condition. -/
import Derived.Test.YtppmnjiibmomoaaWQ2
import Derived.Test.YtppmnjiibmomoaaSetupBest2
import Derived.Test.YtppmnjiibmomoaaRows
set_option linter.unusedVariables false
set_option linter.unusedSimpArgs false
set_option linter.unusedSectionVars false
namespace Go.Proofs.Ytppmnjiibmomoaa
open Go Go.VI Go.SM Go.Proofs Go.ChangeShapes Go.WideShapes Go.ChangeAt Go.RowKit
set_option maxRecDepth 100000
theorem own_ : ownKnob Try.prog.godebug = none := by kernel_rfl
theorem laidOut_ : laidOutB Try.prog = true := by kernel_rfl
theorem rd_3 : Rd Try.prog 3 cI R64 := rd_i64 Try.underlying3
theorem rd_38 : Rd Try.prog 38 (cS cI) (RL R64) := rd_slice Try.underlying38 rd_3 (fun _ => by kernel_rfl) (by decide +kernel)
theorem rd_22 : Rd Try.prog 22 (cS (cS cI)) (RL (RL R64)) := rd_slice Try.underlying22 rd_38 (fun _ => by kernel_rfl) (by decide +kernel)
theorem rd_43 : Rd Try.prog 43 (cS (cS (cS cI))) (RL (RL (RL R64))) := rd_slice Try.underlying43 rd_22 (fun _ => by kernel_rfl) (by decide +kernel)
theorem setupBest_lifted (os : Os) (started : os.Started) (H : Type) (enc : TypeId × Value → H) :
    ReturnsInHanded {} Try.checked os 8 .any (Rows.setupBestSpec.pre6 enc Try.prog Try.f8 Rows.setupBestRow.domain false) (Rows.setupBestSpec.post enc Try.prog Try.f8 false true false false) := by
  refine returnsInHanded_of_change (C := Try.checked) own_ started (by kernel_rfl) Try.func8
    (ChangeSpec.witness6 (enc := enc) (C := Try.checked) false ⟨#[], #[.slice none 0 0, .int .i64 0], []⟩ 8 (by kernel_rfl) (by kernel_rfl) (by kernel_rfl) (by kernel_rfl)) ?_
  intro Wd base args ds gs before hval hW hcnd _
  obtain ⟨p, q, hA, hV, rfl, hfz, hnd⟩ := id hW
  rw [Try.params8] at hA hval
  obtain ⟨v0, v1, d0, d1, p0, p1, rfl, rfl, rfl, h0, h1⟩ := trodAll_two hA
  obtain ⟨rfl, rfl⟩ := trodVars_none hV
  obtain ⟨a0, r0, q0⟩ := arg_one (no_slice Try.underlying43 (hval 0 43 v0 rfl rfl)) rd_43 (fun y => (.sl (List.map (cS (cS cI)) y))) (fun _ => rfl) h0
  obtain ⟨a1, r1, q1⟩ := arg_one (no_int Try.underlying3 (hval 1 3 v1 rfl rfl)) rd_3 (fun y => (vI y)) (fun _ => rfl) h1
  refine (law_calls (vals := [v0, v1]) (W.sheetmetallaw05_SetupBest_ok ((fun a0 a1 _ _ => SM.law_SetupBest a0 a1) a0 a1 r0 r1)) rfl ?_).mono fun e W' he => ?_
  · intro i pv hi
    match i, hi with
    | 0, hi => obtain rfl := Option.some.inj hi; exact q0
    | 1, hi => obtain rfl := Option.some.inj hi; exact q1
    | n + 2, hi => simp at hi
  · obtain ⟨rfl, hb⟩ := he
    exact ⟨_, rfl, law_post laidOut_ hW rfl hb (by kernel_rfl) (by kernel_rfl) Try.underlying4 rfl rfl rfl⟩
theorem setupBest_holds : Rows.SetupBestSaid :=
  OpenClaim.holds_of_wide 8 Try.f8 rfl rfl rfl rfl rfl rfl rfl ⟨rfl, rfl, rfl, rfl, rfl⟩ rfl rfl rfl rfl rfl (by kernel_rfl) Try.func8 (by kernel_rfl)
    (of_decide_eq_true (by kernel_rfl)) (by unfold Func.isWrapper; first | (rw [if_pos (by decide +kernel)]; kernel_rfl) | (rw [if_neg (by decide +kernel)]; exact ⟨rfl, rfl⟩))
    (fun os started H enc _ => setupBest_lifted os started H enc)
end Go.Proofs.Ytppmnjiibmomoaa
