/- The law GeomSweepHolds: for every input the call returns true, and each argument reads afterwards as before. No condition. -/
import Derived.Test.YtiodkdpfkchkjaaWT2
import Derived.Test.YtiodkdpfkchkjaaHullSweep
import Derived.Test.YtiodkdpfkchkjaaRows
set_option linter.unusedVariables false
set_option linter.unusedSimpArgs false
set_option linter.unusedSectionVars false
namespace Go.Proofs.Ytiodkdpfkchkjaa
open Go Go.VI Go.SM Go.Proofs Go.ChangeShapes Go.WideShapes Go.ChangeAt Go.RowKit
set_option maxRecDepth 100000
theorem own_ : ownKnob Try.prog.godebug = none := by kernel_rfl
theorem laidOut_ : laidOutB Try.prog = true := by kernel_rfl
theorem rd_3 : Rd Try.prog 3 cI R64 := rd_i64 Try.underlying3
theorem rd_34 : Rd Try.prog 34 c_Spot R_Spot := by
  intro H enc W sp fuel cs x h
  have hl := (rd_fields Try.underlying34 h).1.trans (by kernel_rfl : Try.prog.cellsOf 34 = 2)
  obtain ⟨fu0, y0, h0⟩ := rd_field Try.underlying34 h 0 3 0 1 (by kernel_rfl)
  obtain ⟨a0, r0, q0⟩ := rd_3 h0
  obtain ⟨fu1, y1, h1⟩ := rd_field Try.underlying34 h 1 3 1 1 (by kernel_rfl)
  obtain ⟨a1, r1, q1⟩ := rd_3 h1
  exact ⟨⟨a0, a1⟩, ⟨r0, r1⟩, (RFl_cons (o := 0) (n := 1) q0 rfl (RFl_cons (o := 1) (n := 1) q1 rfl (RFl_nil (by simp [hl]))))⟩
theorem rd_53 : Rd Try.prog 53 (cS c_Spot) (RL R_Spot) := rd_slice Try.underlying53 rd_34 (fun _ => by kernel_rfl) (by decide +kernel)
theorem geomSweepHolds_lifted (os : Os) (started : os.Started) (H : Type) (enc : TypeId × Value → H) :
    ReturnsInHanded {} Try.checked os 12 .any (Rows.geomSweepHoldsSpec.pre6 enc Try.prog Try.f12 Rows.geomSweepHoldsRow.domain false) (Rows.geomSweepHoldsSpec.post enc Try.prog Try.f12 false true false false) := by
  refine returnsInHanded_of_change (C := Try.checked) own_ started (by kernel_rfl) Try.func12
    (ChangeSpec.witness6 (enc := enc) (C := Try.checked) false ⟨#[], #[.slice none 0 0, .int .i64 0, .int .i64 0], []⟩ 8 (by kernel_rfl) (by kernel_rfl) (by kernel_rfl) (by kernel_rfl)) ?_
  intro Wd base args ds gs before hval hW hcnd _
  obtain ⟨p, q, hA, hV, rfl, hfz, hnd⟩ := id hW
  rw [Try.params12] at hA hval
  obtain ⟨v0, v1, v2, d0, d1, d2, p0, p1, p2, rfl, rfl, rfl, h0, h1, h2⟩ := trodAll_three hA
  obtain ⟨rfl, rfl⟩ := trodVars_none hV
  obtain ⟨a0, r0, q0⟩ := arg_one (no_slice Try.underlying53 (hval 0 53 v0 rfl rfl)) rd_53 (fun y => (.sl (List.map c_Spot y))) (fun _ => rfl) h0
  obtain ⟨a1, r1, q1⟩ := arg_one (no_int Try.underlying3 (hval 1 3 v1 rfl rfl)) rd_3 (fun y => (vI y)) (fun _ => rfl) h1
  obtain ⟨a2, r2, q2⟩ := arg_one (no_int Try.underlying3 (hval 2 3 v2 rfl rfl)) rd_3 (fun y => (vI y)) (fun _ => rfl) h2
  refine (law_calls (vals := [v0, v1, v2]) (W.sheetmetallaw01_GeomSweepHolds_ok ((fun a0 a1 a2 _ _ _ => SM.law_GeomSweepHolds a0 a1 a2) a0 a1 a2 r0 r1 r2)) rfl ?_).mono fun e W' he => ?_
  · intro i pv hi
    match i, hi with
    | 0, hi => obtain rfl := Option.some.inj hi; exact q0
    | 1, hi => obtain rfl := Option.some.inj hi; exact q1
    | 2, hi => obtain rfl := Option.some.inj hi; exact q2
    | n + 3, hi => simp at hi
  · obtain ⟨rfl, hb⟩ := he
    exact ⟨_, rfl, law_post laidOut_ hW rfl hb (by kernel_rfl) (by kernel_rfl) Try.underlying4 rfl rfl rfl⟩
theorem geomSweepHolds_holds : Rows.GeomSweepHoldsSaid :=
  OpenClaim.holds_of_wide 12 Try.f12 rfl rfl rfl rfl rfl rfl rfl ⟨rfl, rfl, rfl, rfl, rfl⟩ rfl rfl rfl rfl rfl (by kernel_rfl) Try.func12 (by kernel_rfl)
    (of_decide_eq_true (by kernel_rfl)) (by unfold Func.isWrapper; first | (rw [if_pos (by decide +kernel)]; kernel_rfl) | (rw [if_neg (by decide +kernel)]; exact ⟨rfl, rfl⟩))
    (fun os started H enc _ => geomSweepHolds_lifted os started H enc)
end Go.Proofs.Ytiodkdpfkchkjaa
