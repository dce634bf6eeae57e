/- The law TopSetups: for every input the call returns true, and each argument reads afterwards as before. No condition. -/
import Derived.Test.YtppmnjiibmomoaaWT2
import Derived.Test.YtppmnjiibmomoaaSetupTop
import Derived.Test.YtppmnjiibmomoaaRows
set_option linter.unusedVariables false
set_option linter.unusedSimpArgs false
set_option linter.unusedSectionVars false
namespace Go.Proofs.Ytppmnjiibmomoaa
open Go Go.VI Go.SM Go.Proofs Go.ChangeShapes Go.WideShapes Go.ChangeAt Go.RowKit
set_option maxRecDepth 100000
theorem own_ : ownKnob Try.prog.godebug = none := by kernel_rfl
theorem laidOut_ : laidOutB Try.prog = true := by kernel_rfl
theorem rd_3 : Rd Try.prog 3 cI R64 := rd_i64 Try.underlying3
theorem rd_38 : Rd Try.prog 38 (cS cI) (RL R64) := rd_slice Try.underlying38 rd_3 (fun _ => by kernel_rfl) (by decide +kernel)
theorem rd_22 : Rd Try.prog 22 (cS (cS cI)) (RL (RL R64)) := rd_slice Try.underlying22 rd_38 (fun _ => by kernel_rfl) (by decide +kernel)
theorem rd_37 : Rd Try.prog 37 c_sheetmetallaw05_Rig R_sheetmetallaw05_Rig := by
  intro H enc W sp fuel cs x h
  have hl := (rd_fields Try.underlying37 h).1.trans (by kernel_rfl : Try.prog.cellsOf 37 = 2)
  obtain ⟨fu0, y0, h0⟩ := rd_field Try.underlying37 h 0 22 0 1 (by kernel_rfl)
  obtain ⟨a0, r0, q0⟩ := rd_22 h0
  obtain ⟨fu1, y1, h1⟩ := rd_field Try.underlying37 h 1 3 1 1 (by kernel_rfl)
  obtain ⟨a1, r1, q1⟩ := rd_3 h1
  exact ⟨⟨a0, a1⟩, ⟨r0, r1⟩, (RFl_cons (o := 0) (n := 1) q0 rfl (RFl_cons (o := 1) (n := 1) q1 rfl (RFl_nil (by simp [hl]))))⟩
theorem rd_95 : Rd Try.prog 95 c_Change R_Change := by
  intro H enc W sp fuel cs x h
  have hl := (rd_fields Try.underlying95 h).1.trans (by kernel_rfl : Try.prog.cellsOf 95 = 3)
  obtain ⟨fu0, y0, h0⟩ := rd_field Try.underlying95 h 0 3 0 1 (by kernel_rfl)
  obtain ⟨a0, r0, q0⟩ := rd_3 h0
  obtain ⟨fu1, y1, h1⟩ := rd_field Try.underlying95 h 1 3 1 1 (by kernel_rfl)
  obtain ⟨a1, r1, q1⟩ := rd_3 h1
  obtain ⟨fu2, y2, h2⟩ := rd_field Try.underlying95 h 2 3 2 1 (by kernel_rfl)
  obtain ⟨a2, r2, q2⟩ := rd_3 h2
  exact ⟨⟨a0, a1, a2⟩, ⟨r0, r1, r2⟩, (RFl_cons (o := 0) (n := 1) q0 rfl (RFl_cons (o := 1) (n := 1) q1 rfl (RFl_cons (o := 2) (n := 1) q2 rfl (RFl_nil (by simp [hl])))))⟩
theorem rd_54 : Rd Try.prog 54 (cS c_Change) (RL R_Change) := rd_slice Try.underlying54 rd_95 (fun _ => by kernel_rfl) (by decide +kernel)
theorem rd_35 : Rd Try.prog 35 c_Window R_Window := by
  intro H enc W sp fuel cs x h
  have hl := (rd_fields Try.underlying35 h).1.trans (by kernel_rfl : Try.prog.cellsOf 35 = 2)
  obtain ⟨fu0, y0, h0⟩ := rd_field Try.underlying35 h 0 3 0 1 (by kernel_rfl)
  obtain ⟨a0, r0, q0⟩ := rd_3 h0
  obtain ⟨fu1, y1, h1⟩ := rd_field Try.underlying35 h 1 3 1 1 (by kernel_rfl)
  obtain ⟨a1, r1, q1⟩ := rd_3 h1
  exact ⟨⟨a0, a1⟩, ⟨r0, r1⟩, (RFl_cons (o := 0) (n := 1) q0 rfl (RFl_cons (o := 1) (n := 1) q1 rfl (RFl_nil (by simp [hl]))))⟩
theorem rd_29 : Rd Try.prog 29 (cS c_Window) (RL R_Window) := rd_slice Try.underlying29 rd_35 (fun _ => by kernel_rfl) (by decide +kernel)
theorem topSetups_lifted (os : Os) (started : os.Started) (H : Type) (enc : TypeId × Value → H) :
    ReturnsInHanded {} Try.checked os 11 .any (Rows.topSetupsSpec.pre6 enc Try.prog Try.f11 Rows.topSetupsRow.domain false) (Rows.topSetupsSpec.post enc Try.prog Try.f11 false true false false) := by
  refine returnsInHanded_of_change (C := Try.checked) own_ started (by kernel_rfl) Try.func11
    (ChangeSpec.witness6 (enc := enc) (C := Try.checked) false ⟨#[], #[.agg #[.slice none 0 0, .int .i64 0], .slice none 0 0, .slice none 0 0], []⟩ 8 (by kernel_rfl) (by kernel_rfl) (by kernel_rfl) (by kernel_rfl)) ?_
  intro Wd base args ds gs before hval hW hcnd _
  obtain ⟨p, q, hA, hV, rfl, hfz, hnd⟩ := id hW
  rw [Try.params11] at hA hval
  obtain ⟨v0, v1, v2, d0, d1, d2, p0, p1, p2, rfl, rfl, rfl, h0, h1, h2⟩ := trodAll_three hA
  obtain ⟨rfl, rfl⟩ := trodVars_none hV
  obtain ⟨a0, r0, q0⟩ := arg_agg Try.underlying37 rd_37 (hval 0 37 v0 rfl rfl) h0
  obtain ⟨a1, r1, q1⟩ := arg_one (no_slice Try.underlying54 (hval 1 54 v1 rfl rfl)) rd_54 (fun y => (.sl (List.map c_Change y))) (fun _ => rfl) h1
  obtain ⟨a2, r2, q2⟩ := arg_one (no_slice Try.underlying29 (hval 2 29 v2 rfl rfl)) rd_29 (fun y => (.sl (List.map c_Window y))) (fun _ => rfl) h2
  refine (law_calls (vals := [v0, v1, v2]) (W.sheetmetaltop_TopSetups_ok ((fun a0 a1 a2 _ _ _ => SM.law_TopSetups a0 a1 a2) a0 a1 a2 r0 r1 r2)) rfl ?_).mono fun e W' he => ?_
  · intro i pv hi
    match i, hi with
    | 0, hi => obtain rfl := Option.some.inj hi; exact q0
    | 1, hi => obtain rfl := Option.some.inj hi; exact q1
    | 2, hi => obtain rfl := Option.some.inj hi; exact q2
    | n + 3, hi => simp at hi
  · obtain ⟨rfl, hb⟩ := he
    exact ⟨_, rfl, law_post laidOut_ hW rfl hb (by kernel_rfl) (by kernel_rfl) Try.underlying4 rfl rfl rfl⟩
theorem topSetups_holds : Rows.TopSetupsSaid :=
  OpenClaim.holds_of_wide 11 Try.f11 rfl rfl rfl rfl rfl rfl rfl ⟨rfl, rfl, rfl, rfl, rfl⟩ rfl rfl rfl rfl rfl (by kernel_rfl) Try.func11 (by kernel_rfl)
    (of_decide_eq_true (by kernel_rfl)) (by unfold Func.isWrapper; first | (rw [if_pos (by decide +kernel)]; kernel_rfl) | (rw [if_neg (by decide +kernel)]; exact ⟨rfl, rfl⟩))
    (fun os started H enc _ => topSetups_lifted os started H enc)
end Go.Proofs.Ytppmnjiibmomoaa
