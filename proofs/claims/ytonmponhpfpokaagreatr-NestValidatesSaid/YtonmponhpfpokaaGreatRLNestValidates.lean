/- The law NestValidates: for every input the call returns true, and each argument reads afterwards as before. No condition. -/
import Derived.Test.YtonmponhpfpokaaGreatRWV4
import Derived.Test.YtonmponhpfpokaaGreatRNePiece
import Derived.Test.YtonmponhpfpokaaGreatRRows
set_option linter.unusedVariables false
set_option linter.unusedSimpArgs false
set_option linter.unusedSectionVars false
namespace Go.Proofs.YtonmponhpfpokaaGreatR
open Go Go.VI Go.SM Go.Proofs Go.ChangeShapes Go.WideShapes Go.ChangeAt Go.RowKit
set_option maxRecDepth 100000
theorem own_ : ownKnob Tryz.prog.godebug = none := by kernel_rfl
theorem laidOut_ : laidOutB Tryz.prog = true := by kernel_rfl
theorem rd_9 : Rd Tryz.prog 9 cStr RT := rd_str Tryz.underlying9
theorem rd_3 : Rd Tryz.prog 3 cI R64 := rd_i64 Tryz.underlying3
theorem rd_86 : Rd Tryz.prog 86 c_Rect R_Rect := by
  intro H enc W sp fuel cs x h
  have hl := (rd_fields Tryz.underlying86 h).1.trans (by kernel_rfl : Tryz.prog.cellsOf 86 = 4)
  obtain ⟨fu0, y0, h0⟩ := rd_field Tryz.underlying86 h 0 3 0 1 (by kernel_rfl)
  obtain ⟨a0, r0, q0⟩ := rd_3 h0
  obtain ⟨fu1, y1, h1⟩ := rd_field Tryz.underlying86 h 1 3 1 1 (by kernel_rfl)
  obtain ⟨a1, r1, q1⟩ := rd_3 h1
  obtain ⟨fu2, y2, h2⟩ := rd_field Tryz.underlying86 h 2 3 2 1 (by kernel_rfl)
  obtain ⟨a2, r2, q2⟩ := rd_3 h2
  obtain ⟨fu3, y3, h3⟩ := rd_field Tryz.underlying86 h 3 3 3 1 (by kernel_rfl)
  obtain ⟨a3, r3, q3⟩ := rd_3 h3
  exact ⟨⟨a0, a1, a2, a3⟩, ⟨r0, r1, r2, r3⟩, (RFl_cons (o := 0) (n := 1) q0 rfl (RFl_cons (o := 1) (n := 1) q1 rfl (RFl_cons (o := 2) (n := 1) q2 rfl (RFl_cons (o := 3) (n := 1) q3 rfl (RFl_nil (by simp [hl]))))))⟩
theorem rd_22 : Rd Tryz.prog 22 (cS c_Rect) (RL R_Rect) := rd_slice Tryz.underlying22 rd_86 (fun _ => by kernel_rfl) (by decide +kernel)
theorem rd_24 : Rd Tryz.prog 24 c_Sheet R_Sheet := by
  intro H enc W sp fuel cs x h
  have hl := (rd_fields Tryz.underlying24 h).1.trans (by kernel_rfl : Tryz.prog.cellsOf 24 = 8)
  obtain ⟨fu0, y0, h0⟩ := rd_field Tryz.underlying24 h 0 9 0 1 (by kernel_rfl)
  obtain ⟨a0, r0, q0⟩ := rd_9 h0
  obtain ⟨fu1, y1, h1⟩ := rd_field Tryz.underlying24 h 1 9 1 1 (by kernel_rfl)
  obtain ⟨a1, r1, q1⟩ := rd_9 h1
  obtain ⟨fu2, y2, h2⟩ := rd_field Tryz.underlying24 h 2 3 2 1 (by kernel_rfl)
  obtain ⟨a2, r2, q2⟩ := rd_3 h2
  obtain ⟨fu3, y3, h3⟩ := rd_field Tryz.underlying24 h 3 3 3 1 (by kernel_rfl)
  obtain ⟨a3, r3, q3⟩ := rd_3 h3
  obtain ⟨fu4, y4, h4⟩ := rd_field Tryz.underlying24 h 4 3 4 1 (by kernel_rfl)
  obtain ⟨a4, r4, q4⟩ := rd_3 h4
  obtain ⟨fu5, y5, h5⟩ := rd_field Tryz.underlying24 h 5 3 5 1 (by kernel_rfl)
  obtain ⟨a5, r5, q5⟩ := rd_3 h5
  obtain ⟨fu6, y6, h6⟩ := rd_field Tryz.underlying24 h 6 22 6 1 (by kernel_rfl)
  obtain ⟨a6, r6, q6⟩ := rd_22 h6
  obtain ⟨fu7, y7, h7⟩ := rd_field Tryz.underlying24 h 7 22 7 1 (by kernel_rfl)
  obtain ⟨a7, r7, q7⟩ := rd_22 h7
  exact ⟨⟨a0, a1, a2, a3, a4, a5, a6, a7⟩, ⟨r0, r1, r2, r3, r4, r5, r6, r7⟩, (RFl_cons (o := 0) (n := 1) q0 rfl (RFl_cons (o := 1) (n := 1) q1 rfl (RFl_cons (o := 2) (n := 1) q2 rfl (RFl_cons (o := 3) (n := 1) q3 rfl (RFl_cons (o := 4) (n := 1) q4 rfl (RFl_cons (o := 5) (n := 1) q5 rfl (RFl_cons (o := 6) (n := 1) q6 rfl (RFl_cons (o := 7) (n := 1) q7 rfl (RFl_nil (by simp [hl]))))))))))⟩
theorem rd_26 : Rd Tryz.prog 26 c_Piece R_Piece := by
  intro H enc W sp fuel cs x h
  have hl := (rd_fields Tryz.underlying26 h).1.trans (by kernel_rfl : Tryz.prog.cellsOf 26 = 7)
  obtain ⟨fu0, y0, h0⟩ := rd_field Tryz.underlying26 h 0 9 0 1 (by kernel_rfl)
  obtain ⟨a0, r0, q0⟩ := rd_9 h0
  obtain ⟨fu1, y1, h1⟩ := rd_field Tryz.underlying26 h 1 9 1 1 (by kernel_rfl)
  obtain ⟨a1, r1, q1⟩ := rd_9 h1
  obtain ⟨fu2, y2, h2⟩ := rd_field Tryz.underlying26 h 2 3 2 1 (by kernel_rfl)
  obtain ⟨a2, r2, q2⟩ := rd_3 h2
  obtain ⟨fu3, y3, h3⟩ := rd_field Tryz.underlying26 h 3 3 3 1 (by kernel_rfl)
  obtain ⟨a3, r3, q3⟩ := rd_3 h3
  obtain ⟨fu4, y4, h4⟩ := rd_field Tryz.underlying26 h 4 22 4 1 (by kernel_rfl)
  obtain ⟨a4, r4, q4⟩ := rd_22 h4
  obtain ⟨fu5, y5, h5⟩ := rd_field Tryz.underlying26 h 5 22 5 1 (by kernel_rfl)
  obtain ⟨a5, r5, q5⟩ := rd_22 h5
  obtain ⟨fu6, y6, h6⟩ := rd_field Tryz.underlying26 h 6 22 6 1 (by kernel_rfl)
  obtain ⟨a6, r6, q6⟩ := rd_22 h6
  exact ⟨⟨a0, a1, a2, a3, a4, a5, a6⟩, ⟨r0, r1, r2, r3, r4, r5, r6⟩, (RFl_cons (o := 0) (n := 1) q0 rfl (RFl_cons (o := 1) (n := 1) q1 rfl (RFl_cons (o := 2) (n := 1) q2 rfl (RFl_cons (o := 3) (n := 1) q3 rfl (RFl_cons (o := 4) (n := 1) q4 rfl (RFl_cons (o := 5) (n := 1) q5 rfl (RFl_cons (o := 6) (n := 1) q6 rfl (RFl_nil (by simp [hl])))))))))⟩
theorem rd_4 : Rd Tryz.prog 4 cB RT := rd_bool Tryz.underlying4
theorem rd_28 : Rd Tryz.prog 28 c_Settings R_Settings := by
  intro H enc W sp fuel cs x h
  have hl := (rd_fields Tryz.underlying28 h).1.trans (by kernel_rfl : Tryz.prog.cellsOf 28 = 3)
  obtain ⟨fu0, y0, h0⟩ := rd_field Tryz.underlying28 h 0 3 0 1 (by kernel_rfl)
  obtain ⟨a0, r0, q0⟩ := rd_3 h0
  obtain ⟨fu1, y1, h1⟩ := rd_field Tryz.underlying28 h 1 3 1 1 (by kernel_rfl)
  obtain ⟨a1, r1, q1⟩ := rd_3 h1
  obtain ⟨fu2, y2, h2⟩ := rd_field Tryz.underlying28 h 2 4 2 1 (by kernel_rfl)
  obtain ⟨a2, r2, q2⟩ := rd_4 h2
  exact ⟨⟨a0, a1, a2⟩, ⟨r0, r1, r2⟩, (RFl_cons (o := 0) (n := 1) q0 rfl (RFl_cons (o := 1) (n := 1) q1 rfl (RFl_cons (o := 2) (n := 1) q2 rfl (RFl_nil (by simp [hl])))))⟩
theorem nestValidates_lifted (os : Os) (started : os.Started) (H : Type) (enc : TypeId × Value → H) :
    ReturnsInHanded {} Tryz.checked os 3 .any (Rows.nestValidatesSpec.pre6 enc Tryz.prog Tryz.f3 Rows.nestValidatesRow.domain false) (Rows.nestValidatesSpec.post enc Tryz.prog Tryz.f3 false true false false) := by
  refine returnsInHanded_of_change_shaped (C := Tryz.checked) own_ started (by kernel_rfl) Tryz.func3
    (ChangeSpec.witness6 (enc := enc) (C := Tryz.checked) false ⟨#[], #[.agg #[.string ByteArray.empty, .string ByteArray.empty, .int .i64 0, .int .i64 0, .int .i64 0, .int .i64 0, .slice none 0 0, .slice none 0 0], .agg #[.string ByteArray.empty, .string ByteArray.empty, .int .i64 0, .int .i64 0, .slice none 0 0, .slice none 0 0, .slice none 0 0], .agg #[.int .i64 0, .int .i64 0, .bool false]], []⟩ 8 (by kernel_rfl) (by kernel_rfl) (by kernel_rfl) (by kernel_rfl)) ?_
  intro Wd base args ds gs before hval hW hcnd _ hsh _
  obtain ⟨p, q, hA, hV, rfl, hfz, hnd⟩ := id hW
  rw [Tryz.params3] at hA hval
  obtain ⟨v0, v1, v2, d0, d1, d2, p0, p1, p2, rfl, rfl, rfl, h0, h1, h2⟩ := trodAll_three hA
  obtain ⟨rfl, rfl⟩ := trodVars_none hV
  obtain ⟨a0, r0, q0⟩ := arg_agg Tryz.underlying24 rd_24 (hval 0 24 v0 rfl rfl) h0
  obtain ⟨a1, r1, q1⟩ := arg_agg Tryz.underlying26 rd_26 (hval 1 26 v1 rfl rfl) h1
  obtain ⟨a2, r2, q2⟩ := arg_agg Tryz.underlying28 rd_28 (hval 2 28 v2 rfl rfl) h2
  refine (law_calls (vals := [v0, v1, v2]) (gl_ hsh) (W.sheetmetallaw06_NestValidates_ok ((fun a0 a1 a2 _ _ _ => SM.law_NestValidates a0 a1 a2) a0 a1 a2 r0 r1 r2)) rfl ?_).mono fun e W' he => ?_
  · intro i pv hi
    match i, hi with
    | 0, hi => obtain rfl := Option.some.inj hi; exact q0
    | 1, hi => obtain rfl := Option.some.inj hi; exact q1
    | 2, hi => obtain rfl := Option.some.inj hi; exact q2
    | n + 3, hi => simp at hi
  · obtain ⟨rfl, hb⟩ := he
    exact ⟨_, rfl, law_post laidOut_ hW rfl hb (by kernel_rfl) (by kernel_rfl) Tryz.underlying4 rfl rfl rfl⟩
theorem nestValidates_holds : Rows.NestValidatesSaid :=
  OpenClaim.holds_of_wide 3 Tryz.f3 rfl rfl rfl rfl rfl rfl rfl ⟨rfl, rfl, rfl, rfl, rfl⟩ rfl rfl rfl rfl rfl (by kernel_rfl) Tryz.func3 (by kernel_rfl)
    (of_decide_eq_true (by kernel_rfl)) (by unfold Func.isWrapper; first | (rw [if_pos (by decide +kernel)]; kernel_rfl) | (rw [if_neg (by decide +kernel)]; exact ⟨rfl, rfl⟩))
    (fun os started H enc _ => nestValidates_lifted os started H enc)
end Go.Proofs.YtonmponhpfpokaaGreatR
