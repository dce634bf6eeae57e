/- The law GeomMeetsMore: for every input the call returns true, and each argument reads afterwards as before. No condition. -/
import Derived.Test.YtiodkdpfkchkjaaWN2
import Derived.Test.YtiodkdpfkchkjaaHullMeetsLaw
import Derived.Test.YtiodkdpfkchkjaaRows
set_option linter.unusedVariables false
set_option linter.unusedSimpArgs false
set_option linter.unusedSectionVars false
namespace Go.Proofs.Ytiodkdpfkchkjaa
open Go Go.VI Go.SM Go.Proofs Go.ChangeShapes Go.WideShapes Go.ChangeAt Go.RowKit
set_option maxRecDepth 100000
theorem own_ : ownKnob Try.prog.godebug = none := by kernel_rfl
theorem laidOut_ : laidOutB Try.prog = true := by kernel_rfl
theorem rd_3 : Rd Try.prog 3 cI R64 := rd_i64 Try.underlying3
theorem rd_23 : Rd Try.prog 23 c_Root R_Root := by
  intro H enc W sp fuel cs x h
  have hl := (rd_fields Try.underlying23 h).1.trans (by kernel_rfl : Try.prog.cellsOf 23 = 2)
  obtain ⟨fu0, y0, h0⟩ := rd_field Try.underlying23 h 0 3 0 1 (by kernel_rfl)
  obtain ⟨a0, r0, q0⟩ := rd_3 h0
  obtain ⟨fu1, y1, h1⟩ := rd_field Try.underlying23 h 1 3 1 1 (by kernel_rfl)
  obtain ⟨a1, r1, q1⟩ := rd_3 h1
  exact ⟨⟨a0, a1⟩, ⟨r0, r1⟩, (RFl_cons (o := 0) (n := 1) q0 rfl (RFl_cons (o := 1) (n := 1) q1 rfl (RFl_nil (by simp [hl]))))⟩
theorem rd_36 : Rd Try.prog 36 c_Point R_Point := by
  intro H enc W sp fuel cs x h
  have hl := (rd_fields Try.underlying36 h).1.trans (by kernel_rfl : Try.prog.cellsOf 36 = 4)
  obtain ⟨fu0, y0, h0⟩ := rd_field Try.underlying36 h 0 23 0 2 (by kernel_rfl)
  obtain ⟨a0, r0, q0⟩ := rd_23 h0
  obtain ⟨fu1, y1, h1⟩ := rd_field Try.underlying36 h 1 23 2 2 (by kernel_rfl)
  obtain ⟨a1, r1, q1⟩ := rd_23 h1
  exact ⟨⟨a0, a1⟩, ⟨r0, r1⟩, (RFl_cons (o := 0) (n := 2) q0 rfl (RFl_cons (o := 2) (n := 2) q1 rfl (RFl_nil (by simp [hl]))))⟩
theorem rd_47 : Rd Try.prog 47 (cS c_Point) (RL R_Point) := rd_slice Try.underlying47 rd_36 (fun _ => by kernel_rfl) (by decide +kernel)
theorem geomMeetsMore_lifted (os : Os) (started : os.Started) (H : Type) (enc : TypeId × Value → H) :
    ReturnsInHanded {} Try.checked os 14 .any (Rows.geomMeetsMoreSpec.pre6 enc Try.prog Try.f14 Rows.geomMeetsMoreRow.domain false) (Rows.geomMeetsMoreSpec.post enc Try.prog Try.f14 false true false false) := by
  refine returnsInHanded_of_change (C := Try.checked) own_ started (by kernel_rfl) Try.func14
    (ChangeSpec.witness6 (enc := enc) (C := Try.checked) false ⟨#[], #[.slice none 0 0, .slice none 0 0, .agg #[.int .i64 0, .int .i64 0, .int .i64 0, .int .i64 0]], []⟩ 8 (by kernel_rfl) (by kernel_rfl) (by kernel_rfl) (by kernel_rfl)) ?_
  intro Wd base args ds gs before hval hW hcnd _
  obtain ⟨p, q, hA, hV, rfl, hfz, hnd⟩ := id hW
  rw [Try.params14] at hA hval
  obtain ⟨v0, v1, v2, d0, d1, d2, p0, p1, p2, rfl, rfl, rfl, h0, h1, h2⟩ := trodAll_three hA
  obtain ⟨rfl, rfl⟩ := trodVars_none hV
  obtain ⟨a0, r0, q0⟩ := arg_one (no_slice Try.underlying47 (hval 0 47 v0 rfl rfl)) rd_47 (fun y => (.sl (List.map c_Point y))) (fun _ => rfl) h0
  obtain ⟨a1, r1, q1⟩ := arg_one (no_slice Try.underlying47 (hval 1 47 v1 rfl rfl)) rd_47 (fun y => (.sl (List.map c_Point y))) (fun _ => rfl) h1
  obtain ⟨a2, r2, q2⟩ := arg_agg Try.underlying36 rd_36 (hval 2 36 v2 rfl rfl) h2
  refine (law_calls (vals := [v0, v1, v2]) (W.sheetmetallaw01_GeomMeetsMore_ok ((fun a0 a1 a2 _ _ _ => SM.law_GeomMeetsMore a0 a1 a2) a0 a1 a2 r0 r1 r2)) rfl ?_).mono fun e W' he => ?_
  · intro i pv hi
    match i, hi with
    | 0, hi => obtain rfl := Option.some.inj hi; exact q0
    | 1, hi => obtain rfl := Option.some.inj hi; exact q1
    | 2, hi => obtain rfl := Option.some.inj hi; exact q2
    | n + 3, hi => simp at hi
  · obtain ⟨rfl, hb⟩ := he
    exact ⟨_, rfl, law_post laidOut_ hW rfl hb (by kernel_rfl) (by kernel_rfl) Try.underlying4 rfl rfl rfl⟩
theorem geomMeetsMore_holds : Rows.GeomMeetsMoreSaid :=
  OpenClaim.holds_of_wide 14 Try.f14 rfl rfl rfl rfl rfl rfl rfl ⟨rfl, rfl, rfl, rfl, rfl⟩ rfl rfl rfl rfl rfl (by kernel_rfl) Try.func14 (by kernel_rfl)
    (of_decide_eq_true (by kernel_rfl)) (by unfold Func.isWrapper; first | (rw [if_pos (by decide +kernel)]; kernel_rfl) | (rw [if_neg (by decide +kernel)]; exact ⟨rfl, rfl⟩))
    (fun os started H enc _ => geomMeetsMore_lifted os started H enc)
end Go.Proofs.Ytiodkdpfkchkjaa
