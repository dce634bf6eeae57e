/- The law TopRegions: for every input the call returns true, and each argument reads afterwards as before. No condition. -/
import Derived.Test.YtiodkdpfkchkjaaWP2
import Derived.Test.YtiodkdpfkchkjaaGeomTop
import Derived.Test.YtiodkdpfkchkjaaRows
set_option linter.unusedVariables false
set_option linter.unusedSimpArgs false
set_option linter.unusedSectionVars false
namespace Go.Proofs.Ytiodkdpfkchkjaa
open Go Go.VI Go.SM Go.Proofs Go.ChangeShapes Go.WideShapes Go.ChangeAt Go.RowKit
set_option maxRecDepth 100000
theorem own_ : ownKnob Try.prog.godebug = none := by kernel_rfl
theorem laidOut_ : laidOutB Try.prog = true := by kernel_rfl
theorem rd_3 : Rd Try.prog 3 cI R64 := rd_i64 Try.underlying3
theorem rd_41 : Rd Try.prog 41 c_Rect R_Rect := by
  intro H enc W sp fuel cs x h
  have hl := (rd_fields Try.underlying41 h).1.trans (by kernel_rfl : Try.prog.cellsOf 41 = 4)
  obtain ⟨fu0, y0, h0⟩ := rd_field Try.underlying41 h 0 3 0 1 (by kernel_rfl)
  obtain ⟨a0, r0, q0⟩ := rd_3 h0
  obtain ⟨fu1, y1, h1⟩ := rd_field Try.underlying41 h 1 3 1 1 (by kernel_rfl)
  obtain ⟨a1, r1, q1⟩ := rd_3 h1
  obtain ⟨fu2, y2, h2⟩ := rd_field Try.underlying41 h 2 3 2 1 (by kernel_rfl)
  obtain ⟨a2, r2, q2⟩ := rd_3 h2
  obtain ⟨fu3, y3, h3⟩ := rd_field Try.underlying41 h 3 3 3 1 (by kernel_rfl)
  obtain ⟨a3, r3, q3⟩ := rd_3 h3
  exact ⟨⟨a0, a1, a2, a3⟩, ⟨r0, r1, r2, r3⟩, (RFl_cons (o := 0) (n := 1) q0 rfl (RFl_cons (o := 1) (n := 1) q1 rfl (RFl_cons (o := 2) (n := 1) q2 rfl (RFl_cons (o := 3) (n := 1) q3 rfl (RFl_nil (by simp [hl]))))))⟩
theorem rd_58 : Rd Try.prog 58 (cS c_Rect) (RL R_Rect) := rd_slice Try.underlying58 rd_41 (fun _ => by kernel_rfl) (by decide +kernel)
theorem topRegions_lifted (os : Os) (started : os.Started) (H : Type) (enc : TypeId × Value → H) :
    ReturnsInHanded {} Try.checked os 10 .any (Rows.topRegionsSpec.pre6 enc Try.prog Try.f10 Rows.topRegionsRow.domain false) (Rows.topRegionsSpec.post enc Try.prog Try.f10 false true false false) := by
  refine returnsInHanded_of_change (C := Try.checked) own_ started (by kernel_rfl) Try.func10
    (ChangeSpec.witness6 (enc := enc) (C := Try.checked) false ⟨#[], #[.slice none 0 0, .slice none 0 0], []⟩ 8 (by kernel_rfl) (by kernel_rfl) (by kernel_rfl) (by kernel_rfl)) ?_
  intro Wd base args ds gs before hval hW hcnd _
  obtain ⟨p, q, hA, hV, rfl, hfz, hnd⟩ := id hW
  rw [Try.params10] at hA hval
  obtain ⟨v0, v1, d0, d1, p0, p1, rfl, rfl, rfl, h0, h1⟩ := trodAll_two hA
  obtain ⟨rfl, rfl⟩ := trodVars_none hV
  obtain ⟨a0, r0, q0⟩ := arg_one (no_slice Try.underlying58 (hval 0 58 v0 rfl rfl)) rd_58 (fun y => (.sl (List.map c_Rect y))) (fun _ => rfl) h0
  obtain ⟨a1, r1, q1⟩ := arg_one (no_slice Try.underlying58 (hval 1 58 v1 rfl rfl)) rd_58 (fun y => (.sl (List.map c_Rect y))) (fun _ => rfl) h1
  refine (law_calls (vals := [v0, v1]) (W.sheetmetaltop_TopRegions_ok ((fun a0 a1 _ _ => SM.law_TopRegions a0 a1) a0 a1 r0 r1)) rfl ?_).mono fun e W' he => ?_
  · intro i pv hi
    match i, hi with
    | 0, hi => obtain rfl := Option.some.inj hi; exact q0
    | 1, hi => obtain rfl := Option.some.inj hi; exact q1
    | n + 2, hi => simp at hi
  · obtain ⟨rfl, hb⟩ := he
    exact ⟨_, rfl, law_post laidOut_ hW rfl hb (by kernel_rfl) (by kernel_rfl) Try.underlying4 rfl rfl rfl⟩
theorem topRegions_holds : Rows.TopRegionsSaid :=
  OpenClaim.holds_of_wide 10 Try.f10 rfl rfl rfl rfl rfl rfl rfl ⟨rfl, rfl, rfl, rfl, rfl⟩ rfl rfl rfl rfl rfl (by kernel_rfl) Try.func10 (by kernel_rfl)
    (of_decide_eq_true (by kernel_rfl)) (by unfold Func.isWrapper; first | (rw [if_pos (by decide +kernel)]; kernel_rfl) | (rw [if_neg (by decide +kernel)]; exact ⟨rfl, rfl⟩))
    (fun os started H enc _ => topRegions_lifted os started H enc)
end Go.Proofs.Ytiodkdpfkchkjaa
