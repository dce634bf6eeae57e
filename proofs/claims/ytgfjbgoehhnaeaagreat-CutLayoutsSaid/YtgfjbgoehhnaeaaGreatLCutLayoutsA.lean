/- The law CutLayouts: for every input the call returns true, and each argument reads afterwards as before. No condition. -/
import Derived.Test.YtgfjbgoehhnaeaaGreatWL3
import Derived.Test.YtgfjbgoehhnaeaaGreatCzLay
import Derived.Test.YtgfjbgoehhnaeaaGreatRows
set_option linter.unusedVariables false
set_option linter.unusedSimpArgs false
set_option linter.unusedSectionVars false
namespace Go.Proofs.YtgfjbgoehhnaeaaGreat
open Go Go.VI Go.SM Go.Proofs Go.ChangeShapes Go.WideShapes Go.ChangeAt Go.RowKit
set_option maxRecDepth 100000
theorem own_ : ownKnob Tryz.prog.godebug=none:=by kernel_rfl
theorem laidOut_ : laidOutB Tryz.prog=true:=by kernel_rfl
theorem rd_9 : Rd Tryz.prog 9 cStr RT:=rd_str Tryz.underlying9
theorem rd_3 : Rd Tryz.prog 3 cI R64:=rd_i64 Tryz.underlying3
theorem rd_98 : Rd Tryz.prog 98 c_Rect R_Rect:=by
  intro H enc W sp fuel cs x h
  have hl:=(rd_fields Tryz.underlying98 h).1.trans (by kernel_rfl : Tryz.prog.cellsOf 98=4)
  obtain ⟨fu0,y0,h0⟩:=rd_field Tryz.underlying98 h 0 3 0 1 (by kernel_rfl)
  obtain ⟨a0,r0,q0⟩:=rd_3 h0
  obtain ⟨fu1,y1,h1⟩:=rd_field Tryz.underlying98 h 1 3 1 1 (by kernel_rfl)
  obtain ⟨a1,r1,q1⟩:=rd_3 h1
  obtain ⟨fu2,y2,h2⟩:=rd_field Tryz.underlying98 h 2 3 2 1 (by kernel_rfl)
  obtain ⟨a2,r2,q2⟩:=rd_3 h2
  obtain ⟨fu3,y3,h3⟩:=rd_field Tryz.underlying98 h 3 3 3 1 (by kernel_rfl)
  obtain ⟨a3,r3,q3⟩:=rd_3 h3
  exact ⟨⟨a0,a1,a2,a3⟩,⟨r0,r1,r2,r3⟩,(RFl_cons (o:=0) (n:=1) q0 rfl (RFl_cons (o:=1) (n:=1) q1 rfl (RFl_cons (o:=2) (n:=1) q2 rfl (RFl_cons (o:=3) (n:=1) q3 rfl (RFl_nil (by simp [hl]))))))⟩
theorem rd_22 : Rd Tryz.prog 22 (cS c_Rect) (RL R_Rect):=rd_slice Tryz.underlying22 rd_98 (fun _=>by kernel_rfl) (by decide +kernel)
theorem rd_24 : Rd Tryz.prog 24 c_Sheet R_Sheet:=by
  intro H enc W sp fuel cs x h
  have hl:=(rd_fields Tryz.underlying24 h).1.trans (by kernel_rfl : Tryz.prog.cellsOf 24=8)
  obtain ⟨fu0,y0,h0⟩:=rd_field Tryz.underlying24 h 0 9 0 1 (by kernel_rfl)
  obtain ⟨a0,r0,q0⟩:=rd_9 h0
  obtain ⟨fu1,y1,h1⟩:=rd_field Tryz.underlying24 h 1 9 1 1 (by kernel_rfl)
  obtain ⟨a1,r1,q1⟩:=rd_9 h1
  obtain ⟨fu2,y2,h2⟩:=rd_field Tryz.underlying24 h 2 3 2 1 (by kernel_rfl)
  obtain ⟨a2,r2,q2⟩:=rd_3 h2
  obtain ⟨fu3,y3,h3⟩:=rd_field Tryz.underlying24 h 3 3 3 1 (by kernel_rfl)
  obtain ⟨a3,r3,q3⟩:=rd_3 h3
  obtain ⟨fu4,y4,h4⟩:=rd_field Tryz.underlying24 h 4 3 4 1 (by kernel_rfl)
  obtain ⟨a4,r4,q4⟩:=rd_3 h4
  obtain ⟨fu5,y5,h5⟩:=rd_field Tryz.underlying24 h 5 3 5 1 (by kernel_rfl)
  obtain ⟨a5,r5,q5⟩:=rd_3 h5
  obtain ⟨fu6,y6,h6⟩:=rd_field Tryz.underlying24 h 6 22 6 1 (by kernel_rfl)
  obtain ⟨a6,r6,q6⟩:=rd_22 h6
  obtain ⟨fu7,y7,h7⟩:=rd_field Tryz.underlying24 h 7 22 7 1 (by kernel_rfl)
  obtain ⟨a7,r7,q7⟩:=rd_22 h7
  exact ⟨⟨a0,a1,a2,a3,a4,a5,a6,a7⟩,⟨r0,r1,r2,r3,r4,r5,r6,r7⟩,(RFl_cons (o:=0) (n:=1) q0 rfl (RFl_cons (o:=1) (n:=1) q1 rfl (RFl_cons (o:=2) (n:=1) q2 rfl (RFl_cons (o:=3) (n:=1) q3 rfl (RFl_cons (o:=4) (n:=1) q4 rfl (RFl_cons (o:=5) (n:=1) q5 rfl (RFl_cons (o:=6) (n:=1) q6 rfl (RFl_cons (o:=7) (n:=1) q7 rfl (RFl_nil (by simp [hl]))))))))))⟩
theorem rd_83 : Rd Tryz.prog 83 (cS c_Sheet) (RL R_Sheet):=rd_slice Tryz.underlying83 rd_24 (fun _=>by kernel_rfl) (by decide +kernel)
theorem rd_78 : Rd Tryz.prog 78 c_Piece R_Piece:=by
  intro H enc W sp fuel cs x h
  have hl:=(rd_fields Tryz.underlying78 h).1.trans (by kernel_rfl : Tryz.prog.cellsOf 78=7)
  obtain ⟨fu0,y0,h0⟩:=rd_field Tryz.underlying78 h 0 9 0 1 (by kernel_rfl)
  obtain ⟨a0,r0,q0⟩:=rd_9 h0
  obtain ⟨fu1,y1,h1⟩:=rd_field Tryz.underlying78 h 1 9 1 1 (by kernel_rfl)
  obtain ⟨a1,r1,q1⟩:=rd_9 h1
  obtain ⟨fu2,y2,h2⟩:=rd_field Tryz.underlying78 h 2 3 2 1 (by kernel_rfl)
  obtain ⟨a2,r2,q2⟩:=rd_3 h2
  obtain ⟨fu3,y3,h3⟩:=rd_field Tryz.underlying78 h 3 3 3 1 (by kernel_rfl)
  obtain ⟨a3,r3,q3⟩:=rd_3 h3
  obtain ⟨fu4,y4,h4⟩:=rd_field Tryz.underlying78 h 4 22 4 1 (by kernel_rfl)
  obtain ⟨a4,r4,q4⟩:=rd_22 h4
  obtain ⟨fu5,y5,h5⟩:=rd_field Tryz.underlying78 h 5 22 5 1 (by kernel_rfl)
  obtain ⟨a5,r5,q5⟩:=rd_22 h5
  obtain ⟨fu6,y6,h6⟩:=rd_field Tryz.underlying78 h 6 22 6 1 (by kernel_rfl)
  obtain ⟨a6,r6,q6⟩:=rd_22 h6
  exact ⟨⟨a0,a1,a2,a3,a4,a5,a6⟩,⟨r0,r1,r2,r3,r4,r5,r6⟩,(RFl_cons (o:=0) (n:=1) q0 rfl (RFl_cons (o:=1) (n:=1) q1 rfl (RFl_cons (o:=2) (n:=1) q2 rfl (RFl_cons (o:=3) (n:=1) q3 rfl (RFl_cons (o:=4) (n:=1) q4 rfl (RFl_cons (o:=5) (n:=1) q5 rfl (RFl_cons (o:=6) (n:=1) q6 rfl (RFl_nil (by simp [hl])))))))))⟩
theorem rd_25 : Rd Tryz.prog 25 (cS c_Piece) (RL R_Piece):=rd_slice Tryz.underlying25 rd_78 (fun _=>by kernel_rfl) (by decide +kernel)
theorem rd_4 : Rd Tryz.prog 4 cB RT:=rd_bool Tryz.underlying4
theorem rd_85 : Rd Tryz.prog 85 c_Settings R_Settings:=by
  intro H enc W sp fuel cs x h
  have hl:=(rd_fields Tryz.underlying85 h).1.trans (by kernel_rfl : Tryz.prog.cellsOf 85=3)
  obtain ⟨fu0,y0,h0⟩:=rd_field Tryz.underlying85 h 0 3 0 1 (by kernel_rfl)
  obtain ⟨a0,r0,q0⟩:=rd_3 h0
  obtain ⟨fu1,y1,h1⟩:=rd_field Tryz.underlying85 h 1 3 1 1 (by kernel_rfl)
  obtain ⟨a1,r1,q1⟩:=rd_3 h1
  obtain ⟨fu2,y2,h2⟩:=rd_field Tryz.underlying85 h 2 4 2 1 (by kernel_rfl)
  obtain ⟨a2,r2,q2⟩:=rd_4 h2
  exact ⟨⟨a0,a1,a2⟩,⟨r0,r1,r2⟩,(RFl_cons (o:=0) (n:=1) q0 rfl (RFl_cons (o:=1) (n:=1) q1 rfl (RFl_cons (o:=2) (n:=1) q2 rfl (RFl_nil (by simp [hl])))))⟩
theorem rd_87 : Rd Tryz.prog 87 c_sheetmetallaw06_Job R_sheetmetallaw06_Job:=by
  intro H enc W sp fuel cs x h
  have hl:=(rd_fields Tryz.underlying87 h).1.trans (by kernel_rfl : Tryz.prog.cellsOf 87=5)
  obtain ⟨fu0,y0,h0⟩:=rd_field Tryz.underlying87 h 0 83 0 1 (by kernel_rfl)
  obtain ⟨a0,r0,q0⟩:=rd_83 h0
  obtain ⟨fu1,y1,h1⟩:=rd_field Tryz.underlying87 h 1 25 1 1 (by kernel_rfl)
  obtain ⟨a1,r1,q1⟩:=rd_25 h1
  obtain ⟨fu2,y2,h2⟩:=rd_field Tryz.underlying87 h 2 85 2 3 (by kernel_rfl)
  obtain ⟨a2,r2,q2⟩:=rd_85 h2
  exact ⟨⟨a0,a1,a2⟩,⟨r0,r1,r2⟩,(RFl_cons (o:=0) (n:=1) q0 rfl (RFl_cons (o:=1) (n:=1) q1 rfl (RFl_cons (o:=2) (n:=3) q2 rfl (RFl_nil (by simp [hl])))))⟩
theorem rd_134 : Rd Tryz.prog 134 c_Placement R_Placement:=by
  intro H enc W sp fuel cs x h
  have hl:=(rd_fields Tryz.underlying134 h).1.trans (by kernel_rfl : Tryz.prog.cellsOf 134=5)
  obtain ⟨fu0,y0,h0⟩:=rd_field Tryz.underlying134 h 0 3 0 1 (by kernel_rfl)
  obtain ⟨a0,r0,q0⟩:=rd_3 h0
  obtain ⟨fu1,y1,h1⟩:=rd_field Tryz.underlying134 h 1 3 1 1 (by kernel_rfl)
  obtain ⟨a1,r1,q1⟩:=rd_3 h1
  obtain ⟨fu2,y2,h2⟩:=rd_field Tryz.underlying134 h 2 3 2 1 (by kernel_rfl)
  obtain ⟨a2,r2,q2⟩:=rd_3 h2
  obtain ⟨fu3,y3,h3⟩:=rd_field Tryz.underlying134 h 3 3 3 1 (by kernel_rfl)
  obtain ⟨a3,r3,q3⟩:=rd_3 h3
  obtain ⟨fu4,y4,h4⟩:=rd_field Tryz.underlying134 h 4 3 4 1 (by kernel_rfl)
  obtain ⟨a4,r4,q4⟩:=rd_3 h4
  exact ⟨⟨a0,a1,a2,a3,a4⟩,⟨r0,r1,r2,r3,r4⟩,(RFl_cons (o:=0) (n:=1) q0 rfl (RFl_cons (o:=1) (n:=1) q1 rfl (RFl_cons (o:=2) (n:=1) q2 rfl (RFl_cons (o:=3) (n:=1) q3 rfl (RFl_cons (o:=4) (n:=1) q4 rfl (RFl_nil (by simp [hl])))))))⟩
theorem rd_88 : Rd Tryz.prog 88 (cS c_Placement) (RL R_Placement):=rd_slice Tryz.underlying88 rd_134 (fun _=>by kernel_rfl) (by decide +kernel)
theorem rd_90 : Rd Tryz.prog 90 c_sheetmetallaw07_Placed R_sheetmetallaw07_Placed:=by
  intro H enc W sp fuel cs x h
  have hl:=(rd_fields Tryz.underlying90 h).1.trans (by kernel_rfl : Tryz.prog.cellsOf 90=2)
  obtain ⟨fu0,y0,h0⟩:=rd_field Tryz.underlying90 h 0 88 0 1 (by kernel_rfl)
  obtain ⟨a0,r0,q0⟩:=rd_88 h0
  obtain ⟨fu1,y1,h1⟩:=rd_field Tryz.underlying90 h 1 3 1 1 (by kernel_rfl)
  obtain ⟨a1,r1,q1⟩:=rd_3 h1
  exact ⟨⟨a0,a1⟩,⟨r0,r1⟩,(RFl_cons (o:=0) (n:=1) q0 rfl (RFl_cons (o:=1) (n:=1) q1 rfl (RFl_nil (by simp [hl]))))⟩
theorem cutLayouts_lifted (os : Os) (started : os.Started) (H : Type) (enc : TypeId×Value→H) :
    ReturnsInHanded {} Tryz.checked os 10 .any (Rows.cutLayoutsSpec.pre6 enc Tryz.prog Tryz.f10 Rows.cutLayoutsRow.domain false) (Rows.cutLayoutsSpec.post enc Tryz.prog Tryz.f10 false true false false):=by
  refine returnsInHanded_of_change_shaped (C:=Tryz.checked) own_ started (by kernel_rfl) Tryz.func10
    (ChangeSpec.witness6 (enc:=enc) (C:=Tryz.checked) false ⟨#[],#[.agg #[.slice none 0 0,.slice none 0 0,.int .i64 0,.int .i64 0,.bool false],.agg #[.slice none 0 0,.int .i64 0]],[]⟩ 8 (by kernel_rfl) (by kernel_rfl) (by kernel_rfl) (by kernel_rfl)) ?_
  intro Wd base args ds gs before hval hW hcnd _ hsh _
  obtain ⟨p,q,hA,hV,rfl,hfz,hnd⟩:=id hW
  rw [Tryz.params10] at hA hval
  obtain ⟨v0,v1,d0,d1,p0,p1,rfl,rfl,rfl,h0,h1⟩:=trodAll_two hA
  obtain ⟨rfl,rfl⟩:=trodVars_none hV
  obtain ⟨a0,r0,q0⟩:=arg_agg Tryz.underlying87 rd_87 (hval 0 87 v0 rfl rfl) h0
  obtain ⟨a1,r1,q1⟩:=arg_agg Tryz.underlying90 rd_90 (hval 1 90 v1 rfl rfl) h1
  refine (law_calls (vals:=[v0,v1]) (gl_ hsh) (W.sheetmetallaw07_CutLayouts_ok ((fun a0 a1 _ _=>SM.law_CutLayouts a0 a1) a0 a1 r0 r1)) rfl ?_).mono fun e W' he=>?_
  · intro i pv hi
    match i,hi with
    | 0,hi=>obtain rfl:=Option.some.inj hi; exact q0
    | 1,hi=>obtain rfl:=Option.some.inj hi; exact q1
    | n+2,hi=>simp at hi
  · obtain ⟨rfl,hb⟩:=he
    exact ⟨_,rfl,law_post laidOut_ hW rfl hb (by kernel_rfl) (by kernel_rfl) Tryz.underlying4 rfl rfl rfl⟩
end Go.Proofs.YtgfjbgoehhnaeaaGreat
