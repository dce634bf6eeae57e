/- The law NestTurns: for every input the call returns true, and each argument reads afterwards as before. No condition. -/
import Derived.Test.YtonmponhpfpokaaGreatRWT2
import Derived.Test.YtonmponhpfpokaaGreatRNeTurns
import Derived.Test.YtonmponhpfpokaaGreatRRows
set_option linter.unusedVariables false
set_option linter.unusedSimpArgs false
set_option linter.unusedSectionVars false
namespace Go.Proofs.YtonmponhpfpokaaGreatR
open Go Go.VI Go.SM Go.Proofs Go.ChangeShapes Go.WideShapes Go.ChangeAt Go.RowKit
set_option maxRecDepth 100000
theorem own_ : ownKnob Tryz.prog.godebug = none:=by kernel_rfl
theorem laidOut_ : laidOutB Tryz.prog = true:=by kernel_rfl
theorem rd_9 : Rd Tryz.prog 9 cStr RT:=rd_str Tryz.underlying9
theorem rd_3 : Rd Tryz.prog 3 cI R64:=rd_i64 Tryz.underlying3
theorem rd_86 : Rd Tryz.prog 86 c_Rect R_Rect:=by
  intro H enc W sp fuel cs x h
  have hl:=(rd_fields Tryz.underlying86 h).1.trans (by kernel_rfl : Tryz.prog.cellsOf 86 = 4)
  obtain ⟨fu0,y0,h0⟩:=rd_field Tryz.underlying86 h 0 3 0 1 (by kernel_rfl)
  obtain ⟨a0,r0,q0⟩:=rd_3 h0
  obtain ⟨fu1,y1,h1⟩:=rd_field Tryz.underlying86 h 1 3 1 1 (by kernel_rfl)
  obtain ⟨a1,r1,q1⟩:=rd_3 h1
  obtain ⟨fu2,y2,h2⟩:=rd_field Tryz.underlying86 h 2 3 2 1 (by kernel_rfl)
  obtain ⟨a2,r2,q2⟩:=rd_3 h2
  obtain ⟨fu3,y3,h3⟩:=rd_field Tryz.underlying86 h 3 3 3 1 (by kernel_rfl)
  obtain ⟨a3,r3,q3⟩:=rd_3 h3
  exact ⟨⟨a0,a1,a2,a3⟩,⟨r0,r1,r2,r3⟩,(RFl_cons (o:=0) (n:=1) q0 rfl (RFl_cons (o:=1) (n:=1) q1 rfl (RFl_cons (o:=2) (n:=1) q2 rfl (RFl_cons (o:=3) (n:=1) q3 rfl (RFl_nil (by simp [hl]))))))⟩
theorem rd_22 : Rd Tryz.prog 22 (cS c_Rect) (RL R_Rect):=rd_slice Tryz.underlying22 rd_86 (fun _=>by kernel_rfl) (by decide +kernel)
theorem rd_26 : Rd Tryz.prog 26 c_Piece R_Piece:=by
  intro H enc W sp fuel cs x h
  have hl:=(rd_fields Tryz.underlying26 h).1.trans (by kernel_rfl : Tryz.prog.cellsOf 26 = 7)
  obtain ⟨fu0,y0,h0⟩:=rd_field Tryz.underlying26 h 0 9 0 1 (by kernel_rfl)
  obtain ⟨a0,r0,q0⟩:=rd_9 h0
  obtain ⟨fu1,y1,h1⟩:=rd_field Tryz.underlying26 h 1 9 1 1 (by kernel_rfl)
  obtain ⟨a1,r1,q1⟩:=rd_9 h1
  obtain ⟨fu2,y2,h2⟩:=rd_field Tryz.underlying26 h 2 3 2 1 (by kernel_rfl)
  obtain ⟨a2,r2,q2⟩:=rd_3 h2
  obtain ⟨fu3,y3,h3⟩:=rd_field Tryz.underlying26 h 3 3 3 1 (by kernel_rfl)
  obtain ⟨a3,r3,q3⟩:=rd_3 h3
  obtain ⟨fu4,y4,h4⟩:=rd_field Tryz.underlying26 h 4 22 4 1 (by kernel_rfl)
  obtain ⟨a4,r4,q4⟩:=rd_22 h4
  obtain ⟨fu5,y5,h5⟩:=rd_field Tryz.underlying26 h 5 22 5 1 (by kernel_rfl)
  obtain ⟨a5,r5,q5⟩:=rd_22 h5
  obtain ⟨fu6,y6,h6⟩:=rd_field Tryz.underlying26 h 6 22 6 1 (by kernel_rfl)
  obtain ⟨a6,r6,q6⟩:=rd_22 h6
  exact ⟨⟨a0,a1,a2,a3,a4,a5,a6⟩,⟨r0,r1,r2,r3,r4,r5,r6⟩,(RFl_cons (o:=0) (n:=1) q0 rfl (RFl_cons (o:=1) (n:=1) q1 rfl (RFl_cons (o:=2) (n:=1) q2 rfl (RFl_cons (o:=3) (n:=1) q3 rfl (RFl_cons (o:=4) (n:=1) q4 rfl (RFl_cons (o:=5) (n:=1) q5 rfl (RFl_cons (o:=6) (n:=1) q6 rfl (RFl_nil (by simp [hl])))))))))⟩
theorem nestTurns_lifted (os : Os) (started : os.Started) (H : Type) (enc : TypeId × Value → H) :
    ReturnsInHanded {} Tryz.checked os 8 .any (Rows.nestTurnsSpec.pre6 enc Tryz.prog Tryz.f8 Rows.nestTurnsRow.domain false) (Rows.nestTurnsSpec.post enc Tryz.prog Tryz.f8 false true false false):=by
  refine returnsInHanded_of_change_shaped (C:=Tryz.checked) own_ started (by kernel_rfl) Tryz.func8
    (ChangeSpec.witness6 (enc:=enc) (C:=Tryz.checked) false ⟨#[],#[.agg #[.string ByteArray.empty,.string ByteArray.empty,.int .i64 0,.int .i64 0,.slice none 0 0,.slice none 0 0,.slice none 0 0],.int .i64 0,.int .i64 0],[]⟩ 8 (by kernel_rfl) (by kernel_rfl) (by kernel_rfl) (by kernel_rfl)) ?_
  intro Wd base args ds gs before hval hW hcnd _ hsh _
  obtain ⟨p,q,hA,hV,rfl,hfz,hnd⟩:=id hW
  rw [Tryz.params8] at hA hval
  obtain ⟨v0,v1,v2,d0,d1,d2,p0,p1,p2,rfl,rfl,rfl,h0,h1,h2⟩:=trodAll_three hA
  obtain ⟨rfl,rfl⟩:=trodVars_none hV
  obtain ⟨a0,r0,q0⟩:=arg_agg Tryz.underlying26 rd_26 (hval 0 26 v0 rfl rfl) h0
  obtain ⟨a1,r1,q1⟩:=arg_one (no_int Tryz.underlying3 (hval 1 3 v1 rfl rfl)) rd_3 (fun y=>(vI y)) (fun _=>rfl) h1
  obtain ⟨a2,r2,q2⟩:=arg_one (no_int Tryz.underlying3 (hval 2 3 v2 rfl rfl)) rd_3 (fun y=>(vI y)) (fun _=>rfl) h2
  refine (law_calls (vals:=[v0,v1,v2]) (gl_ hsh) (W.sheetmetallaw06_NestTurns_ok ((fun a0 a1 a2 _ _ _=>SM.law_NestTurns a0 a1 a2) a0 a1 a2 r0 r1 r2)) rfl ?_).mono fun e W' he=>?_
  · intro i pv hi
    match i,hi with
    | 0,hi=>obtain rfl:=Option.some.inj hi; exact q0
    | 1,hi=>obtain rfl:=Option.some.inj hi; exact q1
    | 2,hi=>obtain rfl:=Option.some.inj hi; exact q2
    | n + 3,hi=>simp at hi
  · obtain ⟨rfl,hb⟩:=he
    exact ⟨_,rfl,law_post laidOut_ hW rfl hb (by kernel_rfl) (by kernel_rfl) Tryz.underlying4 rfl rfl rfl⟩
end Go.Proofs.YtonmponhpfpokaaGreatR
