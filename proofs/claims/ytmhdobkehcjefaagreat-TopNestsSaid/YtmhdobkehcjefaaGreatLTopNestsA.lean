/- The law TopNests: for every input the call returns true, and each argument reads afterwards as before. No condition. -/
import Derived.Test.YtmhdobkehcjefaaGreatWA2
import Derived.Test.YtmhdobkehcjefaaGreatPl4
import Derived.Test.YtmhdobkehcjefaaGreatRows
set_option linter.unusedVariables false
set_option linter.unusedSimpArgs false
set_option linter.unusedSectionVars false
namespace Go.Proofs.YtmhdobkehcjefaaGreat
open Go Go.VI Go.SM Go.Proofs Go.ChangeShapes Go.WideShapes Go.ChangeAt Go.RowKit
set_option maxRecDepth 100000
theorem WO:ownKnob Tryz.prog.godebug=none:=by kernel_rfl
theorem MQ:laidOutB Tryz.prog=true:=by kernel_rfl
theorem RN:Rd Tryz.prog 9 VD RT:=UL Tryz.underlying9
theorem Mo:Rd Tryz.prog 3 cI R64:=UK Tryz.underlying3
theorem WB:Rd Tryz.prog 66 aJ Oz:=by
 intro H enc W sp fuel cs x h
 have hl:=(Dv Tryz.underlying66 h).1.trans (by kernel_rfl:Tryz.prog.cellsOf 66=4)
 obtain ⟨fu0,y0,h0⟩:=eU Tryz.underlying66 h 0 3 0 1 (by kernel_rfl)
 obtain ⟨a0,r0,q0⟩:=Mo h0
 obtain ⟨fu1,y1,h1⟩:=eU Tryz.underlying66 h 1 3 1 1 (by kernel_rfl)
 obtain ⟨a1,r1,q1⟩:=Mo h1
 obtain ⟨fu2,y2,h2⟩:=eU Tryz.underlying66 h 2 3 2 1 (by kernel_rfl)
 obtain ⟨a2,r2,q2⟩:=Mo h2
 obtain ⟨fu3,y3,h3⟩:=eU Tryz.underlying66 h 3 3 3 1 (by kernel_rfl)
 obtain ⟨a3,r3,q3⟩:=Mo h3
 exact ⟨⟨a0,a1,a2,a3⟩,⟨r0,r1,r2,r3⟩,(eS (o:=0) (n:=1) q0 rfl (eS (o:=1) (n:=1) q1 rfl (eS (o:=2) (n:=1) q2 rfl (eS (o:=3) (n:=1) q3 rfl (Mx (by simp [hl]))))))⟩
theorem CJ:Rd Tryz.prog 37 (cS aJ) (RL Oz):=Re Tryz.underlying37 WB (fun _=>by kernel_rfl) (by decide +kernel)
theorem VY:Rd Tryz.prog 39 bS Yy:=by
 intro H enc W sp fuel cs x h
 have hl:=(Dv Tryz.underlying39 h).1.trans (by kernel_rfl:Tryz.prog.cellsOf 39=8)
 obtain ⟨fu0,y0,h0⟩:=eU Tryz.underlying39 h 0 9 0 1 (by kernel_rfl)
 obtain ⟨a0,r0,q0⟩:=RN h0
 obtain ⟨fu1,y1,h1⟩:=eU Tryz.underlying39 h 1 9 1 1 (by kernel_rfl)
 obtain ⟨a1,r1,q1⟩:=RN h1
 obtain ⟨fu2,y2,h2⟩:=eU Tryz.underlying39 h 2 3 2 1 (by kernel_rfl)
 obtain ⟨a2,r2,q2⟩:=Mo h2
 obtain ⟨fu3,y3,h3⟩:=eU Tryz.underlying39 h 3 3 3 1 (by kernel_rfl)
 obtain ⟨a3,r3,q3⟩:=Mo h3
 obtain ⟨fu4,y4,h4⟩:=eU Tryz.underlying39 h 4 3 4 1 (by kernel_rfl)
 obtain ⟨a4,r4,q4⟩:=Mo h4
 obtain ⟨fu5,y5,h5⟩:=eU Tryz.underlying39 h 5 3 5 1 (by kernel_rfl)
 obtain ⟨a5,r5,q5⟩:=Mo h5
 obtain ⟨fu6,y6,h6⟩:=eU Tryz.underlying39 h 6 37 6 1 (by kernel_rfl)
 obtain ⟨a6,r6,q6⟩:=CJ h6
 obtain ⟨fu7,y7,h7⟩:=eU Tryz.underlying39 h 7 37 7 1 (by kernel_rfl)
 obtain ⟨a7,r7,q7⟩:=CJ h7
 exact ⟨⟨a0,a1,a2,a3,a4,a5,a6,a7⟩,⟨r0,r1,r2,r3,r4,r5,r6,r7⟩,(eS (o:=0) (n:=1) q0 rfl (eS (o:=1) (n:=1) q1 rfl (eS (o:=2) (n:=1) q2 rfl (eS (o:=3) (n:=1) q3 rfl (eS (o:=4) (n:=1) q4 rfl (eS (o:=5) (n:=1) q5 rfl (eS (o:=6) (n:=1) q6 rfl (eS (o:=7) (n:=1) q7 rfl (Mx (by simp [hl]))))))))))⟩
theorem VT:Rd Tryz.prog 22 (cS bS) (RL Yy):=Re Tryz.underlying22 VY (fun _=>by kernel_rfl) (by decide +kernel)
theorem VZ:Rd Tryz.prog 44 bN Yx:=by
 intro H enc W sp fuel cs x h
 have hl:=(Dv Tryz.underlying44 h).1.trans (by kernel_rfl:Tryz.prog.cellsOf 44=7)
 obtain ⟨fu0,y0,h0⟩:=eU Tryz.underlying44 h 0 9 0 1 (by kernel_rfl)
 obtain ⟨a0,r0,q0⟩:=RN h0
 obtain ⟨fu1,y1,h1⟩:=eU Tryz.underlying44 h 1 9 1 1 (by kernel_rfl)
 obtain ⟨a1,r1,q1⟩:=RN h1
 obtain ⟨fu2,y2,h2⟩:=eU Tryz.underlying44 h 2 3 2 1 (by kernel_rfl)
 obtain ⟨a2,r2,q2⟩:=Mo h2
 obtain ⟨fu3,y3,h3⟩:=eU Tryz.underlying44 h 3 3 3 1 (by kernel_rfl)
 obtain ⟨a3,r3,q3⟩:=Mo h3
 obtain ⟨fu4,y4,h4⟩:=eU Tryz.underlying44 h 4 37 4 1 (by kernel_rfl)
 obtain ⟨a4,r4,q4⟩:=CJ h4
 obtain ⟨fu5,y5,h5⟩:=eU Tryz.underlying44 h 5 37 5 1 (by kernel_rfl)
 obtain ⟨a5,r5,q5⟩:=CJ h5
 obtain ⟨fu6,y6,h6⟩:=eU Tryz.underlying44 h 6 37 6 1 (by kernel_rfl)
 obtain ⟨a6,r6,q6⟩:=CJ h6
 exact ⟨⟨a0,a1,a2,a3,a4,a5,a6⟩,⟨r0,r1,r2,r3,r4,r5,r6⟩,(eS (o:=0) (n:=1) q0 rfl (eS (o:=1) (n:=1) q1 rfl (eS (o:=2) (n:=1) q2 rfl (eS (o:=3) (n:=1) q3 rfl (eS (o:=4) (n:=1) q4 rfl (eS (o:=5) (n:=1) q5 rfl (eS (o:=6) (n:=1) q6 rfl (Mx (by simp [hl])))))))))⟩
theorem VU:Rd Tryz.prog 23 (cS bN) (RL Yx):=Re Tryz.underlying23 VZ (fun _=>by kernel_rfl) (by decide +kernel)
theorem WR:Rd Tryz.prog 4 cB RT:=RO Tryz.underlying4
theorem VV:Rd Tryz.prog 25 bX Un:=by
 intro H enc W sp fuel cs x h
 have hl:=(Dv Tryz.underlying25 h).1.trans (by kernel_rfl:Tryz.prog.cellsOf 25=3)
 obtain ⟨fu0,y0,h0⟩:=eU Tryz.underlying25 h 0 3 0 1 (by kernel_rfl)
 obtain ⟨a0,r0,q0⟩:=Mo h0
 obtain ⟨fu1,y1,h1⟩:=eU Tryz.underlying25 h 1 3 1 1 (by kernel_rfl)
 obtain ⟨a1,r1,q1⟩:=Mo h1
 obtain ⟨fu2,y2,h2⟩:=eU Tryz.underlying25 h 2 4 2 1 (by kernel_rfl)
 obtain ⟨a2,r2,q2⟩:=WR h2
 exact ⟨⟨a0,a1,a2⟩,⟨r0,r1,r2⟩,(eS (o:=0) (n:=1) q0 rfl (eS (o:=1) (n:=1) q1 rfl (eS (o:=2) (n:=1) q2 rfl (Mx (by simp [hl])))))⟩
theorem VW:Rd Tryz.prog 27 bO Lu:=by
 intro H enc W sp fuel cs x h
 have hl:=(Dv Tryz.underlying27 h).1.trans (by kernel_rfl:Tryz.prog.cellsOf 27=5)
 obtain ⟨fu0,y0,h0⟩:=eU Tryz.underlying27 h 0 22 0 1 (by kernel_rfl)
 obtain ⟨a0,r0,q0⟩:=VT h0
 obtain ⟨fu1,y1,h1⟩:=eU Tryz.underlying27 h 1 23 1 1 (by kernel_rfl)
 obtain ⟨a1,r1,q1⟩:=VU h1
 obtain ⟨fu2,y2,h2⟩:=eU Tryz.underlying27 h 2 25 2 3 (by kernel_rfl)
 obtain ⟨a2,r2,q2⟩:=VV h2
 exact ⟨⟨a0,a1,a2⟩,⟨r0,r1,r2⟩,(eS (o:=0) (n:=1) q0 rfl (eS (o:=1) (n:=1) q1 rfl (eS (o:=2) (n:=3) q2 rfl (Mx (by simp [hl])))))⟩
theorem WA:Rd Tryz.prog 46 bG Sn:=by
 intro H enc W sp fuel cs x h
 have hl:=(Dv Tryz.underlying46 h).1.trans (by kernel_rfl:Tryz.prog.cellsOf 46=5)
 obtain ⟨fu0,y0,h0⟩:=eU Tryz.underlying46 h 0 3 0 1 (by kernel_rfl)
 obtain ⟨a0,r0,q0⟩:=Mo h0
 obtain ⟨fu1,y1,h1⟩:=eU Tryz.underlying46 h 1 3 1 1 (by kernel_rfl)
 obtain ⟨a1,r1,q1⟩:=Mo h1
 obtain ⟨fu2,y2,h2⟩:=eU Tryz.underlying46 h 2 3 2 1 (by kernel_rfl)
 obtain ⟨a2,r2,q2⟩:=Mo h2
 obtain ⟨fu3,y3,h3⟩:=eU Tryz.underlying46 h 3 3 3 1 (by kernel_rfl)
 obtain ⟨a3,r3,q3⟩:=Mo h3
 obtain ⟨fu4,y4,h4⟩:=eU Tryz.underlying46 h 4 3 4 1 (by kernel_rfl)
 obtain ⟨a4,r4,q4⟩:=Mo h4
 exact ⟨⟨a0,a1,a2,a3,a4⟩,⟨r0,r1,r2,r3,r4⟩,(eS (o:=0) (n:=1) q0 rfl (eS (o:=1) (n:=1) q1 rfl (eS (o:=2) (n:=1) q2 rfl (eS (o:=3) (n:=1) q3 rfl (eS (o:=4) (n:=1) q4 rfl (Mx (by simp [hl])))))))⟩
theorem VX:Rd Tryz.prog 28 (cS bG) (RL Sn):=Re Tryz.underlying28 WA (fun _=>by kernel_rfl) (by decide +kernel)
theorem Tt (os:Os) (started:os.Started) (H:Type) (enc:TypeId×Value→H) :
  ReturnsInHanded {} Tryz.checked os 3 .any (Rows.topNestsSpec.pre6 enc Tryz.prog Tryz.f3 Rows.topNestsRow.domain false) (Rows.topNestsSpec.post enc Tryz.prog Tryz.f3 false true false false):=by
 refine returnsInHanded_of_change_shaped (C:=Tryz.checked) WO started (by kernel_rfl) Tryz.func3
  (ChangeSpec.witness6 (enc:=enc) (C:=Tryz.checked) false ⟨#[],#[.agg #[.slice none 0 0,.slice none 0 0,.int .i64 0,.int .i64 0,.bool false],.slice none 0 0],[]⟩ 8 (by kernel_rfl) (by kernel_rfl) (by kernel_rfl) (by kernel_rfl)) ?_
 intro Wd base args ds gs before hval hW hcnd _ hsh _
 obtain ⟨p,q,hA,hV,rfl,hfz,hnd⟩:=id hW
 rw [Tryz.params3] at hA hval
 obtain ⟨v0,v1,d0,d1,p0,p1,rfl,rfl,rfl,h0,h1⟩:=trodAll_two hA
 obtain ⟨rfl,rfl⟩:=trodVars_none hV
 obtain ⟨a0,r0,q0⟩:=PU Tryz.underlying27 VW (hval 0 27 v0 rfl rfl) h0
 obtain ⟨a1,r1,q1⟩:=PW (MZ Tryz.underlying28 (hval 1 28 v1 rfl rfl)) VX (fun y=>(.sl (List.map bG y))) (fun _=>rfl) h1
 refine (IZ (vals:=[v0,v1]) (gl_ hsh) (W.Ie ((fun a0 a1 _ _=>SM.Zm a0 a1) a0 a1 r0 r1)) rfl ?_).mono fun e W' he=>?_
 ·intro i pv hi
  match i,hi with
  | 0,hi=>obtain rfl:=Option.some.inj hi;exact q0
  | 1,hi=>obtain rfl:=Option.some.inj hi;exact q1
  | n+2,hi=>simp at hi
 ·obtain ⟨rfl,hb⟩:=he
  exact ⟨_,rfl,MR MQ hW rfl hb (by kernel_rfl) (by kernel_rfl) Tryz.underlying4 rfl rfl rfl⟩
end Go.Proofs.YtmhdobkehcjefaaGreat
