/- The law NestExceeds: for every input the call returns true, and each argument reads afterwards as before. No condition. -/
import Derived.Test.YtonmponhpfpokaaGreatRWE1
import Derived.Test.YtonmponhpfpokaaGreatRPl2
import Derived.Test.YtonmponhpfpokaaGreatRRows
set_option linter.unusedVariables false
set_option linter.unusedSimpArgs false
set_option linter.unusedSectionVars false
namespace Go.Proofs.YtonmponhpfpokaaGreatR
open Go Go.VI Go.SM Go.Proofs Go.ChangeShapes Go.WideShapes Go.ChangeAt Go.RowKit
set_option maxRecDepth 100000
theorem EX:ownKnob Tryz.prog.godebug=none:=by kernel_rfl
theorem Xj:laidOutB Tryz.prog=true:=by kernel_rfl
theorem AZ:Rd Tryz.prog 9 DW RT:=DC Tryz.underlying9
theorem Az:Rd Tryz.prog 3 cI R64:=DB Tryz.underlying3
theorem EP:Rd Tryz.prog 86 aB Cr:=by
 intro H enc W sp fuel cs x h
 have hl:=(rY Tryz.underlying86 h).1.trans (by kernel_rfl:Tryz.prog.cellsOf 86=4)
 obtain ⟨fu0,y0,h0⟩:=cF Tryz.underlying86 h 0 3 0 1 (by kernel_rfl)
 obtain ⟨a0,r0,q0⟩:=Az h0
 obtain ⟨fu1,y1,h1⟩:=cF Tryz.underlying86 h 1 3 1 1 (by kernel_rfl)
 obtain ⟨a1,r1,q1⟩:=Az h1
 obtain ⟨fu2,y2,h2⟩:=cF Tryz.underlying86 h 2 3 2 1 (by kernel_rfl)
 obtain ⟨a2,r2,q2⟩:=Az h2
 obtain ⟨fu3,y3,h3⟩:=cF Tryz.underlying86 h 3 3 3 1 (by kernel_rfl)
 obtain ⟨a3,r3,q3⟩:=Az h3
 exact ⟨⟨a0,a1,a2,a3⟩,⟨r0,r1,r2,r3⟩,(cE (o:=0) (n:=1) q0 rfl (cE (o:=1) (n:=1) q1 rfl (cE (o:=2) (n:=1) q2 rfl (cE (o:=3) (n:=1) q3 rfl (Be (by simp [hl]))))))⟩
theorem Pk:Rd Tryz.prog 22 (cS aB) (RL Cr):=Eo Tryz.underlying22 EP (fun _=>by kernel_rfl) (by decide +kernel)
theorem EH:Rd Tryz.prog 24 aY Md:=by
 intro H enc W sp fuel cs x h
 have hl:=(rY Tryz.underlying24 h).1.trans (by kernel_rfl:Tryz.prog.cellsOf 24=8)
 obtain ⟨fu0,y0,h0⟩:=cF Tryz.underlying24 h 0 9 0 1 (by kernel_rfl)
 obtain ⟨a0,r0,q0⟩:=AZ h0
 obtain ⟨fu1,y1,h1⟩:=cF Tryz.underlying24 h 1 9 1 1 (by kernel_rfl)
 obtain ⟨a1,r1,q1⟩:=AZ h1
 obtain ⟨fu2,y2,h2⟩:=cF Tryz.underlying24 h 2 3 2 1 (by kernel_rfl)
 obtain ⟨a2,r2,q2⟩:=Az h2
 obtain ⟨fu3,y3,h3⟩:=cF Tryz.underlying24 h 3 3 3 1 (by kernel_rfl)
 obtain ⟨a3,r3,q3⟩:=Az h3
 obtain ⟨fu4,y4,h4⟩:=cF Tryz.underlying24 h 4 3 4 1 (by kernel_rfl)
 obtain ⟨a4,r4,q4⟩:=Az h4
 obtain ⟨fu5,y5,h5⟩:=cF Tryz.underlying24 h 5 3 5 1 (by kernel_rfl)
 obtain ⟨a5,r5,q5⟩:=Az h5
 obtain ⟨fu6,y6,h6⟩:=cF Tryz.underlying24 h 6 22 6 1 (by kernel_rfl)
 obtain ⟨a6,r6,q6⟩:=Pk h6
 obtain ⟨fu7,y7,h7⟩:=cF Tryz.underlying24 h 7 22 7 1 (by kernel_rfl)
 obtain ⟨a7,r7,q7⟩:=Pk h7
 exact ⟨⟨a0,a1,a2,a3,a4,a5,a6,a7⟩,⟨r0,r1,r2,r3,r4,r5,r6,r7⟩,(cE (o:=0) (n:=1) q0 rfl (cE (o:=1) (n:=1) q1 rfl (cE (o:=2) (n:=1) q2 rfl (cE (o:=3) (n:=1) q3 rfl (cE (o:=4) (n:=1) q4 rfl (cE (o:=5) (n:=1) q5 rfl (cE (o:=6) (n:=1) q6 rfl (cE (o:=7) (n:=1) q7 rfl (Be (by simp [hl]))))))))))⟩
theorem EL:Rd Tryz.prog 54 (cS aY) (RL Md):=Eo Tryz.underlying54 EH (fun _=>by kernel_rfl) (by decide +kernel)
theorem EI:Rd Tryz.prog 26 aS Mc:=by
 intro H enc W sp fuel cs x h
 have hl:=(rY Tryz.underlying26 h).1.trans (by kernel_rfl:Tryz.prog.cellsOf 26=7)
 obtain ⟨fu0,y0,h0⟩:=cF Tryz.underlying26 h 0 9 0 1 (by kernel_rfl)
 obtain ⟨a0,r0,q0⟩:=AZ h0
 obtain ⟨fu1,y1,h1⟩:=cF Tryz.underlying26 h 1 9 1 1 (by kernel_rfl)
 obtain ⟨a1,r1,q1⟩:=AZ h1
 obtain ⟨fu2,y2,h2⟩:=cF Tryz.underlying26 h 2 3 2 1 (by kernel_rfl)
 obtain ⟨a2,r2,q2⟩:=Az h2
 obtain ⟨fu3,y3,h3⟩:=cF Tryz.underlying26 h 3 3 3 1 (by kernel_rfl)
 obtain ⟨a3,r3,q3⟩:=Az h3
 obtain ⟨fu4,y4,h4⟩:=cF Tryz.underlying26 h 4 22 4 1 (by kernel_rfl)
 obtain ⟨a4,r4,q4⟩:=Pk h4
 obtain ⟨fu5,y5,h5⟩:=cF Tryz.underlying26 h 5 22 5 1 (by kernel_rfl)
 obtain ⟨a5,r5,q5⟩:=Pk h5
 obtain ⟨fu6,y6,h6⟩:=cF Tryz.underlying26 h 6 22 6 1 (by kernel_rfl)
 obtain ⟨a6,r6,q6⟩:=Pk h6
 exact ⟨⟨a0,a1,a2,a3,a4,a5,a6⟩,⟨r0,r1,r2,r3,r4,r5,r6⟩,(cE (o:=0) (n:=1) q0 rfl (cE (o:=1) (n:=1) q1 rfl (cE (o:=2) (n:=1) q2 rfl (cE (o:=3) (n:=1) q3 rfl (cE (o:=4) (n:=1) q4 rfl (cE (o:=5) (n:=1) q5 rfl (cE (o:=6) (n:=1) q6 rfl (Be (by simp [hl])))))))))⟩
theorem EM:Rd Tryz.prog 55 (cS aS) (RL Mc):=Eo Tryz.underlying55 EI (fun _=>by kernel_rfl) (by decide +kernel)
theorem EZ:Rd Tryz.prog 4 cB RT:=BA Tryz.underlying4
theorem EJ:Rd Tryz.prog 28 bI Ic:=by
 intro H enc W sp fuel cs x h
 have hl:=(rY Tryz.underlying28 h).1.trans (by kernel_rfl:Tryz.prog.cellsOf 28=3)
 obtain ⟨fu0,y0,h0⟩:=cF Tryz.underlying28 h 0 3 0 1 (by kernel_rfl)
 obtain ⟨a0,r0,q0⟩:=Az h0
 obtain ⟨fu1,y1,h1⟩:=cF Tryz.underlying28 h 1 3 1 1 (by kernel_rfl)
 obtain ⟨a1,r1,q1⟩:=Az h1
 obtain ⟨fu2,y2,h2⟩:=cF Tryz.underlying28 h 2 4 2 1 (by kernel_rfl)
 obtain ⟨a2,r2,q2⟩:=EZ h2
 exact ⟨⟨a0,a1,a2⟩,⟨r0,r1,r2⟩,(cE (o:=0) (n:=1) q0 rfl (cE (o:=1) (n:=1) q1 rfl (cE (o:=2) (n:=1) q2 rfl (Be (by simp [hl])))))⟩
theorem EN:Rd Tryz.prog 57 eY Ae:=by
 intro H enc W sp fuel cs x h
 have hl:=(rY Tryz.underlying57 h).1.trans (by kernel_rfl:Tryz.prog.cellsOf 57=5)
 obtain ⟨fu0,y0,h0⟩:=cF Tryz.underlying57 h 0 54 0 1 (by kernel_rfl)
 obtain ⟨a0,r0,q0⟩:=EL h0
 obtain ⟨fu1,y1,h1⟩:=cF Tryz.underlying57 h 1 55 1 1 (by kernel_rfl)
 obtain ⟨a1,r1,q1⟩:=EM h1
 obtain ⟨fu2,y2,h2⟩:=cF Tryz.underlying57 h 2 28 2 3 (by kernel_rfl)
 obtain ⟨a2,r2,q2⟩:=EJ h2
 exact ⟨⟨a0,a1,a2⟩,⟨r0,r1,r2⟩,(cE (o:=0) (n:=1) q0 rfl (cE (o:=1) (n:=1) q1 rfl (cE (o:=2) (n:=3) q2 rfl (Be (by simp [hl])))))⟩
theorem EK:Rd Tryz.prog 40 aV Fz:=by
 intro H enc W sp fuel cs x h
 have hl:=(rY Tryz.underlying40 h).1.trans (by kernel_rfl:Tryz.prog.cellsOf 40=5)
 obtain ⟨fu0,y0,h0⟩:=cF Tryz.underlying40 h 0 3 0 1 (by kernel_rfl)
 obtain ⟨a0,r0,q0⟩:=Az h0
 obtain ⟨fu1,y1,h1⟩:=cF Tryz.underlying40 h 1 3 1 1 (by kernel_rfl)
 obtain ⟨a1,r1,q1⟩:=Az h1
 obtain ⟨fu2,y2,h2⟩:=cF Tryz.underlying40 h 2 3 2 1 (by kernel_rfl)
 obtain ⟨a2,r2,q2⟩:=Az h2
 obtain ⟨fu3,y3,h3⟩:=cF Tryz.underlying40 h 3 3 3 1 (by kernel_rfl)
 obtain ⟨a3,r3,q3⟩:=Az h3
 obtain ⟨fu4,y4,h4⟩:=cF Tryz.underlying40 h 4 3 4 1 (by kernel_rfl)
 obtain ⟨a4,r4,q4⟩:=Az h4
 exact ⟨⟨a0,a1,a2,a3,a4⟩,⟨r0,r1,r2,r3,r4⟩,(cE (o:=0) (n:=1) q0 rfl (cE (o:=1) (n:=1) q1 rfl (cE (o:=2) (n:=1) q2 rfl (cE (o:=3) (n:=1) q3 rfl (cE (o:=4) (n:=1) q4 rfl (Be (by simp [hl])))))))⟩
theorem EO:Rd Tryz.prog 58 (cS aV) (RL Fz):=Eo Tryz.underlying58 EK (fun _=>by kernel_rfl) (by decide +kernel)
theorem Db (os:Os) (started:os.Started) (H:Type) (enc:TypeId×Value→H) :
  ReturnsInHanded {} Tryz.checked os 12 .any (Rows.nestExceedsSpec.pre6 enc Tryz.prog Tryz.f12 Rows.nestExceedsRow.domain false) (Rows.nestExceedsSpec.post enc Tryz.prog Tryz.f12 false true false false):=by
 refine returnsInHanded_of_change_shaped (C:=Tryz.checked) EX started (by kernel_rfl) Tryz.func12
  (ChangeSpec.witness6 (enc:=enc) (C:=Tryz.checked) false ⟨#[],#[.agg #[.slice none 0 0,.slice none 0 0,.int .i64 0,.int .i64 0,.bool false],.slice none 0 0],[]⟩ 8 (by kernel_rfl) (by kernel_rfl) (by kernel_rfl) (by kernel_rfl)) ?_
 intro Wd base args ds gs before hval hW hcnd _ hsh _
 obtain ⟨p,q,hA,hV,rfl,hfz,hnd⟩:=id hW
 rw [Tryz.params12] at hA hval
 obtain ⟨v0,v1,d0,d1,p0,p1,rfl,rfl,rfl,h0,h1⟩:=trodAll_two hA
 obtain ⟨rfl,rfl⟩:=trodVars_none hV
 obtain ⟨a0,r0,q0⟩:=Zp Tryz.underlying57 EN (hval 0 57 v0 rfl rfl) h0
 obtain ⟨a1,r1,q1⟩:=Zq (Xq Tryz.underlying58 (hval 1 58 v1 rfl rfl)) EO (fun y=>(.sl (List.map aV y))) (fun _=>rfl) h1
 refine (Up (vals:=[v0,v1]) (gl_ hsh) (W.sB ((fun a0 a1 _ _=>SM.Gv a0 a1) a0 a1 r0 r1)) rfl ?_).mono fun e W' he=>?_
 ·intro i pv hi
  match i,hi with
  | 0,hi=>obtain rfl:=Option.some.inj hi;exact q0
  | 1,hi=>obtain rfl:=Option.some.inj hi;exact q1
  | n+2,hi=>simp at hi
 ·obtain ⟨rfl,hb⟩:=he
  exact ⟨_,rfl,Xk Xj hW rfl hb (by kernel_rfl) (by kernel_rfl) Tryz.underlying4 rfl rfl rfl⟩
end Go.Proofs.YtonmponhpfpokaaGreatR
