/- The law NestLowest: for every input the call returns true, and each argument reads afterwards as before. No condition. -/
import Derived.Test.YtonmponhpfpokaaGreatRWL1
import Derived.Test.YtonmponhpfpokaaGreatRPl3
import Derived.Test.YtonmponhpfpokaaGreatRRows
set_option linter.unusedVariables false
set_option linter.unusedSimpArgs false
set_option linter.unusedSectionVars false
namespace Go.Proofs.YtonmponhpfpokaaGreatR
open Go Go.VI Go.SM Go.Proofs Go.ChangeShapes Go.WideShapes Go.ChangeAt Go.RowKit
set_option maxRecDepth 100000
theorem LL:ownKnob Tryz.prog.godebug=none:=by kernel_rfl
theorem CD:laidOutB Tryz.prog=true:=by kernel_rfl
theorem GM:Rd Tryz.prog 9 KC RT:=JJ Tryz.underlying9
theorem Gn:Rd Tryz.prog 3 cI R64:=JI Tryz.underlying3
theorem KX:Rd Tryz.prog 86 aK Ek:=by
 intro H enc W sp fuel cs x h
 have hl:=(vZ Tryz.underlying86 h).1.trans (by kernel_rfl:Tryz.prog.cellsOf 86=4)
 obtain ⟨fu0,y0,h0⟩:=dJ Tryz.underlying86 h 0 3 0 1 (by kernel_rfl)
 obtain ⟨a0,r0,q0⟩:=Gn h0
 obtain ⟨fu1,y1,h1⟩:=dJ Tryz.underlying86 h 1 3 1 1 (by kernel_rfl)
 obtain ⟨a1,r1,q1⟩:=Gn h1
 obtain ⟨fu2,y2,h2⟩:=dJ Tryz.underlying86 h 2 3 2 1 (by kernel_rfl)
 obtain ⟨a2,r2,q2⟩:=Gn h2
 obtain ⟨fu3,y3,h3⟩:=dJ Tryz.underlying86 h 3 3 3 1 (by kernel_rfl)
 obtain ⟨a3,r3,q3⟩:=Gn h3
 exact ⟨⟨a0,a1,a2,a3⟩,⟨r0,r1,r2,r3⟩,(dH (o:=0) (n:=1) q0 rfl (dH (o:=1) (n:=1) q1 rfl (dH (o:=2) (n:=1) q2 rfl (dH (o:=3) (n:=1) q3 rfl (Ej (by simp [hl]))))))⟩
theorem Qn:Rd Tryz.prog 22 (cS aK) (RL Ek):=Tk Tryz.underlying22 KX (fun _=>by kernel_rfl) (by decide +kernel)
theorem KQ:Rd Tryz.prog 24 cG Wa:=by
 intro H enc W sp fuel cs x h
 have hl:=(vZ Tryz.underlying24 h).1.trans (by kernel_rfl:Tryz.prog.cellsOf 24=8)
 obtain ⟨fu0,y0,h0⟩:=dJ Tryz.underlying24 h 0 9 0 1 (by kernel_rfl)
 obtain ⟨a0,r0,q0⟩:=GM h0
 obtain ⟨fu1,y1,h1⟩:=dJ Tryz.underlying24 h 1 9 1 1 (by kernel_rfl)
 obtain ⟨a1,r1,q1⟩:=GM h1
 obtain ⟨fu2,y2,h2⟩:=dJ Tryz.underlying24 h 2 3 2 1 (by kernel_rfl)
 obtain ⟨a2,r2,q2⟩:=Gn h2
 obtain ⟨fu3,y3,h3⟩:=dJ Tryz.underlying24 h 3 3 3 1 (by kernel_rfl)
 obtain ⟨a3,r3,q3⟩:=Gn h3
 obtain ⟨fu4,y4,h4⟩:=dJ Tryz.underlying24 h 4 3 4 1 (by kernel_rfl)
 obtain ⟨a4,r4,q4⟩:=Gn h4
 obtain ⟨fu5,y5,h5⟩:=dJ Tryz.underlying24 h 5 3 5 1 (by kernel_rfl)
 obtain ⟨a5,r5,q5⟩:=Gn h5
 obtain ⟨fu6,y6,h6⟩:=dJ Tryz.underlying24 h 6 22 6 1 (by kernel_rfl)
 obtain ⟨a6,r6,q6⟩:=Qn h6
 obtain ⟨fu7,y7,h7⟩:=dJ Tryz.underlying24 h 7 22 7 1 (by kernel_rfl)
 obtain ⟨a7,r7,q7⟩:=Qn h7
 exact ⟨⟨a0,a1,a2,a3,a4,a5,a6,a7⟩,⟨r0,r1,r2,r3,r4,r5,r6,r7⟩,(dH (o:=0) (n:=1) q0 rfl (dH (o:=1) (n:=1) q1 rfl (dH (o:=2) (n:=1) q2 rfl (dH (o:=3) (n:=1) q3 rfl (dH (o:=4) (n:=1) q4 rfl (dH (o:=5) (n:=1) q5 rfl (dH (o:=6) (n:=1) q6 rfl (dH (o:=7) (n:=1) q7 rfl (Ej (by simp [hl]))))))))))⟩
theorem KT:Rd Tryz.prog 36 (cS (cS aK)) (RL (RL Ek)):=Tk Tryz.underlying36 Qn (fun _=>by kernel_rfl) (by decide +kernel)
theorem KW:Rd Tryz.prog 51 pY Df:=by
 intro H enc W sp fuel cs x h
 have hl:=(vZ Tryz.underlying51 h).1.trans (by kernel_rfl:Tryz.prog.cellsOf 51=9)
 obtain ⟨fu0,y0,h0⟩:=dJ Tryz.underlying51 h 0 24 0 8 (by kernel_rfl)
 obtain ⟨a0,r0,q0⟩:=KQ h0
 obtain ⟨fu1,y1,h1⟩:=dJ Tryz.underlying51 h 1 36 8 1 (by kernel_rfl)
 obtain ⟨a1,r1,q1⟩:=KT h1
 exact ⟨⟨a0,a1⟩,⟨r0,r1⟩,(dH (o:=0) (n:=8) q0 rfl (dH (o:=8) (n:=1) q1 rfl (Ej (by simp [hl]))))⟩
theorem KR:Rd Tryz.prog 26 cA Vz:=by
 intro H enc W sp fuel cs x h
 have hl:=(vZ Tryz.underlying26 h).1.trans (by kernel_rfl:Tryz.prog.cellsOf 26=7)
 obtain ⟨fu0,y0,h0⟩:=dJ Tryz.underlying26 h 0 9 0 1 (by kernel_rfl)
 obtain ⟨a0,r0,q0⟩:=GM h0
 obtain ⟨fu1,y1,h1⟩:=dJ Tryz.underlying26 h 1 9 1 1 (by kernel_rfl)
 obtain ⟨a1,r1,q1⟩:=GM h1
 obtain ⟨fu2,y2,h2⟩:=dJ Tryz.underlying26 h 2 3 2 1 (by kernel_rfl)
 obtain ⟨a2,r2,q2⟩:=Gn h2
 obtain ⟨fu3,y3,h3⟩:=dJ Tryz.underlying26 h 3 3 3 1 (by kernel_rfl)
 obtain ⟨a3,r3,q3⟩:=Gn h3
 obtain ⟨fu4,y4,h4⟩:=dJ Tryz.underlying26 h 4 22 4 1 (by kernel_rfl)
 obtain ⟨a4,r4,q4⟩:=Qn h4
 obtain ⟨fu5,y5,h5⟩:=dJ Tryz.underlying26 h 5 22 5 1 (by kernel_rfl)
 obtain ⟨a5,r5,q5⟩:=Qn h5
 obtain ⟨fu6,y6,h6⟩:=dJ Tryz.underlying26 h 6 22 6 1 (by kernel_rfl)
 obtain ⟨a6,r6,q6⟩:=Qn h6
 exact ⟨⟨a0,a1,a2,a3,a4,a5,a6⟩,⟨r0,r1,r2,r3,r4,r5,r6⟩,(dH (o:=0) (n:=1) q0 rfl (dH (o:=1) (n:=1) q1 rfl (dH (o:=2) (n:=1) q2 rfl (dH (o:=3) (n:=1) q3 rfl (dH (o:=4) (n:=1) q4 rfl (dH (o:=5) (n:=1) q5 rfl (dH (o:=6) (n:=1) q6 rfl (Ej (by simp [hl])))))))))⟩
theorem LN:Rd Tryz.prog 4 cB RT:=GN Tryz.underlying4
theorem KS:Rd Tryz.prog 28 eE My:=by
 intro H enc W sp fuel cs x h
 have hl:=(vZ Tryz.underlying28 h).1.trans (by kernel_rfl:Tryz.prog.cellsOf 28=3)
 obtain ⟨fu0,y0,h0⟩:=dJ Tryz.underlying28 h 0 3 0 1 (by kernel_rfl)
 obtain ⟨a0,r0,q0⟩:=Gn h0
 obtain ⟨fu1,y1,h1⟩:=dJ Tryz.underlying28 h 1 3 1 1 (by kernel_rfl)
 obtain ⟨a1,r1,q1⟩:=Gn h1
 obtain ⟨fu2,y2,h2⟩:=dJ Tryz.underlying28 h 2 4 2 1 (by kernel_rfl)
 obtain ⟨a2,r2,q2⟩:=LN h2
 exact ⟨⟨a0,a1,a2⟩,⟨r0,r1,r2⟩,(dH (o:=0) (n:=1) q0 rfl (dH (o:=1) (n:=1) q1 rfl (dH (o:=2) (n:=1) q2 rfl (Ej (by simp [hl])))))⟩
theorem KU:Rd Tryz.prog 38 bR El:=by
 intro H enc W sp fuel cs x h
 have hl:=(vZ Tryz.underlying38 h).1.trans (by kernel_rfl:Tryz.prog.cellsOf 38=10)
 obtain ⟨fu0,y0,h0⟩:=dJ Tryz.underlying38 h 0 26 0 7 (by kernel_rfl)
 obtain ⟨a0,r0,q0⟩:=KR h0
 obtain ⟨fu1,y1,h1⟩:=dJ Tryz.underlying38 h 1 28 7 3 (by kernel_rfl)
 obtain ⟨a1,r1,q1⟩:=KS h1
 exact ⟨⟨a0,a1⟩,⟨r0,r1⟩,(dH (o:=0) (n:=7) q0 rfl (dH (o:=7) (n:=3) q1 rfl (Ej (by simp [hl]))))⟩
theorem KV:Rd Tryz.prog 40 cK Rw:=by
 intro H enc W sp fuel cs x h
 have hl:=(vZ Tryz.underlying40 h).1.trans (by kernel_rfl:Tryz.prog.cellsOf 40=5)
 obtain ⟨fu0,y0,h0⟩:=dJ Tryz.underlying40 h 0 3 0 1 (by kernel_rfl)
 obtain ⟨a0,r0,q0⟩:=Gn h0
 obtain ⟨fu1,y1,h1⟩:=dJ Tryz.underlying40 h 1 3 1 1 (by kernel_rfl)
 obtain ⟨a1,r1,q1⟩:=Gn h1
 obtain ⟨fu2,y2,h2⟩:=dJ Tryz.underlying40 h 2 3 2 1 (by kernel_rfl)
 obtain ⟨a2,r2,q2⟩:=Gn h2
 obtain ⟨fu3,y3,h3⟩:=dJ Tryz.underlying40 h 3 3 3 1 (by kernel_rfl)
 obtain ⟨a3,r3,q3⟩:=Gn h3
 obtain ⟨fu4,y4,h4⟩:=dJ Tryz.underlying40 h 4 3 4 1 (by kernel_rfl)
 obtain ⟨a4,r4,q4⟩:=Gn h4
 exact ⟨⟨a0,a1,a2,a3,a4⟩,⟨r0,r1,r2,r3,r4⟩,(dH (o:=0) (n:=1) q0 rfl (dH (o:=1) (n:=1) q1 rfl (dH (o:=2) (n:=1) q2 rfl (dH (o:=3) (n:=1) q3 rfl (dH (o:=4) (n:=1) q4 rfl (Ej (by simp [hl])))))))⟩
theorem Jx (os:Os) (started:os.Started) (H:Type) (enc:TypeId×Value→H) :
  ReturnsInHanded {} Tryz.checked os 9 .any (Rows.nestLowestSpec.pre6 enc Tryz.prog Tryz.f9 Rows.nestLowestRow.domain false) (Rows.nestLowestSpec.post enc Tryz.prog Tryz.f9 false true false false):=by
 refine returnsInHanded_of_change_shaped (C:=Tryz.checked) LL started (by kernel_rfl) Tryz.func9
  (ChangeSpec.witness6 (enc:=enc) (C:=Tryz.checked) false ⟨#[],#[.agg #[.string ByteArray.empty,.string ByteArray.empty,.int .i64 0,.int .i64 0,.int .i64 0,.int .i64 0,.slice none 0 0,.slice none 0 0,.slice none 0 0],.agg #[.string ByteArray.empty,.string ByteArray.empty,.int .i64 0,.int .i64 0,.slice none 0 0,.slice none 0 0,.slice none 0 0,.int .i64 0,.int .i64 0,.bool false],.agg #[.int .i64 0,.int .i64 0,.int .i64 0,.int .i64 0,.int .i64 0]],[]⟩ 8 (by kernel_rfl) (by kernel_rfl) (by kernel_rfl) (by kernel_rfl)) ?_
 intro Wd base args ds gs before hval hW hcnd _ hsh _
 obtain ⟨p,q,hA,hV,rfl,hfz,hnd⟩:=id hW
 rw [Tryz.params9] at hA hval
 obtain ⟨v0,v1,v2,d0,d1,d2,p0,p1,p2,rfl,rfl,rfl,h0,h1,h2⟩:=trodAll_three hA
 obtain ⟨rfl,rfl⟩:=trodVars_none hV
 obtain ⟨a0,r0,q0⟩:=Qw Tryz.underlying51 KW (hval 0 51 v0 rfl rfl) h0
 obtain ⟨a1,r1,q1⟩:=Qw Tryz.underlying38 KU (hval 1 38 v1 rfl rfl) h1
 obtain ⟨a2,r2,q2⟩:=Qw Tryz.underlying40 KV (hval 2 40 v2 rfl rfl) h2
 refine (Ys (vals:=[v0,v1,v2]) (gl_ hsh) (W.zE ((fun a0 a1 a2 _ _ _=>SM.Oa a0 a1 a2) a0 a1 a2 r0 r1 r2)) rfl ?_).mono fun e W' he=>?_
 ·intro i pv hi
  match i,hi with
  | 0,hi=>obtain rfl:=Option.some.inj hi;exact q0
  | 1,hi=>obtain rfl:=Option.some.inj hi;exact q1
  | 2,hi=>obtain rfl:=Option.some.inj hi;exact q2
  | n+3,hi=>simp at hi
 ·obtain ⟨rfl,hb⟩:=he
  exact ⟨_,rfl,CE CD hW rfl hb (by kernel_rfl) (by kernel_rfl) Tryz.underlying4 rfl rfl rfl⟩
end Go.Proofs.YtonmponhpfpokaaGreatR
