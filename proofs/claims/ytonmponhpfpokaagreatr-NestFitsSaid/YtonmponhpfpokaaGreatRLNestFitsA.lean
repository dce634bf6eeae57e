/- The law NestFits: for every input the call returns true, and each argument reads afterwards as before. No condition. -/
import Derived.Test.YtonmponhpfpokaaGreatRWF2
import Derived.Test.YtonmponhpfpokaaGreatRPl3
import Derived.Test.YtonmponhpfpokaaGreatRRows
set_option linter.unusedVariables false
set_option linter.unusedSimpArgs false
set_option linter.unusedSectionVars false
namespace Go.Proofs.YtonmponhpfpokaaGreatR
open Go Go.VI Go.SM Go.Proofs Go.ChangeShapes Go.WideShapes Go.ChangeAt Go.RowKit
set_option maxRecDepth 100000
theorem LR:ownKnob Tryz.prog.godebug=none:=by kernel_rfl
theorem CL:laidOutB Tryz.prog=true:=by kernel_rfl
theorem GZ:Rd Tryz.prog 9 KL RT:=JU Tryz.underlying9
theorem Mm:Rd Tryz.prog 3 cI R64:=JT Tryz.underlying3
theorem LF:Rd Tryz.prog 86 aD Gc:=by
 intro H enc W sp fuel cs x h
 have hl:=(Az Tryz.underlying86 h).1.trans (by kernel_rfl:Tryz.prog.cellsOf 86=4)
 obtain ⟨fu0,y0,h0⟩:=gC Tryz.underlying86 h 0 3 0 1 (by kernel_rfl)
 obtain ⟨a0,r0,q0⟩:=Mm h0
 obtain ⟨fu1,y1,h1⟩:=gC Tryz.underlying86 h 1 3 1 1 (by kernel_rfl)
 obtain ⟨a1,r1,q1⟩:=Mm h1
 obtain ⟨fu2,y2,h2⟩:=gC Tryz.underlying86 h 2 3 2 1 (by kernel_rfl)
 obtain ⟨a2,r2,q2⟩:=Mm h2
 obtain ⟨fu3,y3,h3⟩:=gC Tryz.underlying86 h 3 3 3 1 (by kernel_rfl)
 obtain ⟨a3,r3,q3⟩:=Mm h3
 exact ⟨⟨a0,a1,a2,a3⟩,⟨r0,r1,r2,r3⟩,(gA (o:=0) (n:=1) q0 rfl (gA (o:=1) (n:=1) q1 rfl (gA (o:=2) (n:=1) q2 rfl (gA (o:=3) (n:=1) q3 rfl (Je (by simp [hl]))))))⟩
theorem Qz:Rd Tryz.prog 22 (cS aD) (RL Gc):=Tv Tryz.underlying22 LF (fun _=>by kernel_rfl) (by decide +kernel)
theorem KZ:Rd Tryz.prog 24 bE FC:=by
 intro H enc W sp fuel cs x h
 have hl:=(Az Tryz.underlying24 h).1.trans (by kernel_rfl:Tryz.prog.cellsOf 24=8)
 obtain ⟨fu0,y0,h0⟩:=gC Tryz.underlying24 h 0 9 0 1 (by kernel_rfl)
 obtain ⟨a0,r0,q0⟩:=GZ h0
 obtain ⟨fu1,y1,h1⟩:=gC Tryz.underlying24 h 1 9 1 1 (by kernel_rfl)
 obtain ⟨a1,r1,q1⟩:=GZ h1
 obtain ⟨fu2,y2,h2⟩:=gC Tryz.underlying24 h 2 3 2 1 (by kernel_rfl)
 obtain ⟨a2,r2,q2⟩:=Mm h2
 obtain ⟨fu3,y3,h3⟩:=gC Tryz.underlying24 h 3 3 3 1 (by kernel_rfl)
 obtain ⟨a3,r3,q3⟩:=Mm h3
 obtain ⟨fu4,y4,h4⟩:=gC Tryz.underlying24 h 4 3 4 1 (by kernel_rfl)
 obtain ⟨a4,r4,q4⟩:=Mm h4
 obtain ⟨fu5,y5,h5⟩:=gC Tryz.underlying24 h 5 3 5 1 (by kernel_rfl)
 obtain ⟨a5,r5,q5⟩:=Mm h5
 obtain ⟨fu6,y6,h6⟩:=gC Tryz.underlying24 h 6 22 6 1 (by kernel_rfl)
 obtain ⟨a6,r6,q6⟩:=Qz h6
 obtain ⟨fu7,y7,h7⟩:=gC Tryz.underlying24 h 7 22 7 1 (by kernel_rfl)
 obtain ⟨a7,r7,q7⟩:=Qz h7
 exact ⟨⟨a0,a1,a2,a3,a4,a5,a6,a7⟩,⟨r0,r1,r2,r3,r4,r5,r6,r7⟩,(gA (o:=0) (n:=1) q0 rfl (gA (o:=1) (n:=1) q1 rfl (gA (o:=2) (n:=1) q2 rfl (gA (o:=3) (n:=1) q3 rfl (gA (o:=4) (n:=1) q4 rfl (gA (o:=5) (n:=1) q5 rfl (gA (o:=6) (n:=1) q6 rfl (gA (o:=7) (n:=1) q7 rfl (Je (by simp [hl]))))))))))⟩
theorem LC:Rd Tryz.prog 36 (cS (cS aD)) (RL (RL Gc)):=Tv Tryz.underlying36 Qz (fun _=>by kernel_rfl) (by decide +kernel)
theorem LA:Rd Tryz.prog 26 bA Wm:=by
 intro H enc W sp fuel cs x h
 have hl:=(Az Tryz.underlying26 h).1.trans (by kernel_rfl:Tryz.prog.cellsOf 26=7)
 obtain ⟨fu0,y0,h0⟩:=gC Tryz.underlying26 h 0 9 0 1 (by kernel_rfl)
 obtain ⟨a0,r0,q0⟩:=GZ h0
 obtain ⟨fu1,y1,h1⟩:=gC Tryz.underlying26 h 1 9 1 1 (by kernel_rfl)
 obtain ⟨a1,r1,q1⟩:=GZ h1
 obtain ⟨fu2,y2,h2⟩:=gC Tryz.underlying26 h 2 3 2 1 (by kernel_rfl)
 obtain ⟨a2,r2,q2⟩:=Mm h2
 obtain ⟨fu3,y3,h3⟩:=gC Tryz.underlying26 h 3 3 3 1 (by kernel_rfl)
 obtain ⟨a3,r3,q3⟩:=Mm h3
 obtain ⟨fu4,y4,h4⟩:=gC Tryz.underlying26 h 4 22 4 1 (by kernel_rfl)
 obtain ⟨a4,r4,q4⟩:=Qz h4
 obtain ⟨fu5,y5,h5⟩:=gC Tryz.underlying26 h 5 22 5 1 (by kernel_rfl)
 obtain ⟨a5,r5,q5⟩:=Qz h5
 obtain ⟨fu6,y6,h6⟩:=gC Tryz.underlying26 h 6 22 6 1 (by kernel_rfl)
 obtain ⟨a6,r6,q6⟩:=Qz h6
 exact ⟨⟨a0,a1,a2,a3,a4,a5,a6⟩,⟨r0,r1,r2,r3,r4,r5,r6⟩,(gA (o:=0) (n:=1) q0 rfl (gA (o:=1) (n:=1) q1 rfl (gA (o:=2) (n:=1) q2 rfl (gA (o:=3) (n:=1) q3 rfl (gA (o:=4) (n:=1) q4 rfl (gA (o:=5) (n:=1) q5 rfl (gA (o:=6) (n:=1) q6 rfl (Je (by simp [hl])))))))))⟩
theorem LU:Rd Tryz.prog 4 cB RT:=HA Tryz.underlying4
theorem LB:Rd Tryz.prog 28 aW Ni:=by
 intro H enc W sp fuel cs x h
 have hl:=(Az Tryz.underlying28 h).1.trans (by kernel_rfl:Tryz.prog.cellsOf 28=3)
 obtain ⟨fu0,y0,h0⟩:=gC Tryz.underlying28 h 0 3 0 1 (by kernel_rfl)
 obtain ⟨a0,r0,q0⟩:=Mm h0
 obtain ⟨fu1,y1,h1⟩:=gC Tryz.underlying28 h 1 3 1 1 (by kernel_rfl)
 obtain ⟨a1,r1,q1⟩:=Mm h1
 obtain ⟨fu2,y2,h2⟩:=gC Tryz.underlying28 h 2 4 2 1 (by kernel_rfl)
 obtain ⟨a2,r2,q2⟩:=LU h2
 exact ⟨⟨a0,a1,a2⟩,⟨r0,r1,r2⟩,(gA (o:=0) (n:=1) q0 rfl (gA (o:=1) (n:=1) q1 rfl (gA (o:=2) (n:=1) q2 rfl (Je (by simp [hl])))))⟩
theorem LD:Rd Tryz.prog 38 wJ Eu:=by
 intro H enc W sp fuel cs x h
 have hl:=(Az Tryz.underlying38 h).1.trans (by kernel_rfl:Tryz.prog.cellsOf 38=10)
 obtain ⟨fu0,y0,h0⟩:=gC Tryz.underlying38 h 0 26 0 7 (by kernel_rfl)
 obtain ⟨a0,r0,q0⟩:=LA h0
 obtain ⟨fu1,y1,h1⟩:=gC Tryz.underlying38 h 1 28 7 3 (by kernel_rfl)
 obtain ⟨a1,r1,q1⟩:=LB h1
 exact ⟨⟨a0,a1⟩,⟨r0,r1⟩,(gA (o:=0) (n:=7) q0 rfl (gA (o:=7) (n:=3) q1 rfl (Je (by simp [hl]))))⟩
theorem Mf (os:Os) (started:os.Started) (H:Type) (enc:TypeId×Value→H) :
  ReturnsInHanded {} Tryz.checked os 5 .any (Rows.nestFitsSpec.pre6 enc Tryz.prog Tryz.f5 Rows.nestFitsRow.domain false) (Rows.nestFitsSpec.post enc Tryz.prog Tryz.f5 false true false false):=by
 refine returnsInHanded_of_change_shaped (C:=Tryz.checked) LR started (by kernel_rfl) Tryz.func5
  (ChangeSpec.witness6 (enc:=enc) (C:=Tryz.checked) false ⟨#[],#[.agg #[.string ByteArray.empty,.string ByteArray.empty,.int .i64 0,.int .i64 0,.int .i64 0,.int .i64 0,.slice none 0 0,.slice none 0 0],.slice none 0 0,.agg #[.string ByteArray.empty,.string ByteArray.empty,.int .i64 0,.int .i64 0,.slice none 0 0,.slice none 0 0,.slice none 0 0,.int .i64 0,.int .i64 0,.bool false]],[]⟩ 8 (by kernel_rfl) (by kernel_rfl) (by kernel_rfl) (by kernel_rfl)) ?_
 intro Wd base args ds gs before hval hW hcnd _ hsh _
 obtain ⟨p,q,hA,hV,rfl,hfz,hnd⟩:=id hW
 rw [Tryz.params5] at hA hval
 obtain ⟨v0,v1,v2,d0,d1,d2,p0,p1,p2,rfl,rfl,rfl,h0,h1,h2⟩:=trodAll_three hA
 obtain ⟨rfl,rfl⟩:=trodVars_none hV
 obtain ⟨a0,r0,q0⟩:=Wn Tryz.underlying24 KZ (hval 0 24 v0 rfl rfl) h0
 obtain ⟨a1,r1,q1⟩:=FI (CR Tryz.underlying36 (hval 1 36 v1 rfl rfl)) LC (fun y=>(.sl (List.map (cS aD) y))) (fun _=>rfl) h1
 obtain ⟨a2,r2,q2⟩:=Wn Tryz.underlying38 LD (hval 2 38 v2 rfl rfl) h2
 refine (Zc (vals:=[v0,v1,v2]) (gl_ hsh) (W.Aq ((fun a0 a1 a2 _ _ _=>SM.Ru a0 a1 a2) a0 a1 a2 r0 r1 r2)) rfl ?_).mono fun e W' he=>?_
 ·intro i pv hi
  match i,hi with
  | 0,hi=>obtain rfl:=Option.some.inj hi;exact q0
  | 1,hi=>obtain rfl:=Option.some.inj hi;exact q1
  | 2,hi=>obtain rfl:=Option.some.inj hi;exact q2
  | n+3,hi=>simp at hi
 ·obtain ⟨rfl,hb⟩:=he
  exact ⟨_,rfl,CM CL hW rfl hb (by kernel_rfl) (by kernel_rfl) Tryz.underlying4 rfl rfl rfl⟩
end Go.Proofs.YtonmponhpfpokaaGreatR
