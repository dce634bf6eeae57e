/- The law NestNests: for every input the call returns true, and each argument reads afterwards as before. No condition. -/
import Derived.Test.YtonmponhpfpokaaGreatRWN2
import Derived.Test.YtonmponhpfpokaaGreatRPl4
import Derived.Test.YtonmponhpfpokaaGreatRRows
set_option linter.unusedVariables false
set_option linter.unusedSimpArgs false
set_option linter.unusedSectionVars false
namespace Go.Proofs.YtonmponhpfpokaaGreatR
open Go Go.VI Go.SM Go.Proofs Go.ChangeShapes Go.WideShapes Go.ChangeAt Go.RowKit
set_option maxRecDepth 100000
theorem PZ:ownKnob Tryz.prog.godebug=none:=by kernel_rfl
theorem GL:laidOutB Tryz.prog=true:=by kernel_rfl
theorem LC:Rd Tryz.prog 9 OJ RT:=NP Tryz.underlying9
theorem Qd:Rd Tryz.prog 3 cI R64:=NN Tryz.underlying3
theorem PI:Rd Tryz.prog 86 aE Lv:=by
 intro H enc W sp fuel cs x h
 have hl:=(Dt Tryz.underlying86 h).1.trans (by kernel_rfl:Tryz.prog.cellsOf 86=4)
 obtain ⟨fu0,y0,h0⟩:=gM Tryz.underlying86 h 0 3 0 1 (by kernel_rfl)
 obtain ⟨a0,r0,q0⟩:=Qd h0
 obtain ⟨fu1,y1,h1⟩:=gM Tryz.underlying86 h 1 3 1 1 (by kernel_rfl)
 obtain ⟨a1,r1,q1⟩:=Qd h1
 obtain ⟨fu2,y2,h2⟩:=gM Tryz.underlying86 h 2 3 2 1 (by kernel_rfl)
 obtain ⟨a2,r2,q2⟩:=Qd h2
 obtain ⟨fu3,y3,h3⟩:=gM Tryz.underlying86 h 3 3 3 1 (by kernel_rfl)
 obtain ⟨a3,r3,q3⟩:=Qd h3
 exact ⟨⟨a0,a1,a2,a3⟩,⟨r0,r1,r2,r3⟩,(gL (o:=0) (n:=1) q0 rfl (gL (o:=1) (n:=1) q1 rfl (gL (o:=2) (n:=1) q2 rfl (gL (o:=3) (n:=1) q3 rfl (Mp (by simp [hl]))))))⟩
theorem Xr:Rd Tryz.prog 22 (cS aE) (RL Lv):=Sq Tryz.underlying22 PI (fun _=>by kernel_rfl) (by decide +kernel)
theorem PB:Rd Tryz.prog 24 bK Ve:=by
 intro H enc W sp fuel cs x h
 have hl:=(Dt Tryz.underlying24 h).1.trans (by kernel_rfl:Tryz.prog.cellsOf 24=8)
 obtain ⟨fu0,y0,h0⟩:=gM Tryz.underlying24 h 0 9 0 1 (by kernel_rfl)
 obtain ⟨a0,r0,q0⟩:=LC h0
 obtain ⟨fu1,y1,h1⟩:=gM Tryz.underlying24 h 1 9 1 1 (by kernel_rfl)
 obtain ⟨a1,r1,q1⟩:=LC h1
 obtain ⟨fu2,y2,h2⟩:=gM Tryz.underlying24 h 2 3 2 1 (by kernel_rfl)
 obtain ⟨a2,r2,q2⟩:=Qd h2
 obtain ⟨fu3,y3,h3⟩:=gM Tryz.underlying24 h 3 3 3 1 (by kernel_rfl)
 obtain ⟨a3,r3,q3⟩:=Qd h3
 obtain ⟨fu4,y4,h4⟩:=gM Tryz.underlying24 h 4 3 4 1 (by kernel_rfl)
 obtain ⟨a4,r4,q4⟩:=Qd h4
 obtain ⟨fu5,y5,h5⟩:=gM Tryz.underlying24 h 5 3 5 1 (by kernel_rfl)
 obtain ⟨a5,r5,q5⟩:=Qd h5
 obtain ⟨fu6,y6,h6⟩:=gM Tryz.underlying24 h 6 22 6 1 (by kernel_rfl)
 obtain ⟨a6,r6,q6⟩:=Xr h6
 obtain ⟨fu7,y7,h7⟩:=gM Tryz.underlying24 h 7 22 7 1 (by kernel_rfl)
 obtain ⟨a7,r7,q7⟩:=Xr h7
 exact ⟨⟨a0,a1,a2,a3,a4,a5,a6,a7⟩,⟨r0,r1,r2,r3,r4,r5,r6,r7⟩,(gL (o:=0) (n:=1) q0 rfl (gL (o:=1) (n:=1) q1 rfl (gL (o:=2) (n:=1) q2 rfl (gL (o:=3) (n:=1) q3 rfl (gL (o:=4) (n:=1) q4 rfl (gL (o:=5) (n:=1) q5 rfl (gL (o:=6) (n:=1) q6 rfl (gL (o:=7) (n:=1) q7 rfl (Mp (by simp [hl]))))))))))⟩
theorem PF:Rd Tryz.prog 54 (cS bK) (RL Ve):=Sq Tryz.underlying54 PB (fun _=>by kernel_rfl) (by decide +kernel)
theorem PD:Rd Tryz.prog 26 bC Vd:=by
 intro H enc W sp fuel cs x h
 have hl:=(Dt Tryz.underlying26 h).1.trans (by kernel_rfl:Tryz.prog.cellsOf 26=7)
 obtain ⟨fu0,y0,h0⟩:=gM Tryz.underlying26 h 0 9 0 1 (by kernel_rfl)
 obtain ⟨a0,r0,q0⟩:=LC h0
 obtain ⟨fu1,y1,h1⟩:=gM Tryz.underlying26 h 1 9 1 1 (by kernel_rfl)
 obtain ⟨a1,r1,q1⟩:=LC h1
 obtain ⟨fu2,y2,h2⟩:=gM Tryz.underlying26 h 2 3 2 1 (by kernel_rfl)
 obtain ⟨a2,r2,q2⟩:=Qd h2
 obtain ⟨fu3,y3,h3⟩:=gM Tryz.underlying26 h 3 3 3 1 (by kernel_rfl)
 obtain ⟨a3,r3,q3⟩:=Qd h3
 obtain ⟨fu4,y4,h4⟩:=gM Tryz.underlying26 h 4 22 4 1 (by kernel_rfl)
 obtain ⟨a4,r4,q4⟩:=Xr h4
 obtain ⟨fu5,y5,h5⟩:=gM Tryz.underlying26 h 5 22 5 1 (by kernel_rfl)
 obtain ⟨a5,r5,q5⟩:=Xr h5
 obtain ⟨fu6,y6,h6⟩:=gM Tryz.underlying26 h 6 22 6 1 (by kernel_rfl)
 obtain ⟨a6,r6,q6⟩:=Xr h6
 exact ⟨⟨a0,a1,a2,a3,a4,a5,a6⟩,⟨r0,r1,r2,r3,r4,r5,r6⟩,(gL (o:=0) (n:=1) q0 rfl (gL (o:=1) (n:=1) q1 rfl (gL (o:=2) (n:=1) q2 rfl (gL (o:=3) (n:=1) q3 rfl (gL (o:=4) (n:=1) q4 rfl (gL (o:=5) (n:=1) q5 rfl (gL (o:=6) (n:=1) q6 rfl (Mp (by simp [hl])))))))))⟩
theorem PG:Rd Tryz.prog 55 (cS bC) (RL Vd):=Sq Tryz.underlying55 PD (fun _=>by kernel_rfl) (by decide +kernel)
theorem QB:Rd Tryz.prog 4 cB RT:=LD Tryz.underlying4
theorem PE:Rd Tryz.prog 28 aW Rc:=by
 intro H enc W sp fuel cs x h
 have hl:=(Dt Tryz.underlying28 h).1.trans (by kernel_rfl:Tryz.prog.cellsOf 28=3)
 obtain ⟨fu0,y0,h0⟩:=gM Tryz.underlying28 h 0 3 0 1 (by kernel_rfl)
 obtain ⟨a0,r0,q0⟩:=Qd h0
 obtain ⟨fu1,y1,h1⟩:=gM Tryz.underlying28 h 1 3 1 1 (by kernel_rfl)
 obtain ⟨a1,r1,q1⟩:=Qd h1
 obtain ⟨fu2,y2,h2⟩:=gM Tryz.underlying28 h 2 4 2 1 (by kernel_rfl)
 obtain ⟨a2,r2,q2⟩:=QB h2
 exact ⟨⟨a0,a1,a2⟩,⟨r0,r1,r2⟩,(gL (o:=0) (n:=1) q0 rfl (gL (o:=1) (n:=1) q1 rfl (gL (o:=2) (n:=1) q2 rfl (Mp (by simp [hl])))))⟩
theorem PH:Rd Tryz.prog 57 qQ Ji:=by
 intro H enc W sp fuel cs x h
 have hl:=(Dt Tryz.underlying57 h).1.trans (by kernel_rfl:Tryz.prog.cellsOf 57=5)
 obtain ⟨fu0,y0,h0⟩:=gM Tryz.underlying57 h 0 54 0 1 (by kernel_rfl)
 obtain ⟨a0,r0,q0⟩:=PF h0
 obtain ⟨fu1,y1,h1⟩:=gM Tryz.underlying57 h 1 55 1 1 (by kernel_rfl)
 obtain ⟨a1,r1,q1⟩:=PG h1
 obtain ⟨fu2,y2,h2⟩:=gM Tryz.underlying57 h 2 28 2 3 (by kernel_rfl)
 obtain ⟨a2,r2,q2⟩:=PE h2
 exact ⟨⟨a0,a1,a2⟩,⟨r0,r1,r2⟩,(gL (o:=0) (n:=1) q0 rfl (gL (o:=1) (n:=1) q1 rfl (gL (o:=2) (n:=3) q2 rfl (Mp (by simp [hl])))))⟩
theorem Og (os:Os) (started:os.Started) (H:Type) (enc:TypeId×Value→H) :
  ReturnsInHanded {} Tryz.checked os 11 .any (Rows.nestNestsSpec.pre6 enc Tryz.prog Tryz.f11 Rows.nestNestsRow.domain false) (Rows.nestNestsSpec.post enc Tryz.prog Tryz.f11 false true false false):=by
 refine returnsInHanded_of_change_shaped (C:=Tryz.checked) PZ started (by kernel_rfl) Tryz.func11
  (ChangeSpec.witness6 (enc:=enc) (C:=Tryz.checked) false ⟨#[],#[.agg #[.slice none 0 0,.slice none 0 0,.int .i64 0,.int .i64 0,.bool false]],[]⟩ 8 (by kernel_rfl) (by kernel_rfl) (by kernel_rfl) (by kernel_rfl)) ?_
 intro Wd base args ds gs before hval hW hcnd _ hsh _
 obtain ⟨p,q,hA,hV,rfl,hfz,hnd⟩:=id hW
 rw [Tryz.params11] at hA hval
 obtain ⟨v0,d0,rfl,rfl,h0⟩:=trodAll_one hA
 obtain ⟨rfl,rfl⟩:=trodVars_none hV
 obtain ⟨a0,r0,q0⟩:=JQ Tryz.underlying57 PH (hval 0 57 v0 rfl rfl) h0
 refine (DA (vals:=[v0]) (gl_ hsh) (W.Cv ((fun a0 _=>SM.Th a0) a0 r0)) rfl ?_).mono fun e W' he=>?_
 ·intro i pv hi
  match i,hi with
  | 0,hi=>obtain rfl:=Option.some.inj hi;exact q0
  | n+1,hi=>simp at hi
 ·obtain ⟨rfl,hb⟩:=he
  exact ⟨_,rfl,GM GL hW rfl hb (by kernel_rfl) (by kernel_rfl) Tryz.underlying4 rfl rfl rfl⟩
end Go.Proofs.YtonmponhpfpokaaGreatR
