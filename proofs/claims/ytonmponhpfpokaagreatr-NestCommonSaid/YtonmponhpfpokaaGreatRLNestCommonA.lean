/- The law NestCommon: for every input the call returns true, and each argument reads afterwards as before. No condition. -/
import Derived.Test.YtonmponhpfpokaaGreatRWO2
import Derived.Test.YtonmponhpfpokaaGreatRPl3
import Derived.Test.YtonmponhpfpokaaGreatRRows
set_option linter.unusedVariables false
set_option linter.unusedSimpArgs false
set_option linter.unusedSectionVars false
namespace Go.Proofs.YtonmponhpfpokaaGreatR
open Go Go.VI Go.SM Go.Proofs Go.ChangeShapes Go.WideShapes Go.ChangeAt Go.RowKit
set_option maxRecDepth 100000
theorem JC:ownKnob Tryz.prog.godebug=none:=by kernel_rfl
theorem BQ:laidOutB Tryz.prog=true:=by kernel_rfl
theorem FR:Rd Tryz.prog 3 cI R64:=HT Tryz.underlying3
theorem IU:Rd Tryz.prog 86 aB Zn:=by
 intro H enc W sp fuel cs x h
 have hl:=(Pg Tryz.underlying86 h).1.trans (by kernel_rfl:Tryz.prog.cellsOf 86=4)
 obtain ⟨fu0,y0,h0⟩:=Ho Tryz.underlying86 h 0 3 0 1 (by kernel_rfl)
 obtain ⟨a0,r0,q0⟩:=FR h0
 obtain ⟨fu1,y1,h1⟩:=Ho Tryz.underlying86 h 1 3 1 1 (by kernel_rfl)
 obtain ⟨a1,r1,q1⟩:=FR h1
 obtain ⟨fu2,y2,h2⟩:=Ho Tryz.underlying86 h 2 3 2 1 (by kernel_rfl)
 obtain ⟨a2,r2,q2⟩:=FR h2
 obtain ⟨fu3,y3,h3⟩:=Ho Tryz.underlying86 h 3 3 3 1 (by kernel_rfl)
 obtain ⟨a3,r3,q3⟩:=FR h3
 exact ⟨⟨a0,a1,a2,a3⟩,⟨r0,r1,r2,r3⟩,(Fq (o:=0) (n:=1) q0 rfl (Fq (o:=1) (n:=1) q1 rfl (Fq (o:=2) (n:=1) q2 rfl (Fq (o:=3) (n:=1) q3 rfl (DW (by simp [hl]))))))⟩
theorem GU:Rd Tryz.prog 22 (cS aB) (RL Zn):=CR Tryz.underlying22 IU (fun _=>by kernel_rfl) (by decide +kernel)
theorem Hd (os:Os) (started:os.Started) (H:Type) (enc:TypeId×Value→H) :
  ReturnsInHanded {} Tryz.checked os 13 .any (Rows.nestCommonSpec.pre6 enc Tryz.prog Tryz.f13 Rows.nestCommonRow.domain false) (Rows.nestCommonSpec.post enc Tryz.prog Tryz.f13 false true false false):=by
 refine returnsInHanded_of_change_shaped (C:=Tryz.checked) JC started (by kernel_rfl) Tryz.func13
  (ChangeSpec.witness6 (enc:=enc) (C:=Tryz.checked) false ⟨#[],#[.slice none 0 0,.slice none 0 0],[]⟩ 8 (by kernel_rfl) (by kernel_rfl) (by kernel_rfl) (by kernel_rfl)) ?_
 intro Wd base args ds gs before hval hW hcnd _ hsh _
 obtain ⟨p,q,hA,hV,rfl,hfz,hnd⟩:=id hW
 rw [Tryz.params13] at hA hval
 obtain ⟨v0,v1,d0,d1,p0,p1,rfl,rfl,rfl,h0,h1⟩:=trodAll_two hA
 obtain ⟨rfl,rfl⟩:=trodVars_none hV
 obtain ⟨a0,r0,q0⟩:=Vl (Sm Tryz.underlying22 (hval 0 22 v0 rfl rfl)) GU (fun y=>(.sl (List.map aB y))) (fun _=>rfl) h0
 obtain ⟨a1,r1,q1⟩:=Vl (Sm Tryz.underlying22 (hval 1 22 v1 rfl rfl)) GU (fun y=>(.sl (List.map aB y))) (fun _=>rfl) h1
 refine (Yi (vals:=[v0,v1]) (gl_ hsh) (W.uG ((fun a0 a1 _ _=>SM.Mi a0 a1) a0 a1 r0 r1)) rfl ?_).mono fun e W' he=>?_
 ·intro i pv hi
  match i,hi with
  | 0,hi=>obtain rfl:=Option.some.inj hi;exact q0
  | 1,hi=>obtain rfl:=Option.some.inj hi;exact q1
  | n+2,hi=>simp at hi
 ·obtain ⟨rfl,hb⟩:=he
  exact ⟨_,rfl,BR BQ hW rfl hb (by kernel_rfl) (by kernel_rfl) Tryz.underlying4 rfl rfl rfl⟩
end Go.Proofs.YtonmponhpfpokaaGreatR
