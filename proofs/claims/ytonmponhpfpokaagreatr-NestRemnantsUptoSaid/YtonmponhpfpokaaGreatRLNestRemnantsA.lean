/- The law NestRemnants, up to the bound. -/
import Derived.Test.YtonmponhpfpokaaGreatRWM2
import Derived.Test.YtonmponhpfpokaaGreatRPl2
import Derived.Test.YtonmponhpfpokaaGreatRRows
set_option linter.unusedVariables false
set_option linter.unusedSimpArgs false
set_option linter.unusedSectionVars false
namespace Go.Proofs.YtonmponhpfpokaaGreatR
open Go Go.VI Go.SM Go.Proofs Go.ChangeShapes Go.WideShapes Go.ChangeAt Go.RowKit
set_option maxRecDepth 100000
theorem GX:ownKnob Tryz.prog.godebug=none:=by kernel_rfl
theorem AH:laidOutB Tryz.prog=true:=by kernel_rfl
theorem Yy {H:Type} (d:DataW H):1≤Rows.uptoBulk d:=by
 cases d with
 | lit l=>cases l <;> simp [Rows.uptoBulk]
 | nil=>simp [Rows.uptoBulk]
 | ptr d=>simp [Rows.uptoBulk]
 | slice elems spare=>simp [Rows.uptoBulk]
 | agg parts=>simp [Rows.uptoBulk]
 | iface t d=>simp [Rows.uptoBulk]
 | map entries=>simp [Rows.uptoBulk]
 | held h=>simp [Rows.uptoBulk]
theorem Hc {H:Type} {d:DataW H} {l:List (DataW H)} (h:d ∈ l):Rows.uptoBulk d≤Rows.uptoBulkAll l:=by
 induction l with
 | nil=>cases h
 | cons x r ih =>
   simp only [Rows.uptoBulkAll]
   cases List.mem_cons.1 h with
   | inl e=>subst e;omega
   | inr e=>have:=ih e;omega
theorem Yx {H:Type} (l:List (DataW H)):l.length≤Rows.uptoBulkAll l:=by
 induction l with
 | nil=>simp [Rows.uptoBulkAll]
 | cons x r ih=>have:=Yy x;simp only [Rows.uptoBulkAll,List.length_cons];omega
theorem yL:FC @Rows.uptoBulk where
 sl l r:=by
  have h1:=Yx l
  refine ⟨by simp only [Rows.uptoBulk];omega,fun d hd=>?_⟩
  have:=Hc hd
  simp only [Rows.uptoBulk];omega
 ag l d hd:=by
  have:=Hc hd
  simp only [Rows.uptoBulk];omega
theorem Qo {H:Type} {d:DataW H} {l:List (DataW H)} (hk:Rows.uptoSmall H l=true) (hd:d ∈ l):Rows.uptoBulk d≤1048576:=by
 have h:Rows.uptoBulkAll l≤1048576:=by simpa [Rows.uptoSmall] using hk
 exact Nat.le_trans (Hc hd) h
theorem GP:RdN @Rows.uptoBulk 1048576 Tryz.prog 9 GI RT:=BK (FT Tryz.underlying9)
theorem Sd:RdN @Rows.uptoBulk 1048576 Tryz.prog 3 cI R64:=BK (FR Tryz.underlying3)
theorem GN:RdN @Rows.uptoBulk 1048576 Tryz.prog 86 aB Fh:=by
 intro H enc W sp fuel cs x h hN
 have hl:=(Oj Tryz.underlying86 h).1.trans (by kernel_rfl:Tryz.prog.cellsOf 86=4)
 obtain ⟨fu0,y0,h0,b0⟩:=kQ yL Tryz.underlying86 h hN 0 3 0 1 (by kernel_rfl)
 obtain ⟨a0,r0,q0⟩:=Sd h0 b0
 obtain ⟨fu1,y1,h1,b1⟩:=kQ yL Tryz.underlying86 h hN 1 3 1 1 (by kernel_rfl)
 obtain ⟨a1,r1,q1⟩:=Sd h1 b1
 obtain ⟨fu2,y2,h2,b2⟩:=kQ yL Tryz.underlying86 h hN 2 3 2 1 (by kernel_rfl)
 obtain ⟨a2,r2,q2⟩:=Sd h2 b2
 obtain ⟨fu3,y3,h3,b3⟩:=kQ yL Tryz.underlying86 h hN 3 3 3 1 (by kernel_rfl)
 obtain ⟨a3,r3,q3⟩:=Sd h3 b3
 exact ⟨⟨a0,a1,a2,a3⟩,⟨r0,r1,r2,r3⟩,(nB (o:=0) (n:=1) q0 rfl (nB (o:=1) (n:=1) q1 rfl (nB (o:=2) (n:=1) q2 rfl (nB (o:=3) (n:=1) q3 rfl (Ul (by simp [hl]))))))⟩
theorem BM:RdN @Rows.uptoBulk 1048576 Tryz.prog 22 (cS aB) (RLN 1048576 Fh):=Xm yL Tryz.underlying22 GN (fun _=>by kernel_rfl) (by decide +kernel)
theorem GM:RdN @Rows.uptoBulk 1048576 Tryz.prog 24 aS Qf:=by
 intro H enc W sp fuel cs x h hN
 have hl:=(Oj Tryz.underlying24 h).1.trans (by kernel_rfl:Tryz.prog.cellsOf 24=8)
 obtain ⟨fu0,y0,h0,b0⟩:=kQ yL Tryz.underlying24 h hN 0 9 0 1 (by kernel_rfl)
 obtain ⟨a0,r0,q0⟩:=GP h0 b0
 obtain ⟨fu1,y1,h1,b1⟩:=kQ yL Tryz.underlying24 h hN 1 9 1 1 (by kernel_rfl)
 obtain ⟨a1,r1,q1⟩:=GP h1 b1
 obtain ⟨fu2,y2,h2,b2⟩:=kQ yL Tryz.underlying24 h hN 2 3 2 1 (by kernel_rfl)
 obtain ⟨a2,r2,q2⟩:=Sd h2 b2
 obtain ⟨fu3,y3,h3,b3⟩:=kQ yL Tryz.underlying24 h hN 3 3 3 1 (by kernel_rfl)
 obtain ⟨a3,r3,q3⟩:=Sd h3 b3
 obtain ⟨fu4,y4,h4,b4⟩:=kQ yL Tryz.underlying24 h hN 4 3 4 1 (by kernel_rfl)
 obtain ⟨a4,r4,q4⟩:=Sd h4 b4
 obtain ⟨fu5,y5,h5,b5⟩:=kQ yL Tryz.underlying24 h hN 5 3 5 1 (by kernel_rfl)
 obtain ⟨a5,r5,q5⟩:=Sd h5 b5
 obtain ⟨fu6,y6,h6,b6⟩:=kQ yL Tryz.underlying24 h hN 6 22 6 1 (by kernel_rfl)
 obtain ⟨a6,r6,q6⟩:=BM h6 b6
 obtain ⟨fu7,y7,h7,b7⟩:=kQ yL Tryz.underlying24 h hN 7 22 7 1 (by kernel_rfl)
 obtain ⟨a7,r7,q7⟩:=BM h7 b7
 exact ⟨⟨a0,a1,a2,a3,a4,a5,a6,a7⟩,⟨r0,r1,r2,r3,r4,r5,r6,r7⟩,(nB (o:=0) (n:=1) q0 rfl (nB (o:=1) (n:=1) q1 rfl (nB (o:=2) (n:=1) q2 rfl (nB (o:=3) (n:=1) q3 rfl (nB (o:=4) (n:=1) q4 rfl (nB (o:=5) (n:=1) q5 rfl (nB (o:=6) (n:=1) q6 rfl (nB (o:=7) (n:=1) q7 rfl (Ul (by simp [hl]))))))))))⟩
theorem Dt (os:Os) (started:os.Started) (H:Type) (enc:TypeId×Value→H) (F:Stop.Interp) :
  ReturnsInHanded {} Tryz.checked os 14 .any ((Rows.OpenSpec.upto Rows.nestRemnantsSpec).pre6 enc Tryz.prog Tryz.f14 Rows.nestRemnantsUptoRow.domain false) (((Rows.OpenSpec.upto Rows.nestRemnantsSpec).at F).post enc Tryz.prog Tryz.f14 false true false false):=by
 refine Qu (C:=Tryz.checked) (s:=(Rows.OpenSpec.upto Rows.nestRemnantsSpec)) (k:=Rows.uptoSmall) rfl GX started (by kernel_rfl) Tryz.func14
  (OpenSpec.witness (enc:=enc) (C:=Tryz.checked) (s:=(Rows.OpenSpec.upto Rows.nestRemnantsSpec)) (k:=Rows.uptoSmall) rfl false ⟨#[],#[.agg #[.string ByteArray.empty,.string ByteArray.empty,.int .i64 0,.int .i64 0,.int .i64 0,.int .i64 0,.slice none 0 0,.slice none 0 0],.slice none 0 0],[]⟩ 8 (by kernel_rfl) (by kernel_rfl) (by kernel_rfl)
   (x:=([.agg [.lit (.string []),.lit (.string []),.lit (.int .i64 0),.lit (.int .i64 0),.lit (.int .i64 0),.lit (.int .i64 0),.nil,.nil],.nil],[],[])) (by kernel_rfl) rfl (by kernel_rfl)) ?_
 intro Wd base args ds gs before hval hW hk hsh
 obtain ⟨p,q,hA,hV,rfl,hfz,hnd⟩:=id hW
 rw [Tryz.params14] at hA hval
 obtain ⟨v0,v1,d0,d1,p0,p1,rfl,rfl,rfl,h0,h1⟩:=trodAll_two hA
 obtain ⟨rfl,rfl⟩:=trodVars_none hV
 obtain ⟨a0,r0,q0⟩:=Yn Tryz.underlying24 GM (hval 0 24 v0 rfl rfl) h0 (Qo hk (by simp))
 obtain ⟨a1,r1,q1⟩:=Yo (AO Tryz.underlying22 (hval 1 22 v1 rfl rfl)) BM (fun y=>(.sl (List.map aB y))) (fun _=>rfl) h1 (Qo hk (by simp))
 refine (Xd (vals:=[v0,v1]) (gl_ hsh) (W.sC (Hk a0 a1 r0 r1)) rfl ?_).mono fun e W' he=>?_
 ·intro i pv hi
  match i,hi with
  | 0,hi=>obtain rfl:=Option.some.inj hi;exact q0
  | 1,hi=>obtain rfl:=Option.some.inj hi;exact q1
  | n+2,hi=>simp at hi
 ·obtain ⟨rfl,hb⟩:=he
  exact ⟨_,rfl,AI AH hW rfl hb (by kernel_rfl) (by kernel_rfl) Tryz.underlying4 rfl rfl rfl⟩
end Go.Proofs.YtonmponhpfpokaaGreatR
