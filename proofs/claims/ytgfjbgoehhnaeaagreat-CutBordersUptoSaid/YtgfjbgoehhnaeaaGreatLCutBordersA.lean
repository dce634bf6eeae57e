/- The law CutBorders, up to the bound: for every input of bulk at most 1048576 the call returns true, and each argument reads afterwards as before. -/
import Derived.Test.YtgfjbgoehhnaeaaGreatWO2
import Derived.Test.YtgfjbgoehhnaeaaGreatPl3
import Derived.Test.YtgfjbgoehhnaeaaGreatRows
set_option linter.unusedVariables false
set_option linter.unusedSimpArgs false
set_option linter.unusedSectionVars false
namespace Go.Proofs.YtgfjbgoehhnaeaaGreat
open Go Go.VI Go.SM Go.Proofs Go.ChangeShapes Go.WideShapes Go.ChangeAt Go.RowKit
set_option maxRecDepth 100000
theorem RX:ownKnob Tryz.prog.godebug=none:=by kernel_rfl
theorem IZ:laidOutB Tryz.prog=true:=by kernel_rfl
theorem GU {H:Type} (d:DataW H):1≤Rows.uptoBulk d:=by
 cases d with
 | lit l=>cases l <;> simp [Rows.uptoBulk]
 | nil=>simp [Rows.uptoBulk]
 | ptr d=>simp [Rows.uptoBulk]
 | slice elems spare=>simp [Rows.uptoBulk]
 | agg parts=>simp [Rows.uptoBulk]
 | iface t d=>simp [Rows.uptoBulk]
 | map entries=>simp [Rows.uptoBulk]
 | held h=>simp [Rows.uptoBulk]
theorem Mh {H:Type} {d:DataW H} {l:List (DataW H)} (h:d ∈ l):Rows.uptoBulk d≤Rows.uptoBulkAll l:=by
 induction l with
 | nil=>cases h
 | cons x r ih =>
   simp only [Rows.uptoBulkAll]
   cases List.mem_cons.1 h with
   | inl e=>subst e;omega
   | inr e=>have:=ih e;omega
theorem GS {H:Type} (l:List (DataW H)):l.length≤Rows.uptoBulkAll l:=by
 induction l with
 | nil=>simp [Rows.uptoBulkAll]
 | cons x r ih=>have:=GU x;simp only [Rows.uptoBulkAll,List.length_cons];omega
theorem sD:OV @Rows.uptoBulk where
 sl l r:=by
  have h1:=GS l
  refine ⟨by simp only [Rows.uptoBulk];omega,fun d hd=>?_⟩
  have:=Mh hd
  simp only [Rows.uptoBulk];omega
 ag l d hd:=by
  have:=Mh hd
  simp only [Rows.uptoBulk];omega
theorem Qf {H:Type} {d:DataW H} {l:List (DataW H)} (hk:Rows.uptoSmall H l=true) (hd:d ∈ l):Rows.uptoBulk d≤1048576:=by
 have h:Rows.uptoBulkAll l≤1048576:=by simpa [Rows.uptoSmall] using hk
 exact Nat.le_trans (Mh hd) h
theorem ND:RdN @Rows.uptoBulk 1048576 Tryz.prog 9 QS RT:=KE (PZ Tryz.underlying9)
theorem Ov:RdN @Rows.uptoBulk 1048576 Tryz.prog 3 cI R64:=KE (PY Tryz.underlying3)
theorem RM:RdN @Rows.uptoBulk 1048576 Tryz.prog 98 aO Es:=by
 intro H enc W sp fuel cs x h hN
 have hl:=(Ih Tryz.underlying98 h).1.trans (by kernel_rfl:Tryz.prog.cellsOf 98=4)
 obtain ⟨fu0,y0,h0,b0⟩:=fO sD Tryz.underlying98 h hN 0 3 0 1 (by kernel_rfl)
 obtain ⟨a0,r0,q0⟩:=Ov h0 b0
 obtain ⟨fu1,y1,h1,b1⟩:=fO sD Tryz.underlying98 h hN 1 3 1 1 (by kernel_rfl)
 obtain ⟨a1,r1,q1⟩:=Ov h1 b1
 obtain ⟨fu2,y2,h2,b2⟩:=fO sD Tryz.underlying98 h hN 2 3 2 1 (by kernel_rfl)
 obtain ⟨a2,r2,q2⟩:=Ov h2 b2
 obtain ⟨fu3,y3,h3,b3⟩:=fO sD Tryz.underlying98 h hN 3 3 3 1 (by kernel_rfl)
 obtain ⟨a3,r3,q3⟩:=Ov h3 b3
 exact ⟨⟨a0,a1,a2,a3⟩,⟨r0,r1,r2,r3⟩,(iF (o:=0) (n:=1) q0 rfl (iF (o:=1) (n:=1) q1 rfl (iF (o:=2) (n:=1) q2 rfl (iF (o:=3) (n:=1) q3 rfl (Pb (by simp [hl]))))))⟩
theorem Yo:RdN @Rows.uptoBulk 1048576 Tryz.prog 22 (cS aO) (RLN 1048576 Es):=Ui sD Tryz.underlying22 RM (fun _=>by kernel_rfl) (by decide +kernel)
theorem RH:RdN @Rows.uptoBulk 1048576 Tryz.prog 24 vA Wp:=by
 intro H enc W sp fuel cs x h hN
 have hl:=(Ih Tryz.underlying24 h).1.trans (by kernel_rfl:Tryz.prog.cellsOf 24=8)
 obtain ⟨fu0,y0,h0,b0⟩:=fO sD Tryz.underlying24 h hN 0 9 0 1 (by kernel_rfl)
 obtain ⟨a0,r0,q0⟩:=ND h0 b0
 obtain ⟨fu1,y1,h1,b1⟩:=fO sD Tryz.underlying24 h hN 1 9 1 1 (by kernel_rfl)
 obtain ⟨a1,r1,q1⟩:=ND h1 b1
 obtain ⟨fu2,y2,h2,b2⟩:=fO sD Tryz.underlying24 h hN 2 3 2 1 (by kernel_rfl)
 obtain ⟨a2,r2,q2⟩:=Ov h2 b2
 obtain ⟨fu3,y3,h3,b3⟩:=fO sD Tryz.underlying24 h hN 3 3 3 1 (by kernel_rfl)
 obtain ⟨a3,r3,q3⟩:=Ov h3 b3
 obtain ⟨fu4,y4,h4,b4⟩:=fO sD Tryz.underlying24 h hN 4 3 4 1 (by kernel_rfl)
 obtain ⟨a4,r4,q4⟩:=Ov h4 b4
 obtain ⟨fu5,y5,h5,b5⟩:=fO sD Tryz.underlying24 h hN 5 3 5 1 (by kernel_rfl)
 obtain ⟨a5,r5,q5⟩:=Ov h5 b5
 obtain ⟨fu6,y6,h6,b6⟩:=fO sD Tryz.underlying24 h hN 6 22 6 1 (by kernel_rfl)
 obtain ⟨a6,r6,q6⟩:=Yo h6 b6
 obtain ⟨fu7,y7,h7,b7⟩:=fO sD Tryz.underlying24 h hN 7 22 7 1 (by kernel_rfl)
 obtain ⟨a7,r7,q7⟩:=Yo h7 b7
 exact ⟨⟨a0,a1,a2,a3,a4,a5,a6,a7⟩,⟨r0,r1,r2,r3,r4,r5,r6,r7⟩,(iF (o:=0) (n:=1) q0 rfl (iF (o:=1) (n:=1) q1 rfl (iF (o:=2) (n:=1) q2 rfl (iF (o:=3) (n:=1) q3 rfl (iF (o:=4) (n:=1) q4 rfl (iF (o:=5) (n:=1) q5 rfl (iF (o:=6) (n:=1) q6 rfl (iF (o:=7) (n:=1) q7 rfl (Pb (by simp [hl]))))))))))⟩
theorem RL:RdN @Rows.uptoBulk 1048576 Tryz.prog 78 bG Px:=by
 intro H enc W sp fuel cs x h hN
 have hl:=(Ih Tryz.underlying78 h).1.trans (by kernel_rfl:Tryz.prog.cellsOf 78=7)
 obtain ⟨fu0,y0,h0,b0⟩:=fO sD Tryz.underlying78 h hN 0 9 0 1 (by kernel_rfl)
 obtain ⟨a0,r0,q0⟩:=ND h0 b0
 obtain ⟨fu1,y1,h1,b1⟩:=fO sD Tryz.underlying78 h hN 1 9 1 1 (by kernel_rfl)
 obtain ⟨a1,r1,q1⟩:=ND h1 b1
 obtain ⟨fu2,y2,h2,b2⟩:=fO sD Tryz.underlying78 h hN 2 3 2 1 (by kernel_rfl)
 obtain ⟨a2,r2,q2⟩:=Ov h2 b2
 obtain ⟨fu3,y3,h3,b3⟩:=fO sD Tryz.underlying78 h hN 3 3 3 1 (by kernel_rfl)
 obtain ⟨a3,r3,q3⟩:=Ov h3 b3
 obtain ⟨fu4,y4,h4,b4⟩:=fO sD Tryz.underlying78 h hN 4 22 4 1 (by kernel_rfl)
 obtain ⟨a4,r4,q4⟩:=Yo h4 b4
 obtain ⟨fu5,y5,h5,b5⟩:=fO sD Tryz.underlying78 h hN 5 22 5 1 (by kernel_rfl)
 obtain ⟨a5,r5,q5⟩:=Yo h5 b5
 obtain ⟨fu6,y6,h6,b6⟩:=fO sD Tryz.underlying78 h hN 6 22 6 1 (by kernel_rfl)
 obtain ⟨a6,r6,q6⟩:=Yo h6 b6
 exact ⟨⟨a0,a1,a2,a3,a4,a5,a6⟩,⟨r0,r1,r2,r3,r4,r5,r6⟩,(iF (o:=0) (n:=1) q0 rfl (iF (o:=1) (n:=1) q1 rfl (iF (o:=2) (n:=1) q2 rfl (iF (o:=3) (n:=1) q3 rfl (iF (o:=4) (n:=1) q4 rfl (iF (o:=5) (n:=1) q5 rfl (iF (o:=6) (n:=1) q6 rfl (Pb (by simp [hl])))))))))⟩
theorem RI:RdN @Rows.uptoBulk 1048576 Tryz.prog 25 (cS bG) (RLN 1048576 Px):=Ui sD Tryz.underlying25 RL (fun _=>by kernel_rfl) (by decide +kernel)
theorem RJ:RdN @Rows.uptoBulk 1048576 Tryz.prog 27 bE Er:=by
 intro H enc W sp fuel cs x h hN
 have hl:=(Ih Tryz.underlying27 h).1.trans (by kernel_rfl:Tryz.prog.cellsOf 27=9)
 obtain ⟨fu0,y0,h0,b0⟩:=fO sD Tryz.underlying27 h hN 0 24 0 8 (by kernel_rfl)
 obtain ⟨a0,r0,q0⟩:=RH h0 b0
 obtain ⟨fu1,y1,h1,b1⟩:=fO sD Tryz.underlying27 h hN 1 25 8 1 (by kernel_rfl)
 obtain ⟨a1,r1,q1⟩:=RI h1 b1
 exact ⟨⟨a0,a1⟩,⟨r0,r1⟩,(iF (o:=0) (n:=8) q0 rfl (iF (o:=8) (n:=1) q1 rfl (Pb (by simp [hl]))))⟩
theorem Km (os:Os) (started:os.Started) (H:Type) (enc:TypeId×Value→H) (F:Stop.Interp) :
  ReturnsInHanded {} Tryz.checked os 9 .any ((Rows.OpenSpec.upto Rows.cutBordersSpec).pre6 enc Tryz.prog Tryz.f9 Rows.cutBordersUptoRow.domain false) (((Rows.OpenSpec.upto Rows.cutBordersSpec).at F).post enc Tryz.prog Tryz.f9 false true false false):=by
 refine Xb (C:=Tryz.checked) (s:=(Rows.OpenSpec.upto Rows.cutBordersSpec)) (k:=Rows.uptoSmall) rfl RX started (by kernel_rfl) Tryz.func9
  (OpenSpec.witness (enc:=enc) (C:=Tryz.checked) (s:=(Rows.OpenSpec.upto Rows.cutBordersSpec)) (k:=Rows.uptoSmall) rfl false ⟨#[],#[.agg #[.string ByteArray.empty,.string ByteArray.empty,.int .i64 0,.int .i64 0,.int .i64 0,.int .i64 0,.slice none 0 0,.slice none 0 0,.slice none 0 0],.int .i64 0,.int .i64 0],[]⟩ 8 (by kernel_rfl) (by kernel_rfl) (by kernel_rfl)
   (x:=([.agg [.agg [.lit (.string []),.lit (.string []),.lit (.int .i64 0),.lit (.int .i64 0),.lit (.int .i64 0),.lit (.int .i64 0),.nil,.nil],.nil],.lit (.int .i64 0),.lit (.int .i64 0)],[],[])) (by kernel_rfl) rfl (by kernel_rfl)) ?_
 intro Wd base args ds gs before hval hW hk hsh
 obtain ⟨p,q,hA,hV,rfl,hfz,hnd⟩:=id hW
 rw [Tryz.params9] at hA hval
 obtain ⟨v0,v1,v2,d0,d1,d2,p0,p1,p2,rfl,rfl,rfl,h0,h1,h2⟩:=trodAll_three hA
 obtain ⟨rfl,rfl⟩:=trodVars_none hV
 obtain ⟨a0,r0,q0⟩:=GI Tryz.underlying27 RJ (hval 0 27 v0 rfl rfl) h0 (Qf hk (by simp))
 obtain ⟨a1,r1,q1⟩:=Wu (JI Tryz.underlying3 (hval 1 3 v1 rfl rfl)) Ov (fun y=>(vI y)) (fun _=>rfl) h1 (Qf hk (by simp))
 obtain ⟨a2,r2,q2⟩:=Wu (JI Tryz.underlying3 (hval 2 3 v2 rfl rfl)) Ov (fun y=>(vI y)) (fun _=>rfl) h2 (Qf hk (by simp))
 refine (EX (vals:=[v0,v1,v2]) (gl_ hsh) (W.xS (Ri a0 a1 a2 r0 r1 r2)) rfl ?_).mono fun e W' he=>?_
 ·intro i pv hi
  match i,hi with
  | 0,hi=>obtain rfl:=Option.some.inj hi;exact q0
  | 1,hi=>obtain rfl:=Option.some.inj hi;exact q1
  | 2,hi=>obtain rfl:=Option.some.inj hi;exact q2
  | n+3,hi=>simp at hi
 ·obtain ⟨rfl,hb⟩:=he
  exact ⟨_,rfl,JB IZ hW rfl hb (by kernel_rfl) (by kernel_rfl) Tryz.underlying4 rfl rfl rfl⟩
end Go.Proofs.YtgfjbgoehhnaeaaGreat
