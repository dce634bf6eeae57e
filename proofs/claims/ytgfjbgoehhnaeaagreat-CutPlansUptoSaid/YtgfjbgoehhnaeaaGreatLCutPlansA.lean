/- The law CutPlans, up to the bound. -/
import Derived.Test.YtgfjbgoehhnaeaaGreatWP2
import Derived.Test.YtgfjbgoehhnaeaaGreatPl4
import Derived.Test.YtgfjbgoehhnaeaaGreatRows
set_option linter.unusedVariables false
set_option linter.unusedSimpArgs false
set_option linter.unusedSectionVars false
namespace Go.Proofs.YtgfjbgoehhnaeaaGreat
open Go Go.VI Go.SM Go.Proofs Go.ChangeShapes Go.WideShapes Go.ChangeAt Go.RowKit
set_option maxRecDepth 100000
theorem UQ:ownKnob Tryz.prog.godebug=none:=by kernel_rfl
theorem ME:laidOutB Tryz.prog=true:=by kernel_rfl
theorem KF {H:Type} (d:DataW H):1≤Rows.uptoBulk d:=by
 cases d with
 | lit l=>cases l <;> simp [Rows.uptoBulk]
 | nil=>simp [Rows.uptoBulk]
 | ptr d=>simp [Rows.uptoBulk]
 | slice elems spare=>simp [Rows.uptoBulk]
 | agg parts=>simp [Rows.uptoBulk]
 | iface t d=>simp [Rows.uptoBulk]
 | map entries=>simp [Rows.uptoBulk]
 | held h=>simp [Rows.uptoBulk]
theorem Oz {H:Type} {d:DataW H} {l:List (DataW H)} (h:d ∈ l):Rows.uptoBulk d≤Rows.uptoBulkAll l:=by
 induction l with
 | nil=>cases h
 | cons x r ih =>
   simp only [Rows.uptoBulkAll]
   cases List.mem_cons.1 h with
   | inl e=>subst e;omega
   | inr e=>have:=ih e;omega
theorem KE {H:Type} (l:List (DataW H)):l.length≤Rows.uptoBulkAll l:=by
 induction l with
 | nil=>simp [Rows.uptoBulkAll]
 | cons x r ih=>have:=KF x;simp only [Rows.uptoBulkAll,List.length_cons];omega
theorem uO:RW @Rows.uptoBulk where
 sl l r:=by
  have h1:=KE l
  refine ⟨by simp only [Rows.uptoBulk];omega,fun d hd=>?_⟩
  have:=Oz hd
  simp only [Rows.uptoBulk];omega
 ag l d hd:=by
  have:=Oz hd
  simp only [Rows.uptoBulk];omega
theorem KD {H:Type} {d:DataW H} {l:List (DataW H)} (hk:Rows.uptoSmall H l=true) (hd:d ∈ l):Rows.uptoBulk d≤1048576:=by
 have h:Rows.uptoBulkAll l≤1048576:=by simpa [Rows.uptoSmall] using hk
 exact Nat.le_trans (Oz hd) h
theorem QK:RdN @Rows.uptoBulk 1048576 Tryz.prog 9 TU RT:=NF (SX Tryz.underlying9)
theorem Vq:RdN @Rows.uptoBulk 1048576 Tryz.prog 3 cI R64:=NF (SW Tryz.underlying3)
theorem UJ:RdN @Rows.uptoBulk 1048576 Tryz.prog 98 aE Ic:=by
 intro H enc W sp fuel cs x h hN
 have hl:=(La Tryz.underlying98 h).1.trans (by kernel_rfl:Tryz.prog.cellsOf 98=4)
 obtain ⟨fu0,y0,h0,b0⟩:=gH uO Tryz.underlying98 h hN 0 3 0 1 (by kernel_rfl)
 obtain ⟨a0,r0,q0⟩:=Vq h0 b0
 obtain ⟨fu1,y1,h1,b1⟩:=gH uO Tryz.underlying98 h hN 1 3 1 1 (by kernel_rfl)
 obtain ⟨a1,r1,q1⟩:=Vq h1 b1
 obtain ⟨fu2,y2,h2,b2⟩:=gH uO Tryz.underlying98 h hN 2 3 2 1 (by kernel_rfl)
 obtain ⟨a2,r2,q2⟩:=Vq h2 b2
 obtain ⟨fu3,y3,h3,b3⟩:=gH uO Tryz.underlying98 h hN 3 3 3 1 (by kernel_rfl)
 obtain ⟨a3,r3,q3⟩:=Vq h3 b3
 exact ⟨⟨a0,a1,a2,a3⟩,⟨r0,r1,r2,r3⟩,(jE (o:=0) (n:=1) q0 rfl (jE (o:=1) (n:=1) q1 rfl (jE (o:=2) (n:=1) q2 rfl (jE (o:=3) (n:=1) q3 rfl (Rh (by simp [hl]))))))⟩
theorem BI:RdN @Rows.uptoBulk 1048576 Tryz.prog 22 (cS aE) (RLN 1048576 Ic):=Xe uO Tryz.underlying22 UJ (fun _=>by kernel_rfl) (by decide +kernel)
theorem UF:RdN @Rows.uptoBulk 1048576 Tryz.prog 24 nS Zh:=by
 intro H enc W sp fuel cs x h hN
 have hl:=(La Tryz.underlying24 h).1.trans (by kernel_rfl:Tryz.prog.cellsOf 24=8)
 obtain ⟨fu0,y0,h0,b0⟩:=gH uO Tryz.underlying24 h hN 0 9 0 1 (by kernel_rfl)
 obtain ⟨a0,r0,q0⟩:=QK h0 b0
 obtain ⟨fu1,y1,h1,b1⟩:=gH uO Tryz.underlying24 h hN 1 9 1 1 (by kernel_rfl)
 obtain ⟨a1,r1,q1⟩:=QK h1 b1
 obtain ⟨fu2,y2,h2,b2⟩:=gH uO Tryz.underlying24 h hN 2 3 2 1 (by kernel_rfl)
 obtain ⟨a2,r2,q2⟩:=Vq h2 b2
 obtain ⟨fu3,y3,h3,b3⟩:=gH uO Tryz.underlying24 h hN 3 3 3 1 (by kernel_rfl)
 obtain ⟨a3,r3,q3⟩:=Vq h3 b3
 obtain ⟨fu4,y4,h4,b4⟩:=gH uO Tryz.underlying24 h hN 4 3 4 1 (by kernel_rfl)
 obtain ⟨a4,r4,q4⟩:=Vq h4 b4
 obtain ⟨fu5,y5,h5,b5⟩:=gH uO Tryz.underlying24 h hN 5 3 5 1 (by kernel_rfl)
 obtain ⟨a5,r5,q5⟩:=Vq h5 b5
 obtain ⟨fu6,y6,h6,b6⟩:=gH uO Tryz.underlying24 h hN 6 22 6 1 (by kernel_rfl)
 obtain ⟨a6,r6,q6⟩:=BI h6 b6
 obtain ⟨fu7,y7,h7,b7⟩:=gH uO Tryz.underlying24 h hN 7 22 7 1 (by kernel_rfl)
 obtain ⟨a7,r7,q7⟩:=BI h7 b7
 exact ⟨⟨a0,a1,a2,a3,a4,a5,a6,a7⟩,⟨r0,r1,r2,r3,r4,r5,r6,r7⟩,(jE (o:=0) (n:=1) q0 rfl (jE (o:=1) (n:=1) q1 rfl (jE (o:=2) (n:=1) q2 rfl (jE (o:=3) (n:=1) q3 rfl (jE (o:=4) (n:=1) q4 rfl (jE (o:=5) (n:=1) q5 rfl (jE (o:=6) (n:=1) q6 rfl (jE (o:=7) (n:=1) q7 rfl (Rh (by simp [hl]))))))))))⟩
theorem UI:RdN @Rows.uptoBulk 1048576 Tryz.prog 78 aZ Sd:=by
 intro H enc W sp fuel cs x h hN
 have hl:=(La Tryz.underlying78 h).1.trans (by kernel_rfl:Tryz.prog.cellsOf 78=7)
 obtain ⟨fu0,y0,h0,b0⟩:=gH uO Tryz.underlying78 h hN 0 9 0 1 (by kernel_rfl)
 obtain ⟨a0,r0,q0⟩:=QK h0 b0
 obtain ⟨fu1,y1,h1,b1⟩:=gH uO Tryz.underlying78 h hN 1 9 1 1 (by kernel_rfl)
 obtain ⟨a1,r1,q1⟩:=QK h1 b1
 obtain ⟨fu2,y2,h2,b2⟩:=gH uO Tryz.underlying78 h hN 2 3 2 1 (by kernel_rfl)
 obtain ⟨a2,r2,q2⟩:=Vq h2 b2
 obtain ⟨fu3,y3,h3,b3⟩:=gH uO Tryz.underlying78 h hN 3 3 3 1 (by kernel_rfl)
 obtain ⟨a3,r3,q3⟩:=Vq h3 b3
 obtain ⟨fu4,y4,h4,b4⟩:=gH uO Tryz.underlying78 h hN 4 22 4 1 (by kernel_rfl)
 obtain ⟨a4,r4,q4⟩:=BI h4 b4
 obtain ⟨fu5,y5,h5,b5⟩:=gH uO Tryz.underlying78 h hN 5 22 5 1 (by kernel_rfl)
 obtain ⟨a5,r5,q5⟩:=BI h5 b5
 obtain ⟨fu6,y6,h6,b6⟩:=gH uO Tryz.underlying78 h hN 6 22 6 1 (by kernel_rfl)
 obtain ⟨a6,r6,q6⟩:=BI h6 b6
 exact ⟨⟨a0,a1,a2,a3,a4,a5,a6⟩,⟨r0,r1,r2,r3,r4,r5,r6⟩,(jE (o:=0) (n:=1) q0 rfl (jE (o:=1) (n:=1) q1 rfl (jE (o:=2) (n:=1) q2 rfl (jE (o:=3) (n:=1) q3 rfl (jE (o:=4) (n:=1) q4 rfl (jE (o:=5) (n:=1) q5 rfl (jE (o:=6) (n:=1) q6 rfl (Rh (by simp [hl])))))))))⟩
theorem UG:RdN @Rows.uptoBulk 1048576 Tryz.prog 25 (cS aZ) (RLN 1048576 Sd):=Xe uO Tryz.underlying25 UI (fun _=>by kernel_rfl) (by decide +kernel)
theorem UH:RdN @Rows.uptoBulk 1048576 Tryz.prog 27 aR uN:=by
 intro H enc W sp fuel cs x h hN
 have hl:=(La Tryz.underlying27 h).1.trans (by kernel_rfl:Tryz.prog.cellsOf 27=9)
 obtain ⟨fu0,y0,h0,b0⟩:=gH uO Tryz.underlying27 h hN 0 24 0 8 (by kernel_rfl)
 obtain ⟨a0,r0,q0⟩:=UF h0 b0
 obtain ⟨fu1,y1,h1,b1⟩:=gH uO Tryz.underlying27 h hN 1 25 8 1 (by kernel_rfl)
 obtain ⟨a1,r1,q1⟩:=UG h1 b1
 exact ⟨⟨a0,a1⟩,⟨r0,r1⟩,(jE (o:=0) (n:=8) q0 rfl (jE (o:=8) (n:=1) q1 rfl (Rh (by simp [hl]))))⟩
theorem Qw (os:Os) (started:os.Started) (H:Type) (enc:TypeId×Value→H) (F:Stop.Interp) :
  ReturnsInHanded {} Tryz.checked os 8 .any ((Rows.OpenSpec.upto Rows.cutPlansSpec).pre6 enc Tryz.prog Tryz.f8 Rows.cutPlansUptoRow.domain false) (((Rows.OpenSpec.upto Rows.cutPlansSpec).at F).post enc Tryz.prog Tryz.f8 false true false false):=by
 refine Zs (C:=Tryz.checked) (s:=(Rows.OpenSpec.upto Rows.cutPlansSpec)) (k:=Rows.uptoSmall) rfl UQ started (by kernel_rfl) Tryz.func8
  (OpenSpec.witness (enc:=enc) (C:=Tryz.checked) (s:=(Rows.OpenSpec.upto Rows.cutPlansSpec)) (k:=Rows.uptoSmall) rfl false ⟨#[],#[.agg #[.string ByteArray.empty,.string ByteArray.empty,.int .i64 0,.int .i64 0,.int .i64 0,.int .i64 0,.slice none 0 0,.slice none 0 0,.slice none 0 0]],[]⟩ 8 (by kernel_rfl) (by kernel_rfl) (by kernel_rfl)
   (x:=([.agg [.agg [.lit (.string []),.lit (.string []),.lit (.int .i64 0),.lit (.int .i64 0),.lit (.int .i64 0),.lit (.int .i64 0),.nil,.nil],.nil]],[],[])) (by kernel_rfl) rfl (by kernel_rfl)) ?_
 intro Wd base args ds gs before hval hW hk hsh
 obtain ⟨p,q,hA,hV,rfl,hfz,hnd⟩:=id hW
 rw [Tryz.params8] at hA hval
 obtain ⟨v0,d0,rfl,rfl,h0⟩:=trodAll_one hA
 obtain ⟨rfl,rfl⟩:=trodVars_none hV
 obtain ⟨a0,r0,q0⟩:=JU Tryz.underlying27 UH (hval 0 27 v0 rfl rfl) h0 (KD hk (by simp))
 refine (HU (vals:=[v0]) (gl_ hsh) (W.Cg (Yj a0 r0)) rfl ?_).mono fun e W' he=>?_
 ·intro i pv hi
  match i,hi with
  | 0,hi=>obtain rfl:=Option.some.inj hi;exact q0
  | n+1,hi=>simp at hi
 ·obtain ⟨rfl,hb⟩:=he
  exact ⟨_,rfl,MF ME hW rfl hb (by kernel_rfl) (by kernel_rfl) Tryz.underlying4 rfl rfl rfl⟩
end Go.Proofs.YtgfjbgoehhnaeaaGreat
