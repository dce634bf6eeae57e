/- The law CutRuns, up to the bound: for every input of bulk at most 1048576 the call returns true, and each argument reads afterwards as before. -/
import Derived.Test.YtgfjbgoehhnaeaaGreatWU2
import Derived.Test.YtgfjbgoehhnaeaaGreatPl3
import Derived.Test.YtgfjbgoehhnaeaaGreatRows
set_option linter.unusedVariables false
set_option linter.unusedSimpArgs false
set_option linter.unusedSectionVars false
namespace Go.Proofs.YtgfjbgoehhnaeaaGreat
open Go Go.VI Go.SM Go.Proofs Go.ChangeShapes Go.WideShapes Go.ChangeAt Go.RowKit
set_option maxRecDepth 100000
theorem R8:ownKnob Tryz.prog.godebug=none:=by kernel_rfl
theorem VU:laidOutB Tryz.prog=true:=by kernel_rfl
theorem UB {H:Type} (d:DataW H):1≤Rows.uptoBulk d:=by
  cases d with
  | lit l=>cases l <;> simp [Rows.uptoBulk]
  | nil=>simp [Rows.uptoBulk]
  | ptr d=>simp [Rows.uptoBulk]
  | slice elems spare=>simp [Rows.uptoBulk]
  | agg parts=>simp [Rows.uptoBulk]
  | iface t d=>simp [Rows.uptoBulk]
  | map entries=>simp [Rows.uptoBulk]
  | held h=>simp [Rows.uptoBulk]
theorem Wt {H:Type} {d:DataW H} {l:List (DataW H)} (h:d ∈ l):Rows.uptoBulk d≤Rows.uptoBulkAll l:=by
  induction l with
  | nil=>cases h
  | cons x r ih =>
    simp only [Rows.uptoBulkAll]
    cases List.mem_cons.1 h with
    | inl e=>subst e;omega
    | inr e=>have:=ih e;omega
theorem UA {H:Type} (l:List (DataW H)):l.length≤Rows.uptoBulkAll l:=by
  induction l with
  | nil=>simp [Rows.uptoBulkAll]
  | cons x r ih=>have:=UB x;simp only [Rows.uptoBulkAll,List.length_cons];omega
theorem rG:Bulk @Rows.uptoBulk where
  sl l r:=by
    have h1:=UA l
    refine ⟨by simp only [Rows.uptoBulk];omega,fun d hd=>?_⟩
    have:=Wt hd
    simp only [Rows.uptoBulk];omega
  ag l d hd:=by
    have:=Wt hd
    simp only [Rows.uptoBulk];omega
theorem IW {H:Type} {d:DataW H} {l:List (DataW H)} (hk:Rows.uptoSmall H l=true) (hd:d ∈ l):Rows.uptoBulk d≤1048576:=by
  have h:Rows.uptoBulkAll l≤1048576:=by simpa [Rows.uptoSmall] using hk
  exact Nat.le_trans (Wt hd) h
theorem ZO:RdN @Rows.uptoBulk 1048576 Tryz.prog 9 cStr RT:=WX (L6 Tryz.underlying9)
theorem Ue:RdN @Rows.uptoBulk 1048576 Tryz.prog 3 cI R64:=WX (J9 Tryz.underlying3)
theorem R3:RdN @Rows.uptoBulk 1048576 Tryz.prog 98 aD Nw:=by
  intro H enc W sp fuel cs x h hN
  have hl:=(Gj Tryz.underlying98 h).1.trans (by kernel_rfl:Tryz.prog.cellsOf 98=4)
  obtain ⟨fu0,y0,h0,b0⟩:=dJ rG Tryz.underlying98 h hN 0 3 0 1 (by kernel_rfl)
  obtain ⟨a0,r0,q0⟩:=Ue h0 b0
  obtain ⟨fu1,y1,h1,b1⟩:=dJ rG Tryz.underlying98 h hN 1 3 1 1 (by kernel_rfl)
  obtain ⟨a1,r1,q1⟩:=Ue h1 b1
  obtain ⟨fu2,y2,h2,b2⟩:=dJ rG Tryz.underlying98 h hN 2 3 2 1 (by kernel_rfl)
  obtain ⟨a2,r2,q2⟩:=Ue h2 b2
  obtain ⟨fu3,y3,h3,b3⟩:=dJ rG Tryz.underlying98 h hN 3 3 3 1 (by kernel_rfl)
  obtain ⟨a3,r3,q3⟩:=Ue h3 b3
  exact ⟨⟨a0,a1,a2,a3⟩,⟨r0,r1,r2,r3⟩,(fJ (o:=0) (n:=1) q0 rfl (fJ (o:=1) (n:=1) q1 rfl (fJ (o:=2) (n:=1) q2 rfl (fJ (o:=3) (n:=1) q3 rfl (Qp (by simp [hl]))))))⟩
theorem KP:RdN @Rows.uptoBulk 1048576 Tryz.prog 22 (cS aD) (RLN 1048576 Nw):=Xh rG Tryz.underlying22 R3 (fun _=>by kernel_rfl) (by decide +kernel)
theorem Q0:RdN @Rows.uptoBulk 1048576 Tryz.prog 24 oU IL:=by
  intro H enc W sp fuel cs x h hN
  have hl:=(Gj Tryz.underlying24 h).1.trans (by kernel_rfl:Tryz.prog.cellsOf 24=8)
  obtain ⟨fu0,y0,h0,b0⟩:=dJ rG Tryz.underlying24 h hN 0 9 0 1 (by kernel_rfl)
  obtain ⟨a0,r0,q0⟩:=ZO h0 b0
  obtain ⟨fu1,y1,h1,b1⟩:=dJ rG Tryz.underlying24 h hN 1 9 1 1 (by kernel_rfl)
  obtain ⟨a1,r1,q1⟩:=ZO h1 b1
  obtain ⟨fu2,y2,h2,b2⟩:=dJ rG Tryz.underlying24 h hN 2 3 2 1 (by kernel_rfl)
  obtain ⟨a2,r2,q2⟩:=Ue h2 b2
  obtain ⟨fu3,y3,h3,b3⟩:=dJ rG Tryz.underlying24 h hN 3 3 3 1 (by kernel_rfl)
  obtain ⟨a3,r3,q3⟩:=Ue h3 b3
  obtain ⟨fu4,y4,h4,b4⟩:=dJ rG Tryz.underlying24 h hN 4 3 4 1 (by kernel_rfl)
  obtain ⟨a4,r4,q4⟩:=Ue h4 b4
  obtain ⟨fu5,y5,h5,b5⟩:=dJ rG Tryz.underlying24 h hN 5 3 5 1 (by kernel_rfl)
  obtain ⟨a5,r5,q5⟩:=Ue h5 b5
  obtain ⟨fu6,y6,h6,b6⟩:=dJ rG Tryz.underlying24 h hN 6 22 6 1 (by kernel_rfl)
  obtain ⟨a6,r6,q6⟩:=KP h6 b6
  obtain ⟨fu7,y7,h7,b7⟩:=dJ rG Tryz.underlying24 h hN 7 22 7 1 (by kernel_rfl)
  obtain ⟨a7,r7,q7⟩:=KP h7 b7
  exact ⟨⟨a0,a1,a2,a3,a4,a5,a6,a7⟩,⟨r0,r1,r2,r3,r4,r5,r6,r7⟩,(fJ (o:=0) (n:=1) q0 rfl (fJ (o:=1) (n:=1) q1 rfl (fJ (o:=2) (n:=1) q2 rfl (fJ (o:=3) (n:=1) q3 rfl (fJ (o:=4) (n:=1) q4 rfl (fJ (o:=5) (n:=1) q5 rfl (fJ (o:=6) (n:=1) q6 rfl (fJ (o:=7) (n:=1) q7 rfl (Qp (by simp [hl]))))))))))⟩
theorem Q9:RdN @Rows.uptoBulk 1048576 Tryz.prog 78 aU Zo:=by
  intro H enc W sp fuel cs x h hN
  have hl:=(Gj Tryz.underlying78 h).1.trans (by kernel_rfl:Tryz.prog.cellsOf 78=7)
  obtain ⟨fu0,y0,h0,b0⟩:=dJ rG Tryz.underlying78 h hN 0 9 0 1 (by kernel_rfl)
  obtain ⟨a0,r0,q0⟩:=ZO h0 b0
  obtain ⟨fu1,y1,h1,b1⟩:=dJ rG Tryz.underlying78 h hN 1 9 1 1 (by kernel_rfl)
  obtain ⟨a1,r1,q1⟩:=ZO h1 b1
  obtain ⟨fu2,y2,h2,b2⟩:=dJ rG Tryz.underlying78 h hN 2 3 2 1 (by kernel_rfl)
  obtain ⟨a2,r2,q2⟩:=Ue h2 b2
  obtain ⟨fu3,y3,h3,b3⟩:=dJ rG Tryz.underlying78 h hN 3 3 3 1 (by kernel_rfl)
  obtain ⟨a3,r3,q3⟩:=Ue h3 b3
  obtain ⟨fu4,y4,h4,b4⟩:=dJ rG Tryz.underlying78 h hN 4 22 4 1 (by kernel_rfl)
  obtain ⟨a4,r4,q4⟩:=KP h4 b4
  obtain ⟨fu5,y5,h5,b5⟩:=dJ rG Tryz.underlying78 h hN 5 22 5 1 (by kernel_rfl)
  obtain ⟨a5,r5,q5⟩:=KP h5 b5
  obtain ⟨fu6,y6,h6,b6⟩:=dJ rG Tryz.underlying78 h hN 6 22 6 1 (by kernel_rfl)
  obtain ⟨a6,r6,q6⟩:=KP h6 b6
  exact ⟨⟨a0,a1,a2,a3,a4,a5,a6⟩,⟨r0,r1,r2,r3,r4,r5,r6⟩,(fJ (o:=0) (n:=1) q0 rfl (fJ (o:=1) (n:=1) q1 rfl (fJ (o:=2) (n:=1) q2 rfl (fJ (o:=3) (n:=1) q3 rfl (fJ (o:=4) (n:=1) q4 rfl (fJ (o:=5) (n:=1) q5 rfl (fJ (o:=6) (n:=1) q6 rfl (Qp (by simp [hl])))))))))⟩
theorem Q3:RdN @Rows.uptoBulk 1048576 Tryz.prog 25 (cS aU) (RLN 1048576 Zo):=Xh rG Tryz.underlying25 Q9 (fun _=>by kernel_rfl) (by decide +kernel)
theorem Q4:RdN @Rows.uptoBulk 1048576 Tryz.prog 27 aQ yV:=by
  intro H enc W sp fuel cs x h hN
  have hl:=(Gj Tryz.underlying27 h).1.trans (by kernel_rfl:Tryz.prog.cellsOf 27=9)
  obtain ⟨fu0,y0,h0,b0⟩:=dJ rG Tryz.underlying27 h hN 0 24 0 8 (by kernel_rfl)
  obtain ⟨a0,r0,q0⟩:=Q0 h0 b0
  obtain ⟨fu1,y1,h1,b1⟩:=dJ rG Tryz.underlying27 h hN 1 25 8 1 (by kernel_rfl)
  obtain ⟨a1,r1,q1⟩:=Q3 h1 b1
  exact ⟨⟨a0,a1⟩,⟨r0,r1⟩,(fJ (o:=0) (n:=8) q0 rfl (fJ (o:=8) (n:=1) q1 rfl (Qp (by simp [hl]))))⟩
theorem Q5:RdN @Rows.uptoBulk 1048576 Tryz.prog 42 I6 NV:=by
  intro H enc W sp fuel cs x h hN
  have hl:=(Gj Tryz.underlying42 h).1.trans (by kernel_rfl:Tryz.prog.cellsOf 42=2)
  obtain ⟨fu0,y0,h0,b0⟩:=dJ rG Tryz.underlying42 h hN 0 3 0 1 (by kernel_rfl)
  obtain ⟨a0,r0,q0⟩:=Ue h0 b0
  obtain ⟨fu1,y1,h1,b1⟩:=dJ rG Tryz.underlying42 h hN 1 3 1 1 (by kernel_rfl)
  obtain ⟨a1,r1,q1⟩:=Ue h1 b1
  exact ⟨⟨a0,a1⟩,⟨r0,r1⟩,(fJ (o:=0) (n:=1) q0 rfl (fJ (o:=1) (n:=1) q1 rfl (Qp (by simp [hl]))))⟩
theorem Q7:RdN @Rows.uptoBulk 1048576 Tryz.prog 44 bM Zn:=by
  intro H enc W sp fuel cs x h hN
  have hl:=(Gj Tryz.underlying44 h).1.trans (by kernel_rfl:Tryz.prog.cellsOf 44=5)
  obtain ⟨fu0,y0,h0,b0⟩:=dJ rG Tryz.underlying44 h hN 0 3 0 1 (by kernel_rfl)
  obtain ⟨a0,r0,q0⟩:=Ue h0 b0
  obtain ⟨fu1,y1,h1,b1⟩:=dJ rG Tryz.underlying44 h hN 1 3 1 1 (by kernel_rfl)
  obtain ⟨a1,r1,q1⟩:=Ue h1 b1
  obtain ⟨fu2,y2,h2,b2⟩:=dJ rG Tryz.underlying44 h hN 2 3 2 1 (by kernel_rfl)
  obtain ⟨a2,r2,q2⟩:=Ue h2 b2
  obtain ⟨fu3,y3,h3,b3⟩:=dJ rG Tryz.underlying44 h hN 3 42 3 2 (by kernel_rfl)
  obtain ⟨a3,r3,q3⟩:=Q5 h3 b3
  exact ⟨⟨a0,a1,a2,a3⟩,⟨r0,r1,r2,r3⟩,(fJ (o:=0) (n:=1) q0 rfl (fJ (o:=1) (n:=1) q1 rfl (fJ (o:=2) (n:=1) q2 rfl (fJ (o:=3) (n:=2) q3 rfl (Qp (by simp [hl]))))))⟩
theorem Q8:RdN @Rows.uptoBulk 1048576 Tryz.prog 54 (cS bM) (RLN 1048576 Zn):=Xh rG Tryz.underlying54 Q7 (fun _=>by kernel_rfl) (by decide +kernel)
theorem Zz (os:Os) (started:os.Started) (H:Type) (enc:TypeId×Value→H) (F:Stop.Interp) :
    ReturnsInHanded {} Tryz.checked os 6 .any ((Rows.OpenSpec.upto Rows.cutRunsSpec).pre6 enc Tryz.prog Tryz.f6 Rows.cutRunsUptoRow.domain false) (((Rows.OpenSpec.upto Rows.cutRunsSpec).at F).post enc Tryz.prog Tryz.f6 false true false false):=by
  refine JB (C:=Tryz.checked) (s:=(Rows.OpenSpec.upto Rows.cutRunsSpec)) (k:=Rows.uptoSmall) rfl R8 started (by kernel_rfl) Tryz.func6
    (OpenSpec.witness (enc:=enc) (C:=Tryz.checked) (s:=(Rows.OpenSpec.upto Rows.cutRunsSpec)) (k:=Rows.uptoSmall) rfl false ⟨#[],#[.agg #[.string ByteArray.empty,.string ByteArray.empty,.int .i64 0,.int .i64 0,.int .i64 0,.int .i64 0,.slice none 0 0,.slice none 0 0,.slice none 0 0],.slice none 0 0],[]⟩ 8 (by kernel_rfl) (by kernel_rfl) (by kernel_rfl)
      (x:=([.agg [.agg [.lit (.string []),.lit (.string []),.lit (.int .i64 0),.lit (.int .i64 0),.lit (.int .i64 0),.lit (.int .i64 0),.nil,.nil],.nil],.nil],[],[])) (by kernel_rfl) rfl (by kernel_rfl)) ?_
  intro Wd base args ds gs before hval hW hk hsh
  obtain ⟨p,q,hA,hV,rfl,hfz,hnd⟩:=id hW
  rw [Tryz.params6] at hA hval
  obtain ⟨v0,v1,d0,d1,p0,p1,rfl,rfl,rfl,h0,h1⟩:=trodAll_two hA
  obtain ⟨rfl,rfl⟩:=trodVars_none hV
  obtain ⟨a0,r0,q0⟩:=TN Tryz.underlying27 Q4 (hval 0 27 v0 rfl rfl) h0 (IW hk (by simp))
  obtain ⟨a1,r1,q1⟩:=TP (WC Tryz.underlying54 (hval 1 54 v1 rfl rfl)) Q8 (fun y=>(.sl (List.map bM y))) (fun _=>rfl) h1 (IW hk (by simp))
  refine (RD (vals:=[v0,v1]) (gl_ hsh) (W.Ht (JZ a0 a1 r0 r1)) rfl ?_).mono fun e W' he=>?_
  · intro i pv hi
    match i,hi with
    | 0,hi=>obtain rfl:=Option.some.inj hi;exact q0
    | 1,hi=>obtain rfl:=Option.some.inj hi;exact q1
    | n+2,hi=>simp at hi
  · obtain ⟨rfl,hb⟩:=he
    exact ⟨_,rfl,VV VU hW rfl hb (by kernel_rfl) (by kernel_rfl) Tryz.underlying4 rfl rfl rfl⟩
end Go.Proofs.YtgfjbgoehhnaeaaGreat
