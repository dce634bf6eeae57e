/- The law CutSteps, up to the bound: for every input of bulk at most 1048576 the call returns true, and each argument reads afterwards as before. -/
import Derived.Test.YtgfjbgoehhnaeaaWS1
import Derived.Test.YtgfjbgoehhnaeaaPl3
import Derived.Test.YtgfjbgoehhnaeaaRows
set_option linter.unusedVariables false
set_option linter.unusedSimpArgs false
set_option linter.unusedSectionVars false
namespace Go.Proofs.Ytgfjbgoehhnaeaa
open Go Go.VI Go.SM Go.Proofs Go.ChangeShapes Go.WideShapes Go.ChangeAt Go.RowKit
set_option maxRecDepth 100000
theorem H5:ownKnob Try.prog.godebug=none:=by kernel_rfl
theorem TG:laidOutB Try.prog=true:=by kernel_rfl
theorem RA {H:Type} (d:DataW H):1≤Rows.uptoBulk d:=by
  cases d with
  | lit l=>cases l <;> simp [Rows.uptoBulk]
  | nil=>simp [Rows.uptoBulk]
  | ptr d=>simp [Rows.uptoBulk]
  | slice elems spare=>simp [Rows.uptoBulk]
  | agg parts=>simp [Rows.uptoBulk]
  | iface t d=>simp [Rows.uptoBulk]
  | map entries=>simp [Rows.uptoBulk]
  | held h=>simp [Rows.uptoBulk]
theorem Tq {H:Type} {d:DataW H} {l:List (DataW H)} (h:d ∈ l):Rows.uptoBulk d≤Rows.uptoBulkAll l:=by
  induction l with
  | nil=>cases h
  | cons x r ih =>
    simp only [Rows.uptoBulkAll]
    cases List.mem_cons.1 h with
    | inl e=>subst e;omega
    | inr e=>have:=ih e;omega
theorem QZ {H:Type} (l:List (DataW H)):l.length≤Rows.uptoBulkAll l:=by
  induction l with
  | nil=>simp [Rows.uptoBulkAll]
  | cons x r ih=>have:=RA x;simp only [Rows.uptoBulkAll,List.length_cons];omega
theorem oW:Bulk @Rows.uptoBulk where
  sl l r:=by
    have h1:=QZ l
    refine ⟨by simp only [Rows.uptoBulk];omega,fun d hd=>?_⟩
    have:=Tq hd
    simp only [Rows.uptoBulk];omega
  ag l d hd:=by
    have:=Tq hd
    simp only [Rows.uptoBulk];omega
theorem EZ {H:Type} {d:DataW H} {l:List (DataW H)} (hk:Rows.uptoSmall H l=true) (hd:d ∈ l):Rows.uptoBulk d≤1048576:=by
  have h:Rows.uptoBulkAll l≤1048576:=by simpa [Rows.uptoSmall] using hk
  exact Nat.le_trans (Tq hd) h
theorem XF:RdN @Rows.uptoBulk 1048576 Try.prog 9 cStr RT:=UM (ZL Try.underlying9)
theorem Qd:RdN @Rows.uptoBulk 1048576 Try.prog 3 cI R64:=UM (ZK Try.underlying3)
theorem F9:RdN @Rows.uptoBulk 1048576 Try.prog 59 aM Jb:=by
  intro H enc W sp fuel cs x h hN
  have hl:=(Dr Try.underlying59 h).1.trans (by kernel_rfl:Try.prog.cellsOf 59=4)
  obtain ⟨fu0,y0,h0,b0⟩:=bW oW Try.underlying59 h hN 0 3 0 1 (by kernel_rfl)
  obtain ⟨a0,r0,q0⟩:=Qd h0 b0
  obtain ⟨fu1,y1,h1,b1⟩:=bW oW Try.underlying59 h hN 1 3 1 1 (by kernel_rfl)
  obtain ⟨a1,r1,q1⟩:=Qd h1 b1
  obtain ⟨fu2,y2,h2,b2⟩:=bW oW Try.underlying59 h hN 2 3 2 1 (by kernel_rfl)
  obtain ⟨a2,r2,q2⟩:=Qd h2 b2
  obtain ⟨fu3,y3,h3,b3⟩:=bW oW Try.underlying59 h hN 3 3 3 1 (by kernel_rfl)
  obtain ⟨a3,r3,q3⟩:=Qd h3 b3
  exact ⟨⟨a0,a1,a2,a3⟩,⟨r0,r1,r2,r3⟩,(eT (o:=0) (n:=1) q0 rfl (eT (o:=1) (n:=1) q1 rfl (eT (o:=2) (n:=1) q2 rfl (eT (o:=3) (n:=1) q3 rfl (Nb (by simp [hl]))))))⟩
theorem HZ:RdN @Rows.uptoBulk 1048576 Try.prog 22 (cS aM) (RLN 1048576 Jb):=Ul oW Try.underlying22 F9 (fun _=>by kernel_rfl) (by decide +kernel)
theorem F4:RdN @Rows.uptoBulk 1048576 Try.prog 32 xY ES:=by
  intro H enc W sp fuel cs x h hN
  have hl:=(Dr Try.underlying32 h).1.trans (by kernel_rfl:Try.prog.cellsOf 32=8)
  obtain ⟨fu0,y0,h0,b0⟩:=bW oW Try.underlying32 h hN 0 9 0 1 (by kernel_rfl)
  obtain ⟨a0,r0,q0⟩:=XF h0 b0
  obtain ⟨fu1,y1,h1,b1⟩:=bW oW Try.underlying32 h hN 1 9 1 1 (by kernel_rfl)
  obtain ⟨a1,r1,q1⟩:=XF h1 b1
  obtain ⟨fu2,y2,h2,b2⟩:=bW oW Try.underlying32 h hN 2 3 2 1 (by kernel_rfl)
  obtain ⟨a2,r2,q2⟩:=Qd h2 b2
  obtain ⟨fu3,y3,h3,b3⟩:=bW oW Try.underlying32 h hN 3 3 3 1 (by kernel_rfl)
  obtain ⟨a3,r3,q3⟩:=Qd h3 b3
  obtain ⟨fu4,y4,h4,b4⟩:=bW oW Try.underlying32 h hN 4 3 4 1 (by kernel_rfl)
  obtain ⟨a4,r4,q4⟩:=Qd h4 b4
  obtain ⟨fu5,y5,h5,b5⟩:=bW oW Try.underlying32 h hN 5 3 5 1 (by kernel_rfl)
  obtain ⟨a5,r5,q5⟩:=Qd h5 b5
  obtain ⟨fu6,y6,h6,b6⟩:=bW oW Try.underlying32 h hN 6 22 6 1 (by kernel_rfl)
  obtain ⟨a6,r6,q6⟩:=HZ h6 b6
  obtain ⟨fu7,y7,h7,b7⟩:=bW oW Try.underlying32 h hN 7 22 7 1 (by kernel_rfl)
  obtain ⟨a7,r7,q7⟩:=HZ h7 b7
  exact ⟨⟨a0,a1,a2,a3,a4,a5,a6,a7⟩,⟨r0,r1,r2,r3,r4,r5,r6,r7⟩,(eT (o:=0) (n:=1) q0 rfl (eT (o:=1) (n:=1) q1 rfl (eT (o:=2) (n:=1) q2 rfl (eT (o:=3) (n:=1) q3 rfl (eT (o:=4) (n:=1) q4 rfl (eT (o:=5) (n:=1) q5 rfl (eT (o:=6) (n:=1) q6 rfl (eT (o:=7) (n:=1) q7 rfl (Nb (by simp [hl]))))))))))⟩
theorem E9:RdN @Rows.uptoBulk 1048576 Try.prog 24 aY Xl:=by
  intro H enc W sp fuel cs x h hN
  have hl:=(Dr Try.underlying24 h).1.trans (by kernel_rfl:Try.prog.cellsOf 24=7)
  obtain ⟨fu0,y0,h0,b0⟩:=bW oW Try.underlying24 h hN 0 9 0 1 (by kernel_rfl)
  obtain ⟨a0,r0,q0⟩:=XF h0 b0
  obtain ⟨fu1,y1,h1,b1⟩:=bW oW Try.underlying24 h hN 1 9 1 1 (by kernel_rfl)
  obtain ⟨a1,r1,q1⟩:=XF h1 b1
  obtain ⟨fu2,y2,h2,b2⟩:=bW oW Try.underlying24 h hN 2 3 2 1 (by kernel_rfl)
  obtain ⟨a2,r2,q2⟩:=Qd h2 b2
  obtain ⟨fu3,y3,h3,b3⟩:=bW oW Try.underlying24 h hN 3 3 3 1 (by kernel_rfl)
  obtain ⟨a3,r3,q3⟩:=Qd h3 b3
  obtain ⟨fu4,y4,h4,b4⟩:=bW oW Try.underlying24 h hN 4 22 4 1 (by kernel_rfl)
  obtain ⟨a4,r4,q4⟩:=HZ h4 b4
  obtain ⟨fu5,y5,h5,b5⟩:=bW oW Try.underlying24 h hN 5 22 5 1 (by kernel_rfl)
  obtain ⟨a5,r5,q5⟩:=HZ h5 b5
  obtain ⟨fu6,y6,h6,b6⟩:=bW oW Try.underlying24 h hN 6 22 6 1 (by kernel_rfl)
  obtain ⟨a6,r6,q6⟩:=HZ h6 b6
  exact ⟨⟨a0,a1,a2,a3,a4,a5,a6⟩,⟨r0,r1,r2,r3,r4,r5,r6⟩,(eT (o:=0) (n:=1) q0 rfl (eT (o:=1) (n:=1) q1 rfl (eT (o:=2) (n:=1) q2 rfl (eT (o:=3) (n:=1) q3 rfl (eT (o:=4) (n:=1) q4 rfl (eT (o:=5) (n:=1) q5 rfl (eT (o:=6) (n:=1) q6 rfl (Nb (by simp [hl])))))))))⟩
theorem F5:RdN @Rows.uptoBulk 1048576 Try.prog 33 (cS aY) (RLN 1048576 Xl):=Ul oW Try.underlying33 E9 (fun _=>by kernel_rfl) (by decide +kernel)
theorem F6:RdN @Rows.uptoBulk 1048576 Try.prog 35 aU yZ:=by
  intro H enc W sp fuel cs x h hN
  have hl:=(Dr Try.underlying35 h).1.trans (by kernel_rfl:Try.prog.cellsOf 35=9)
  obtain ⟨fu0,y0,h0,b0⟩:=bW oW Try.underlying35 h hN 0 32 0 8 (by kernel_rfl)
  obtain ⟨a0,r0,q0⟩:=F4 h0 b0
  obtain ⟨fu1,y1,h1,b1⟩:=bW oW Try.underlying35 h hN 1 33 8 1 (by kernel_rfl)
  obtain ⟨a1,r1,q1⟩:=F5 h1 b1
  exact ⟨⟨a0,a1⟩,⟨r0,r1⟩,(eT (o:=0) (n:=8) q0 rfl (eT (o:=8) (n:=1) q1 rfl (Nb (by simp [hl]))))⟩
theorem F3:RdN @Rows.uptoBulk 1048576 Try.prog 26 YY LG:=by
  intro H enc W sp fuel cs x h hN
  have hl:=(Dr Try.underlying26 h).1.trans (by kernel_rfl:Try.prog.cellsOf 26=2)
  obtain ⟨fu0,y0,h0,b0⟩:=bW oW Try.underlying26 h hN 0 3 0 1 (by kernel_rfl)
  obtain ⟨a0,r0,q0⟩:=Qd h0 b0
  obtain ⟨fu1,y1,h1,b1⟩:=bW oW Try.underlying26 h hN 1 3 1 1 (by kernel_rfl)
  obtain ⟨a1,r1,q1⟩:=Qd h1 b1
  exact ⟨⟨a0,a1⟩,⟨r0,r1⟩,(eT (o:=0) (n:=1) q0 rfl (eT (o:=1) (n:=1) q1 rfl (Nb (by simp [hl]))))⟩
theorem F8:RdN @Rows.uptoBulk 1048576 Try.prog 49 fP Xk:=by
  intro H enc W sp fuel cs x h hN
  have hl:=(Dr Try.underlying49 h).1.trans (by kernel_rfl:Try.prog.cellsOf 49=5)
  obtain ⟨fu0,y0,h0,b0⟩:=bW oW Try.underlying49 h hN 0 3 0 1 (by kernel_rfl)
  obtain ⟨a0,r0,q0⟩:=Qd h0 b0
  obtain ⟨fu1,y1,h1,b1⟩:=bW oW Try.underlying49 h hN 1 3 1 1 (by kernel_rfl)
  obtain ⟨a1,r1,q1⟩:=Qd h1 b1
  obtain ⟨fu2,y2,h2,b2⟩:=bW oW Try.underlying49 h hN 2 3 2 1 (by kernel_rfl)
  obtain ⟨a2,r2,q2⟩:=Qd h2 b2
  obtain ⟨fu3,y3,h3,b3⟩:=bW oW Try.underlying49 h hN 3 26 3 2 (by kernel_rfl)
  obtain ⟨a3,r3,q3⟩:=F3 h3 b3
  exact ⟨⟨a0,a1,a2,a3⟩,⟨r0,r1,r2,r3⟩,(eT (o:=0) (n:=1) q0 rfl (eT (o:=1) (n:=1) q1 rfl (eT (o:=2) (n:=1) q2 rfl (eT (o:=3) (n:=2) q3 rfl (Nb (by simp [hl]))))))⟩
theorem F7:RdN @Rows.uptoBulk 1048576 Try.prog 36 (cS fP) (RLN 1048576 Xk):=Ul oW Try.underlying36 F8 (fun _=>by kernel_rfl) (by decide +kernel)
theorem Vv (os:Os) (started:os.Started) (H:Type) (enc:TypeId×Value→H) (F:Stop.Interp) :
    ReturnsInHanded {} Try.checked os 4 .any ((Rows.OpenSpec.upto Rows.cutStepsSpec).pre6 enc Try.prog Try.f4 Rows.cutStepsUptoRow.domain false) (((Rows.OpenSpec.upto Rows.cutStepsSpec).at F).post enc Try.prog Try.f4 false true false false):=by
  refine FH (C:=Try.checked) (s:=(Rows.OpenSpec.upto Rows.cutStepsSpec)) (k:=Rows.uptoSmall) rfl H5 started (by kernel_rfl) Try.func4
    (OpenSpec.witness (enc:=enc) (C:=Try.checked) (s:=(Rows.OpenSpec.upto Rows.cutStepsSpec)) (k:=Rows.uptoSmall) rfl false ⟨#[],#[.agg #[.string ByteArray.empty,.string ByteArray.empty,.int .i64 0,.int .i64 0,.int .i64 0,.int .i64 0,.slice none 0 0,.slice none 0 0,.slice none 0 0],.slice none 0 0],[]⟩ 8 (by kernel_rfl) (by kernel_rfl) (by kernel_rfl)
      (x:=([.agg [.agg [.lit (.string []),.lit (.string []),.lit (.int .i64 0),.lit (.int .i64 0),.lit (.int .i64 0),.lit (.int .i64 0),.nil,.nil],.nil],.nil],[],[])) (by kernel_rfl) rfl (by kernel_rfl)) ?_
  intro Wd base args ds gs before hval hW hk hsh
  obtain ⟨p,q,hA,hV,rfl,hfz,hnd⟩:=id hW
  rw [Try.params4] at hA hval
  obtain ⟨v0,v1,d0,d1,p0,p1,rfl,rfl,rfl,h0,h1⟩:=trodAll_two hA
  obtain ⟨rfl,rfl⟩:=trodVars_none hV
  obtain ⟨a0,r0,q0⟩:=QQ Try.underlying35 F6 (hval 0 35 v0 rfl rfl) h0 (EZ hk (by simp))
  obtain ⟨a1,r1,q1⟩:=QR (TQ Try.underlying36 (hval 1 36 v1 rfl rfl)) F7 (fun y=>(.sl (List.map fP y))) (fun _=>rfl) h1 (EZ hk (by simp))
  refine (OU (vals:=[v0,v1]) (gl_ hsh) (W.Dh (DX a0 a1 r0 r1)) rfl ?_).mono fun e W' he=>?_
  · intro i pv hi
    match i,hi with
    | 0,hi=>obtain rfl:=Option.some.inj hi;exact q0
    | 1,hi=>obtain rfl:=Option.some.inj hi;exact q1
    | n+2,hi=>simp at hi
  · obtain ⟨rfl,hb⟩:=he
    exact ⟨_,rfl,TH TG hW rfl hb (by kernel_rfl) (by kernel_rfl) Try.underlying4 rfl rfl rfl⟩
end Go.Proofs.Ytgfjbgoehhnaeaa
