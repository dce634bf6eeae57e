/- The law CutFalls, up to the bound: for every input of bulk at most 1048576 the call returns true, and each argument reads afterwards as before. -/
import Derived.Test.YtgfjbgoehhnaeaaGreatWF2
import Derived.Test.YtgfjbgoehhnaeaaGreatPl3
import Derived.Test.YtgfjbgoehhnaeaaGreatRows
set_option linter.unusedVariables false
set_option linter.unusedSimpArgs false
set_option linter.unusedSectionVars false
namespace Go.Proofs.YtgfjbgoehhnaeaaGreat
open Go Go.VI Go.SM Go.Proofs Go.ChangeShapes Go.WideShapes Go.ChangeAt Go.RowKit
set_option maxRecDepth 100000
theorem aAi:ownKnob Tryz.prog.godebug=none:=by kernel_rfl
theorem XV:laidOutB Tryz.prog=true:=by kernel_rfl
theorem VZ {H:Type} (d:DataW H):1≤Rows.uptoBulk d:=by
 cases d with
 | lit l=>cases l <;> simp [Rows.uptoBulk]
 | nil=>simp [Rows.uptoBulk]
 | ptr d=>simp [Rows.uptoBulk]
 | slice elems spare=>simp [Rows.uptoBulk]
 | agg parts=>simp [Rows.uptoBulk]
 | iface t d=>simp [Rows.uptoBulk]
 | map entries=>simp [Rows.uptoBulk]
 | held h=>simp [Rows.uptoBulk]
theorem Xp {H:Type} {d:DataW H} {l:List (DataW H)} (h:d ∈ l):Rows.uptoBulk d≤Rows.uptoBulkAll l:=by
 induction l with
 | nil=>cases h
 | cons x r ih =>
   simp only [Rows.uptoBulkAll]
   cases List.mem_cons.1 h with
   | inl e=>subst e;omega
   | inr e=>have:=ih e;omega
theorem VY {H:Type} (l:List (DataW H)):l.length≤Rows.uptoBulkAll l:=by
 induction l with
 | nil=>simp [Rows.uptoBulkAll]
 | cons x r ih=>have:=VZ x;simp only [Rows.uptoBulkAll,List.length_cons];omega
theorem sH:Bulk @Rows.uptoBulk where
 sl l r:=by
  have h1:=VY l
  refine ⟨by simp only [Rows.uptoBulk];omega,fun d hd=>?_⟩
  have:=Xp hd
  simp only [Rows.uptoBulk];omega
 ag l d hd:=by
  have:=Xp hd
  simp only [Rows.uptoBulk];omega
theorem KL {H:Type} {d:DataW H} {l:List (DataW H)} (hk:Rows.uptoSmall H l=true) (hd:d ∈ l):Rows.uptoBulk d≤1048576:=by
 have h:Rows.uptoBulkAll l≤1048576:=by simpa [Rows.uptoSmall] using hk
 exact Nat.le_trans (Xp hd) h
theorem J8:RdN @Rows.uptoBulk 1048576 Tryz.prog 9 cStr RT:=YY (U9 Tryz.underlying9)
theorem Vd:RdN @Rows.uptoBulk 1048576 Tryz.prog 3 cI R64:=YY (U8 Tryz.underlying3)
theorem aAd:RdN @Rows.uptoBulk 1048576 Tryz.prog 98 aB Ov:=by
 intro H enc W sp fuel cs x h hN
 have hl:=(Hl Tryz.underlying98 h).1.trans (by kernel_rfl:Tryz.prog.cellsOf 98=4)
 obtain ⟨fu0,y0,h0,b0⟩:=dQ sH Tryz.underlying98 h hN 0 3 0 1 (by kernel_rfl)
 obtain ⟨a0,r0,q0⟩:=Vd h0 b0
 obtain ⟨fu1,y1,h1,b1⟩:=dQ sH Tryz.underlying98 h hN 1 3 1 1 (by kernel_rfl)
 obtain ⟨a1,r1,q1⟩:=Vd h1 b1
 obtain ⟨fu2,y2,h2,b2⟩:=dQ sH Tryz.underlying98 h hN 2 3 2 1 (by kernel_rfl)
 obtain ⟨a2,r2,q2⟩:=Vd h2 b2
 obtain ⟨fu3,y3,h3,b3⟩:=dQ sH Tryz.underlying98 h hN 3 3 3 1 (by kernel_rfl)
 obtain ⟨a3,r3,q3⟩:=Vd h3 b3
 exact ⟨⟨a0,a1,a2,a3⟩,⟨r0,r1,r2,r3⟩,(fP (o:=0) (n:=1) q0 rfl (fP (o:=1) (n:=1) q1 rfl (fP (o:=2) (n:=1) q2 rfl (fP (o:=3) (n:=1) q3 rfl (Rt (by simp [hl]))))))⟩
theorem MN:RdN @Rows.uptoBulk 1048576 Tryz.prog 22 (cS aB) (RLN 1048576 Ov):=Yf sH Tryz.underlying22 aAd (fun _=>by kernel_rfl) (by decide +kernel)
theorem Z5:RdN @Rows.uptoBulk 1048576 Tryz.prog 24 pK KC:=by
 intro H enc W sp fuel cs x h hN
 have hl:=(Hl Tryz.underlying24 h).1.trans (by kernel_rfl:Tryz.prog.cellsOf 24=8)
 obtain ⟨fu0,y0,h0,b0⟩:=dQ sH Tryz.underlying24 h hN 0 9 0 1 (by kernel_rfl)
 obtain ⟨a0,r0,q0⟩:=J8 h0 b0
 obtain ⟨fu1,y1,h1,b1⟩:=dQ sH Tryz.underlying24 h hN 1 9 1 1 (by kernel_rfl)
 obtain ⟨a1,r1,q1⟩:=J8 h1 b1
 obtain ⟨fu2,y2,h2,b2⟩:=dQ sH Tryz.underlying24 h hN 2 3 2 1 (by kernel_rfl)
 obtain ⟨a2,r2,q2⟩:=Vd h2 b2
 obtain ⟨fu3,y3,h3,b3⟩:=dQ sH Tryz.underlying24 h hN 3 3 3 1 (by kernel_rfl)
 obtain ⟨a3,r3,q3⟩:=Vd h3 b3
 obtain ⟨fu4,y4,h4,b4⟩:=dQ sH Tryz.underlying24 h hN 4 3 4 1 (by kernel_rfl)
 obtain ⟨a4,r4,q4⟩:=Vd h4 b4
 obtain ⟨fu5,y5,h5,b5⟩:=dQ sH Tryz.underlying24 h hN 5 3 5 1 (by kernel_rfl)
 obtain ⟨a5,r5,q5⟩:=Vd h5 b5
 obtain ⟨fu6,y6,h6,b6⟩:=dQ sH Tryz.underlying24 h hN 6 22 6 1 (by kernel_rfl)
 obtain ⟨a6,r6,q6⟩:=MN h6 b6
 obtain ⟨fu7,y7,h7,b7⟩:=dQ sH Tryz.underlying24 h hN 7 22 7 1 (by kernel_rfl)
 obtain ⟨a7,r7,q7⟩:=MN h7 b7
 exact ⟨⟨a0,a1,a2,a3,a4,a5,a6,a7⟩,⟨r0,r1,r2,r3,r4,r5,r6,r7⟩,(fP (o:=0) (n:=1) q0 rfl (fP (o:=1) (n:=1) q1 rfl (fP (o:=2) (n:=1) q2 rfl (fP (o:=3) (n:=1) q3 rfl (fP (o:=4) (n:=1) q4 rfl (fP (o:=5) (n:=1) q5 rfl (fP (o:=6) (n:=1) q6 rfl (fP (o:=7) (n:=1) q7 rfl (Rt (by simp [hl]))))))))))⟩
theorem aAc:RdN @Rows.uptoBulk 1048576 Tryz.prog 78 aU BG:=by
 intro H enc W sp fuel cs x h hN
 have hl:=(Hl Tryz.underlying78 h).1.trans (by kernel_rfl:Tryz.prog.cellsOf 78=7)
 obtain ⟨fu0,y0,h0,b0⟩:=dQ sH Tryz.underlying78 h hN 0 9 0 1 (by kernel_rfl)
 obtain ⟨a0,r0,q0⟩:=J8 h0 b0
 obtain ⟨fu1,y1,h1,b1⟩:=dQ sH Tryz.underlying78 h hN 1 9 1 1 (by kernel_rfl)
 obtain ⟨a1,r1,q1⟩:=J8 h1 b1
 obtain ⟨fu2,y2,h2,b2⟩:=dQ sH Tryz.underlying78 h hN 2 3 2 1 (by kernel_rfl)
 obtain ⟨a2,r2,q2⟩:=Vd h2 b2
 obtain ⟨fu3,y3,h3,b3⟩:=dQ sH Tryz.underlying78 h hN 3 3 3 1 (by kernel_rfl)
 obtain ⟨a3,r3,q3⟩:=Vd h3 b3
 obtain ⟨fu4,y4,h4,b4⟩:=dQ sH Tryz.underlying78 h hN 4 22 4 1 (by kernel_rfl)
 obtain ⟨a4,r4,q4⟩:=MN h4 b4
 obtain ⟨fu5,y5,h5,b5⟩:=dQ sH Tryz.underlying78 h hN 5 22 5 1 (by kernel_rfl)
 obtain ⟨a5,r5,q5⟩:=MN h5 b5
 obtain ⟨fu6,y6,h6,b6⟩:=dQ sH Tryz.underlying78 h hN 6 22 6 1 (by kernel_rfl)
 obtain ⟨a6,r6,q6⟩:=MN h6 b6
 exact ⟨⟨a0,a1,a2,a3,a4,a5,a6⟩,⟨r0,r1,r2,r3,r4,r5,r6⟩,(fP (o:=0) (n:=1) q0 rfl (fP (o:=1) (n:=1) q1 rfl (fP (o:=2) (n:=1) q2 rfl (fP (o:=3) (n:=1) q3 rfl (fP (o:=4) (n:=1) q4 rfl (fP (o:=5) (n:=1) q5 rfl (fP (o:=6) (n:=1) q6 rfl (Rt (by simp [hl])))))))))⟩
theorem Z7:RdN @Rows.uptoBulk 1048576 Tryz.prog 25 (cS aU) (RLN 1048576 BG):=Yf sH Tryz.underlying25 aAc (fun _=>by kernel_rfl) (by decide +kernel)
theorem Z8:RdN @Rows.uptoBulk 1048576 Tryz.prog 27 aQ vV:=by
 intro H enc W sp fuel cs x h hN
 have hl:=(Hl Tryz.underlying27 h).1.trans (by kernel_rfl:Tryz.prog.cellsOf 27=9)
 obtain ⟨fu0,y0,h0,b0⟩:=dQ sH Tryz.underlying27 h hN 0 24 0 8 (by kernel_rfl)
 obtain ⟨a0,r0,q0⟩:=Z5 h0 b0
 obtain ⟨fu1,y1,h1,b1⟩:=dQ sH Tryz.underlying27 h hN 1 25 8 1 (by kernel_rfl)
 obtain ⟨a1,r1,q1⟩:=Z7 h1 b1
 exact ⟨⟨a0,a1⟩,⟨r0,r1⟩,(fP (o:=0) (n:=8) q0 rfl (fP (o:=8) (n:=1) q1 rfl (Rt (by simp [hl]))))⟩
theorem Z9:RdN @Rows.uptoBulk 1048576 Tryz.prog 42 R9 PZ:=by
 intro H enc W sp fuel cs x h hN
 have hl:=(Hl Tryz.underlying42 h).1.trans (by kernel_rfl:Tryz.prog.cellsOf 42=2)
 obtain ⟨fu0,y0,h0,b0⟩:=dQ sH Tryz.underlying42 h hN 0 3 0 1 (by kernel_rfl)
 obtain ⟨a0,r0,q0⟩:=Vd h0 b0
 obtain ⟨fu1,y1,h1,b1⟩:=dQ sH Tryz.underlying42 h hN 1 3 1 1 (by kernel_rfl)
 obtain ⟨a1,r1,q1⟩:=Vd h1 b1
 exact ⟨⟨a0,a1⟩,⟨r0,r1⟩,(fP (o:=0) (n:=1) q0 rfl (fP (o:=1) (n:=1) q1 rfl (Rt (by simp [hl]))))⟩
theorem aAa:RdN @Rows.uptoBulk 1048576 Tryz.prog 44 bH BF:=by
 intro H enc W sp fuel cs x h hN
 have hl:=(Hl Tryz.underlying44 h).1.trans (by kernel_rfl:Tryz.prog.cellsOf 44=5)
 obtain ⟨fu0,y0,h0,b0⟩:=dQ sH Tryz.underlying44 h hN 0 3 0 1 (by kernel_rfl)
 obtain ⟨a0,r0,q0⟩:=Vd h0 b0
 obtain ⟨fu1,y1,h1,b1⟩:=dQ sH Tryz.underlying44 h hN 1 3 1 1 (by kernel_rfl)
 obtain ⟨a1,r1,q1⟩:=Vd h1 b1
 obtain ⟨fu2,y2,h2,b2⟩:=dQ sH Tryz.underlying44 h hN 2 3 2 1 (by kernel_rfl)
 obtain ⟨a2,r2,q2⟩:=Vd h2 b2
 obtain ⟨fu3,y3,h3,b3⟩:=dQ sH Tryz.underlying44 h hN 3 42 3 2 (by kernel_rfl)
 obtain ⟨a3,r3,q3⟩:=Z9 h3 b3
 exact ⟨⟨a0,a1,a2,a3⟩,⟨r0,r1,r2,r3⟩,(fP (o:=0) (n:=1) q0 rfl (fP (o:=1) (n:=1) q1 rfl (fP (o:=2) (n:=1) q2 rfl (fP (o:=3) (n:=2) q3 rfl (Rt (by simp [hl]))))))⟩
theorem aAb:RdN @Rows.uptoBulk 1048576 Tryz.prog 54 (cS bH) (RLN 1048576 BF):=Yf sH Tryz.underlying54 aAa (fun _=>by kernel_rfl) (by decide +kernel)
theorem Zm (os:Os) (started:os.Started) (H:Type) (enc:TypeId×Value→H) (F:Stop.Interp) :
  ReturnsInHanded {} Tryz.checked os 7 .any ((Rows.OpenSpec.upto Rows.cutFallsSpec).pre6 enc Tryz.prog Tryz.f7 Rows.cutFallsUptoRow.domain false) (((Rows.OpenSpec.upto Rows.cutFallsSpec).at F).post enc Tryz.prog Tryz.f7 false true false false):=by
 refine KQ (C:=Tryz.checked) (s:=(Rows.OpenSpec.upto Rows.cutFallsSpec)) (k:=Rows.uptoSmall) rfl aAi started (by kernel_rfl) Tryz.func7
  (OpenSpec.witness (enc:=enc) (C:=Tryz.checked) (s:=(Rows.OpenSpec.upto Rows.cutFallsSpec)) (k:=Rows.uptoSmall) rfl false ⟨#[],#[.agg #[.string ByteArray.empty,.string ByteArray.empty,.int .i64 0,.int .i64 0,.int .i64 0,.int .i64 0,.slice none 0 0,.slice none 0 0,.slice none 0 0],.slice none 0 0],[]⟩ 8 (by kernel_rfl) (by kernel_rfl) (by kernel_rfl)
   (x:=([.agg [.agg [.lit (.string []),.lit (.string []),.lit (.int .i64 0),.lit (.int .i64 0),.lit (.int .i64 0),.lit (.int .i64 0),.nil,.nil],.nil],.nil],[],[])) (by kernel_rfl) rfl (by kernel_rfl)) ?_
 intro Wd base args ds gs before hval hW hk hsh
 obtain ⟨p,q,hA,hV,rfl,hfz,hnd⟩:=id hW
 rw [Tryz.params7] at hA hval
 obtain ⟨v0,v1,d0,d1,p0,p1,rfl,rfl,rfl,h0,h1⟩:=trodAll_two hA
 obtain ⟨rfl,rfl⟩:=trodVars_none hV
 obtain ⟨a0,r0,q0⟩:=VO Tryz.underlying27 Z8 (hval 0 27 v0 rfl rfl) h0 (KL hk (by simp))
 obtain ⟨a1,r1,q1⟩:=VP (YD Tryz.underlying54 (hval 1 54 v1 rfl rfl)) aAb (fun y=>(.sl (List.map bH y))) (fun _=>rfl) h1 (KL hk (by simp))
 refine (TW (vals:=[v0,v1]) (gl_ hsh) (W.Gq (JC a0 a1 r0 r1)) rfl ?_).mono fun e W' he=>?_
 ·intro i pv hi
  match i,hi with
  | 0,hi=>obtain rfl:=Option.some.inj hi;exact q0
  | 1,hi=>obtain rfl:=Option.some.inj hi;exact q1
  | n+2,hi=>simp at hi
 ·obtain ⟨rfl,hb⟩:=he
  exact ⟨_,rfl,XW XV hW rfl hb (by kernel_rfl) (by kernel_rfl) Tryz.underlying4 rfl rfl rfl⟩
end Go.Proofs.YtgfjbgoehhnaeaaGreat
