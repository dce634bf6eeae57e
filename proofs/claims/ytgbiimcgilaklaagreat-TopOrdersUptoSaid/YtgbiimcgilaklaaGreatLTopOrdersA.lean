/- A law, up to the bound: its call. -/
import Derived.Test.YtgbiimcgilaklaaGreatWA3
import Derived.Test.YtgbiimcgilaklaaGreatPl4
import Derived.Test.YtgbiimcgilaklaaGreatRows
set_option linter.unusedVariables false
set_option linter.unusedSimpArgs false
set_option linter.unusedSectionVars false
open ByteArray renaming empty→o4
open Option.some renaming inj→w7
namespace Go.Proofs.YtgbiimcgilaklaaGreat
open Go Go.VI Go.SM Go.Proofs Go.ChangeShapes Go.WideShapes Go.ChangeAt Go.RowKit
set_option maxRecDepth 100000
theorem D3:ownKnob Tryz.prog.godebug=none:=by kernel_rfl
theorem RB:laidOutB Tryz.prog=true:=by kernel_rfl
theorem PH {H:Type} (d:DataW H):1≤Rows.uptoBulk d:=by
 cases d with
 | lit l=>cases l <;> simp [Rows.uptoBulk]
 | nil=>simp [Rows.uptoBulk]
 | ptr d=>simp [Rows.uptoBulk]
 | slice elems spare=>simp [Rows.uptoBulk]
 | agg parts=>simp [Rows.uptoBulk]
 | iface t d=>simp [Rows.uptoBulk]
 | map entries=>simp [Rows.uptoBulk]
 | held h=>simp [Rows.uptoBulk]
theorem Sh {H:Type} {d:DataW H} {l:List (DataW H)} (h:d ∈ l):Rows.uptoBulk d≤Rows.uptoBulkAll l:=by
 induction l with
 | nil=>cases h
 | cons x r ih =>
   simp only [Rows.uptoBulkAll]
   cases List.mem_cons.1 h with
   | inl e=>subst e;omega
   | inr e=>have:=ih e;omega
theorem PG {H:Type} (l:List (DataW H)):l.length≤Rows.uptoBulkAll l:=by
 induction l with
 | nil=>simp [Rows.uptoBulkAll]
 | cons x r ih=>have:=PH x;simp only [Rows.uptoBulkAll,List.length_cons];omega
theorem lI:XZ @Rows.uptoBulk where
 sl l r:=by
  have h1:=PG l
  refine ⟨by simp only [Rows.uptoBulk];omega,fun d hd=>?_⟩
  have:=Sh hd
  simp only [Rows.uptoBulk];omega
 ag l d hd:=by
  have:=Sh hd
  simp only [Rows.uptoBulk];omega
theorem Wa {H:Type} {d:DataW H} {l:List (DataW H)} (hk:Rows.uptoSmall H l=true) (hd:d ∈ l):Rows.uptoBulk d≤1048576:=by
 have h:Rows.uptoBulkAll l≤1048576:=by simpa [Rows.uptoSmall] using hk
 exact Nat.le_trans (Sh hd) h
theorem WL:RdN @Rows.uptoBulk 1048576 Tryz.prog 9 ZV RT:=IB (ZD Tryz.underlying9)
theorem My:RdN @Rows.uptoBulk 1048576 Tryz.prog 3 cI R64:=IB (ZC Tryz.underlying3)
theorem C3:RdN @Rows.uptoBulk 1048576 Tryz.prog 73 aH Kp:=by
 intro H enc W sp fuel cs x h hN
 have hl:=(Au Tryz.underlying73 h).1.trans (by kernel_rfl:Tryz.prog.cellsOf 73=4)
 obtain ⟨fu0,y0,h0,b0⟩:=dF lI Tryz.underlying73 h hN 0 3 0 1 (by kernel_rfl)
 obtain ⟨a0,r0,q0⟩:=My h0 b0
 obtain ⟨fu1,y1,h1,b1⟩:=dF lI Tryz.underlying73 h hN 1 3 1 1 (by kernel_rfl)
 obtain ⟨a1,r1,q1⟩:=My h1 b1
 obtain ⟨fu2,y2,h2,b2⟩:=dF lI Tryz.underlying73 h hN 2 3 2 1 (by kernel_rfl)
 obtain ⟨a2,r2,q2⟩:=My h2 b2
 obtain ⟨fu3,y3,h3,b3⟩:=dF lI Tryz.underlying73 h hN 3 3 3 1 (by kernel_rfl)
 obtain ⟨a3,r3,q3⟩:=My h3 b3
 exact ⟨⟨a0,a1,a2,a3⟩,⟨r0,r1,r2,r3⟩,(eC (o:=0) (n:=1) q0 rfl (eC (o:=1) (n:=1) q1 rfl (eC (o:=2) (n:=1) q2 rfl (eC (o:=3) (n:=1) q3 rfl (Ho (by simp [hl]))))))⟩
theorem FL:RdN @Rows.uptoBulk 1048576 Tryz.prog 22 (cS aH) (RLN 1048576 Kp):=Ny lI Tryz.underlying22 C3 (fun _=>by kernel_rfl) (by decide +kernel)
theorem XQ:RdN @Rows.uptoBulk 1048576 Tryz.prog 24 cQ Qc:=by
 intro H enc W sp fuel cs x h hN
 have hl:=(Au Tryz.underlying24 h).1.trans (by kernel_rfl:Tryz.prog.cellsOf 24=8)
 obtain ⟨fu0,y0,h0,b0⟩:=dF lI Tryz.underlying24 h hN 0 9 0 1 (by kernel_rfl)
 obtain ⟨a0,r0,q0⟩:=WL h0 b0
 obtain ⟨fu1,y1,h1,b1⟩:=dF lI Tryz.underlying24 h hN 1 9 1 1 (by kernel_rfl)
 obtain ⟨a1,r1,q1⟩:=WL h1 b1
 obtain ⟨fu2,y2,h2,b2⟩:=dF lI Tryz.underlying24 h hN 2 3 2 1 (by kernel_rfl)
 obtain ⟨a2,r2,q2⟩:=My h2 b2
 obtain ⟨fu3,y3,h3,b3⟩:=dF lI Tryz.underlying24 h hN 3 3 3 1 (by kernel_rfl)
 obtain ⟨a3,r3,q3⟩:=My h3 b3
 obtain ⟨fu4,y4,h4,b4⟩:=dF lI Tryz.underlying24 h hN 4 3 4 1 (by kernel_rfl)
 obtain ⟨a4,r4,q4⟩:=My h4 b4
 obtain ⟨fu5,y5,h5,b5⟩:=dF lI Tryz.underlying24 h hN 5 3 5 1 (by kernel_rfl)
 obtain ⟨a5,r5,q5⟩:=My h5 b5
 obtain ⟨fu6,y6,h6,b6⟩:=dF lI Tryz.underlying24 h hN 6 22 6 1 (by kernel_rfl)
 obtain ⟨a6,r6,q6⟩:=FL h6 b6
 obtain ⟨fu7,y7,h7,b7⟩:=dF lI Tryz.underlying24 h hN 7 22 7 1 (by kernel_rfl)
 obtain ⟨a7,r7,q7⟩:=FL h7 b7
 exact ⟨⟨a0,a1,a2,a3,a4,a5,a6,a7⟩,⟨r0,r1,r2,r3,r4,r5,r6,r7⟩,(eC (o:=0) (n:=1) q0 rfl (eC (o:=1) (n:=1) q1 rfl (eC (o:=2) (n:=1) q2 rfl (eC (o:=3) (n:=1) q3 rfl (eC (o:=4) (n:=1) q4 rfl (eC (o:=5) (n:=1) q5 rfl (eC (o:=6) (n:=1) q6 rfl (eC (o:=7) (n:=1) q7 rfl (Ho (by simp [hl]))))))))))⟩
theorem B6:RdN @Rows.uptoBulk 1048576 Tryz.prog 67 aZ Qb:=by
 intro H enc W sp fuel cs x h hN
 have hl:=(Au Tryz.underlying67 h).1.trans (by kernel_rfl:Tryz.prog.cellsOf 67=7)
 obtain ⟨fu0,y0,h0,b0⟩:=dF lI Tryz.underlying67 h hN 0 9 0 1 (by kernel_rfl)
 obtain ⟨a0,r0,q0⟩:=WL h0 b0
 obtain ⟨fu1,y1,h1,b1⟩:=dF lI Tryz.underlying67 h hN 1 9 1 1 (by kernel_rfl)
 obtain ⟨a1,r1,q1⟩:=WL h1 b1
 obtain ⟨fu2,y2,h2,b2⟩:=dF lI Tryz.underlying67 h hN 2 3 2 1 (by kernel_rfl)
 obtain ⟨a2,r2,q2⟩:=My h2 b2
 obtain ⟨fu3,y3,h3,b3⟩:=dF lI Tryz.underlying67 h hN 3 3 3 1 (by kernel_rfl)
 obtain ⟨a3,r3,q3⟩:=My h3 b3
 obtain ⟨fu4,y4,h4,b4⟩:=dF lI Tryz.underlying67 h hN 4 22 4 1 (by kernel_rfl)
 obtain ⟨a4,r4,q4⟩:=FL h4 b4
 obtain ⟨fu5,y5,h5,b5⟩:=dF lI Tryz.underlying67 h hN 5 22 5 1 (by kernel_rfl)
 obtain ⟨a5,r5,q5⟩:=FL h5 b5
 obtain ⟨fu6,y6,h6,b6⟩:=dF lI Tryz.underlying67 h hN 6 22 6 1 (by kernel_rfl)
 obtain ⟨a6,r6,q6⟩:=FL h6 b6
 exact ⟨⟨a0,a1,a2,a3,a4,a5,a6⟩,⟨r0,r1,r2,r3,r4,r5,r6⟩,(eC (o:=0) (n:=1) q0 rfl (eC (o:=1) (n:=1) q1 rfl (eC (o:=2) (n:=1) q2 rfl (eC (o:=3) (n:=1) q3 rfl (eC (o:=4) (n:=1) q4 rfl (eC (o:=5) (n:=1) q5 rfl (eC (o:=6) (n:=1) q6 rfl (Ho (by simp [hl])))))))))⟩
theorem XR:RdN @Rows.uptoBulk 1048576 Tryz.prog 25 (cS aZ) (RLN 1048576 Qb):=Ny lI Tryz.underlying25 B6 (fun _=>by kernel_rfl) (by decide +kernel)
theorem A9:RdN @Rows.uptoBulk 1048576 Tryz.prog 27 bF Ph:=by
 intro H enc W sp fuel cs x h hN
 have hl:=(Au Tryz.underlying27 h).1.trans (by kernel_rfl:Tryz.prog.cellsOf 27=9)
 obtain ⟨fu0,y0,h0,b0⟩:=dF lI Tryz.underlying27 h hN 0 24 0 8 (by kernel_rfl)
 obtain ⟨a0,r0,q0⟩:=XQ h0 b0
 obtain ⟨fu1,y1,h1,b1⟩:=dF lI Tryz.underlying27 h hN 1 25 8 1 (by kernel_rfl)
 obtain ⟨a1,r1,q1⟩:=XR h1 b1
 exact ⟨⟨a0,a1⟩,⟨r0,r1⟩,(eC (o:=0) (n:=8) q0 rfl (eC (o:=8) (n:=1) q1 rfl (Ho (by simp [hl]))))⟩
theorem C0:RdN @Rows.uptoBulk 1048576 Tryz.prog 69 YN JE:=by
 intro H enc W sp fuel cs x h hN
 have hl:=(Au Tryz.underlying69 h).1.trans (by kernel_rfl:Tryz.prog.cellsOf 69=2)
 obtain ⟨fu0,y0,h0,b0⟩:=dF lI Tryz.underlying69 h hN 0 3 0 1 (by kernel_rfl)
 obtain ⟨a0,r0,q0⟩:=My h0 b0
 obtain ⟨fu1,y1,h1,b1⟩:=dF lI Tryz.underlying69 h hN 1 3 1 1 (by kernel_rfl)
 obtain ⟨a1,r1,q1⟩:=My h1 b1
 exact ⟨⟨a0,a1⟩,⟨r0,r1⟩,(eC (o:=0) (n:=1) q0 rfl (eC (o:=1) (n:=1) q1 rfl (Ho (by simp [hl]))))⟩
theorem C2:RdN @Rows.uptoBulk 1048576 Tryz.prog 71 fB Vs:=by
 intro H enc W sp fuel cs x h hN
 have hl:=(Au Tryz.underlying71 h).1.trans (by kernel_rfl:Tryz.prog.cellsOf 71=5)
 obtain ⟨fu0,y0,h0,b0⟩:=dF lI Tryz.underlying71 h hN 0 3 0 1 (by kernel_rfl)
 obtain ⟨a0,r0,q0⟩:=My h0 b0
 obtain ⟨fu1,y1,h1,b1⟩:=dF lI Tryz.underlying71 h hN 1 3 1 1 (by kernel_rfl)
 obtain ⟨a1,r1,q1⟩:=My h1 b1
 obtain ⟨fu2,y2,h2,b2⟩:=dF lI Tryz.underlying71 h hN 2 3 2 1 (by kernel_rfl)
 obtain ⟨a2,r2,q2⟩:=My h2 b2
 obtain ⟨fu3,y3,h3,b3⟩:=dF lI Tryz.underlying71 h hN 3 69 3 2 (by kernel_rfl)
 obtain ⟨a3,r3,q3⟩:=C0 h3 b3
 exact ⟨⟨a0,a1,a2,a3⟩,⟨r0,r1,r2,r3⟩,(eC (o:=0) (n:=1) q0 rfl (eC (o:=1) (n:=1) q1 rfl (eC (o:=2) (n:=1) q2 rfl (eC (o:=3) (n:=2) q3 rfl (Ho (by simp [hl]))))))⟩
theorem B0:RdN @Rows.uptoBulk 1048576 Tryz.prog 28 (cS fB) (RLN 1048576 Vs):=Ny lI Tryz.underlying28 C2 (fun _=>by kernel_rfl) (by decide +kernel)
theorem B1:RdN @Rows.uptoBulk 1048576 Tryz.prog 29 (cS cQ) (RLN 1048576 Qc):=Ny lI Tryz.underlying29 XQ (fun _=>by kernel_rfl) (by decide +kernel)
theorem D5:RdN @Rows.uptoBulk 1048576 Tryz.prog 4 cB RT:=IB (WK Tryz.underlying4)
theorem B3:RdN @Rows.uptoBulk 1048576 Tryz.prog 31 cD Tr:=by
 intro H enc W sp fuel cs x h hN
 have hl:=(Au Tryz.underlying31 h).1.trans (by kernel_rfl:Tryz.prog.cellsOf 31=3)
 obtain ⟨fu0,y0,h0,b0⟩:=dF lI Tryz.underlying31 h hN 0 3 0 1 (by kernel_rfl)
 obtain ⟨a0,r0,q0⟩:=My h0 b0
 obtain ⟨fu1,y1,h1,b1⟩:=dF lI Tryz.underlying31 h hN 1 3 1 1 (by kernel_rfl)
 obtain ⟨a1,r1,q1⟩:=My h1 b1
 obtain ⟨fu2,y2,h2,b2⟩:=dF lI Tryz.underlying31 h hN 2 4 2 1 (by kernel_rfl)
 obtain ⟨a2,r2,q2⟩:=D5 h2 b2
 exact ⟨⟨a0,a1,a2⟩,⟨r0,r1,r2⟩,(eC (o:=0) (n:=1) q0 rfl (eC (o:=1) (n:=1) q1 rfl (eC (o:=2) (n:=1) q2 rfl (Ho (by simp [hl])))))⟩
theorem B5:RdN @Rows.uptoBulk 1048576 Tryz.prog 33 iP Ay:=by
 intro H enc W sp fuel cs x h hN
 have hl:=(Au Tryz.underlying33 h).1.trans (by kernel_rfl:Tryz.prog.cellsOf 33=5)
 obtain ⟨fu0,y0,h0,b0⟩:=dF lI Tryz.underlying33 h hN 0 29 0 1 (by kernel_rfl)
 obtain ⟨a0,r0,q0⟩:=B1 h0 b0
 obtain ⟨fu1,y1,h1,b1⟩:=dF lI Tryz.underlying33 h hN 1 25 1 1 (by kernel_rfl)
 obtain ⟨a1,r1,q1⟩:=XR h1 b1
 obtain ⟨fu2,y2,h2,b2⟩:=dF lI Tryz.underlying33 h hN 2 31 2 3 (by kernel_rfl)
 obtain ⟨a2,r2,q2⟩:=B3 h2 b2
 exact ⟨⟨a0,a1,a2⟩,⟨r0,r1,r2⟩,(eC (o:=0) (n:=1) q0 rfl (eC (o:=1) (n:=1) q1 rfl (eC (o:=2) (n:=3) q2 rfl (Ho (by simp [hl])))))⟩
theorem Tn (os:Os) (started:os.Started) (H:Type) (enc:TypeId×Value→H) (F:Stop.Interp) :
  ReturnsInHanded {} Tryz.checked os 3 .any ((Rows.OpenSpec.upto Rows.topOrdersSpec).pre6 enc Tryz.prog Tryz.f3 Rows.topOrdersUptoRow.domain false) (((Rows.OpenSpec.upto Rows.topOrdersSpec).at F).post enc Tryz.prog Tryz.f3 false true false false):=by
 refine DT (C:=Tryz.checked) (s:=(Rows.OpenSpec.upto Rows.topOrdersSpec)) (k:=Rows.uptoSmall) rfl D3 started (by kernel_rfl) Tryz.func3
  (OpenSpec.witness (enc:=enc) (C:=Tryz.checked) (s:=(Rows.OpenSpec.upto Rows.topOrdersSpec)) (k:=Rows.uptoSmall) rfl false ⟨#[],#[.agg #[.string o4,.string o4,.int .i64 0,.int .i64 0,.int .i64 0,.int .i64 0,.slice none 0 0,.slice none 0 0,.slice none 0 0],.slice none 0 0,.agg #[.slice none 0 0,.slice none 0 0,.int .i64 0,.int .i64 0,.bool false]],[]⟩ 8 (by kernel_rfl) (by kernel_rfl) (by kernel_rfl)
   (x:=([.agg [.agg [.lit (.string []),.lit (.string []),.lit (.int .i64 0),.lit (.int .i64 0),.lit (.int .i64 0),.lit (.int .i64 0),.nil,.nil],.nil],.nil,.agg [.nil,.nil,.agg [.lit (.int .i64 0),.lit (.int .i64 0),.lit (.bool false)]]],[],[])) (by kernel_rfl) rfl (by kernel_rfl)) ?_
 intro Wd base args ds gs before hval hW hk hsh
 obtain ⟨p,q,hA,hV,rfl,hfz,hnd⟩:=id hW
 rw [Tryz.params3] at hA hval
 obtain ⟨v0,v1,v2,d0,d1,d2,p0,p1,p2,rfl,rfl,rfl,h0,h1,h2⟩:=trodAll_three hA
 obtain ⟨rfl,rfl⟩:=trodVars_none hV
 obtain ⟨a0,r0,q0⟩:=DI Tryz.underlying27 A9 (hval 0 27 v0 rfl rfl) h0 (Wa hk (by simp))
 obtain ⟨a1,r1,q1⟩:=OW (RR Tryz.underlying28 (hval 1 28 v1 rfl rfl)) B0 (fun y=>(.sl (List.map fB y))) (fun _=>rfl) h1 (Wa hk (by simp))
 obtain ⟨a2,r2,q2⟩:=DI Tryz.underlying33 B5 (hval 2 33 v2 rfl rfl) h2 (Wa hk (by simp))
 refine (MS (vals:=[v0,v1,v2]) (gl_ hsh) (W.Gy (Za a0 a1 a2 r0 r1 r2)) rfl ?_).mono fun e W' he=>?_
 ·intro i pv hi
  match i,hi with
  | 0,hi=>obtain rfl:=w7 hi;exact q0
  | 1,hi=>obtain rfl:=w7 hi;exact q1
  | 2,hi=>obtain rfl:=w7 hi;exact q2
  | n+3,hi=>simp at hi
 ·obtain ⟨rfl,hb⟩:=he
  exact ⟨_,rfl,RC RB hW rfl hb (by kernel_rfl) (by kernel_rfl) Tryz.underlying4 rfl rfl rfl⟩
end Go.Proofs.YtgbiimcgilaklaaGreat
