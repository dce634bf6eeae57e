/- The law CutDoes, up to the bound: for every input of bulk at most 1048576 the call returns true, and each argument reads afterwards as before. -/
import Derived.Test.YtgfjbgoehhnaeaaGreatWD2
import Derived.Test.YtgfjbgoehhnaeaaGreatCzDoes
import Derived.Test.YtgfjbgoehhnaeaaGreatRows
set_option linter.unusedVariables false
set_option linter.unusedSimpArgs false
set_option linter.unusedSectionVars false
namespace Go.Proofs.YtgfjbgoehhnaeaaGreat
open Go Go.VI Go.SM Go.Proofs Go.ChangeShapes Go.WideShapes Go.ChangeAt Go.RowKit
set_option maxRecDepth 100000
theorem O3:ownKnob Tryz.prog.godebug=none:=by kernel_rfl
theorem UT:laidOutB Tryz.prog=true:=by kernel_rfl
theorem SY {H:Type} (d:DataW H):1≤Rows.uptoBulk d:=by
  cases d with
  | lit l=>cases l <;> simp [Rows.uptoBulk]
  | nil=>simp [Rows.uptoBulk]
  | ptr d=>simp [Rows.uptoBulk]
  | slice elems spare=>simp [Rows.uptoBulk]
  | agg parts=>simp [Rows.uptoBulk]
  | iface t d=>simp [Rows.uptoBulk]
  | map entries=>simp [Rows.uptoBulk]
  | held h=>simp [Rows.uptoBulk]
theorem Vy {H:Type} {d:DataW H} {l:List (DataW H)} (h:d ∈ l):Rows.uptoBulk d≤Rows.uptoBulkAll l:=by
  induction l with
  | nil=>cases h
  | cons x r ih =>
    simp only [Rows.uptoBulkAll]
    cases List.mem_cons.1 h with
    | inl e=>subst e;omega
    | inr e=>have:=ih e;omega
theorem SX {H:Type} (l:List (DataW H)):l.length≤Rows.uptoBulkAll l:=by
  induction l with
  | nil=>simp [Rows.uptoBulkAll]
  | cons x r ih=>have:=SY x;simp only [Rows.uptoBulkAll,List.length_cons];omega
theorem lY:Bulk @Rows.uptoBulk where
  sl l r:=by
    have h1:=SX l
    refine ⟨by simp only [Rows.uptoBulk];omega,fun d hd=>?_⟩
    have:=Vy hd
    simp only [Rows.uptoBulk];omega
  ag l d hd:=by
    have:=Vy hd
    simp only [Rows.uptoBulk];omega
theorem Zg {H:Type} {d:DataW H} {l:List (DataW H)} (hk:Rows.uptoSmall H l=true) (hd:d ∈ l):Rows.uptoBulk d≤1048576:=by
  have h:Rows.uptoBulkAll l≤1048576:=by simpa [Rows.uptoSmall] using hk
  exact Nat.le_trans (Vy hd) h
theorem YJ:RdN @Rows.uptoBulk 1048576 Tryz.prog 9 cStr RT:=MG (F7 Tryz.underlying9)
theorem Qz:RdN @Rows.uptoBulk 1048576 Tryz.prog 3 cI R64:=MG (F6 Tryz.underlying3)
theorem M9:RdN @Rows.uptoBulk 1048576 Tryz.prog 98 aB Nj:=by
  intro H enc W sp fuel cs x h hN
  have hl:=(Bz Tryz.underlying98 h).1.trans (by kernel_rfl:Tryz.prog.cellsOf 98=4)
  obtain ⟨fu0,y0,h0,b0⟩:=bP lY Tryz.underlying98 h hN 0 3 0 1 (by kernel_rfl)
  obtain ⟨a0,r0,q0⟩:=Qz h0 b0
  obtain ⟨fu1,y1,h1,b1⟩:=bP lY Tryz.underlying98 h hN 1 3 1 1 (by kernel_rfl)
  obtain ⟨a1,r1,q1⟩:=Qz h1 b1
  obtain ⟨fu2,y2,h2,b2⟩:=bP lY Tryz.underlying98 h hN 2 3 2 1 (by kernel_rfl)
  obtain ⟨a2,r2,q2⟩:=Qz h2 b2
  obtain ⟨fu3,y3,h3,b3⟩:=bP lY Tryz.underlying98 h hN 3 3 3 1 (by kernel_rfl)
  obtain ⟨a3,r3,q3⟩:=Qz h3 b3
  exact ⟨⟨a0,a1,a2,a3⟩,⟨r0,r1,r2,r3⟩,(dD (o:=0) (n:=1) q0 rfl (dD (o:=1) (n:=1) q1 rfl (dD (o:=2) (n:=1) q2 rfl (dD (o:=3) (n:=1) q3 rfl (Ni (by simp [hl]))))))⟩
theorem JS:RdN @Rows.uptoBulk 1048576 Tryz.prog 22 (cS aB) (RLN 1048576 Nj):=Lm lY Tryz.underlying22 M9 (fun _=>by kernel_rfl) (by decide +kernel)
theorem L6:RdN @Rows.uptoBulk 1048576 Tryz.prog 24 oH GN:=by
  intro H enc W sp fuel cs x h hN
  have hl:=(Bz Tryz.underlying24 h).1.trans (by kernel_rfl:Tryz.prog.cellsOf 24=8)
  obtain ⟨fu0,y0,h0,b0⟩:=bP lY Tryz.underlying24 h hN 0 9 0 1 (by kernel_rfl)
  obtain ⟨a0,r0,q0⟩:=YJ h0 b0
  obtain ⟨fu1,y1,h1,b1⟩:=bP lY Tryz.underlying24 h hN 1 9 1 1 (by kernel_rfl)
  obtain ⟨a1,r1,q1⟩:=YJ h1 b1
  obtain ⟨fu2,y2,h2,b2⟩:=bP lY Tryz.underlying24 h hN 2 3 2 1 (by kernel_rfl)
  obtain ⟨a2,r2,q2⟩:=Qz h2 b2
  obtain ⟨fu3,y3,h3,b3⟩:=bP lY Tryz.underlying24 h hN 3 3 3 1 (by kernel_rfl)
  obtain ⟨a3,r3,q3⟩:=Qz h3 b3
  obtain ⟨fu4,y4,h4,b4⟩:=bP lY Tryz.underlying24 h hN 4 3 4 1 (by kernel_rfl)
  obtain ⟨a4,r4,q4⟩:=Qz h4 b4
  obtain ⟨fu5,y5,h5,b5⟩:=bP lY Tryz.underlying24 h hN 5 3 5 1 (by kernel_rfl)
  obtain ⟨a5,r5,q5⟩:=Qz h5 b5
  obtain ⟨fu6,y6,h6,b6⟩:=bP lY Tryz.underlying24 h hN 6 22 6 1 (by kernel_rfl)
  obtain ⟨a6,r6,q6⟩:=JS h6 b6
  obtain ⟨fu7,y7,h7,b7⟩:=bP lY Tryz.underlying24 h hN 7 22 7 1 (by kernel_rfl)
  obtain ⟨a7,r7,q7⟩:=JS h7 b7
  exact ⟨⟨a0,a1,a2,a3,a4,a5,a6,a7⟩,⟨r0,r1,r2,r3,r4,r5,r6,r7⟩,(dD (o:=0) (n:=1) q0 rfl (dD (o:=1) (n:=1) q1 rfl (dD (o:=2) (n:=1) q2 rfl (dD (o:=3) (n:=1) q3 rfl (dD (o:=4) (n:=1) q4 rfl (dD (o:=5) (n:=1) q5 rfl (dD (o:=6) (n:=1) q6 rfl (dD (o:=7) (n:=1) q7 rfl (Ni (by simp [hl]))))))))))⟩
theorem M8:RdN @Rows.uptoBulk 1048576 Tryz.prog 78 aU Yz:=by
  intro H enc W sp fuel cs x h hN
  have hl:=(Bz Tryz.underlying78 h).1.trans (by kernel_rfl:Tryz.prog.cellsOf 78=7)
  obtain ⟨fu0,y0,h0,b0⟩:=bP lY Tryz.underlying78 h hN 0 9 0 1 (by kernel_rfl)
  obtain ⟨a0,r0,q0⟩:=YJ h0 b0
  obtain ⟨fu1,y1,h1,b1⟩:=bP lY Tryz.underlying78 h hN 1 9 1 1 (by kernel_rfl)
  obtain ⟨a1,r1,q1⟩:=YJ h1 b1
  obtain ⟨fu2,y2,h2,b2⟩:=bP lY Tryz.underlying78 h hN 2 3 2 1 (by kernel_rfl)
  obtain ⟨a2,r2,q2⟩:=Qz h2 b2
  obtain ⟨fu3,y3,h3,b3⟩:=bP lY Tryz.underlying78 h hN 3 3 3 1 (by kernel_rfl)
  obtain ⟨a3,r3,q3⟩:=Qz h3 b3
  obtain ⟨fu4,y4,h4,b4⟩:=bP lY Tryz.underlying78 h hN 4 22 4 1 (by kernel_rfl)
  obtain ⟨a4,r4,q4⟩:=JS h4 b4
  obtain ⟨fu5,y5,h5,b5⟩:=bP lY Tryz.underlying78 h hN 5 22 5 1 (by kernel_rfl)
  obtain ⟨a5,r5,q5⟩:=JS h5 b5
  obtain ⟨fu6,y6,h6,b6⟩:=bP lY Tryz.underlying78 h hN 6 22 6 1 (by kernel_rfl)
  obtain ⟨a6,r6,q6⟩:=JS h6 b6
  exact ⟨⟨a0,a1,a2,a3,a4,a5,a6⟩,⟨r0,r1,r2,r3,r4,r5,r6⟩,(dD (o:=0) (n:=1) q0 rfl (dD (o:=1) (n:=1) q1 rfl (dD (o:=2) (n:=1) q2 rfl (dD (o:=3) (n:=1) q3 rfl (dD (o:=4) (n:=1) q4 rfl (dD (o:=5) (n:=1) q5 rfl (dD (o:=6) (n:=1) q6 rfl (Ni (by simp [hl])))))))))⟩
theorem L8:RdN @Rows.uptoBulk 1048576 Tryz.prog 25 (cS aU) (RLN 1048576 Yz):=Lm lY Tryz.underlying25 M8 (fun _=>by kernel_rfl) (by decide +kernel)
theorem L9:RdN @Rows.uptoBulk 1048576 Tryz.prog 27 aR Az:=by
  intro H enc W sp fuel cs x h hN
  have hl:=(Bz Tryz.underlying27 h).1.trans (by kernel_rfl:Tryz.prog.cellsOf 27=9)
  obtain ⟨fu0,y0,h0,b0⟩:=bP lY Tryz.underlying27 h hN 0 24 0 8 (by kernel_rfl)
  obtain ⟨a0,r0,q0⟩:=L6 h0 b0
  obtain ⟨fu1,y1,h1,b1⟩:=bP lY Tryz.underlying27 h hN 1 25 8 1 (by kernel_rfl)
  obtain ⟨a1,r1,q1⟩:=L8 h1 b1
  exact ⟨⟨a0,a1⟩,⟨r0,r1⟩,(dD (o:=0) (n:=8) q0 rfl (dD (o:=8) (n:=1) q1 rfl (Ni (by simp [hl]))))⟩
theorem O5:RdN @Rows.uptoBulk 1048576 Tryz.prog 4 cB RT:=MG (YI Tryz.underlying4)
theorem OL:RdN @Rows.uptoBulk 1048576 Tryz.prog 36 (cS cB) (RLN 1048576 RT):=Lm lY Tryz.underlying36 O5 (fun _=>by kernel_rfl) (by decide +kernel)
theorem M3:RdN @Rows.uptoBulk 1048576 Tryz.prog 37 (cS (cS cB)) (RLN 1048576 (RLN 1048576 RT)):=Lm lY Tryz.underlying37 OL (fun _=>by kernel_rfl) (by decide +kernel)
theorem M4:RdN @Rows.uptoBulk 1048576 Tryz.prog 38 (cS cI) (RLN 1048576 R64):=Lm lY Tryz.underlying38 Qz (fun _=>by kernel_rfl) (by decide +kernel)
theorem M5:RdN @Rows.uptoBulk 1048576 Tryz.prog 40 aD tJ:=by
  intro H enc W sp fuel cs x h hN
  have hl:=(Bz Tryz.underlying40 h).1.trans (by kernel_rfl:Tryz.prog.cellsOf 40=5)
  obtain ⟨fu0,y0,h0,b0⟩:=bP lY Tryz.underlying40 h hN 0 36 0 1 (by kernel_rfl)
  obtain ⟨a0,r0,q0⟩:=OL h0 b0
  obtain ⟨fu1,y1,h1,b1⟩:=bP lY Tryz.underlying40 h hN 1 37 1 1 (by kernel_rfl)
  obtain ⟨a1,r1,q1⟩:=M3 h1 b1
  obtain ⟨fu2,y2,h2,b2⟩:=bP lY Tryz.underlying40 h hN 2 36 2 1 (by kernel_rfl)
  obtain ⟨a2,r2,q2⟩:=OL h2 b2
  obtain ⟨fu3,y3,h3,b3⟩:=bP lY Tryz.underlying40 h hN 3 38 3 1 (by kernel_rfl)
  obtain ⟨a3,r3,q3⟩:=M4 h3 b3
  obtain ⟨fu4,y4,h4,b4⟩:=bP lY Tryz.underlying40 h hN 4 36 4 1 (by kernel_rfl)
  obtain ⟨a4,r4,q4⟩:=OL h4 b4
  exact ⟨⟨a0,a1,a2,a3,a4⟩,⟨r0,r1,r2,r3,r4⟩,(dD (o:=0) (n:=1) q0 rfl (dD (o:=1) (n:=1) q1 rfl (dD (o:=2) (n:=1) q2 rfl (dD (o:=3) (n:=1) q3 rfl (dD (o:=4) (n:=1) q4 rfl (Ni (by simp [hl])))))))⟩
theorem M6:RdN @Rows.uptoBulk 1048576 Tryz.prog 42 C9 MX:=by
  intro H enc W sp fuel cs x h hN
  have hl:=(Bz Tryz.underlying42 h).1.trans (by kernel_rfl:Tryz.prog.cellsOf 42=2)
  obtain ⟨fu0,y0,h0,b0⟩:=bP lY Tryz.underlying42 h hN 0 3 0 1 (by kernel_rfl)
  obtain ⟨a0,r0,q0⟩:=Qz h0 b0
  obtain ⟨fu1,y1,h1,b1⟩:=bP lY Tryz.underlying42 h hN 1 3 1 1 (by kernel_rfl)
  obtain ⟨a1,r1,q1⟩:=Qz h1 b1
  exact ⟨⟨a0,a1⟩,⟨r0,r1⟩,(dD (o:=0) (n:=1) q0 rfl (dD (o:=1) (n:=1) q1 rfl (Ni (by simp [hl]))))⟩
theorem M7:RdN @Rows.uptoBulk 1048576 Tryz.prog 44 dO GM:=by
  intro H enc W sp fuel cs x h hN
  have hl:=(Bz Tryz.underlying44 h).1.trans (by kernel_rfl:Tryz.prog.cellsOf 44=5)
  obtain ⟨fu0,y0,h0,b0⟩:=bP lY Tryz.underlying44 h hN 0 3 0 1 (by kernel_rfl)
  obtain ⟨a0,r0,q0⟩:=Qz h0 b0
  obtain ⟨fu1,y1,h1,b1⟩:=bP lY Tryz.underlying44 h hN 1 3 1 1 (by kernel_rfl)
  obtain ⟨a1,r1,q1⟩:=Qz h1 b1
  obtain ⟨fu2,y2,h2,b2⟩:=bP lY Tryz.underlying44 h hN 2 3 2 1 (by kernel_rfl)
  obtain ⟨a2,r2,q2⟩:=Qz h2 b2
  obtain ⟨fu3,y3,h3,b3⟩:=bP lY Tryz.underlying44 h hN 3 42 3 2 (by kernel_rfl)
  obtain ⟨a3,r3,q3⟩:=M6 h3 b3
  exact ⟨⟨a0,a1,a2,a3⟩,⟨r0,r1,r2,r3⟩,(dD (o:=0) (n:=1) q0 rfl (dD (o:=1) (n:=1) q1 rfl (dD (o:=2) (n:=1) q2 rfl (dD (o:=3) (n:=2) q3 rfl (Ni (by simp [hl]))))))⟩
theorem Zm (os:Os) (started:os.Started) (H:Type) (enc:TypeId×Value→H) (F:Stop.Interp) :
    ReturnsInHanded {} Tryz.checked os 5 .any ((Rows.OpenSpec.upto Rows.cutDoesSpec).pre6 enc Tryz.prog Tryz.f5 Rows.cutDoesUptoRow.domain false) (((Rows.OpenSpec.upto Rows.cutDoesSpec).at F).post enc Tryz.prog Tryz.f5 false true false false):=by
  refine IA (C:=Tryz.checked) (s:=(Rows.OpenSpec.upto Rows.cutDoesSpec)) (k:=Rows.uptoSmall) rfl O3 started (by kernel_rfl) Tryz.func5
    (OpenSpec.witness (enc:=enc) (C:=Tryz.checked) (s:=(Rows.OpenSpec.upto Rows.cutDoesSpec)) (k:=Rows.uptoSmall) rfl false ⟨#[],#[.agg #[.string ByteArray.empty,.string ByteArray.empty,.int .i64 0,.int .i64 0,.int .i64 0,.int .i64 0,.slice none 0 0,.slice none 0 0,.slice none 0 0],.agg #[.slice none 0 0,.slice none 0 0,.slice none 0 0,.slice none 0 0,.slice none 0 0],.agg #[.int .i64 0,.int .i64 0,.int .i64 0,.int .i64 0,.int .i64 0]],[]⟩ 8 (by kernel_rfl) (by kernel_rfl) (by kernel_rfl)
      (x:=([.agg [.agg [.lit (.string []),.lit (.string []),.lit (.int .i64 0),.lit (.int .i64 0),.lit (.int .i64 0),.lit (.int .i64 0),.nil,.nil],.nil],.agg [.nil,.nil,.nil,.nil,.nil],.agg [.lit (.int .i64 0),.lit (.int .i64 0),.lit (.int .i64 0),.agg [.lit (.int .i64 0),.lit (.int .i64 0)]]],[],[])) (by kernel_rfl) rfl (by kernel_rfl)) ?_
  intro Wd base args ds gs before hval hW hk hsh
  obtain ⟨p,q,hA,hV,rfl,hfz,hnd⟩:=id hW
  rw [Tryz.params5] at hA hval
  obtain ⟨v0,v1,v2,d0,d1,d2,p0,p1,p2,rfl,rfl,rfl,h0,h1,h2⟩:=trodAll_three hA
  obtain ⟨rfl,rfl⟩:=trodVars_none hV
  obtain ⟨a0,r0,q0⟩:=Ze Tryz.underlying27 L9 (hval 0 27 v0 rfl rfl) h0 (Zg hk (by simp))
  obtain ⟨a1,r1,q1⟩:=Ze Tryz.underlying40 M5 (hval 1 40 v1 rfl rfl) h1 (Zg hk (by simp))
  obtain ⟨a2,r2,q2⟩:=Ze Tryz.underlying44 M7 (hval 2 44 v2 rfl rfl) h2 (Zg hk (by simp))
  refine (QI (vals:=[v0,v1,v2]) (gl_ hsh) (W.Gx (JD a0 a1 a2 r0 r1 r2)) rfl ?_).mono fun e W' he=>?_
  · intro i pv hi
    match i,hi with
    | 0,hi=>obtain rfl:=Option.some.inj hi;exact q0
    | 1,hi=>obtain rfl:=Option.some.inj hi;exact q1
    | 2,hi=>obtain rfl:=Option.some.inj hi;exact q2
    | n+3,hi=>simp at hi
  · obtain ⟨rfl,hb⟩:=he
    exact ⟨_,rfl,UU UT hW rfl hb (by kernel_rfl) (by kernel_rfl) Tryz.underlying4 rfl rfl rfl⟩
end Go.Proofs.YtgfjbgoehhnaeaaGreat
