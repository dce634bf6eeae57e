/- The law CutEnds, up to the bound: for every input of bulk at most 1048576 the call returns true, and each argument reads afterwards as before. -/
import Derived.Test.YtgfjbgoehhnaeaaWE1
import Derived.Test.YtgfjbgoehhnaeaaPl3
import Derived.Test.YtgfjbgoehhnaeaaRows
set_option linter.unusedVariables false
set_option linter.unusedSimpArgs false
set_option linter.unusedSectionVars false
namespace Go.Proofs.Ytgfjbgoehhnaeaa
open Go Go.VI Go.SM Go.Proofs Go.ChangeShapes Go.WideShapes Go.ChangeAt Go.RowKit
set_option maxRecDepth 100000
theorem L8:ownKnob Try.prog.godebug=none:=by kernel_rfl
theorem UB:laidOutB Try.prog=true:=by kernel_rfl
theorem RQ {H:Type} (d:DataW H):1≤Rows.uptoBulk d:=by
  cases d with
  | lit l=>cases l <;> simp [Rows.uptoBulk]
  | nil=>simp [Rows.uptoBulk]
  | ptr d=>simp [Rows.uptoBulk]
  | slice elems spare=>simp [Rows.uptoBulk]
  | agg parts=>simp [Rows.uptoBulk]
  | iface t d=>simp [Rows.uptoBulk]
  | map entries=>simp [Rows.uptoBulk]
  | held h=>simp [Rows.uptoBulk]
theorem Tn {H:Type} {d:DataW H} {l:List (DataW H)} (h:d ∈ l):Rows.uptoBulk d≤Rows.uptoBulkAll l:=by
  induction l with
  | nil=>cases h
  | cons x r ih =>
    simp only [Rows.uptoBulkAll]
    cases List.mem_cons.1 h with
    | inl e=>subst e;omega
    | inr e=>have:=ih e;omega
theorem RP {H:Type} (l:List (DataW H)):l.length≤Rows.uptoBulkAll l:=by
  induction l with
  | nil=>simp [Rows.uptoBulkAll]
  | cons x r ih=>have:=RQ x;simp only [Rows.uptoBulkAll,List.length_cons];omega
theorem oV:Bulk @Rows.uptoBulk where
  sl l r:=by
    have h1:=RP l
    refine ⟨by simp only [Rows.uptoBulk];omega,fun d hd=>?_⟩
    have:=Tn hd
    simp only [Rows.uptoBulk];omega
  ag l d hd:=by
    have:=Tn hd
    simp only [Rows.uptoBulk];omega
theorem FE {H:Type} {d:DataW H} {l:List (DataW H)} (hk:Rows.uptoSmall H l=true) (hd:d ∈ l):Rows.uptoBulk d≤1048576:=by
  have h:Rows.uptoBulkAll l≤1048576:=by simpa [Rows.uptoSmall] using hk
  exact Nat.le_trans (Tn hd) h
theorem YD:RdN @Rows.uptoBulk 1048576 Try.prog 9 cStr RT:=VG (D7 Try.underlying9)
theorem Qf:RdN @Rows.uptoBulk 1048576 Try.prog 3 cI R64:=VG (D6 Try.underlying3)
theorem J5:RdN @Rows.uptoBulk 1048576 Try.prog 59 aM Jc:=by
  intro H enc W sp fuel cs x h hN
  have hl:=(Dm Try.underlying59 h).1.trans (by kernel_rfl:Try.prog.cellsOf 59=4)
  obtain ⟨fu0,y0,h0,b0⟩:=bU oV Try.underlying59 h hN 0 3 0 1 (by kernel_rfl)
  obtain ⟨a0,r0,q0⟩:=Qf h0 b0
  obtain ⟨fu1,y1,h1,b1⟩:=bU oV Try.underlying59 h hN 1 3 1 1 (by kernel_rfl)
  obtain ⟨a1,r1,q1⟩:=Qf h1 b1
  obtain ⟨fu2,y2,h2,b2⟩:=bU oV Try.underlying59 h hN 2 3 2 1 (by kernel_rfl)
  obtain ⟨a2,r2,q2⟩:=Qf h2 b2
  obtain ⟨fu3,y3,h3,b3⟩:=bU oV Try.underlying59 h hN 3 3 3 1 (by kernel_rfl)
  obtain ⟨a3,r3,q3⟩:=Qf h3 b3
  exact ⟨⟨a0,a1,a2,a3⟩,⟨r0,r1,r2,r3⟩,(eO (o:=0) (n:=1) q0 rfl (eO (o:=1) (n:=1) q1 rfl (eO (o:=2) (n:=1) q2 rfl (eO (o:=3) (n:=1) q3 rfl (Nh (by simp [hl]))))))⟩
theorem II:RdN @Rows.uptoBulk 1048576 Try.prog 22 (cS aM) (RLN 1048576 Jc):=Uk oV Try.underlying22 J5 (fun _=>by kernel_rfl) (by decide +kernel)
theorem I8:RdN @Rows.uptoBulk 1048576 Try.prog 32 xW EW:=by
  intro H enc W sp fuel cs x h hN
  have hl:=(Dm Try.underlying32 h).1.trans (by kernel_rfl:Try.prog.cellsOf 32=8)
  obtain ⟨fu0,y0,h0,b0⟩:=bU oV Try.underlying32 h hN 0 9 0 1 (by kernel_rfl)
  obtain ⟨a0,r0,q0⟩:=YD h0 b0
  obtain ⟨fu1,y1,h1,b1⟩:=bU oV Try.underlying32 h hN 1 9 1 1 (by kernel_rfl)
  obtain ⟨a1,r1,q1⟩:=YD h1 b1
  obtain ⟨fu2,y2,h2,b2⟩:=bU oV Try.underlying32 h hN 2 3 2 1 (by kernel_rfl)
  obtain ⟨a2,r2,q2⟩:=Qf h2 b2
  obtain ⟨fu3,y3,h3,b3⟩:=bU oV Try.underlying32 h hN 3 3 3 1 (by kernel_rfl)
  obtain ⟨a3,r3,q3⟩:=Qf h3 b3
  obtain ⟨fu4,y4,h4,b4⟩:=bU oV Try.underlying32 h hN 4 3 4 1 (by kernel_rfl)
  obtain ⟨a4,r4,q4⟩:=Qf h4 b4
  obtain ⟨fu5,y5,h5,b5⟩:=bU oV Try.underlying32 h hN 5 3 5 1 (by kernel_rfl)
  obtain ⟨a5,r5,q5⟩:=Qf h5 b5
  obtain ⟨fu6,y6,h6,b6⟩:=bU oV Try.underlying32 h hN 6 22 6 1 (by kernel_rfl)
  obtain ⟨a6,r6,q6⟩:=II h6 b6
  obtain ⟨fu7,y7,h7,b7⟩:=bU oV Try.underlying32 h hN 7 22 7 1 (by kernel_rfl)
  obtain ⟨a7,r7,q7⟩:=II h7 b7
  exact ⟨⟨a0,a1,a2,a3,a4,a5,a6,a7⟩,⟨r0,r1,r2,r3,r4,r5,r6,r7⟩,(eO (o:=0) (n:=1) q0 rfl (eO (o:=1) (n:=1) q1 rfl (eO (o:=2) (n:=1) q2 rfl (eO (o:=3) (n:=1) q3 rfl (eO (o:=4) (n:=1) q4 rfl (eO (o:=5) (n:=1) q5 rfl (eO (o:=6) (n:=1) q6 rfl (eO (o:=7) (n:=1) q7 rfl (Nh (by simp [hl]))))))))))⟩
theorem I6:RdN @Rows.uptoBulk 1048576 Try.prog 24 aX Xm:=by
  intro H enc W sp fuel cs x h hN
  have hl:=(Dm Try.underlying24 h).1.trans (by kernel_rfl:Try.prog.cellsOf 24=7)
  obtain ⟨fu0,y0,h0,b0⟩:=bU oV Try.underlying24 h hN 0 9 0 1 (by kernel_rfl)
  obtain ⟨a0,r0,q0⟩:=YD h0 b0
  obtain ⟨fu1,y1,h1,b1⟩:=bU oV Try.underlying24 h hN 1 9 1 1 (by kernel_rfl)
  obtain ⟨a1,r1,q1⟩:=YD h1 b1
  obtain ⟨fu2,y2,h2,b2⟩:=bU oV Try.underlying24 h hN 2 3 2 1 (by kernel_rfl)
  obtain ⟨a2,r2,q2⟩:=Qf h2 b2
  obtain ⟨fu3,y3,h3,b3⟩:=bU oV Try.underlying24 h hN 3 3 3 1 (by kernel_rfl)
  obtain ⟨a3,r3,q3⟩:=Qf h3 b3
  obtain ⟨fu4,y4,h4,b4⟩:=bU oV Try.underlying24 h hN 4 22 4 1 (by kernel_rfl)
  obtain ⟨a4,r4,q4⟩:=II h4 b4
  obtain ⟨fu5,y5,h5,b5⟩:=bU oV Try.underlying24 h hN 5 22 5 1 (by kernel_rfl)
  obtain ⟨a5,r5,q5⟩:=II h5 b5
  obtain ⟨fu6,y6,h6,b6⟩:=bU oV Try.underlying24 h hN 6 22 6 1 (by kernel_rfl)
  obtain ⟨a6,r6,q6⟩:=II h6 b6
  exact ⟨⟨a0,a1,a2,a3,a4,a5,a6⟩,⟨r0,r1,r2,r3,r4,r5,r6⟩,(eO (o:=0) (n:=1) q0 rfl (eO (o:=1) (n:=1) q1 rfl (eO (o:=2) (n:=1) q2 rfl (eO (o:=3) (n:=1) q3 rfl (eO (o:=4) (n:=1) q4 rfl (eO (o:=5) (n:=1) q5 rfl (eO (o:=6) (n:=1) q6 rfl (Nh (by simp [hl])))))))))⟩
theorem I9:RdN @Rows.uptoBulk 1048576 Try.prog 33 (cS aX) (RLN 1048576 Xm):=Uk oV Try.underlying33 I6 (fun _=>by kernel_rfl) (by decide +kernel)
theorem J2:RdN @Rows.uptoBulk 1048576 Try.prog 35 aV uW:=by
  intro H enc W sp fuel cs x h hN
  have hl:=(Dm Try.underlying35 h).1.trans (by kernel_rfl:Try.prog.cellsOf 35=9)
  obtain ⟨fu0,y0,h0,b0⟩:=bU oV Try.underlying35 h hN 0 32 0 8 (by kernel_rfl)
  obtain ⟨a0,r0,q0⟩:=I8 h0 b0
  obtain ⟨fu1,y1,h1,b1⟩:=bU oV Try.underlying35 h hN 1 33 8 1 (by kernel_rfl)
  obtain ⟨a1,r1,q1⟩:=I9 h1 b1
  exact ⟨⟨a0,a1⟩,⟨r0,r1⟩,(eO (o:=0) (n:=8) q0 rfl (eO (o:=8) (n:=1) q1 rfl (Nh (by simp [hl]))))⟩
theorem I7:RdN @Rows.uptoBulk 1048576 Try.prog 26 ZV LX:=by
  intro H enc W sp fuel cs x h hN
  have hl:=(Dm Try.underlying26 h).1.trans (by kernel_rfl:Try.prog.cellsOf 26=2)
  obtain ⟨fu0,y0,h0,b0⟩:=bU oV Try.underlying26 h hN 0 3 0 1 (by kernel_rfl)
  obtain ⟨a0,r0,q0⟩:=Qf h0 b0
  obtain ⟨fu1,y1,h1,b1⟩:=bU oV Try.underlying26 h hN 1 3 1 1 (by kernel_rfl)
  obtain ⟨a1,r1,q1⟩:=Qf h1 b1
  exact ⟨⟨a0,a1⟩,⟨r0,r1⟩,(eO (o:=0) (n:=1) q0 rfl (eO (o:=1) (n:=1) q1 rfl (Nh (by simp [hl]))))⟩
theorem J4:RdN @Rows.uptoBulk 1048576 Try.prog 49 iA Xl:=by
  intro H enc W sp fuel cs x h hN
  have hl:=(Dm Try.underlying49 h).1.trans (by kernel_rfl:Try.prog.cellsOf 49=5)
  obtain ⟨fu0,y0,h0,b0⟩:=bU oV Try.underlying49 h hN 0 3 0 1 (by kernel_rfl)
  obtain ⟨a0,r0,q0⟩:=Qf h0 b0
  obtain ⟨fu1,y1,h1,b1⟩:=bU oV Try.underlying49 h hN 1 3 1 1 (by kernel_rfl)
  obtain ⟨a1,r1,q1⟩:=Qf h1 b1
  obtain ⟨fu2,y2,h2,b2⟩:=bU oV Try.underlying49 h hN 2 3 2 1 (by kernel_rfl)
  obtain ⟨a2,r2,q2⟩:=Qf h2 b2
  obtain ⟨fu3,y3,h3,b3⟩:=bU oV Try.underlying49 h hN 3 26 3 2 (by kernel_rfl)
  obtain ⟨a3,r3,q3⟩:=I7 h3 b3
  exact ⟨⟨a0,a1,a2,a3⟩,⟨r0,r1,r2,r3⟩,(eO (o:=0) (n:=1) q0 rfl (eO (o:=1) (n:=1) q1 rfl (eO (o:=2) (n:=1) q2 rfl (eO (o:=3) (n:=2) q3 rfl (Nh (by simp [hl]))))))⟩
theorem J3:RdN @Rows.uptoBulk 1048576 Try.prog 36 (cS iA) (RLN 1048576 Xl):=Uk oV Try.underlying36 J4 (fun _=>by kernel_rfl) (by decide +kernel)
theorem Xz (os:Os) (started:os.Started) (H:Type) (enc:TypeId×Value→H) (F:Stop.Interp) :
    ReturnsInHanded {} Try.checked os 5 .any ((Rows.OpenSpec.upto Rows.cutEndsSpec).pre6 enc Try.prog Try.f5 Rows.cutEndsUptoRow.domain false) (((Rows.OpenSpec.upto Rows.cutEndsSpec).at F).post enc Try.prog Try.f5 false true false false):=by
  refine FL (C:=Try.checked) (s:=(Rows.OpenSpec.upto Rows.cutEndsSpec)) (k:=Rows.uptoSmall) rfl L8 started (by kernel_rfl) Try.func5
    (OpenSpec.witness (enc:=enc) (C:=Try.checked) (s:=(Rows.OpenSpec.upto Rows.cutEndsSpec)) (k:=Rows.uptoSmall) rfl false ⟨#[],#[.agg #[.string ByteArray.empty,.string ByteArray.empty,.int .i64 0,.int .i64 0,.int .i64 0,.int .i64 0,.slice none 0 0,.slice none 0 0,.slice none 0 0],.slice none 0 0],[]⟩ 8 (by kernel_rfl) (by kernel_rfl) (by kernel_rfl)
      (x:=([.agg [.agg [.lit (.string []),.lit (.string []),.lit (.int .i64 0),.lit (.int .i64 0),.lit (.int .i64 0),.lit (.int .i64 0),.nil,.nil],.nil],.nil],[],[])) (by kernel_rfl) rfl (by kernel_rfl)) ?_
  intro Wd base args ds gs before hval hW hk hsh
  obtain ⟨p,q,hA,hV,rfl,hfz,hnd⟩:=id hW
  rw [Try.params5] at hA hval
  obtain ⟨v0,v1,d0,d1,p0,p1,rfl,rfl,rfl,h0,h1⟩:=trodAll_two hA
  obtain ⟨rfl,rfl⟩:=trodVars_none hV
  obtain ⟨a0,r0,q0⟩:=RB Try.underlying35 J2 (hval 0 35 v0 rfl rfl) h0 (FE hk (by simp))
  obtain ⟨a1,r1,q1⟩:=RD (UK Try.underlying36 (hval 1 36 v1 rfl rfl)) J3 (fun y=>(.sl (List.map iA y))) (fun _=>rfl) h1 (FE hk (by simp))
  refine (PN (vals:=[v0,v1]) (gl_ hsh) (W.Eo (GR a0 a1 r0 r1)) rfl ?_).mono fun e W' he=>?_
  · intro i pv hi
    match i,hi with
    | 0,hi=>obtain rfl:=Option.some.inj hi;exact q0
    | 1,hi=>obtain rfl:=Option.some.inj hi;exact q1
    | n+2,hi=>simp at hi
  · obtain ⟨rfl,hb⟩:=he
    exact ⟨_,rfl,UC UB hW rfl hb (by kernel_rfl) (by kernel_rfl) Try.underlying4 rfl rfl rfl⟩
end Go.Proofs.Ytgfjbgoehhnaeaa
