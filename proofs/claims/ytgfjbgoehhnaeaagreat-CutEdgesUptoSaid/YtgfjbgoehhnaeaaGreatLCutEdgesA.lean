/- The law CutEdges, up to the bound: for every input of bulk at most 1048576 the call returns true, and each argument reads afterwards as before. -/
import Derived.Test.YtgfjbgoehhnaeaaGreatWG2
import Derived.Test.YtgfjbgoehhnaeaaGreatCzEdges
import Derived.Test.YtgfjbgoehhnaeaaGreatRows
set_option linter.unusedVariables false
set_option linter.unusedSimpArgs false
set_option linter.unusedSectionVars false
namespace Go.Proofs.YtgfjbgoehhnaeaaGreat
open Go Go.VI Go.SM Go.Proofs Go.ChangeShapes Go.WideShapes Go.ChangeAt Go.RowKit
set_option maxRecDepth 100000
theorem own_ : ownKnob Tryz.prog.godebug=none:=by kernel_rfl
theorem laidOut_ : laidOutB Tryz.prog=true:=by kernel_rfl
theorem bulk_one {H : Type} (d : DataW H) : 1≤Rows.uptoBulk d:=by
  cases d with
  | lit l=>cases l <;> simp [Rows.uptoBulk]
  | nil=>simp [Rows.uptoBulk]
  | ptr d=>simp [Rows.uptoBulk]
  | slice elems spare=>simp [Rows.uptoBulk]
  | agg parts=>simp [Rows.uptoBulk]
  | iface t d=>simp [Rows.uptoBulk]
  | map entries=>simp [Rows.uptoBulk]
  | held h=>simp [Rows.uptoBulk]
theorem bulk_part {H : Type} {d : DataW H} {l : List (DataW H)} (h : d ∈ l) : Rows.uptoBulk d≤Rows.uptoBulkAll l:=by
  induction l with
  | nil=>cases h
  | cons x r ih =>
    simp only [Rows.uptoBulkAll]
    cases List.mem_cons.1 h with
    | inl e=>subst e; omega
    | inr e=>have:=ih e; omega
theorem bulk_len {H : Type} (l : List (DataW H)) : l.length≤Rows.uptoBulkAll l:=by
  induction l with
  | nil=>simp [Rows.uptoBulkAll]
  | cons x r ih=>have:=bulk_one x; simp only [Rows.uptoBulkAll,List.length_cons]; omega
theorem bulk_ : Bulk @Rows.uptoBulk where
  sl l r:=by
    have h1:=bulk_len l
    refine ⟨by simp only [Rows.uptoBulk]; omega,fun d hd=>?_⟩
    have:=bulk_part hd
    simp only [Rows.uptoBulk]; omega
  ag l d hd:=by
    have:=bulk_part hd
    simp only [Rows.uptoBulk]; omega
theorem bulk_arg {H : Type} {d : DataW H} {l : List (DataW H)} (hk : Rows.uptoSmall H l=true) (hd : d ∈ l) : Rows.uptoBulk d≤1048576:=by
  have h : Rows.uptoBulkAll l≤1048576:=by simpa [Rows.uptoSmall] using hk
  exact Nat.le_trans (bulk_part hd) h
theorem rn_9 : RdN @Rows.uptoBulk 1048576 Tryz.prog 9 cStr RT:=rdN_of (rd_str Tryz.underlying9)
theorem rn_3 : RdN @Rows.uptoBulk 1048576 Tryz.prog 3 cI R64:=rdN_of (rd_i64 Tryz.underlying3)
theorem rn_98 : RdN @Rows.uptoBulk 1048576 Tryz.prog 98 c_Rect RN_Rect:=by
  intro H enc W sp fuel cs x h hN
  have hl:=(rd_fields Tryz.underlying98 h).1.trans (by kernel_rfl : Tryz.prog.cellsOf 98=4)
  obtain ⟨fu0,y0,h0,b0⟩:=rdN_field bulk_ Tryz.underlying98 h hN 0 3 0 1 (by kernel_rfl)
  obtain ⟨a0,r0,q0⟩:=rn_3 h0 b0
  obtain ⟨fu1,y1,h1,b1⟩:=rdN_field bulk_ Tryz.underlying98 h hN 1 3 1 1 (by kernel_rfl)
  obtain ⟨a1,r1,q1⟩:=rn_3 h1 b1
  obtain ⟨fu2,y2,h2,b2⟩:=rdN_field bulk_ Tryz.underlying98 h hN 2 3 2 1 (by kernel_rfl)
  obtain ⟨a2,r2,q2⟩:=rn_3 h2 b2
  obtain ⟨fu3,y3,h3,b3⟩:=rdN_field bulk_ Tryz.underlying98 h hN 3 3 3 1 (by kernel_rfl)
  obtain ⟨a3,r3,q3⟩:=rn_3 h3 b3
  exact ⟨⟨a0,a1,a2,a3⟩,⟨r0,r1,r2,r3⟩,(RFl_cons (o:=0) (n:=1) q0 rfl (RFl_cons (o:=1) (n:=1) q1 rfl (RFl_cons (o:=2) (n:=1) q2 rfl (RFl_cons (o:=3) (n:=1) q3 rfl (RFl_nil (by simp [hl]))))))⟩
theorem rn_22 : RdN @Rows.uptoBulk 1048576 Tryz.prog 22 (cS c_Rect) (RLN 1048576 RN_Rect):=rdN_slice bulk_ Tryz.underlying22 rn_98 (fun _=>by kernel_rfl) (by decide +kernel)
theorem rn_24 : RdN @Rows.uptoBulk 1048576 Tryz.prog 24 c_Sheet RN_Sheet:=by
  intro H enc W sp fuel cs x h hN
  have hl:=(rd_fields Tryz.underlying24 h).1.trans (by kernel_rfl : Tryz.prog.cellsOf 24=8)
  obtain ⟨fu0,y0,h0,b0⟩:=rdN_field bulk_ Tryz.underlying24 h hN 0 9 0 1 (by kernel_rfl)
  obtain ⟨a0,r0,q0⟩:=rn_9 h0 b0
  obtain ⟨fu1,y1,h1,b1⟩:=rdN_field bulk_ Tryz.underlying24 h hN 1 9 1 1 (by kernel_rfl)
  obtain ⟨a1,r1,q1⟩:=rn_9 h1 b1
  obtain ⟨fu2,y2,h2,b2⟩:=rdN_field bulk_ Tryz.underlying24 h hN 2 3 2 1 (by kernel_rfl)
  obtain ⟨a2,r2,q2⟩:=rn_3 h2 b2
  obtain ⟨fu3,y3,h3,b3⟩:=rdN_field bulk_ Tryz.underlying24 h hN 3 3 3 1 (by kernel_rfl)
  obtain ⟨a3,r3,q3⟩:=rn_3 h3 b3
  obtain ⟨fu4,y4,h4,b4⟩:=rdN_field bulk_ Tryz.underlying24 h hN 4 3 4 1 (by kernel_rfl)
  obtain ⟨a4,r4,q4⟩:=rn_3 h4 b4
  obtain ⟨fu5,y5,h5,b5⟩:=rdN_field bulk_ Tryz.underlying24 h hN 5 3 5 1 (by kernel_rfl)
  obtain ⟨a5,r5,q5⟩:=rn_3 h5 b5
  obtain ⟨fu6,y6,h6,b6⟩:=rdN_field bulk_ Tryz.underlying24 h hN 6 22 6 1 (by kernel_rfl)
  obtain ⟨a6,r6,q6⟩:=rn_22 h6 b6
  obtain ⟨fu7,y7,h7,b7⟩:=rdN_field bulk_ Tryz.underlying24 h hN 7 22 7 1 (by kernel_rfl)
  obtain ⟨a7,r7,q7⟩:=rn_22 h7 b7
  exact ⟨⟨a0,a1,a2,a3,a4,a5,a6,a7⟩,⟨r0,r1,r2,r3,r4,r5,r6,r7⟩,(RFl_cons (o:=0) (n:=1) q0 rfl (RFl_cons (o:=1) (n:=1) q1 rfl (RFl_cons (o:=2) (n:=1) q2 rfl (RFl_cons (o:=3) (n:=1) q3 rfl (RFl_cons (o:=4) (n:=1) q4 rfl (RFl_cons (o:=5) (n:=1) q5 rfl (RFl_cons (o:=6) (n:=1) q6 rfl (RFl_cons (o:=7) (n:=1) q7 rfl (RFl_nil (by simp [hl]))))))))))⟩
theorem rn_78 : RdN @Rows.uptoBulk 1048576 Tryz.prog 78 c_Piece RN_Piece:=by
  intro H enc W sp fuel cs x h hN
  have hl:=(rd_fields Tryz.underlying78 h).1.trans (by kernel_rfl : Tryz.prog.cellsOf 78=7)
  obtain ⟨fu0,y0,h0,b0⟩:=rdN_field bulk_ Tryz.underlying78 h hN 0 9 0 1 (by kernel_rfl)
  obtain ⟨a0,r0,q0⟩:=rn_9 h0 b0
  obtain ⟨fu1,y1,h1,b1⟩:=rdN_field bulk_ Tryz.underlying78 h hN 1 9 1 1 (by kernel_rfl)
  obtain ⟨a1,r1,q1⟩:=rn_9 h1 b1
  obtain ⟨fu2,y2,h2,b2⟩:=rdN_field bulk_ Tryz.underlying78 h hN 2 3 2 1 (by kernel_rfl)
  obtain ⟨a2,r2,q2⟩:=rn_3 h2 b2
  obtain ⟨fu3,y3,h3,b3⟩:=rdN_field bulk_ Tryz.underlying78 h hN 3 3 3 1 (by kernel_rfl)
  obtain ⟨a3,r3,q3⟩:=rn_3 h3 b3
  obtain ⟨fu4,y4,h4,b4⟩:=rdN_field bulk_ Tryz.underlying78 h hN 4 22 4 1 (by kernel_rfl)
  obtain ⟨a4,r4,q4⟩:=rn_22 h4 b4
  obtain ⟨fu5,y5,h5,b5⟩:=rdN_field bulk_ Tryz.underlying78 h hN 5 22 5 1 (by kernel_rfl)
  obtain ⟨a5,r5,q5⟩:=rn_22 h5 b5
  obtain ⟨fu6,y6,h6,b6⟩:=rdN_field bulk_ Tryz.underlying78 h hN 6 22 6 1 (by kernel_rfl)
  obtain ⟨a6,r6,q6⟩:=rn_22 h6 b6
  exact ⟨⟨a0,a1,a2,a3,a4,a5,a6⟩,⟨r0,r1,r2,r3,r4,r5,r6⟩,(RFl_cons (o:=0) (n:=1) q0 rfl (RFl_cons (o:=1) (n:=1) q1 rfl (RFl_cons (o:=2) (n:=1) q2 rfl (RFl_cons (o:=3) (n:=1) q3 rfl (RFl_cons (o:=4) (n:=1) q4 rfl (RFl_cons (o:=5) (n:=1) q5 rfl (RFl_cons (o:=6) (n:=1) q6 rfl (RFl_nil (by simp [hl])))))))))⟩
theorem rn_25 : RdN @Rows.uptoBulk 1048576 Tryz.prog 25 (cS c_Piece) (RLN 1048576 RN_Piece):=rdN_slice bulk_ Tryz.underlying25 rn_78 (fun _=>by kernel_rfl) (by decide +kernel)
theorem rn_27 : RdN @Rows.uptoBulk 1048576 Tryz.prog 27 c_LayoutT RN_LayoutT:=by
  intro H enc W sp fuel cs x h hN
  have hl:=(rd_fields Tryz.underlying27 h).1.trans (by kernel_rfl : Tryz.prog.cellsOf 27=9)
  obtain ⟨fu0,y0,h0,b0⟩:=rdN_field bulk_ Tryz.underlying27 h hN 0 24 0 8 (by kernel_rfl)
  obtain ⟨a0,r0,q0⟩:=rn_24 h0 b0
  obtain ⟨fu1,y1,h1,b1⟩:=rdN_field bulk_ Tryz.underlying27 h hN 1 25 8 1 (by kernel_rfl)
  obtain ⟨a1,r1,q1⟩:=rn_25 h1 b1
  exact ⟨⟨a0,a1⟩,⟨r0,r1⟩,(RFl_cons (o:=0) (n:=8) q0 rfl (RFl_cons (o:=8) (n:=1) q1 rfl (RFl_nil (by simp [hl]))))⟩
theorem cutEdges_lifted (os : Os) (started : os.Started) (H : Type) (enc : TypeId×Value→H) (F : Stop.Interp) :
    ReturnsInHanded {} Tryz.checked os 4 .any ((Rows.OpenSpec.upto Rows.cutEdgesSpec).pre6 enc Tryz.prog Tryz.f4 Rows.cutEdgesUptoRow.domain false) (((Rows.OpenSpec.upto Rows.cutEdgesSpec).at F).post enc Tryz.prog Tryz.f4 false true false false):=by
  refine cond_shaped (C:=Tryz.checked) (s:=(Rows.OpenSpec.upto Rows.cutEdgesSpec)) (k:=Rows.uptoSmall) rfl own_ started (by kernel_rfl) Tryz.func4
    (OpenSpec.witness (enc:=enc) (C:=Tryz.checked) (s:=(Rows.OpenSpec.upto Rows.cutEdgesSpec)) (k:=Rows.uptoSmall) rfl false ⟨#[],#[.agg #[.string ByteArray.empty,.string ByteArray.empty,.int .i64 0,.int .i64 0,.int .i64 0,.int .i64 0,.slice none 0 0,.slice none 0 0,.slice none 0 0]],[]⟩ 8 (by kernel_rfl) (by kernel_rfl) (by kernel_rfl)
      (x:=([.agg [.agg [.lit (.string []),.lit (.string []),.lit (.int .i64 0),.lit (.int .i64 0),.lit (.int .i64 0),.lit (.int .i64 0),.nil,.nil],.nil]],[],[])) (by kernel_rfl) rfl (by kernel_rfl)) ?_
  intro Wd base args ds gs before hval hW hk hsh
  obtain ⟨p,q,hA,hV,rfl,hfz,hnd⟩:=id hW
  rw [Tryz.params4] at hA hval
  obtain ⟨v0,d0,rfl,rfl,h0⟩:=trodAll_one hA
  obtain ⟨rfl,rfl⟩:=trodVars_none hV
  obtain ⟨a0,r0,q0⟩:=argN_agg Tryz.underlying27 rn_27 (hval 0 27 v0 rfl rfl) h0 (bulk_arg hk (by simp))
  refine (law_calls (vals:=[v0]) (gl_ hsh) (W.sheetmetallaw07_CutEdges_ok (law_CutEdges a0 r0)) rfl ?_).mono fun e W' he=>?_
  · intro i pv hi
    match i,hi with
    | 0,hi=>obtain rfl:=Option.some.inj hi; exact q0
    | n+1,hi=>simp at hi
  · obtain ⟨rfl,hb⟩:=he
    exact ⟨_,rfl,law_post laidOut_ hW rfl hb (by kernel_rfl) (by kernel_rfl) Tryz.underlying4 rfl rfl rfl⟩
end Go.Proofs.YtgfjbgoehhnaeaaGreat
