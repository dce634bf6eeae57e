/- Each Go function does what its model says; written by a program out of the translation. -/
import Derived.Test.YtgfjbgoehhnaeaaGreatWV1
import Derived.Test.YtgfjbgoehhnaeaaGreatCzMV
set_option linter.unusedVariables false
set_option linter.unusedSimpArgs false
set_option linter.unusedSectionVars false
namespace Go.Proofs.YtgfjbgoehhnaeaaGreat
open Go Go.VI Go.SM Go.Proofs
set_option maxRecDepth 100000
set_option maxHeartbeats 4000000
theorem W.geom_Inside_k_ok {a : Rect} {b : Rect} {r : Bool} (h : geom_Inside_k a b = some r) : PC G.P 42 [(.agg (c_Rect a)),(.agg (c_Rect b))] [] (vB r) []:=by
 refine zU G Tryz.func42 (zK ⟨[(0,.agg (c_Rect a)),(1,.agg (c_Rect b))],[]⟩ (z3 3 ⟨[(2,.ptr 2 0),(3,.ptr 3 0)],[(2,.box (c_Rect a)),(3,.box (c_Rect b))]⟩ ?_))
 refine zB ?_
 obtain ⟨j3,hj3,h⟩:=bindS h
 refine zT ⟨[(4,vB j3)],[]⟩ ?_ fun τ hτ=>?_
 replace h:=hj3
 refine zA 1 ?_
 obtain ⟨r4,hr4,h⟩:=bindS h
 refine evs_callP [] (by kernel_rfl) (W.geom_ValidRect_k_ok hr4) (by kernel_rfl) (.inl rfl) (by kernel_rfl) (zA 1 (zS r4 (fun b0=>⟨[(2,.ptr 2 0),(3,.ptr 3 0),(7,vB b0)],[(2,.box (c_Rect a)),(3,.box (c_Rect b))]⟩) (fun hb=>?_) fun hb=>?_))
 replace h:=iteT hb h
 refine zA 1 ?_
 obtain ⟨r5,hr5,h⟩:=bindS h
 refine evs_callP [] (by kernel_rfl) (W.geom_ValidRect_k_ok hr5) (by kernel_rfl) (.inl rfl) (by kernel_rfl) (zA 2 (zS r5 (fun b0=>⟨[(2,.ptr 2 0),(3,.ptr 3 0),(11,vB b0)],[(2,.box (c_Rect a)),(3,.box (c_Rect b))]⟩) (fun hb=>?_) fun hb=>?_))
 replace h:=iteT hb h
 refine zA 7 (zS (decide (b.X ≤ a.X)) (fun b0=>⟨[(2,.ptr 2 0),(3,.ptr 3 0),(18,vB b0)],[(2,.box (c_Rect a)),(3,.box (c_Rect b))]⟩) (fun hb=>?_) fun hb=>?_)
 replace h:=iteT hb h
 refine zA 13 (zS (decide ((iadd a.X a.W) ≤ (iadd b.X b.W))) (fun b0=>⟨[(2,.ptr 2 0),(3,.ptr 3 0),(31,vB b0)],[(2,.box (c_Rect a)),(3,.box (c_Rect b))]⟩) (fun hb=>?_) fun hb=>?_)
 replace h:=iteT hb h
 refine zA 7 (zS (decide (b.Y ≤ a.Y)) (fun b0=>⟨[(2,.ptr 2 0),(3,.ptr 3 0),(38,vB b0)],[(2,.box (c_Rect a)),(3,.box (c_Rect b))]⟩) (fun hb=>?_) fun hb=>?_)
 replace h:=iteT hb h
 refine z6 13 fun τ hτ=>?_
 obtain rfl:=osi h
 exact zG hτ
 replace h:=iteF hb h
 refine z6 13 fun τ hτ=>?_
 obtain rfl:=osi h
 exact zG hτ
 replace h:=iteF hb h
 refine z6 20 fun τ hτ=>?_
 obtain rfl:=osi h
 exact zG hτ
 replace h:=iteF hb h
 refine z6 33 fun τ hτ=>?_
 obtain rfl:=osi h
 exact zG hτ
 replace h:=iteF hb h
 exact nomatch h
 replace h:=iteF hb h
 exact nomatch h
 refine zE hτ ⟨[(4,vB j3)],[]⟩ (zN fun τ hτ=>?_)
 obtain rfl:=osi h
 exact zV hτ [(4,vB j3)]
theorem W.geom_Overlap_k_ok {a : Rect} {b : Rect} {r : Bool} (h : geom_Overlap_k a b = some r) : PC G.P 94 [(.agg (c_Rect a)),(.agg (c_Rect b))] [] (vB r) []:=by
 refine zU G Tryz.func94 (zK ⟨[(0,.agg (c_Rect a)),(1,.agg (c_Rect b))],[]⟩ (z3 3 ⟨[(2,.ptr 2 0),(3,.ptr 3 0)],[(2,.box (c_Rect a)),(3,.box (c_Rect b))]⟩ ?_))
 refine z7 (zA 1 ?_)
 obtain ⟨r3,hr3,h⟩:=bindS h
 refine evs_callP [] (by kernel_rfl) (W.geom_ValidRect_k_ok hr3) (by kernel_rfl) (.inl rfl) (by kernel_rfl) (zA 1 (zS r3 (fun b0=>⟨[(2,.ptr 2 0),(3,.ptr 3 0),(7,vB b0)],[(2,.box (c_Rect a)),(3,.box (c_Rect b))]⟩) (fun hb=>?_) fun hb=>?_))
 replace h:=iteT hb h
 refine zA 1 ?_
 obtain ⟨r4,hr4,h⟩:=bindS h
 refine evs_callP [] (by kernel_rfl) (W.geom_ValidRect_k_ok hr4) (by kernel_rfl) (.inl rfl) (by kernel_rfl) (zA 2 (zS r4 (fun b0=>⟨[(2,.ptr 2 0),(3,.ptr 3 0),(11,vB b0)],[(2,.box (c_Rect a)),(3,.box (c_Rect b))]⟩) (fun hb=>?_) fun hb=>?_))
 replace h:=iteT hb h
 refine zA 10 (zS (decide (a.X < (iadd b.X b.W))) (fun b0=>⟨[(2,.ptr 2 0),(3,.ptr 3 0),(21,vB b0)],[(2,.box (c_Rect a)),(3,.box (c_Rect b))]⟩) (fun hb=>?_) fun hb=>?_)
 replace h:=iteT hb h
 exact nomatch h
 replace h:=iteF hb h
 refine z1 30 ⟨[(4,vB false)],[]⟩ (zN fun τ hτ=>?_)
 obtain rfl:=osi h
 exact zV hτ [(4,vB false)]
 replace h:=iteF hb h
 exact nomatch h
 replace h:=iteF hb h
 exact nomatch h
theorem W.cut_meets_1_k_ok {x0 : Rect} {a_0 : Int} {a_1 : Int} {a_2 : Int} {a_3 : Int} {r : Bool} (h : cut_meets_1_k x0 a_0 a_1 a_2 a_3 = some r) : PC G.P 93 [(.agg (c_Rect x0)),(.vptr [(vI a_0),(vI a_1),(vI a_2),(vI a_3)] 0)] [] (vB r) []:=by
 refine zU G Tryz.func93 (zK ⟨[(0,.agg (c_Rect x0)),(1,.vptr [(vI a_0),(vI a_1),(vI a_2),(vI a_3)] 0)],[]⟩ (z3 2 ⟨[(1,.vptr [(vI a_0),(vI a_1),(vI a_2),(vI a_3)] 0),(2,.ptr 2 0)],[(2,.box (c_Rect x0))]⟩ ?_))
 refine z7 (zA 2 ?_)
 obtain ⟨r2,hr2,h⟩:=bindS h
 refine evs_callP [] (by kernel_rfl) (W.geom_Overlap_k_ok hr2) (by kernel_rfl) (.inl rfl) (by kernel_rfl) (z1 1 ⟨[(3,vB r2)],[]⟩ (zN fun τ hτ=>?_))
 obtain rfl:=osi h
 exact zV hτ [(3,vB r2)]
theorem W.slices_IndexFunc_Lapi_Rect_api_Rect__cut_meets_1_k_ok {s0 : (List Rect)} {f_0_0 : Int} {f_0_1 : Int} {f_0_2 : Int} {f_0_3 : Int} {r : Int} (h : slices_IndexFunc_Lapi_Rect_api_Rect__cut_meets_1_k s0 f_0_0 f_0_1 f_0_2 f_0_3 = some r) : PC G.P 147 [(.sl (List.map c_Rect s0)),(.fn 93 [(.vptr [(vI f_0_0),(vI f_0_1),(vI f_0_2),(vI f_0_3)] 0)])] [] (vI r) []:=by
 refine zU G Tryz.func147 (zK ⟨[(0,s_Rect s0),(1,.fn 93 [(.vptr [(vI f_0_0),(vI f_0_1),(vI f_0_2),(vI f_0_3)] 0)])],[]⟩ (z3 1 ⟨[(0,s_Rect s0),(1,.fn 93 [(.vptr [(vI f_0_0),(vI f_0_1),(vI f_0_2),(vI f_0_3)] 0)])],[]⟩ ?_))
 refine zB (z7 (zA 1 ?_))
 refine evs_op (st_len (c:=c_Rect) (l:=s0) (x:=(s_Rect s0)) (by kernel_rfl) (by kernel_rfl)) (z1 1 ⟨[(0,s_Rect s0),(1,.fn 93 [(.vptr [(vI f_0_0),(vI f_0_1),(vI f_0_2),(vI f_0_3)] 0)]),(7,vI (s0.length : Int)),(8,vI 0)],[]⟩ (zC ?_))
 obtain ⟨x54,hx54,h⟩:=bindS h
 refine sem_loopS (fun (s37 : Int)=>⟨[(0,s_Rect s0),(1,.fn 93 [(.vptr [(vI f_0_0),(vI f_0_1),(vI f_0_2),(vI f_0_3)] 0)]),(7,vI (s0.length : Int)),(8,vI s37)],[]⟩) (fun (x54 : Unit)=>(.exit 0,⟨[],[]⟩)) (slices_IndexFunc_Lapi_Rect_api_Rect__cut_meets_1_k_l1 s0 f_0_0 f_0_1 f_0_2 f_0_3) 0 x54 (by kernel_rfl) (here (by kernel_rfl)) (iter_loop hx54) ?_ ?_ ?_
 intro s37 r h
 refine z3 1 ⟨[(0,s_Rect s0),(1,.fn 93 [(.vptr [(vI f_0_0),(vI f_0_1),(vI f_0_2),(vI f_0_3)] 0)]),(7,vI (s0.length : Int)),(8,vI s37),(9,vB (decide (s37 < (s0.length : Int))))],[]⟩ (zB (zI (decide (s37 < (s0.length : Int))) (fun hb=>?_) fun hb=>?_))
 replace h:=iteT hb h
 refine z4 ⟨[(0,s_Rect s0),(1,.fn 93 [(.vptr [(vI f_0_0),(vI f_0_1),(vI f_0_2),(vI f_0_3)] 0)]),(7,vI (s0.length : Int)),(8,vI s37)],[]⟩ (zB (zC ?_))
 refine z3 2 ⟨[(0,s_Rect s0),(1,.fn 93 [(.vptr [(vI f_0_0),(vI f_0_1),(vI f_0_2),(vI f_0_3)] 0)]),(5,vI s37),(7,vI (s0.length : Int)),(8,vI s37)],[]⟩ (z7 (zA 3 ?_))
 obtain ⟨x52,hx52,h⟩:=bindS h
 refine evs_op (st_idx (c:=c_Rect) (l:=s0) (i:=s37) (kd:=.i64) (sz:=4) (by kernel_rfl) hx52 rfl) (zA 1 ?_)
 obtain ⟨r53,hr53,h⟩:=bindS h
 refine evs_callP [] (by kernel_rfl) (W.cut_meets_1_k_ok hr53) (by kernel_rfl) (.inl rfl) (by kernel_rfl) (zP fun τ hτ=>?_)
 refine zE hτ ⟨[(0,s_Rect s0),(1,.fn 93 [(.vptr [(vI f_0_0),(vI f_0_1),(vI f_0_2),(vI f_0_3)] 0)]),(5,vI s37),(7,vI (s0.length : Int)),(8,vI s37),(16,vB r53)],[]⟩ (zI r53 (fun hb=>?_) fun hb=>?_)
 replace h:=iteT hb h
 exact nomatch h
 replace h:=iteF hb h
 refine zM fun τ hτ=>?_
 refine bl_normal (zE hτ ⟨[(0,s_Rect s0),(1,.fn 93 [(.vptr [(vI f_0_0),(vI f_0_1),(vI f_0_2),(vI f_0_3)] 0)]),(7,vI (s0.length : Int)),(8,vI s37)],[]⟩ (zD ?_))
 refine z6 2 fun τ hτ=>?_
 obtain rfl:=osi h
 exact zH hτ
 replace h:=iteF hb h
 refine zL 0 fun τ hτ=>?_
 refine th_exit ?_
 obtain rfl:=osi h
 exact zF hτ
 intro x
 rfl
 intro τ hτ
 refine zQ (zE hτ ⟨[],[]⟩ (z8 1 ⟨[(4,vI (-1))],[]⟩ fun τ hτ=>?_))
 obtain rfl:=osi h
 exact zV hτ [(4,vI (-1))]
theorem W.slices_ContainsFunc_Lapi_Rect_api_Rect__cut_meets_1_k_ok {s0 : (List Rect)} {f_0_0 : Int} {f_0_1 : Int} {f_0_2 : Int} {f_0_3 : Int} {r : Bool} (h : slices_ContainsFunc_Lapi_Rect_api_Rect__cut_meets_1_k s0 f_0_0 f_0_1 f_0_2 f_0_3 = some r) : PC G.P 92 [(.sl (List.map c_Rect s0)),(.fn 93 [(.vptr [(vI f_0_0),(vI f_0_1),(vI f_0_2),(vI f_0_3)] 0)])] [] (vB r) []:=by
 refine zU G Tryz.func92 (zK ⟨[(0,s_Rect s0),(1,.fn 93 [(.vptr [(vI f_0_0),(vI f_0_1),(vI f_0_2),(vI f_0_3)] 0)])],[]⟩ (z3 1 ⟨[(0,s_Rect s0),(1,.fn 93 [(.vptr [(vI f_0_0),(vI f_0_1),(vI f_0_2),(vI f_0_3)] 0)])],[]⟩ ?_))
 refine z7 (zA 2 ?_)
 obtain ⟨r2,hr2,h⟩:=bindS h
 refine evs_callP [] (by kernel_rfl) (W.slices_IndexFunc_Lapi_Rect_api_Rect__cut_meets_1_k_ok hr2) (by kernel_rfl) (.inl rfl) (by kernel_rfl) (z1 2 ⟨[(4,vB (decide (r2 ≥ 0)))],[]⟩ (zN fun τ hτ=>?_))
 obtain rfl:=osi h
 exact zV hτ [(4,vB (decide (r2 ≥ 0)))]
theorem W.cut_meets_k_ok {r0 : Rect} {l : (List Rect)} {r : Bool} (h : cut_meets_k r0 l = some r) : PC G.P 43 [(.agg (c_Rect r0)),(.sl (List.map c_Rect l))] [] (vB r) []:=by
 refine zU G Tryz.func43 (zK ⟨[(0,.agg (c_Rect r0)),(1,s_Rect l)],[]⟩ (z3 2 ⟨[(1,s_Rect l),(2,.ptr 2 0)],[(2,.box (c_Rect r0))]⟩ ?_))
 refine z7 (zA 2 ?_)
 obtain ⟨r2,hr2,h⟩:=bindS h
 refine evs_callP [2] (by kernel_rfl) (W.slices_ContainsFunc_Lapi_Rect_api_Rect__cut_meets_1_k_ok hr2) (by kernel_rfl) (.inr rfl) (by kernel_rfl) (z1 1 ⟨[(4,vB r2)],[]⟩ (zN fun τ hτ=>?_))
 obtain rfl:=osi h
 exact zV hτ [(4,vB r2)]
theorem W.cut_Validate_k_ok {l : LayoutT} {r : Int} (h : cut_Validate_k l = some r) : PC G.P 11 [(.agg (c_LayoutT l))] [] (vI r) []:=by
 refine zU G Tryz.func11 (zK ⟨[(0,.agg (c_LayoutT l))],[]⟩ (z3 2 ⟨[(1,.ptr 1 0)],[(1,.box (c_LayoutT l))]⟩ ?_))
 refine zB (z7 (zA 2 ?_))
 obtain ⟨r4,hr4,h⟩:=bindS h
 refine evs_callP [] (by kernel_rfl) (W.nest_ValidateSheet_k_ok hr4) (by kernel_rfl) (.inl rfl) (by kernel_rfl) (z1 1 ⟨[(1,.ptr 1 0),(3,vI r4)],[(1,.box (c_LayoutT l))]⟩ (z3 2 ⟨[(1,.ptr 1 0),(3,vI r4),(22,vB (r4 != 0))],[(1,.box (c_LayoutT l))]⟩ ?_))
 refine zI (r4 != 0) (fun hb=>?_) fun hb=>?_
 replace h:=iteT hb h
 exact nomatch h
 replace h:=iteF hb h
 refine z4 ⟨[(1,.ptr 1 0)],[(1,.box (c_LayoutT l))]⟩ (zB (z7 ?_))
 refine zA 2 (evs_op (st_len (c:=c_Piece) (l:=l.Pieces) (x:=(s_Piece l.Pieces)) (by kernel_rfl) (by kernel_rfl)) (z1 1 ⟨[(1,.ptr 1 0),(27,vB (decide ((l.Pieces.length : Int) > 8)))],[(1,.box (c_LayoutT l))]⟩ ?_))
 refine zI (decide ((l.Pieces.length : Int) > 8)) (fun hb=>?_) fun hb=>?_
 replace h:=iteT hb h
 exact nomatch h
 replace h:=iteF hb h
 refine z4 ⟨[(1,.ptr 1 0)],[(1,.box (c_LayoutT l))]⟩ (zB (z7 ?_))
 refine zA 2 (evs_op (st_len (c:=c_Piece) (l:=l.Pieces) (x:=(s_Piece l.Pieces)) (by kernel_rfl) (by kernel_rfl)) (z1 1 ⟨[(1,.ptr 1 0),(29,s_Piece l.Pieces),(30,vI (l.Pieces.length : Int)),(31,vI 0)],[(1,.box (c_LayoutT l))]⟩ ?_))
 refine zC ?_
 obtain ⟨x58,hx58,h⟩:=bindS h
 refine sem_loopS (fun (s41 : Int)=>⟨[(1,.ptr 500000 0),(29,s_Piece l.Pieces),(30,vI (l.Pieces.length : Int)),(31,vI s41)],[(500000,.box (c_LayoutT l))]⟩) (fun (x58 : Unit)=>(.exit 0,⟨[(1,.ptr 500000 0)],[(500000,.box (c_LayoutT l))]⟩)) (cut_Validate_k_l1 l) 0 x58 (by kernel_rfl) (subR_prep [] [(1,500000)] (by kernel_rfl) rfl rfl (by kernel_rfl)) (iter_loop hx58) ?_ ?_ ?_
 intro s41 r h
 refine z3 1 ⟨[(1,.ptr 500000 0),(29,s_Piece l.Pieces),(30,vI (l.Pieces.length : Int)),(31,vI s41),(32,vB (decide (s41 < (l.Pieces.length : Int))))],[(500000,.box (c_LayoutT l))]⟩ (zB (zI (decide (s41 < (l.Pieces.length : Int))) (fun hb=>?_) fun hb=>?_))
 replace h:=iteT hb h
 refine z4 ⟨[(1,.ptr 500000 0),(29,s_Piece l.Pieces),(30,vI (l.Pieces.length : Int)),(31,vI s41)],[(500000,.box (c_LayoutT l))]⟩ (zB (zC ?_))
 refine z7 ?_
 obtain ⟨x55,hx55,h⟩:=bindS h
 refine evs_op (st_idx (c:=c_Piece) (l:=l.Pieces) (i:=s41) (kd:=.i64) (sz:=7) (by kernel_rfl) hx55 rfl) (z1 3 ⟨[(1,.ptr 500000 0),(5,.ptr 5 0),(29,s_Piece l.Pieces),(30,vI (l.Pieces.length : Int)),(31,vI s41)],[(5,.box (c_Piece x55)),(500000,.box (c_LayoutT l))]⟩ (z7 ?_))
 refine zA 1 ?_
 obtain ⟨r57,hr57,h⟩:=bindS h
 refine evs_callP [] (by kernel_rfl) (W.cut_pieceError_k_ok hr57) (by kernel_rfl) (.inl rfl) (by kernel_rfl) (z1 1 ⟨[(1,.ptr 500000 0),(6,vI r57),(29,s_Piece l.Pieces),(30,vI (l.Pieces.length : Int)),(31,vI s41)],[(500000,.box (c_LayoutT l))]⟩ (z3 2 ⟨[(1,.ptr 500000 0),(6,vI r57),(29,s_Piece l.Pieces),(30,vI (l.Pieces.length : Int)),(31,vI s41),(38,vB (r57 != 0))],[(500000,.box (c_LayoutT l))]⟩ ?_))
 refine zI (r57 != 0) (fun hb=>?_) fun hb=>?_
 replace h:=iteT hb h
 exact nomatch h
 replace h:=iteF hb h
 refine zM fun τ hτ=>?_
 refine bl_normal (zE hτ ⟨[(1,.ptr 500000 0),(29,s_Piece l.Pieces),(30,vI (l.Pieces.length : Int)),(31,vI s41)],[(500000,.box (c_LayoutT l))]⟩ (zD ?_))
 refine z6 2 fun τ hτ=>?_
 obtain rfl:=osi h
 exact zH hτ
 replace h:=iteF hb h
 refine zL 0 fun τ hτ=>?_
 refine th_exit ?_
 obtain rfl:=osi h
 exact zF hτ
 intro x
 rfl
 intro τ hτ
 refine zQ (zE hτ ⟨[(1,.ptr 500000 0)],[(500000,.box (c_LayoutT l))]⟩ (z3 9 ⟨[(1,.ptr 500000 0),(7,.ptr 7 0)],[(7,.box [(vI 0),(vI 0),(vI l.Sheet.Width),(vI l.Sheet.Height)]),(500000,.box (c_LayoutT l))]⟩ ?_))
 refine zB (z7 (zA 2 ?_))
 refine evs_op (st_len (c:=c_Piece) (l:=l.Pieces) (x:=(s_Piece l.Pieces)) (by kernel_rfl) (by kernel_rfl)) (z1 1 ⟨[(1,.ptr 500000 0),(7,.ptr 7 0),(49,s_Piece l.Pieces),(50,vI (l.Pieces.length : Int)),(51,vI 0)],[(7,.box [(vI 0),(vI 0),(vI l.Sheet.Width),(vI l.Sheet.Height)]),(500000,.box (c_LayoutT l))]⟩ (zC ?_))
 obtain ⟨x700,hx700,h⟩:=bindS h
 refine sem_loopS (fun (s487 : Int)=>⟨[(1,.ptr 500000 0),(7,.ptr 500001 0),(49,s_Piece l.Pieces),(50,vI (l.Pieces.length : Int)),(51,vI s487)],[(500000,.box (c_LayoutT l)),(500001,.box [(vI 0),(vI 0),(vI l.Sheet.Width),(vI l.Sheet.Height)])]⟩) (fun (x700 : Unit)=>(.exit 2,⟨[(1,.ptr 500000 0)],[(500000,.box (c_LayoutT l))]⟩)) (cut_Validate_k_l3 l) 0 x700 (by kernel_rfl) (subR_prep [] [(7,500001),(500000,500000)] (by kernel_rfl) rfl rfl (by kernel_rfl)) (iter_loop hx700) ?_ ?_ ?_
 intro s487 r h
 refine z3 1 ⟨[(1,.ptr 500000 0),(7,.ptr 500001 0),(49,s_Piece l.Pieces),(50,vI (l.Pieces.length : Int)),(51,vI s487),(52,vB (decide (s487 < (l.Pieces.length : Int))))],[(500000,.box (c_LayoutT l)),(500001,.box [(vI 0),(vI 0),(vI l.Sheet.Width),(vI l.Sheet.Height)])]⟩ (zB (zI (decide (s487 < (l.Pieces.length : Int))) (fun hb=>?_) fun hb=>?_))
 replace h:=iteT hb h
 refine z4 ⟨[(1,.ptr 500000 0),(7,.ptr 500001 0),(49,s_Piece l.Pieces),(50,vI (l.Pieces.length : Int)),(51,vI s487)],[(500000,.box (c_LayoutT l)),(500001,.box [(vI 0),(vI 0),(vI l.Sheet.Width),(vI l.Sheet.Height)])]⟩ (zB (zC ?_))
 refine z7 ?_
 obtain ⟨x648,hx648,h⟩:=bindS h
 refine evs_op (st_idx (c:=c_Piece) (l:=l.Pieces) (i:=s487) (kd:=.i64) (sz:=7) (by kernel_rfl) hx648 rfl) (z1 3 ⟨[(1,.ptr 500000 0),(7,.ptr 500001 0),(9,.ptr 9 0),(49,s_Piece l.Pieces),(50,vI (l.Pieces.length : Int)),(51,vI s487)],[(9,.box (c_Piece x648)),(500000,.box (c_LayoutT l)),(500001,.box [(vI 0),(vI 0),(vI l.Sheet.Width),(vI l.Sheet.Height)])]⟩ (z7 ?_))
 refine zA 2 (evs_op (st_len (c:=c_Rect) (l:=x648.Rects) (x:=(s_Rect x648.Rects)) (by kernel_rfl) (by kernel_rfl)) (z1 1 ⟨[(1,.ptr 500000 0),(7,.ptr 500001 0),(49,s_Piece l.Pieces),(50,vI (l.Pieces.length : Int)),(51,vI s487),(56,s_Rect x648.Rects),(57,vI (x648.Rects.length : Int)),(58,vI 0)],[(500000,.box (c_LayoutT l)),(500001,.box [(vI 0),(vI 0),(vI l.Sheet.Width),(vI l.Sheet.Height)])]⟩ ?_))
 refine zC ?_
 obtain ⟨x699,hx699,h⟩:=bindS h
 refine sem_loopS (fun (s666 : Int)=>⟨[(1,.ptr 500000 0),(7,.ptr 500001 0),(49,s_Piece l.Pieces),(50,vI (l.Pieces.length : Int)),(51,vI s487),(56,s_Rect x648.Rects),(57,vI (x648.Rects.length : Int)),(58,vI s666)],[(500000,.box (c_LayoutT l)),(500001,.box [(vI 0),(vI 0),(vI l.Sheet.Width),(vI l.Sheet.Height)])]⟩) (fun (x699 : Unit)=>(.exit 4,⟨[(1,.ptr 500000 0),(7,.ptr 500001 0),(49,s_Piece l.Pieces),(50,vI (l.Pieces.length : Int)),(51,vI s487)],[(500000,.box (c_LayoutT l)),(500001,.box [(vI 0),(vI 0),(vI l.Sheet.Width),(vI l.Sheet.Height)])]⟩)) (cut_Validate_k_l2 l x648) 0 x699 (by kernel_rfl) (here (by kernel_rfl)) (iter_loop hx699) ?_ ?_ ?_
 intro s666 r h
 refine z3 1 ⟨[(1,.ptr 500000 0),(7,.ptr 500001 0),(49,s_Piece l.Pieces),(50,vI (l.Pieces.length : Int)),(51,vI s487),(56,s_Rect x648.Rects),(57,vI (x648.Rects.length : Int)),(58,vI s666),(59,vB (decide (s666 < (x648.Rects.length : Int))))],[(500000,.box (c_LayoutT l)),(500001,.box [(vI 0),(vI 0),(vI l.Sheet.Width),(vI l.Sheet.Height)])]⟩ (zB (zI (decide (s666 < (x648.Rects.length : Int))) (fun hb=>?_) fun hb=>?_))
 replace h:=iteT hb h
 refine z4 ⟨[(1,.ptr 500000 0),(7,.ptr 500001 0),(49,s_Piece l.Pieces),(50,vI (l.Pieces.length : Int)),(51,vI s487),(56,s_Rect x648.Rects),(57,vI (x648.Rects.length : Int)),(58,vI s666)],[(500000,.box (c_LayoutT l)),(500001,.box [(vI 0),(vI 0),(vI l.Sheet.Width),(vI l.Sheet.Height)])]⟩ (zB (zC ?_))
 refine z7 ?_
 obtain ⟨x692,hx692,h⟩:=bindS h
 refine evs_op (st_idx (c:=c_Rect) (l:=x648.Rects) (i:=s666) (kd:=.i64) (sz:=4) (by kernel_rfl) hx692 rfl) (z1 3 ⟨[(1,.ptr 500000 0),(7,.ptr 500001 0),(11,.ptr 11 0),(49,s_Piece l.Pieces),(50,vI (l.Pieces.length : Int)),(51,vI s487),(56,s_Rect x648.Rects),(57,vI (x648.Rects.length : Int)),(58,vI s666)],[(11,.box (c_Rect x692)),(500000,.box (c_LayoutT l)),(500001,.box [(vI 0),(vI 0),(vI l.Sheet.Width),(vI l.Sheet.Height)])]⟩ (z7 ?_))
 refine zA 2 ?_
 obtain ⟨r696,hr696,h⟩:=bindS h
 refine evs_callP [] (by kernel_rfl) (W.geom_Inside_k_ok hr696) (by kernel_rfl) (.inl rfl) (by kernel_rfl) (zA 2 (zS r696 (fun b0=>⟨[(1,.ptr 500000 0),(7,.ptr 500001 0),(11,.ptr 11 0),(49,s_Piece l.Pieces),(50,vI (l.Pieces.length : Int)),(51,vI s487),(56,s_Rect x648.Rects),(57,vI (x648.Rects.length : Int)),(58,vI s666),(66,vB (!b0))],[(11,.box (c_Rect x692)),(500000,.box (c_LayoutT l)),(500001,.box [(vI 0),(vI 0),(vI l.Sheet.Width),(vI l.Sheet.Height)])]⟩) (fun hb=>?_) fun hb=>?_))
 replace h:=iteT hb h
 refine zA 4 ?_
 obtain ⟨r697,hr697,h⟩:=bindS h
 refine evs_callP [] (by kernel_rfl) (W.cut_meets_k_ok hr697) (by kernel_rfl) (.inl rfl) (by kernel_rfl) (zA 2 (zS r697 (fun b0=>⟨[(1,.ptr 500000 0),(7,.ptr 500001 0),(11,.ptr 11 0),(49,s_Piece l.Pieces),(50,vI (l.Pieces.length : Int)),(51,vI s487),(56,s_Rect x648.Rects),(57,vI (x648.Rects.length : Int)),(58,vI s666),(73,vB b0)],[(11,.box (c_Rect x692)),(500000,.box (c_LayoutT l)),(500001,.box [(vI 0),(vI 0),(vI l.Sheet.Width),(vI l.Sheet.Height)])]⟩) (fun hb=>?_) fun hb=>?_))
 replace h:=iteT hb h
 exact nomatch h
 replace h:=iteF hb h
 refine zA 4 ?_
 obtain ⟨r698,hr698,h⟩:=bindS h
 refine evs_callP [] (by kernel_rfl) (W.cut_meets_k_ok hr698) (by kernel_rfl) (.inl rfl) (by kernel_rfl) (z1 1 ⟨[(1,.ptr 500000 0),(7,.ptr 500001 0),(49,s_Piece l.Pieces),(50,vI (l.Pieces.length : Int)),(51,vI s487),(56,s_Rect x648.Rects),(57,vI (x648.Rects.length : Int)),(58,vI s666),(79,vB r698)],[(500000,.box (c_LayoutT l)),(500001,.box [(vI 0),(vI 0),(vI l.Sheet.Width),(vI l.Sheet.Height)])]⟩ (zI r698 (fun hb=>?_) fun hb=>?_))
 replace h:=iteT hb h
 exact nomatch h
 replace h:=iteF hb h
 refine zM fun τ hτ=>?_
 refine bl_normal (zE hτ ⟨[(1,.ptr 500000 0),(7,.ptr 500001 0),(49,s_Piece l.Pieces),(50,vI (l.Pieces.length : Int)),(51,vI s487),(56,s_Rect x648.Rects),(57,vI (x648.Rects.length : Int)),(58,vI s666)],[(500000,.box (c_LayoutT l)),(500001,.box [(vI 0),(vI 0),(vI l.Sheet.Width),(vI l.Sheet.Height)])]⟩ (zD ?_))
 refine z6 2 fun τ hτ=>?_
 obtain rfl:=osi h
 exact zH hτ
 replace h:=iteF hb h
 exact nomatch h
 replace h:=iteF hb h
 refine zL 4 fun τ hτ=>?_
 refine th_exit ?_
 obtain rfl:=osi h
 exact zF hτ
 intro x
 rfl
 intro τ hτ
 refine zQ (bl_normal (zE hτ ⟨[(1,.ptr 500000 0),(7,.ptr 500001 0),(49,s_Piece l.Pieces),(50,vI (l.Pieces.length : Int)),(51,vI s487)],[(500000,.box (c_LayoutT l)),(500001,.box [(vI 0),(vI 0),(vI l.Sheet.Width),(vI l.Sheet.Height)])]⟩ ?_))
 refine zD (z6 2 fun τ hτ=>?_)
 obtain rfl:=osi h
 exact zH hτ
 replace h:=iteF hb h
 refine zL 2 fun τ hτ=>?_
 refine th_exit ?_
 obtain rfl:=osi h
 exact zF hτ
 intro x
 rfl
 intro τ hτ
 refine zQ (zE hτ ⟨[(1,.ptr 500000 0)],[(500000,.box (c_LayoutT l))]⟩ (zB ?_))
 refine z7 (zA 2 (evs_op (st_len (c:=c_Piece) (l:=l.Pieces) (x:=(s_Piece l.Pieces)) (by kernel_rfl) (by kernel_rfl)) ?_))
 refine z1 1 ⟨[(1,.ptr 500000 0),(83,s_Piece l.Pieces),(84,vI (l.Pieces.length : Int)),(85,vI 0)],[(500000,.box (c_LayoutT l))]⟩ (zC ?_)
 obtain ⟨x2878,hx2878,h⟩:=bindS h
 refine sem_loopS (fun (s2153 : Int)=>⟨[(1,.ptr 500000 0),(83,s_Piece l.Pieces),(84,vI (l.Pieces.length : Int)),(85,vI s2153)],[(500000,.box (c_LayoutT l))]⟩) (fun (x2878 : Unit)=>(.exit 6,⟨[],[]⟩)) (cut_Validate_k_l6 l) 0 x2878 (by kernel_rfl) (here (by kernel_rfl)) (iter_loop hx2878) ?_ ?_ ?_
 intro s2153 r h
 refine z3 1 ⟨[(1,.ptr 500000 0),(83,s_Piece l.Pieces),(84,vI (l.Pieces.length : Int)),(85,vI s2153),(86,vB (decide (s2153 < (l.Pieces.length : Int))))],[(500000,.box (c_LayoutT l))]⟩ (zB (zI (decide (s2153 < (l.Pieces.length : Int))) (fun hb=>?_) fun hb=>?_))
 replace h:=iteT hb h
 refine z4 ⟨[(1,.ptr 500000 0),(83,s_Piece l.Pieces),(84,vI (l.Pieces.length : Int)),(85,vI s2153)],[(500000,.box (c_LayoutT l))]⟩ (zB (zC ?_))
 refine z7 (zA 1 ?_)
 obtain ⟨x2698,hx2698,h⟩:=bindS h
 refine evs_op (st_idx (c:=c_Piece) (l:=l.Pieces) (i:=s2153) (kd:=.i64) (sz:=7) (by kernel_rfl) hx2698 rfl) (z1 4 ⟨[(1,.ptr 500000 0),(12,vI s2153),(13,.ptr 13 0),(83,s_Piece l.Pieces),(84,vI (l.Pieces.length : Int)),(85,vI s2153)],[(13,.box (c_Piece x2698)),(500000,.box (c_LayoutT l))]⟩ (z7 ?_))
 refine zA 3 ?_
 obtain ⟨l2700,hl2700,h⟩:=bindS h
 refine evs_op (st_slH (c:=c_Piece) (l:=l.Pieces) (sz:=7) (hi:=s2153) (k2:=.i64) (by kernel_rfl) hl2700) (evs_op (st_len (c:=c_Piece) (l:=l2700) (x:=(s_Piece l2700)) (by kernel_rfl) (by kernel_rfl)) (z1 1 ⟨[(1,.ptr 500000 0),(13,.ptr 13 0),(83,s_Piece l.Pieces),(84,vI (l.Pieces.length : Int)),(85,vI s2153),(93,s_Piece l2700),(94,vI (l2700.length : Int)),(95,vI 0)],[(13,.box (c_Piece x2698)),(500000,.box (c_LayoutT l))]⟩ ?_))
 refine zC ?_
 obtain ⟨x2877,hx2877,h⟩:=bindS h
 refine sem_loopS (fun (s2760 : Int)=>⟨[(1,.ptr 500000 0),(13,.ptr 500001 0),(83,s_Piece l.Pieces),(84,vI (l.Pieces.length : Int)),(85,vI s2153),(93,s_Piece l2700),(94,vI (l2700.length : Int)),(95,vI s2760)],[(500000,.box (c_LayoutT l)),(500001,.box (c_Piece x2698))]⟩) (fun (x2877 : Unit)=>(.exit 8,⟨[(1,.ptr 500000 0),(83,s_Piece l.Pieces),(84,vI (l.Pieces.length : Int)),(85,vI s2153)],[(500000,.box (c_LayoutT l))]⟩)) (cut_Validate_k_l5 x2698 l2700) 0 x2877 (by kernel_rfl) (subR_prep [] [(13,500001),(500000,500000)] (by kernel_rfl) rfl rfl (by kernel_rfl)) (iter_loop hx2877) ?_ ?_ ?_
 intro s2760 r h
 refine z3 1 ⟨[(1,.ptr 500000 0),(13,.ptr 500001 0),(83,s_Piece l.Pieces),(84,vI (l.Pieces.length : Int)),(85,vI s2153),(93,s_Piece l2700),(94,vI (l2700.length : Int)),(95,vI s2760),(96,vB (decide (s2760 < (l2700.length : Int))))],[(500000,.box (c_LayoutT l)),(500001,.box (c_Piece x2698))]⟩ (zB (zI (decide (s2760 < (l2700.length : Int))) (fun hb=>?_) fun hb=>?_))
 replace h:=iteT hb h
 refine z4 ⟨[(1,.ptr 500000 0),(13,.ptr 500001 0),(83,s_Piece l.Pieces),(84,vI (l.Pieces.length : Int)),(85,vI s2153),(93,s_Piece l2700),(94,vI (l2700.length : Int)),(95,vI s2760)],[(500000,.box (c_LayoutT l)),(500001,.box (c_Piece x2698))]⟩ (zB (zC ?_))
 refine z7 ?_
 obtain ⟨x2849,hx2849,h⟩:=bindS h
 refine evs_op (st_idx (c:=c_Piece) (l:=l2700) (i:=s2760) (kd:=.i64) (sz:=7) (by kernel_rfl) hx2849 rfl) (z1 3 ⟨[(1,.ptr 500000 0),(13,.ptr 500001 0),(15,.ptr 15 0),(83,s_Piece l.Pieces),(84,vI (l.Pieces.length : Int)),(85,vI s2153),(93,s_Piece l2700),(94,vI (l2700.length : Int)),(95,vI s2760)],[(15,.box (c_Piece x2849)),(500000,.box (c_LayoutT l)),(500001,.box (c_Piece x2698))]⟩ (z7 ?_))
 refine zA 2 (evs_op (st_len (c:=c_Rect) (l:=x2698.Rects) (x:=(s_Rect x2698.Rects)) (by kernel_rfl) (by kernel_rfl)) (z1 1 ⟨[(1,.ptr 500000 0),(13,.ptr 500001 0),(15,.ptr 15 0),(83,s_Piece l.Pieces),(84,vI (l.Pieces.length : Int)),(85,vI s2153),(93,s_Piece l2700),(94,vI (l2700.length : Int)),(95,vI s2760),(100,s_Rect x2698.Rects),(101,vI (x2698.Rects.length : Int)),(102,vI 0)],[(15,.box (c_Piece x2849)),(500000,.box (c_LayoutT l)),(500001,.box (c_Piece x2698))]⟩ ?_))
 refine zC ?_
 obtain ⟨x2876,hx2876,h⟩:=bindS h
 refine sem_loopS (fun (s2859 : Int)=>⟨[(1,.ptr 500000 0),(13,.ptr 500001 0),(15,.ptr 500002 0),(83,s_Piece l.Pieces),(84,vI (l.Pieces.length : Int)),(85,vI s2153),(93,s_Piece l2700),(94,vI (l2700.length : Int)),(95,vI s2760),(100,s_Rect x2698.Rects),(101,vI (x2698.Rects.length : Int)),(102,vI s2859)],[(500000,.box (c_LayoutT l)),(500001,.box (c_Piece x2698)),(500002,.box (c_Piece x2849))]⟩) (fun (x2876 : Unit)=>(.exit 10,⟨[(1,.ptr 500000 0),(13,.ptr 500001 0),(83,s_Piece l.Pieces),(84,vI (l.Pieces.length : Int)),(85,vI s2153),(93,s_Piece l2700),(94,vI (l2700.length : Int)),(95,vI s2760)],[(500000,.box (c_LayoutT l)),(500001,.box (c_Piece x2698))]⟩)) (cut_Validate_k_l4 x2698 x2849) 0 x2876 (by kernel_rfl) (subR_prep [] [(15,500002),(500000,500000),(500001,500001)] (by kernel_rfl) rfl rfl (by kernel_rfl)) (iter_loop hx2876) ?_ ?_ ?_
 intro s2859 r h
 refine z3 1 ⟨[(1,.ptr 500000 0),(13,.ptr 500001 0),(15,.ptr 500002 0),(83,s_Piece l.Pieces),(84,vI (l.Pieces.length : Int)),(85,vI s2153),(93,s_Piece l2700),(94,vI (l2700.length : Int)),(95,vI s2760),(100,s_Rect x2698.Rects),(101,vI (x2698.Rects.length : Int)),(102,vI s2859),(103,vB (decide (s2859 < (x2698.Rects.length : Int))))],[(500000,.box (c_LayoutT l)),(500001,.box (c_Piece x2698)),(500002,.box (c_Piece x2849))]⟩ (zB (zI (decide (s2859 < (x2698.Rects.length : Int))) (fun hb=>?_) fun hb=>?_))
 replace h:=iteT hb h
 refine z4 ⟨[(1,.ptr 500000 0),(13,.ptr 500001 0),(15,.ptr 500002 0),(83,s_Piece l.Pieces),(84,vI (l.Pieces.length : Int)),(85,vI s2153),(93,s_Piece l2700),(94,vI (l2700.length : Int)),(95,vI s2760),(100,s_Rect x2698.Rects),(101,vI (x2698.Rects.length : Int)),(102,vI s2859)],[(500000,.box (c_LayoutT l)),(500001,.box (c_Piece x2698)),(500002,.box (c_Piece x2849))]⟩ (zB (zC ?_))
 refine z7 ?_
 obtain ⟨x2873,hx2873,h⟩:=bindS h
 refine evs_op (st_idx (c:=c_Rect) (l:=x2698.Rects) (i:=s2859) (kd:=.i64) (sz:=4) (by kernel_rfl) hx2873 rfl) (z1 3 ⟨[(1,.ptr 500000 0),(13,.ptr 500001 0),(15,.ptr 500002 0),(17,.ptr 17 0),(83,s_Piece l.Pieces),(84,vI (l.Pieces.length : Int)),(85,vI s2153),(93,s_Piece l2700),(94,vI (l2700.length : Int)),(95,vI s2760),(100,s_Rect x2698.Rects),(101,vI (x2698.Rects.length : Int)),(102,vI s2859)],[(17,.box (c_Rect x2873)),(500000,.box (c_LayoutT l)),(500001,.box (c_Piece x2698)),(500002,.box (c_Piece x2849))]⟩ (z7 ?_))
 refine zA 3 ?_
 obtain ⟨r2875,hr2875,h⟩:=bindS h
 refine evs_callP [] (by kernel_rfl) (W.cut_meets_k_ok hr2875) (by kernel_rfl) (.inl rfl) (by kernel_rfl) (zP fun τ hτ=>?_)
 refine zE hτ ⟨[(1,.ptr 500000 0),(13,.ptr 500001 0),(15,.ptr 500002 0),(83,s_Piece l.Pieces),(84,vI (l.Pieces.length : Int)),(85,vI s2153),(93,s_Piece l2700),(94,vI (l2700.length : Int)),(95,vI s2760),(100,s_Rect x2698.Rects),(101,vI (x2698.Rects.length : Int)),(102,vI s2859),(109,vB r2875)],[(500000,.box (c_LayoutT l)),(500001,.box (c_Piece x2698)),(500002,.box (c_Piece x2849))]⟩ (zI r2875 (fun hb=>?_) fun hb=>?_)
 replace h:=iteT hb h
 exact nomatch h
 replace h:=iteF hb h
 refine zM fun τ hτ=>?_
 refine bl_normal (zE hτ ⟨[(1,.ptr 500000 0),(13,.ptr 500001 0),(15,.ptr 500002 0),(83,s_Piece l.Pieces),(84,vI (l.Pieces.length : Int)),(85,vI s2153),(93,s_Piece l2700),(94,vI (l2700.length : Int)),(95,vI s2760),(100,s_Rect x2698.Rects),(101,vI (x2698.Rects.length : Int)),(102,vI s2859)],[(500000,.box (c_LayoutT l)),(500001,.box (c_Piece x2698)),(500002,.box (c_Piece x2849))]⟩ (zD ?_))
 refine z6 2 fun τ hτ=>?_
 obtain rfl:=osi h
 exact zH hτ
 replace h:=iteF hb h
 refine zL 10 fun τ hτ=>?_
 refine th_exit ?_
 obtain rfl:=osi h
 exact zF hτ
 intro x
 rfl
 intro τ hτ
 refine zQ (bl_normal (zE hτ ⟨[(1,.ptr 500000 0),(13,.ptr 500001 0),(83,s_Piece l.Pieces),(84,vI (l.Pieces.length : Int)),(85,vI s2153),(93,s_Piece l2700),(94,vI (l2700.length : Int)),(95,vI s2760)],[(500000,.box (c_LayoutT l)),(500001,.box (c_Piece x2698))]⟩ ?_))
 refine zD (z6 2 fun τ hτ=>?_)
 obtain rfl:=osi h
 exact zH hτ
 replace h:=iteF hb h
 refine zL 8 fun τ hτ=>?_
 refine th_exit ?_
 obtain rfl:=osi h
 exact zF hτ
 intro x
 rfl
 intro τ hτ
 refine zQ (bl_normal (zE hτ ⟨[(1,.ptr 500000 0),(83,s_Piece l.Pieces),(84,vI (l.Pieces.length : Int)),(85,vI s2153)],[(500000,.box (c_LayoutT l))]⟩ ?_))
 refine zD (z6 2 fun τ hτ=>?_)
 obtain rfl:=osi h
 exact zH hτ
 replace h:=iteF hb h
 refine zL 6 fun τ hτ=>?_
 refine th_exit ?_
 obtain rfl:=osi h
 exact zF hτ
 intro x
 rfl
 intro τ hτ
 refine zQ (zE hτ ⟨[],[]⟩ (z8 1 ⟨[(2,vI 0)],[]⟩ fun τ hτ=>?_))
 obtain rfl:=osi h
 exact zV hτ [(2,vI 0)]
theorem W.bits_Len64_k_ok {x0 : Int} {r : Int} (h : bits_Len64_k x0 = some r) : PC G.P 199 [(vK .u64 x0)] [] (vI r) []:=by
 refine zU G Tryz.func199 (zK ⟨[(0,vK .u64 x0)],[]⟩ (z3 1 ⟨[(0,vK .u64 x0),(2,vI 0)],[]⟩ ?_))
 refine zB (z3 2 ⟨[(0,vK .u64 x0),(2,vI 0),(4,vB (decide (x0 ≥ 4294967296)))],[]⟩ (zI (decide (x0 ≥ 4294967296)) (fun hb=>?_) fun hb=>?_))
 replace h:=iteT hb h
 exact nomatch h
 replace h:=iteF hb h
 refine z4 ⟨[(0,vK .u64 x0),(2,vI 0)],[]⟩ (zB (z3 2 ⟨[(0,vK .u64 x0),(2,vI 0),(8,vB (decide (x0 ≥ 65536)))],[]⟩ ?_))
 refine zI (decide (x0 ≥ 65536)) (fun hb=>?_) fun hb=>?_
 replace h:=iteT hb h
 exact nomatch h
 replace h:=iteF hb h
 refine z4 ⟨[(0,vK .u64 x0),(2,vI 0)],[]⟩ (zB (z3 2 ⟨[(0,vK .u64 x0),(2,vI 0),(14,vB (decide (x0 ≥ 256)))],[]⟩ ?_))
 refine zI (decide (x0 ≥ 256)) (fun hb=>?_) fun hb=>?_
 replace h:=iteT hb h
 exact nomatch h
 replace h:=iteF hb h
 refine z4 ⟨[(0,vK .u64 x0),(2,vI 0)],[]⟩ (z7 (zA 3 ?_))
 obtain ⟨x2,hx2,h⟩:=bindS h
 refine evs_at (at_sidx (s:=(ByteArray.mk #[0,1,2,2,3,3,3,3,4,4,4,4,4,4,4,4,5,5,5,5,5,5,5,5,5,5,5,5,5,5,5,5,6,6,6,6,6,6,6,6,6,6,6,6,6,6,6,6,6,6,6,6,6,6,6,6,6,6,6,6,6,6,6,6,7,7,7,7,7,7,7,7,7,7,7,7,7,7,7,7,7,7,7,7,7,7,7,7,7,7,7,7,7,7,7,7,7,7,7,7,7,7,7,7,7,7,7,7,7,7,7,7,7,7,7,7,7,7,7,7,7,7,7,7,7,7,7,7,8,8,8,8,8,8,8,8,8,8,8,8,8,8,8,8,8,8,8,8,8,8,8,8,8,8,8,8,8,8,8,8,8,8,8,8,8,8,8,8,8,8,8,8,8,8,8,8,8,8,8,8,8,8,8,8,8,8,8,8,8,8,8,8,8,8,8,8,8,8,8,8,8,8,8,8,8,8,8,8,8,8,8,8,8,8,8,8,8,8,8,8,8,8,8,8,8,8,8,8,8,8,8,8,8,8,8,8,8,8,8,8,8,8,8,8,8,8,8,8,8,8,8,8,8,8,8,8])) (i:=(IntKind.wrap .u8 x0)) (kd:=.u8) (by kernel_rfl) hx2) (z1 3 ⟨[(2,vI (iadd 0 (IntKind.wrap .i64 x2)))],[]⟩ (zN fun τ hτ=>?_))
 obtain rfl:=osi h
 exact zV hτ [(2,vI (iadd 0 (IntKind.wrap .i64 x2)))]
theorem W.bits_Len_k_ok {x0 : Int} {r : Int} (h : bits_Len_k x0 = some r) : PC G.P 181 [(vK .u64 x0)] [] (vI r) []:=by
 refine zU G Tryz.func181 (zK ⟨[(0,vK .u64 x0)],[]⟩ (z3 1 ⟨[(0,vK .u64 x0)],[]⟩ ?_))
 refine zB (sem_condF (by kernel_rfl) (by kernel_rfl) (z4 ⟨[(0,vK .u64 x0)],[]⟩ ?_))
 refine z7 (zA 1 ?_)
 obtain ⟨r2,hr2,h⟩:=bindS h
 refine evs_callP [] (by kernel_rfl) (W.bits_Len64_k_ok hr2) (by kernel_rfl) (.inl rfl) (by kernel_rfl) (z1 1 ⟨[(2,vI r2)],[]⟩ (zN fun τ hτ=>?_))
 obtain rfl:=osi h
 exact zV hτ [(2,vI r2)]
theorem W.cmp_isNaN_int_k_ok {x0 : Int} {r : Bool} (h : cmp_isNaN_int_k x0 = some r) : PC G.P 165 [(vI x0)] [] (vB r) []:=by
 refine zU G Tryz.func165 (zK ⟨[(0,vI x0)],[]⟩ (z3 1 ⟨[(0,vI x0)],[]⟩ ?_))
 refine z8 4 ⟨[(2,vB (x0 != x0))],[]⟩ fun τ hτ=>?_
 obtain rfl:=osi h
 exact zV hτ [(2,vB (x0 != x0))]
theorem W.cmp_Compare_int_k_ok {x0 : Int} {y : Int} {r : Int} (h : cmp_Compare_int_k x0 y = some r) : PC G.P 129 [(vI x0),(vI y)] [] (vI r) []:=by
 refine zU G Tryz.func129 (zK ⟨[(0,vI x0),(1,vI y)],[]⟩ (z3 1 ⟨[(0,vI x0),(1,vI y)],[]⟩ ?_))
 refine z7 (zA 1 ?_)
 obtain ⟨r2,hr2,h⟩:=bindS h
 refine evs_callP [] (by kernel_rfl) (W.cmp_isNaN_int_k_ok hr2) (by kernel_rfl) (.inl rfl) (by kernel_rfl) (z1 1 ⟨[(0,vI x0),(1,vI y),(5,vB r2)],[]⟩ (z7 ?_))
 refine zA 1 ?_
 obtain ⟨r4,hr4,h⟩:=bindS h
 refine evs_callP [] (by kernel_rfl) (W.cmp_isNaN_int_k_ok hr4) (by kernel_rfl) (.inl rfl) (by kernel_rfl) (z1 1 ⟨[(0,vI x0),(1,vI y),(5,vB r2),(6,vB r4)],[]⟩ (zB ?_))
 refine z3 1 ⟨[(0,vI x0),(1,vI y),(6,vB r4),(11,vB r2)],[]⟩ (zI r2 (fun hb=>?_) fun hb=>?_)
 replace h:=iteT hb h
 exact nomatch h
 replace h:=iteF hb h
 refine z4 ⟨[(0,vI x0),(1,vI y),(6,vB r4)],[]⟩ (zB (z3 1 ⟨[(0,vI x0),(1,vI y),(13,vB r4)],[]⟩ ?_))
 refine zI r4 (fun hb=>?_) fun hb=>?_
 replace h:=iteT hb h
 exact nomatch h
 replace h:=iteF hb h
 refine z4 ⟨[(0,vI x0),(1,vI y)],[]⟩ (zB (z3 3 ⟨[(0,vI x0),(1,vI y),(16,vB (decide (x0 < y)))],[]⟩ ?_))
 refine zI (decide (x0 < y)) (fun hb=>?_) fun hb=>?_
 replace h:=iteT hb h
 refine z8 1 ⟨[(4,vI (-1))],[]⟩ fun τ hτ=>?_
 refine th_ret ?_
 obtain rfl:=osi h
 exact zV hτ [(4,vI (-1))]
 replace h:=iteF hb h
 refine z4 ⟨[(0,vI x0),(1,vI y)],[]⟩ (zB (z3 3 ⟨[(19,vB (decide (x0 > y)))],[]⟩ ?_))
 refine zI (decide (x0 > y)) (fun hb=>?_) fun hb=>?_
 replace h:=iteT hb h
 refine z8 1 ⟨[(4,vI 1)],[]⟩ fun τ hτ=>?_
 refine th_ret ?_
 obtain rfl:=osi h
 exact zV hτ [(4,vI 1)]
 replace h:=iteF hb h
 refine z4 ⟨[],[]⟩ (z8 1 ⟨[(4,vI 0)],[]⟩ fun τ hτ=>?_)
 obtain rfl:=osi h
 exact zV hτ [(4,vI 0)]
theorem W.slices_insertionSortCmpFunc_int__cmp_Compare_int_k_ok {a : Int} {b : Int} {h0 : (List Int)} {r : (List Int)} (h : slices_insertionSortCmpFunc_int__cmp_Compare_int_k a b h0 = some r) : PC G.P 190 [(.row (.top 1000000) 3),(vI a),(vI b),(.fn 129 [])] [(1000000,.row 3 [] (List.map cI h0))] (.tup []) [(1000000,.row 3 [] (List.map cI r))]:=by
 refine zU G Tryz.func190 (zK ⟨[(0,ro 1000000 3),(1,vI a),(2,vI b),(3,.fn 129 [])],[(1000000,wI 3 h0)]⟩ (z3 3 ⟨[(0,ro 1000000 3),(1,vI a),(2,vI b),(3,.fn 129 []),(8,vI (iadd a 1))],[(1000000,wI 3 h0)]⟩ ?_))
 refine zC ?_
 obtain ⟨x777,hx777,h⟩:=bindS h
 refine sem_loopS (fun (s260 : Int × (List Int))=>⟨[(0,ro 1000000 3),(1,vI a),(2,vI b),(3,.fn 129 []),(8,vI s260.1)],[(1000000,wI 3 s260.2)]⟩) (fun (x777 : (List Int))=>(.exit 0,⟨[],[(1000000,wI 3 x777)]⟩)) (slices_insertionSortCmpFunc_int__cmp_Compare_int_k_l2 a b) ((iadd a 1),h0) x777 (by kernel_rfl) (here (by kernel_rfl)) (iter_loop hx777) ?_ ?_ ?_
 intro s260 r h
 refine zB (z3 3 ⟨[(0,ro 1000000 3),(1,vI a),(2,vI b),(3,.fn 129 []),(8,vI s260.1),(14,vB (decide (s260.1 < b)))],[(1000000,wI 3 s260.2)]⟩ (zI (decide (s260.1 < b)) (fun hb=>?_) fun hb=>?_))
 replace h:=iteT hb h
 refine z4 ⟨[(0,ro 1000000 3),(1,vI a),(2,vI b),(3,.fn 129 []),(8,vI s260.1)],[(1000000,wI 3 s260.2)]⟩ (zB (zC ?_))
 refine z3 2 ⟨[(0,ro 1000000 3),(1,vI a),(2,vI b),(3,.fn 129 []),(8,vI s260.1),(9,vI s260.1)],[(1000000,wI 3 s260.2)]⟩ (zC ?_)
 obtain ⟨x776,hx776,h⟩:=bindS h
 refine sem_loopS (fun (s691 : Int × (List Int))=>⟨[(0,ro 1000000 3),(1,vI a),(2,vI b),(3,.fn 129 []),(8,vI s260.1),(9,vI s691.1)],[(1000000,wI 3 s691.2)]⟩) (fun (x776 : (List Int))=>(.exit 2,⟨[(0,ro 1000000 3),(1,vI a),(2,vI b),(3,.fn 129 []),(8,vI s260.1)],[(1000000,wI 3 x776)]⟩)) (slices_insertionSortCmpFunc_int__cmp_Compare_int_k_l1 a) (s260.1,s260.2) x776 (by kernel_rfl) (here (by kernel_rfl)) (iter_loop hx776) ?_ ?_ ?_
 intro s691 r h
 refine zB (zB (sem_drawN [] [] [] [] [] 14 (by kernel_rfl) (by kernel_rfl) (by kernel_rfl) ?_))
 refine evd_run 4 (by kernel_rfl) (evd_split (decide (s691.1 > a)) (fun b0=>⟨[(21,vB b0),(20,vB b0),(19,vI a),(18,vI s691.1),(0,ro 1000000 3),(1,vI a),(2,vI b),(3,.fn 129 []),(8,vI s260.1),(9,vI s691.1)],[(1000000,wI 3 s691.2)]⟩) (by kernel_rfl) (fun hb=>?_) fun hb=>?_)
 replace h:=iteT hb h
 refine evd_run 3 (by kernel_rfl) ?_
 obtain ⟨x749,hx749,h⟩:=bindS h
 refine evd_val (by kernel_rfl) (st_idxO (c:=cI) (l:=s691.2) (i:=s691.1) (kd:=.i64) (kk:=(.top 1000000)) (e:=3) (sz:=1) (by kernel_rfl) (by kernel_rfl) hx749 rfl) (by kernel_rfl) (by kernel_rfl) (evd_val (by kernel_rfl) (st_ldO (c:=cI) (l:=s691.2) (i:=(Int.toNat s691.1)) (v:=(vI x749)) (agg:=false) (sz:=1) (kk:=(.top 1000000)) (e:=3) (off:=0) (J:=[]) (by kernel_rfl) (by kernel_rfl) (by kernel_rfl) ((idxS hx749).2) (by kernel_rfl)) (by kernel_rfl) (by kernel_rfl) (evd_run 3 (by kernel_rfl) ?_))
 obtain ⟨x750,hx750,h⟩:=bindS h
 refine evd_val (by kernel_rfl) (st_idxO (c:=cI) (l:=s691.2) (i:=(isub s691.1 1)) (kd:=.i64) (kk:=(.top 1000000)) (e:=3) (sz:=1) (by kernel_rfl) (by kernel_rfl) hx750 rfl) (by kernel_rfl) (by kernel_rfl) (evd_val (by kernel_rfl) (st_ldO (c:=cI) (l:=s691.2) (i:=(Int.toNat (isub s691.1 1))) (v:=(vI x750)) (agg:=false) (sz:=1) (kk:=(.top 1000000)) (e:=3) (off:=0) (J:=[]) (by kernel_rfl) (by kernel_rfl) (by kernel_rfl) ((idxS hx750).2) (by kernel_rfl)) (by kernel_rfl) (by kernel_rfl) (evd_end (by kernel_rfl) ?_))
 obtain ⟨r751,hr751,h⟩:=bindS h
 refine evo_callP [] (by kernel_rfl) (W.cmp_Compare_int_k_ok hr751) (by kernel_rfl) (.inl rfl) (by kernel_rfl) (evo_run 2 (by kernel_rfl) (zO fun τ hτ=>?_))
 refine zE hτ ⟨[(0,ro 1000000 3),(1,vI a),(2,vI b),(3,.fn 129 []),(8,vI s260.1),(9,vI s691.1),(34,vB (decide (r751 < 0)))],[(1000000,wI 3 s691.2)]⟩ (zI (decide (r751 < 0)) (fun hb=>?_) fun hb=>?_)
 replace h:=iteT hb h
 refine z4 ⟨[(0,ro 1000000 3),(1,vI a),(2,vI b),(3,.fn 129 []),(8,vI s260.1),(9,vI s691.1)],[(1000000,wI 3 s691.2)]⟩ (zB (zC ?_))
 refine sem_drawN [(15,[1000000])] [] [] [(2,[1000000]),(3,[1000000]),(4,[1000000])] [] 16 (by kernel_rfl) (by kernel_rfl) (by kernel_rfl) (evd_run 8 (by kernel_rfl) ?_)
 obtain ⟨x772,hx772,h⟩:=bindS h
 refine evd_val (by kernel_rfl) (st_idxO (c:=cI) (l:=s691.2) (i:=(isub s691.1 1)) (kd:=.i64) (kk:=(.top 1000000)) (e:=3) (sz:=1) (by kernel_rfl) (by kernel_rfl) hx772 rfl) (by kernel_rfl) (by kernel_rfl) (evd_val (by kernel_rfl) (st_ldO (c:=cI) (l:=s691.2) (i:=(Int.toNat (isub s691.1 1))) (v:=(vI x772)) (agg:=false) (sz:=1) (kk:=(.top 1000000)) (e:=3) (off:=0) (J:=[]) (by kernel_rfl) (by kernel_rfl) (by kernel_rfl) ((idxS hx772).2) (by kernel_rfl)) (by kernel_rfl) (by kernel_rfl) (evd_run 2 (by kernel_rfl) ?_))
 obtain ⟨x773,hx773,h⟩:=bindS h
 refine evd_val (by kernel_rfl) (st_idxO (c:=cI) (l:=s691.2) (i:=s691.1) (kd:=.i64) (kk:=(.top 1000000)) (e:=3) (sz:=1) (by kernel_rfl) (by kernel_rfl) hx773 rfl) (by kernel_rfl) (by kernel_rfl) (evd_val (by kernel_rfl) (st_ldO (c:=cI) (l:=s691.2) (i:=(Int.toNat s691.1)) (v:=(vI x773)) (agg:=false) (sz:=1) (kk:=(.top 1000000)) (e:=3) (off:=0) (J:=[]) (by kernel_rfl) (by kernel_rfl) (by kernel_rfl) ((idxS hx773).2) (by kernel_rfl)) (by kernel_rfl) (by kernel_rfl) ?_)
 obtain ⟨x774,hx774,h⟩:=bindS h
 refine evd_val (by kernel_rfl) (st_idxO (c:=cI) (l:=s691.2) (i:=s691.1) (kd:=.i64) (kk:=(.top 1000000)) (e:=3) (sz:=1) (by kernel_rfl) (by kernel_rfl) hx774 rfl) (by kernel_rfl) (by kernel_rfl) (evd_set (by kernel_rfl) (st_stO (c:=cI) (l:=s691.2) (i:=(Int.toNat s691.1)) (x:=x774) (x':=x772) (v:=(vI x772)) (agg:=false) (sz:=1) (kk:=(.top 1000000)) (e:=3) (off:=0) (J:=[]) (o:=wI 3 (List.set s691.2 (Int.toNat s691.1) x772)) (by kernel_rfl) (by kernel_rfl) (by kernel_rfl) ((idxS hx774).2) (by kernel_rfl) (by kernel_rfl) (by kernel_rfl)) (by kernel_rfl) (by kernel_rfl) (by kernel_rfl) (evd_end (by kernel_rfl) ?_))
 obtain ⟨x775,hx775,h⟩:=bindS h
 refine evo_op (st_idxO (c:=cI) (l:=(List.set s691.2 (Int.toNat s691.1) x772)) (i:=(isub s691.1 1)) (kd:=.i64) (kk:=(.top 1000000)) (e:=3) (sz:=1) (by kernel_rfl) (by kernel_rfl) hx775 rfl) (evo_op (st_stO (c:=cI) (l:=(List.set s691.2 (Int.toNat s691.1) x772)) (i:=(Int.toNat (isub s691.1 1))) (x:=x775) (x':=x773) (v:=(vI x773)) (agg:=false) (sz:=1) (kk:=(.top 1000000)) (e:=3) (off:=0) (J:=[]) (o:=wI 3 (List.set (List.set s691.2 (Int.toNat s691.1) x772) (Int.toNat (isub s691.1 1)) x773)) (by kernel_rfl) (by kernel_rfl) (by kernel_rfl) ((idxS hx775).2) (by kernel_rfl) (by kernel_rfl) (by kernel_rfl)) (zO fun τ hτ=>?_))
 refine bl_normal (zE hτ ⟨[(0,ro 1000000 3),(1,vI a),(2,vI b),(3,.fn 129 []),(8,vI s260.1),(9,vI s691.1)],[(1000000,wI 3 (List.set (List.set s691.2 (Int.toNat s691.1) x772) (Int.toNat (isub s691.1 1)) x773))]⟩ (zD ?_))
 refine z6 3 fun τ hτ=>?_
 obtain rfl:=osi h
 exact zH hτ
 replace h:=iteF hb h
 refine zL 2 fun τ hτ=>?_
 refine th_exit ?_
 obtain rfl:=osi h
 exact zF hτ
 replace h:=iteF hb h
 exact nomatch h
 intro x
 rfl
 intro τ hτ
 refine zQ (bl_normal (zE hτ ⟨[(0,ro 1000000 3),(1,vI a),(2,vI b),(3,.fn 129 []),(8,vI s260.1)],[(1000000,wI 3 x776)]⟩ ?_))
 refine zD (z6 3 fun τ hτ=>?_)
 obtain rfl:=osi h
 exact zH hτ
 replace h:=iteF hb h
 refine zL 0 fun τ hτ=>?_
 refine th_exit ?_
 obtain rfl:=osi h
 exact zF hτ
 intro x
 rfl
 intro τ hτ
 refine zQ ?_
 obtain rfl:=osi h
 exact rk_normal hτ [] (here (by kernel_rfl)) (by kernel_rfl)
theorem W.slices_pdqsortCmpFunc_int__cmp_Compare_int_k_ok {a : Int} {b : Int} {limit : Int} {h0 : (List Int)} {r : (List Int)} (h : slices_pdqsortCmpFunc_int__cmp_Compare_int_k a b limit h0 = some r) : PC G.P 180 [(.row (.top 1000000) 3),(vI a),(vI b),(vI limit),(.fn 129 [])] [(1000000,.row 3 [] (List.map cI h0))] (.tup []) [(1000000,.row 3 [] (List.map cI r))]:=by
 refine zU G Tryz.func180 (zK ⟨[(0,ro 1000000 3),(1,vI a),(2,vI b),(3,vI limit),(4,.fn 129 [])],[(1000000,wI 3 h0)]⟩ (z3 1 ⟨[(0,ro 1000000 3),(1,vI a),(2,vI b),(3,vI limit),(4,.fn 129 []),(10,vB true)],[(1000000,wI 3 h0)]⟩ ?_))
 refine z3 1 ⟨[(0,ro 1000000 3),(1,vI a),(2,vI b),(3,vI limit),(4,.fn 129 []),(10,vB true),(11,vB true)],[(1000000,wI 3 h0)]⟩ (zC ?_)
 obtain ⟨x10,hx10,h⟩:=bindS h
 refine sem_loopS (fun (s1 : Unit)=>⟨[(0,ro 1000000 3),(1,vI a),(2,vI b),(3,vI limit),(4,.fn 129 []),(10,vB true),(11,vB true)],[(1000000,wI 3 h0)]⟩) (fun (x10 : (List Int))=>(.ret,⟨[],[(1000000,wI 3 x10)]⟩)) (slices_pdqsortCmpFunc_int__cmp_Compare_int_k_l1 a b h0) () x10 (by kernel_rfl) (here (by kernel_rfl)) (iter_loop hx10) ?_ ?_ ?_
 intro s1 r h
 refine zC (z3 4 ⟨[(0,ro 1000000 3),(1,vI a),(2,vI b),(3,vI limit),(4,.fn 129 []),(10,vB true),(11,vB true),(12,vI (isub b a))],[(1000000,wI 3 h0)]⟩ (zB ?_))
 refine z3 2 ⟨[(0,ro 1000000 3),(1,vI a),(2,vI b),(3,vI limit),(4,.fn 129 []),(10,vB true),(11,vB true),(12,vI (isub b a)),(25,vB (decide ((isub b a) ≤ 12)))],[(1000000,wI 3 h0)]⟩ (zI (decide ((isub b a) ≤ 12)) (fun hb=>?_) fun hb=>?_)
 replace h:=iteT hb h
 refine z7 (zA 4 ?_)
 obtain ⟨r9,hr9,h⟩:=bindS h
 refine evs_callS [(1000000,1000000)] [] [] (by kernel_rfl) (W.slices_insertionSortCmpFunc_int__cmp_Compare_int_k_ok hr9) (by kernel_rfl) (by kernel_rfl) (.inl rfl) (zP fun τ hτ=>?_)
 refine zE hτ ⟨[],[(1000000,wI 3 r9)]⟩ (zN fun τ hτ=>?_)
 refine th_ret (bl_ret ?_)
 obtain rfl:=osi h
 exact zF hτ
 replace h:=iteF hb h
 exact nomatch h
 intro x
 rfl
 intro τ hτ
 refine bl_ret ?_
 obtain rfl:=osi h
 exact zV hτ []
theorem W.slices_SortFunc_Lint_int__cmp_Compare_int_k_ok {h0 : (List Int)} {r : (List Int)} (h : slices_SortFunc_Lint_int__cmp_Compare_int_k h0 = some r) : PC G.P 151 [(.row (.top 1000000) 3),(.fn 129 [])] [(1000000,.row 3 [] (List.map cI h0))] (.tup []) [(1000000,.row 3 [] (List.map cI r))]:=by
 refine zU G Tryz.func151 (zK ⟨[(0,ro 1000000 3),(1,.fn 129 [])],[(1000000,wI 3 h0)]⟩ (z7 ?_))
 refine zA 1 (evs_op (st_len (c:=cI) (l:=h0) (x:=(ro 1000000 3)) (by kernel_rfl) (by kernel_rfl)) (z1 1 ⟨[(0,ro 1000000 3),(1,.fn 129 []),(4,vI (h0.length : Int))],[(1000000,wI 3 h0)]⟩ ?_))
 refine zD (zA 4 ?_)
 obtain ⟨r3,hr3,h⟩:=bindS h
 refine evs_callP [] (by kernel_rfl) (W.bits_Len_k_ok hr3) (by kernel_rfl) (.inl rfl) (by kernel_rfl) (zA 1 ?_)
 obtain ⟨r4,hr4,h⟩:=bindS h
 refine evs_callS [(1000000,1000000)] [] [] (by kernel_rfl) (W.slices_pdqsortCmpFunc_int__cmp_Compare_int_k_ok hr4) (by kernel_rfl) (by kernel_rfl) (.inl rfl) (zP fun τ hτ=>?_)
 obtain rfl:=osi h
 exact rk_normal hτ [] (here (by kernel_rfl)) (by kernel_rfl)
theorem W.slices_Compact_Lint_int_k_ok {h0 : (List Int)} {r : (List Int)} (h : slices_Compact_Lint_int_k h0 = some r) : PC G.P 152 [(.row (.top 300000) 3)] [(300000,.row 3 [] (List.map cI h0))] (.row (.top 0) 3) [(0,.row 3 [] (List.map cI r))]:=by
 refine zU G Tryz.func152 (zK ⟨[(0,ro 300000 3)],[(300000,wI 3 h0)]⟩ (z3 1 ⟨[(0,ro 300000 3)],[(300000,wI 3 h0)]⟩ ?_))
 refine zB (z7 (zA 1 ?_))
 refine evs_op (st_len (c:=cI) (l:=h0) (x:=(ro 300000 3)) (by kernel_rfl) (by kernel_rfl)) (z1 1 ⟨[(0,ro 300000 3),(8,vB (decide ((h0.length : Int) < 2)))],[(300000,wI 3 h0)]⟩ (zI (decide ((h0.length : Int) < 2)) (fun hb=>?_) fun hb=>?_))
 replace h:=iteT hb h
 exact nomatch h
 replace h:=iteF hb h
 refine z4 ⟨[(0,ro 300000 3)],[(300000,wI 3 h0)]⟩ (zB (z3 1 ⟨[(0,ro 300000 3),(3,vI 1)],[(300000,wI 3 h0)]⟩ ?_))
 refine zC ?_
 obtain ⟨x1686,hx1686,h⟩:=bindS h
 refine sem_loopS (fun (s1125 : Int)=>⟨[(0,ro 500000 3),(3,vI s1125)],[(500000,wI 3 h0)]⟩) (fun (x1686 : (List Int))=>(.ret,⟨[(2,ro 500000 3)],[(500000,wI 3 x1686)]⟩)) (slices_Compact_Lint_int_k_l3 h0) 1 x1686 (by kernel_rfl) (subR_prep [] [(300000,500000)] (by kernel_rfl) rfl rfl (by kernel_rfl)) (iter_loop hx1686) ?_ ?_ ?_
 intro s1125 r h
 refine zB (z7 (zA 2 ?_))
 refine evs_op (st_len (c:=cI) (l:=h0) (x:=(ro 500000 3)) (by kernel_rfl) (by kernel_rfl)) (z1 1 ⟨[(0,ro 500000 3),(3,vI s1125),(13,vB (decide (s1125 < (h0.length : Int))))],[(500000,wI 3 h0)]⟩ (zI (decide (s1125 < (h0.length : Int))) (fun hb=>?_) fun hb=>?_))
 replace h:=iteT hb h
 refine z4 ⟨[(0,ro 500000 3),(3,vI s1125)],[(500000,wI 3 h0)]⟩ (zB (zC ?_))
 refine zB (sem_drawN [] [] [] [] [] 9 (by kernel_rfl) (by kernel_rfl) (by kernel_rfl) (evd_run 2 (by kernel_rfl) ?_))
 obtain ⟨x1550,hx1550,h⟩:=bindS h
 refine evd_val (by kernel_rfl) (st_idxO (c:=cI) (l:=h0) (i:=s1125) (kd:=.i64) (kk:=(.top 500000)) (e:=3) (sz:=1) (by kernel_rfl) (by kernel_rfl) hx1550 rfl) (by kernel_rfl) (by kernel_rfl) (evd_val (by kernel_rfl) (st_ldO (c:=cI) (l:=h0) (i:=(Int.toNat s1125)) (v:=(vI x1550)) (agg:=false) (sz:=1) (kk:=(.top 500000)) (e:=3) (off:=0) (J:=[]) (by kernel_rfl) (by kernel_rfl) (by kernel_rfl) ((idxS hx1550).2) (by kernel_rfl)) (by kernel_rfl) (by kernel_rfl) (evd_run 3 (by kernel_rfl) ?_))
 obtain ⟨x1551,hx1551,h⟩:=bindS h
 refine evd_val (by kernel_rfl) (st_idxO (c:=cI) (l:=h0) (i:=(isub s1125 1)) (kd:=.i64) (kk:=(.top 500000)) (e:=3) (sz:=1) (by kernel_rfl) (by kernel_rfl) hx1551 rfl) (by kernel_rfl) (by kernel_rfl) (evd_val (by kernel_rfl) (st_ldO (c:=cI) (l:=h0) (i:=(Int.toNat (isub s1125 1))) (v:=(vI x1551)) (agg:=false) (sz:=1) (kk:=(.top 500000)) (e:=3) (off:=0) (J:=[]) (by kernel_rfl) (by kernel_rfl) (by kernel_rfl) ((idxS hx1551).2) (by kernel_rfl)) (by kernel_rfl) (by kernel_rfl) (evd_end (by kernel_rfl) ?_))
 refine evo_run 1 (by kernel_rfl) (zO fun τ hτ=>?_)
 refine zE hτ ⟨[(0,ro 500000 3),(3,vI s1125),(25,vB (x1550 == x1551))],[(500000,wI 3 h0)]⟩ (zI (x1550 == x1551) (fun hb=>?_) fun hb=>?_)
 replace h:=iteT hb h
 refine z7 (zA 2 ?_)
 obtain ⟨hp2,h⟩:=iteN h
 refine evs_op (st_slPL (c:=cI) (l:=h0) (kk:=(.top 500000)) (e:=3) (sz:=1) (lo:=s1125) (k1:=.i64) (by kernel_rfl) (by kernel_rfl) (fun _=>rfl) hp2) (z1 1 ⟨[(0,ro 500000 3),(3,vI s1125),(4,.part (.top 500000) 3 (Int.toNat s1125) (Int.toNat (h0.length : Int) - Int.toNat s1125))],[(500000,wI 3 h0)]⟩ (zB ?_))
 refine z3 1 ⟨[(0,ro 500000 3),(3,vI s1125),(4,.part (.top 500000) 3 (Int.toNat s1125) (Int.toNat (h0.length : Int) - Int.toNat s1125)),(5,vI 1)],[(500000,wI 3 h0)]⟩ (zC ?_)
 obtain ⟨x1683,hx1683,h⟩:=bindS h
 refine sem_loopS (fun (s1640 : Int × Int × (List Int))=>⟨[(0,ro 500000 3),(3,vI s1640.1),(4,.part (.top 500000) 3 (Int.toNat s1125) (Int.toNat (h0.length : Int) - Int.toNat s1125)),(5,vI s1640.2.1)],[(500000,wI 3 s1640.2.2)]⟩) (fun (x1683 : Int × (List Int))=>(.exit 2,⟨[(0,ro 500000 3),(3,vI x1683.1)],[(500000,wI 3 x1683.2)]⟩)) (slices_Compact_Lint_int_k_l2 h0 s1125) (s1125,1,h0) x1683 (by kernel_rfl) (here (by kernel_rfl)) (iter_loop hx1683) ?_ ?_ ?_
 intro s1640 r h
 refine zB (z7 (zA 2 ?_))
 refine evs_op (st_lenP (kk:=(.top 500000)) (e:=3) (lo:=(Int.toNat s1125)) (n:=(Int.toNat (h0.length : Int) - Int.toNat s1125)) (by kernel_rfl)) (z1 1 ⟨[(0,ro 500000 3),(3,vI s1640.1),(4,.part (.top 500000) 3 (Int.toNat s1125) (Int.toNat (h0.length : Int) - Int.toNat s1125)),(5,vI s1640.2.1),(32,vB (decide (s1640.2.1 < ((Int.toNat (h0.length : Int) - Int.toNat s1125 : Nat) : Int))))],[(500000,wI 3 s1640.2.2)]⟩ (zI (decide (s1640.2.1 < ((Int.toNat (h0.length : Int) - Int.toNat s1125 : Nat) : Int))) (fun hb=>?_) fun hb=>?_))
 replace h:=iteT hb h
 refine z4 ⟨[(0,ro 500000 3),(3,vI s1640.1),(4,.part (.top 500000) 3 (Int.toNat s1125) (Int.toNat (h0.length : Int) - Int.toNat s1125)),(5,vI s1640.2.1)],[(500000,wI 3 s1640.2.2)]⟩ (sem_seqJ (fun (j1672 : Int × (List Int))=>⟨[(0,ro 500000 3),(3,vI j1672.1),(4,.part (.top 500000) 3 (Int.toNat s1125) (Int.toNat (h0.length : Int) - Int.toNat s1125)),(5,vI s1640.2.1)],[(500000,wI 3 j1672.2)]⟩) (slices_Compact_Lint_int_k_k1 s1640) r (by kernel_rfl) (fun j1672 h=>?_) ?_)
 refine zD (z6 3 fun τ hτ=>?_)
 obtain rfl:=osi h
 exact zH hτ
 refine zC (zB (sem_drawN [] [] [] [] [] 9 (by kernel_rfl) (by kernel_rfl) (by kernel_rfl) ?_))
 refine evd_run 2 (by kernel_rfl) ?_
 obtain ⟨x1677,hx1677,h⟩:=bindS h
 refine evd_val (by kernel_rfl) (st_idxP (c:=cI) (l:=s1640.2.2) (i:=s1640.2.1) (kd:=.i64) (kk:=(.top 500000)) (e:=3) (sz:=1) (lo:=(Int.toNat s1125)) (n:=(Int.toNat (h0.length : Int) - Int.toNat s1125)) (by kernel_rfl) (by kernel_rfl) hx1677 rfl) (by kernel_rfl) (by kernel_rfl) (evd_val (by kernel_rfl) (st_ldO (c:=cI) (l:=s1640.2.2) (i:=((Int.toNat s1125) + Int.toNat s1640.2.1)) (v:=(vI x1677)) (agg:=false) (sz:=1) (kk:=(.top 500000)) (e:=3) (off:=0) (J:=[]) (by kernel_rfl) (by kernel_rfl) (by kernel_rfl) (idx_part hx1677) (by kernel_rfl)) (by kernel_rfl) (by kernel_rfl) (evd_run 3 (by kernel_rfl) ?_))
 obtain ⟨x1678,hx1678,h⟩:=bindS h
 refine evd_val (by kernel_rfl) (st_idxP (c:=cI) (l:=s1640.2.2) (i:=(isub s1640.2.1 1)) (kd:=.i64) (kk:=(.top 500000)) (e:=3) (sz:=1) (lo:=(Int.toNat s1125)) (n:=(Int.toNat (h0.length : Int) - Int.toNat s1125)) (by kernel_rfl) (by kernel_rfl) hx1678 rfl) (by kernel_rfl) (by kernel_rfl) (evd_val (by kernel_rfl) (st_ldO (c:=cI) (l:=s1640.2.2) (i:=((Int.toNat s1125) + Int.toNat (isub s1640.2.1 1))) (v:=(vI x1678)) (agg:=false) (sz:=1) (kk:=(.top 500000)) (e:=3) (off:=0) (J:=[]) (by kernel_rfl) (by kernel_rfl) (by kernel_rfl) (idx_part hx1678) (by kernel_rfl)) (by kernel_rfl) (by kernel_rfl) (evd_end (by kernel_rfl) ?_))
 refine evo_run 1 (by kernel_rfl) (zO fun τ hτ=>?_)
 refine zE hτ ⟨[(0,ro 500000 3),(3,vI s1640.1),(4,.part (.top 500000) 3 (Int.toNat s1125) (Int.toNat (h0.length : Int) - Int.toNat s1125)),(5,vI s1640.2.1),(44,vB (x1677 != x1678))],[(500000,wI 3 s1640.2.2)]⟩ (zI (x1677 != x1678) (fun hb=>?_) fun hb=>?_)
 replace h:=iteT hb h
 refine z7 (zA 4 ?_)
 obtain ⟨x1681,hx1681,h⟩:=bindS h
 refine evs_op (st_idxP (c:=cI) (l:=s1640.2.2) (i:=s1640.2.1) (kd:=.i64) (kk:=(.top 500000)) (e:=3) (sz:=1) (lo:=(Int.toNat s1125)) (n:=(Int.toNat (h0.length : Int) - Int.toNat s1125)) (by kernel_rfl) (by kernel_rfl) hx1681 rfl) (evs_op (st_ldO (c:=cI) (l:=s1640.2.2) (i:=((Int.toNat s1125) + Int.toNat s1640.2.1)) (v:=(vI x1681)) (agg:=false) (sz:=1) (kk:=(.top 500000)) (e:=3) (off:=0) (J:=[]) (by kernel_rfl) (by kernel_rfl) (by kernel_rfl) (idx_part hx1681) (by kernel_rfl)) ?_)
 obtain ⟨x1682,hx1682,h⟩:=bindS h
 refine evs_op (st_idxO (c:=cI) (l:=s1640.2.2) (i:=s1640.1) (kd:=.i64) (kk:=(.top 500000)) (e:=3) (sz:=1) (by kernel_rfl) (by kernel_rfl) hx1682 rfl) (evs_op (st_stO (c:=cI) (l:=s1640.2.2) (i:=(Int.toNat s1640.1)) (x:=x1682) (x':=x1681) (v:=(vI x1681)) (agg:=false) (sz:=1) (kk:=(.top 500000)) (e:=3) (off:=0) (J:=[]) (o:=wI 3 (List.set s1640.2.2 (Int.toNat s1640.1) x1681)) (by kernel_rfl) (by kernel_rfl) (by kernel_rfl) ((idxS hx1682).2) (by kernel_rfl) (by kernel_rfl) (by kernel_rfl)) (zP fun τ hτ=>?_))
 refine zE hτ ⟨[(0,ro 500000 3),(3,vI s1640.1),(4,.part (.top 500000) 3 (Int.toNat s1125) (Int.toNat (h0.length : Int) - Int.toNat s1125)),(5,vI s1640.2.1)],[(500000,wI 3 (List.set s1640.2.2 (Int.toNat s1640.1) x1681))]⟩ (zD (z6 3 fun τ hτ=>?_))
 exact bl_normal (jk_normal ((iadd s1640.1 1),(List.set s1640.2.2 (Int.toNat s1640.1) x1681)) h hτ (here (by kernel_rfl)))
 replace h:=iteF hb h
 refine zM fun τ hτ=>?_
 exact bl_normal (jk_normal (s1640.1,s1640.2.2) h hτ (here (by kernel_rfl)))
 replace h:=iteF hb h
 refine zL 2 fun τ hτ=>?_
 refine th_exit ?_
 obtain rfl:=osi h
 exact zF hτ
 intro x
 rfl
 intro τ hτ
 refine zQ (zE hτ ⟨[(0,ro 500000 3),(3,vI x1683.1)],[(500000,wI 3 x1683.2)]⟩ (z7 ?_))
 refine zA 2 ?_
 obtain ⟨hp2,h⟩:=iteN h
 refine evs_op (st_slPL (c:=cI) (l:=x1683.2) (kk:=(.top 500000)) (e:=3) (sz:=1) (lo:=x1683.1) (k1:=.i64) (by kernel_rfl) (by kernel_rfl) (fun _=>rfl) hp2) (evs_at (at_clear (c:=cI) (l:=x1683.2) (z:=0) (d:=(.part (.top 500000) 3 (Int.toNat x1683.1) (Int.toNat (x1683.2.length : Int) - Int.toNat x1683.1))) (e:=3) (g:=500000) (lo:=(Int.toNat x1683.1)) (n:=(Int.toNat (x1683.2.length : Int) - Int.toNat x1683.1)) (zs:=[(vI 0)]) (by kernel_rfl) (by kernel_rfl) (by kernel_rfl) (part_fit hp2) rfl) (zP fun τ hτ=>?_))
 refine zE hτ ⟨[(0,ro 500000 3),(3,vI x1683.1)],[(500000,wI 3 (cpy x1683.2 (Int.toNat x1683.1) (List.replicate (Int.toNat (x1683.2.length : Int) - Int.toNat x1683.1) 0)))]⟩ (z7 (zA 2 ?_))
 obtain ⟨l1685,hl1685,h⟩:=bindS h
 refine evs_at (at_cut (J:=[]) (c:=cI) (l:=(cpy x1683.2 (Int.toNat x1683.1) (List.replicate (Int.toNat (x1683.2.length : Int) - Int.toNat x1683.1) 0))) (e:=3) (g:=500000) (hi:=x1683.1) (k2:=.i64) (by kernel_rfl) (by kernel_rfl) rfl hl1685) (z1 1 ⟨[(2,ro 500000 3)],[(500000,wI 3 l1685)]⟩ (zN fun τ hτ=>?_))
 refine bl_ret (th_ret ?_)
 obtain rfl:=osi h
 exact zF hτ
 replace h:=iteF hb h
 refine zM fun τ hτ=>?_
 refine bl_normal (zE hτ ⟨[(0,ro 500000 3),(3,vI s1125)],[(500000,wI 3 h0)]⟩ (zD ?_))
 refine z6 3 fun τ hτ=>?_
 obtain rfl:=osi h
 exact zH hτ
 replace h:=iteF hb h
 exact nomatch h
 intro x
 rfl
 intro τ hτ
 refine bl_ret (th_ret ?_)
 obtain rfl:=osi h
 exact rk_ret hτ [(2,ro 0 3)] (subR_prep [] [(500000,0)] (by kernel_rfl) rfl rfl (by kernel_rfl)) (by kernel_rfl)
theorem W.cut_set_k_ok {h0 : (List Int)} {r : (List Int)} (h : cut_set_k h0 = some r) : PC G.P 105 [(.row (.top 300000) 3)] [(300000,.row 3 [] (List.map cI h0))] (.row (.top 0) 3) [(0,.row 3 [] (List.map cI r))]:=by
 refine zU G Tryz.func105 (zK ⟨[(0,ro 300000 3)],[(300000,wI 3 h0)]⟩ (z3 1 ⟨[(0,ro 300000 3)],[(300000,wI 3 h0)]⟩ ?_))
 refine z7 (zA 1 ?_)
 obtain ⟨r2,hr2,h⟩:=bindS h
 refine evs_callS [(1000000,300000)] [] [] (by kernel_rfl) (W.slices_SortFunc_Lint_int__cmp_Compare_int_k_ok hr2) (by kernel_rfl) (by kernel_rfl) (.inl rfl) (zP fun τ hτ=>?_)
 refine zE hτ ⟨[(0,ro 300000 3)],[(300000,wI 3 r2)]⟩ (z7 (zA 1 ?_))
 obtain ⟨r4,hr4,h⟩:=bindS h
 refine evs_callS [(300000,300000)] [(0,700050)] [] (by kernel_rfl) (W.slices_Compact_Lint_int_k_ok hr4) (by kernel_rfl) (by kernel_rfl) (.inl rfl) (z1 1 ⟨[(2,ro 700050 3)],[(700050,wI 3 r4)]⟩ (zN fun τ hτ=>?_))
 obtain rfl:=osi h
 exact rk_ret hτ [(2,ro 0 3)] (subR_prep [] [(700050,0)] (by kernel_rfl) rfl rfl (by kernel_rfl)) (by kernel_rfl)
theorem W.cut_at_k_ok {l : LayoutT} {x1 : Int} {y : Int} {r : (Option Int)} (h : cut_at_k l x1 y = some r) : PC G.P 108 [(.agg (c_LayoutT l)),(vI x1),(vI y)] [] (vF 198 194 r) []:=by
 refine zU G Tryz.func108 (zK ⟨[(0,.agg (c_LayoutT l)),(1,vI x1),(2,vI y)],[]⟩ (z3 2 ⟨[(1,vI x1),(2,vI y),(3,.ptr 3 0)],[(3,.box (c_LayoutT l))]⟩ ?_))
 refine zB (z7 (zA 2 ?_))
 refine evs_op (st_len (c:=c_Piece) (l:=l.Pieces) (x:=(s_Piece l.Pieces)) (by kernel_rfl) (by kernel_rfl)) (z1 1 ⟨[(1,vI x1),(2,vI y),(12,s_Piece l.Pieces),(13,vI (l.Pieces.length : Int)),(14,vI 0)],[]⟩ (zC ?_))
 obtain ⟨x308,hx308,h⟩:=bindS h
 refine sem_loopS (fun (s207 : Int)=>⟨[(1,vI x1),(2,vI y),(12,s_Piece l.Pieces),(13,vI (l.Pieces.length : Int)),(14,vI s207)],[]⟩) (fun (x308 : (Option Int) ⊕ Unit)=>match x308 with | .inl j309=>(.ret,⟨[(6,vF 198 194 j309)],[]⟩) | .inr j310=>(.exit 0,⟨[],[]⟩)) (cut_at_k_l2 l x1 y) 0 x308 (by kernel_rfl) (here (by kernel_rfl)) (iter_loop hx308) ?_ ?_ ?_
 intro s207 r h
 refine z3 1 ⟨[(1,vI x1),(2,vI y),(12,s_Piece l.Pieces),(13,vI (l.Pieces.length : Int)),(14,vI s207),(15,vB (decide (s207 < (l.Pieces.length : Int))))],[]⟩ (zB (zI (decide (s207 < (l.Pieces.length : Int))) (fun hb=>?_) fun hb=>?_))
 replace h:=iteT hb h
 refine z4 ⟨[(1,vI x1),(2,vI y),(12,s_Piece l.Pieces),(13,vI (l.Pieces.length : Int)),(14,vI s207)],[]⟩ (zB (zC ?_))
 refine z7 (zA 1 ?_)
 obtain ⟨x284,hx284,h⟩:=bindS h
 refine evs_op (st_idx (c:=c_Piece) (l:=l.Pieces) (i:=s207) (kd:=.i64) (sz:=7) (by kernel_rfl) hx284 rfl) (z1 4 ⟨[(1,vI x1),(2,vI y),(7,vI s207),(8,.ptr 8 0),(12,s_Piece l.Pieces),(13,vI (l.Pieces.length : Int)),(14,vI s207)],[(8,.box (c_Piece x284))]⟩ (z7 ?_))
 refine zA 2 (evs_op (st_len (c:=c_Rect) (l:=x284.Rects) (x:=(s_Rect x284.Rects)) (by kernel_rfl) (by kernel_rfl)) (z1 1 ⟨[(1,vI x1),(2,vI y),(7,vI s207),(12,s_Piece l.Pieces),(13,vI (l.Pieces.length : Int)),(14,vI s207),(20,s_Rect x284.Rects),(21,vI (x284.Rects.length : Int)),(22,vI 0)],[]⟩ ?_))
 refine zC ?_
 obtain ⟨x305,hx305,h⟩:=bindS h
 refine sem_loopS (fun (s292 : Int)=>⟨[(1,vI x1),(2,vI y),(7,vI s207),(12,s_Piece l.Pieces),(13,vI (l.Pieces.length : Int)),(14,vI s207),(20,s_Rect x284.Rects),(21,vI (x284.Rects.length : Int)),(22,vI s292)],[]⟩) (fun (x305 : Unit ⊕ Unit)=>match x305 with | .inl j306=>(.ret,⟨[(6,vF 198 194 (some s207))],[]⟩) | .inr j307=>(.exit 2,⟨[(1,vI x1),(2,vI y),(12,s_Piece l.Pieces),(13,vI (l.Pieces.length : Int)),(14,vI s207)],[]⟩)) (cut_at_k_l1 x1 y x284) 0 x305 (by kernel_rfl) (here (by kernel_rfl)) (iter_loop hx305) ?_ ?_ ?_
 intro s292 r h
 refine z3 1 ⟨[(1,vI x1),(2,vI y),(7,vI s207),(12,s_Piece l.Pieces),(13,vI (l.Pieces.length : Int)),(14,vI s207),(20,s_Rect x284.Rects),(21,vI (x284.Rects.length : Int)),(22,vI s292),(23,vB (decide (s292 < (x284.Rects.length : Int))))],[]⟩ (zB (zI (decide (s292 < (x284.Rects.length : Int))) (fun hb=>?_) fun hb=>?_))
 replace h:=iteT hb h
 refine z4 ⟨[(1,vI x1),(2,vI y),(7,vI s207),(12,s_Piece l.Pieces),(13,vI (l.Pieces.length : Int)),(14,vI s207),(20,s_Rect x284.Rects),(21,vI (x284.Rects.length : Int)),(22,vI s292)],[]⟩ (zB (zC ?_))
 refine z7 ?_
 obtain ⟨x303,hx303,h⟩:=bindS h
 refine evs_op (st_idx (c:=c_Rect) (l:=x284.Rects) (i:=s292) (kd:=.i64) (sz:=4) (by kernel_rfl) hx303 rfl) (z1 3 ⟨[(1,vI x1),(2,vI y),(7,vI s207),(10,.ptr 10 0),(12,s_Piece l.Pieces),(13,vI (l.Pieces.length : Int)),(14,vI s207),(20,s_Rect x284.Rects),(21,vI (x284.Rects.length : Int)),(22,vI s292)],[(10,.box (c_Rect x303))]⟩ (zB ?_))
 obtain ⟨j304,hj304,h⟩:=bindS h
 refine zT ⟨[(1,vI x1),(2,vI y),(7,vI s207),(12,s_Piece l.Pieces),(13,vI (l.Pieces.length : Int)),(14,vI s207),(20,s_Rect x284.Rects),(21,vI (x284.Rects.length : Int)),(22,vI s292),(53,vB j304)],[]⟩ ?_ fun τ hτ=>?_
 replace h:=hj304
 refine zA 5 (zS (decide (x303.X ≤ x1)) (fun b0=>⟨[(1,vI x1),(2,vI y),(7,vI s207),(10,.ptr 10 0),(12,s_Piece l.Pieces),(13,vI (l.Pieces.length : Int)),(14,vI s207),(20,s_Rect x284.Rects),(21,vI (x284.Rects.length : Int)),(22,vI s292),(30,vB b0)],[(10,.box (c_Rect x303))]⟩) (fun hb=>?_) fun hb=>?_)
 replace h:=iteT hb h
 refine zA 9 (zS (decide (x1 < (iadd x303.X x303.W))) (fun b0=>⟨[(1,vI x1),(2,vI y),(7,vI s207),(10,.ptr 10 0),(12,s_Piece l.Pieces),(13,vI (l.Pieces.length : Int)),(14,vI s207),(20,s_Rect x284.Rects),(21,vI (x284.Rects.length : Int)),(22,vI s292),(39,vB b0)],[(10,.box (c_Rect x303))]⟩) (fun hb=>?_) fun hb=>?_)
 replace h:=iteT hb h
 refine zA 6 (zS (decide (x303.Y ≤ y)) (fun b0=>⟨[(1,vI x1),(2,vI y),(7,vI s207),(10,.ptr 10 0),(12,s_Piece l.Pieces),(13,vI (l.Pieces.length : Int)),(14,vI s207),(20,s_Rect x284.Rects),(21,vI (x284.Rects.length : Int)),(22,vI s292),(45,vB b0)],[(10,.box (c_Rect x303))]⟩) (fun hb=>?_) fun hb=>?_)
 replace h:=iteT hb h
 refine z6 8 fun τ hτ=>?_
 obtain rfl:=osi h
 exact zG hτ
 replace h:=iteF hb h
 refine z6 8 fun τ hτ=>?_
 obtain rfl:=osi h
 exact zG hτ
 replace h:=iteF hb h
 refine z6 14 fun τ hτ=>?_
 obtain rfl:=osi h
 exact zG hτ
 replace h:=iteF hb h
 refine z6 23 fun τ hτ=>?_
 obtain rfl:=osi h
 exact zG hτ
 refine zE hτ ⟨[(1,vI x1),(2,vI y),(7,vI s207),(12,s_Piece l.Pieces),(13,vI (l.Pieces.length : Int)),(14,vI s207),(20,s_Rect x284.Rects),(21,vI (x284.Rects.length : Int)),(22,vI s292),(53,vB j304)],[]⟩ (zI j304 (fun hb=>?_) fun hb=>?_)
 replace h:=iteT hb h
 refine z7 (zA 1 (evs_at (at_mkif (x:=(some s207)) ifc_ (by kernel_rfl)) ?_))
 refine z1 1 ⟨[(6,vF 198 194 (some s207))],[]⟩ (zN fun τ hτ=>?_)
 refine bl_ret (th_ret ?_)
 obtain rfl:=osi h
 exact zF hτ
 replace h:=iteF hb h
 refine zM fun τ hτ=>?_
 refine bl_normal (zE hτ ⟨[(1,vI x1),(2,vI y),(7,vI s207),(12,s_Piece l.Pieces),(13,vI (l.Pieces.length : Int)),(14,vI s207),(20,s_Rect x284.Rects),(21,vI (x284.Rects.length : Int)),(22,vI s292)],[]⟩ (zD ?_))
 refine z6 2 fun τ hτ=>?_
 obtain rfl:=osi h
 exact zH hτ
 replace h:=iteF hb h
 refine zL 2 fun τ hτ=>?_
 refine th_exit ?_
 obtain rfl:=osi h
 exact zF hτ
 intro x
 rcases x with _ | _ <;> rfl
 intro τ hτ
 rcases x305 with j306 | j307
 refine bl_ret (bl_ret (th_ret ?_))
 obtain rfl:=osi h
 exact zF hτ
 refine zQ (bl_normal (zE hτ ⟨[(1,vI x1),(2,vI y),(12,s_Piece l.Pieces),(13,vI (l.Pieces.length : Int)),(14,vI s207)],[]⟩ ?_))
 refine zD (z6 2 fun τ hτ=>?_)
 obtain rfl:=osi h
 exact zH hτ
 replace h:=iteF hb h
 refine zL 0 fun τ hτ=>?_
 refine th_exit ?_
 obtain rfl:=osi h
 exact zF hτ
 intro x
 rcases x with _ | _ <;> rfl
 intro τ hτ
 rcases x308 with j309 | j310
 refine bl_ret (th_ret ?_)
 obtain rfl:=osi h
 exact zV hτ [(6,vF 198 194 j309)]
 refine zQ (zE hτ ⟨[],[]⟩ (z7 ?_))
 refine zA 1 (evs_at (at_mkif (x:=none) ifc_ (by kernel_rfl)) (z1 1 ⟨[(6,vF 198 194 none)],[]⟩ ?_))
 refine zN fun τ hτ=>?_
 obtain rfl:=osi h
 exact zV hτ [(6,vF 198 194 none)]
theorem W.cut_edges_1_k_ok {x0 : Int} {a_0 : ByteArray} {a_1 : ByteArray} {a_2 : Int} {a_3 : Int} {a_4 : Int} {a_5 : Int} {a_6 : (List Rect)} {a_7 : (List Rect)} {a_8 : (List Piece)} {a2_0 : Int} {r : (Option Int) × (Option Int)} (h : cut_edges_1_k x0 a_0 a_1 a_2 a_3 a_4 a_5 a_6 a_7 a_8 a2_0 = some r) : PC G.P 107 [(vI x0),(.vptr [(vS a_0),(vS a_1),(vI a_2),(vI a_3),(vI a_4),(vI a_5),(.sl (List.map c_Rect a_6)),(.sl (List.map c_Rect a_7)),(.sl (List.map c_Piece a_8))] 0),(.vptr [(vI a2_0)] 0)] [] (.tup [(vF 198 194 r.1),(vF 198 194 r.2)]) []:=by
 refine zU G Tryz.func107 (zK ⟨[(0,vI x0),(1,.vptr [(vS a_0),(vS a_1),(vI a_2),(vI a_3),(vI a_4),(vI a_5),(s_Rect a_6),(s_Rect a_7),(s_Piece a_8)] 0),(2,.vptr [(vI a2_0)] 0)],[]⟩ (z3 2 ⟨[(0,vI x0),(1,.vptr [(vS a_0),(vS a_1),(vI a_2),(vI a_3),(vI a_4),(vI a_5),(s_Rect a_6),(s_Rect a_7),(s_Piece a_8)] 0),(2,.vptr [(vI a2_0)] 0)],[]⟩ ?_))
 refine zB (sem_drawN [] [] [] [] [] 8 (by kernel_rfl) (by kernel_rfl) (by kernel_rfl) (evd_run 3 (by kernel_rfl) ?_))
 obtain ⟨r5,hr5,h⟩:=bindS h
 refine evd_callS [] [] (by kernel_rfl) (by kernel_rfl) (W.cut_at_k_ok hr5) (by kernel_rfl) (.inl rfl) (by kernel_rfl) (by kernel_rfl) (evd_run 4 (by kernel_rfl) (evd_end (by kernel_rfl) ?_))
 obtain ⟨r6,hr6,h⟩:=bindS h
 refine evo_callP [] (by kernel_rfl) (W.cut_at_k_ok hr6) (by kernel_rfl) (.inl rfl) (by kernel_rfl) (evo_run 2 (by kernel_rfl) (zO fun τ hτ=>?_))
 refine zE hτ ⟨[(4,vF 198 194 r5),(5,vF 198 194 r6)],[]⟩ (zN fun τ hτ=>?_)
 obtain rfl:=osi h
 exact zV hτ [(4,vF 198 194 r5),(5,vF 198 194 r6)]
theorem W.cut_pieceNo_solid_k_ok {a : Int} {r : Bool} (h : cut_pieceNo_solid_k a = some r) : PC G.P 237 [(vI a)] [] (vB r) []:=by
 refine zU G Tryz.func237 (zK ⟨[],[]⟩ (z3 1 ⟨[],[]⟩ ?_))
 refine z8 1 ⟨[(2,vB true)],[]⟩ fun τ hτ=>?_
 obtain rfl:=osi h
 exact zV hτ [(2,vB true)]
theorem W.cut_nothing_solid_k_ok {a : cut_nothing} {r : Bool} (h : cut_nothing_solid_k a = some r) : PC G.P 236 [(.agg [])] [] (vB r) []:=by
 refine zU G Tryz.func236 (zK ⟨[(0,.agg [])],[]⟩ (z3 2 ⟨[],[]⟩ ?_))
 refine z8 1 ⟨[(2,vB false)],[]⟩ fun τ hτ=>?_
 obtain rfl:=osi h
 exact zV hτ [(2,vB false)]
theorem W.cut_edges_2_k_ok {from0 : Int} {to1 : Int} {a_0 : Int} {r : Segment} (h : cut_edges_2_k from0 to1 a_0 = some r) : PC G.P 109 [(vI from0),(vI to1),(.vptr [(vI a_0)] 0)] [] (.agg (c_Segment r)) [(0,.box [(vI from0),(vI a_0),(vI to1),(vI a_0)])]:=by
 refine zU G Tryz.func109 (zK ⟨[(0,vI from0),(1,vI to1),(2,.vptr [(vI a_0)] 0)],[]⟩ (z3 1 ⟨[(0,vI from0),(1,vI to1),(2,.vptr [(vI a_0)] 0),(5,.ptr 5 0)],[(5,.box [(vI 0),(vI 0),(vI 0),(vI 0)])]⟩ ?_))
 refine z8 6 ⟨[(5,.ptr 5 0)],[(5,.box [(vI from0),(vI a_0),(vI to1),(vI a_0)])]⟩ fun τ hτ=>?_
 obtain rfl:=osi h
 exact rk_ret hτ [(5,.ptr 0 0)] (subR_prep [] [(5,0)] (by kernel_rfl) rfl rfl (by kernel_rfl)) (by kernel_rfl)
theorem W.cut_number_k_ok {t : (Option Int)} {r : Int} (h : cut_number_k t = some r) : PC G.P 154 [(vF 198 194 t)] [] (vI r) []:=by
 refine zU G Tryz.func154 (zK ⟨[(0,vF 198 194 t)],[]⟩ (z3 1 ⟨[(0,vF 198 194 t)],[]⟩ ?_))
 refine z3 1 ⟨[(5,vF 198 194 t)],[]⟩ (zC (z7 ?_))
 refine evs_at (at_tas (x:=t) ifc_ (by kernel_rfl)) (z1 2 ⟨[(5,vF 198 194 t),(7,vB (Option.isSome t)),(8,vI (Option.getD t 0))],[]⟩ (zI (Option.isSome t) (fun hb=>?_) fun hb=>?_))
 replace h:=iteT hb h
 refine z3 1 ⟨[(3,vI (Option.getD t 0))],[]⟩ (z8 2 ⟨[(2,vI (Option.getD t 0))],[]⟩ fun τ hτ=>?_)
 refine bl_ret ?_
 obtain rfl:=osi h
 exact zV hτ [(2,vI (Option.getD t 0))]
 replace h:=iteF hb h
 refine z3 1 ⟨[],[]⟩ (z8 1 ⟨[(2,vI (-1))],[]⟩ fun τ hτ=>?_)
 refine bl_ret ?_
 obtain rfl:=osi h
 exact zV hτ [(2,vI (-1))]
theorem W.cut_edge_k_ok {s0 : Segment} {a : Int} {b : Int} {r : EdgeT × Int × Int} (h : cut_edge_k s0 a b = some r) : PC G.P 153 [(.agg (c_Segment s0)),(vI a),(vI b)] [] (.agg (c_EdgeT r.1)) [(0,.box [(vI s0.X1),(vI s0.Y1),(vI s0.X2),(vI s0.Y2),(vI r.2.1),(vI r.2.2)])]:=by
 refine zU G Tryz.func153 (zK ⟨[(0,.agg (c_Segment s0)),(1,vI a),(2,vI b)],[]⟩ (z3 2 ⟨[(1,vI a),(2,vI b),(3,.ptr 3 0),(6,.ptr 6 0)],[(3,.box (c_Segment s0)),(6,.box [(vI 0),(vI 0),(vI 0),(vI 0),(vI 0),(vI 0)])]⟩ ?_))
 refine sem_seqJ (fun (j2 : Int × Int)=>⟨[(1,vI j2.1),(2,vI j2.2),(3,.ptr 500000 0),(6,.ptr 500001 0)],[(500000,.box (c_Segment s0)),(500001,.box [(vI 0),(vI 0),(vI 0),(vI 0),(vI 0),(vI 0)])]⟩) (cut_edge_k_k1 s0) r (by kernel_rfl) (fun j2 h=>?_) ?_
 refine z8 5 ⟨[(6,.ptr 500001 0)],[(500001,.box [(vI s0.X1),(vI s0.Y1),(vI s0.X2),(vI s0.Y2),(vI j2.1),(vI j2.2)])]⟩ fun τ hτ=>?_
 obtain rfl:=osi h
 exact rk_ret hτ [(6,.ptr 0 0)] (subR_prep [] [(500001,0)] (by kernel_rfl) rfl rfl (by kernel_rfl)) (by kernel_rfl)
 refine zB ?_
 obtain ⟨j3,hj3,h⟩:=bindS h
 refine zT ⟨[(1,vI a),(2,vI b),(3,.ptr 500000 0),(6,.ptr 500001 0),(17,vB j3)],[(500000,.box (c_Segment s0)),(500001,.box [(vI 0),(vI 0),(vI 0),(vI 0),(vI 0),(vI 0)])]⟩ ?_ fun τ hτ=>?_
 replace h:=hj3
 refine zA 3 (zS (decide (a < 0)) (fun b0=>⟨[(1,vI a),(2,vI b),(3,.ptr 3 0),(6,.ptr 6 0),(9,vB b0)],[(3,.box (c_Segment s0)),(6,.box [(vI 0),(vI 0),(vI 0),(vI 0),(vI 0),(vI 0)])]⟩) (fun hb=>?_) fun hb=>?_)
 replace h:=iteT hb h
 refine z6 8 fun τ hτ=>?_
 obtain rfl:=osi h
 exact leafC hτ (subR_prep [] [(3,500000),(6,500001)] (by kernel_rfl) rfl rfl (by kernel_rfl))
 replace h:=iteF hb h
 refine zA 3 (zS (decide (b ≥ 0)) (fun b0=>⟨[(1,vI a),(2,vI b),(3,.ptr 3 0),(6,.ptr 6 0),(9,vB false),(12,vB b0)],[(3,.box (c_Segment s0)),(6,.box [(vI 0),(vI 0),(vI 0),(vI 0),(vI 0),(vI 0)])]⟩) (fun hb=>?_) fun hb=>?_)
 replace h:=iteT hb h
 refine z6 5 fun τ hτ=>?_
 obtain rfl:=osi h
 exact leafC hτ (subR_prep [] [(3,500000),(6,500001)] (by kernel_rfl) rfl rfl (by kernel_rfl))
 replace h:=iteF hb h
 refine z6 5 fun τ hτ=>?_
 obtain rfl:=osi h
 exact leafC hτ (subR_prep [] [(3,500000),(6,500001)] (by kernel_rfl) rfl rfl (by kernel_rfl))
 refine zE hτ ⟨[(1,vI a),(2,vI b),(3,.ptr 500000 0),(6,.ptr 500001 0),(17,vB j3)],[(500000,.box (c_Segment s0)),(500001,.box [(vI 0),(vI 0),(vI 0),(vI 0),(vI 0),(vI 0)])]⟩ (zI j3 (fun hb=>?_) fun hb=>?_)
 replace h:=iteT hb h
 refine zD (z6 4 fun τ hτ=>?_)
 exact jk_normal (b,a) h hτ (here (by kernel_rfl))
 replace h:=iteF hb h
 refine zM fun τ hτ=>?_
 exact jk_normal (a,b) h hτ (here (by kernel_rfl))
theorem W.cut_along__cut_edges_1__cut_edges_2_k_ok {ends : (List Int)} {sides_0_0 : ByteArray} {sides_0_1 : ByteArray} {sides_0_2 : Int} {sides_0_3 : Int} {sides_0_4 : Int} {sides_0_5 : Int} {sides_0_6 : (List Rect)} {sides_0_7 : (List Rect)} {sides_0_8 : (List Piece)} {sides_1_0 : Int} {line_0_0 : Int} {r : (List EdgeT)} (h : cut_along__cut_edges_1__cut_edges_2_k ends sides_0_0 sides_0_1 sides_0_2 sides_0_3 sides_0_4 sides_0_5 sides_0_6 sides_0_7 sides_0_8 sides_1_0 line_0_0 = some r) : PC G.P 106 [(.sl (List.map cI ends)),(.fn 107 [(.vptr [(vS sides_0_0),(vS sides_0_1),(vI sides_0_2),(vI sides_0_3),(vI sides_0_4),(vI sides_0_5),(.sl (List.map c_Rect sides_0_6)),(.sl (List.map c_Rect sides_0_7)),(.sl (List.map c_Piece sides_0_8))] 0),(.vptr [(vI sides_1_0)] 0)]),(.fn 109 [(.vptr [(vI line_0_0)] 0)])] [] (.row (.top 0) 74) [(0,.row 74 [] (List.map c_EdgeT r))]:=by
 refine zU G Tryz.func106 (zK ⟨[(0,sI ends),(1,.fn 107 [(.vptr [(vS sides_0_0),(vS sides_0_1),(vI sides_0_2),(vI sides_0_3),(vI sides_0_4),(vI sides_0_5),(s_Rect sides_0_6),(s_Rect sides_0_7),(s_Piece sides_0_8)] 0),(.vptr [(vI sides_1_0)] 0)]),(2,.fn 109 [(.vptr [(vI line_0_0)] 0)])],[]⟩ (z3 1 ⟨[(0,sI ends),(1,.fn 107 [(.vptr [(vS sides_0_0),(vS sides_0_1),(vI sides_0_2),(vI sides_0_3),(vI sides_0_4),(vI sides_0_5),(s_Rect sides_0_6),(s_Rect sides_0_7),(s_Piece sides_0_8)] 0),(.vptr [(vI sides_1_0)] 0)]),(2,.fn 109 [(.vptr [(vI line_0_0)] 0)])],[]⟩ ?_))
 refine z3 1 ⟨[(0,sI ends),(1,.fn 107 [(.vptr [(vS sides_0_0),(vS sides_0_1),(vI sides_0_2),(vI sides_0_3),(vI sides_0_4),(vI sides_0_5),(s_Rect sides_0_6),(s_Rect sides_0_7),(s_Piece sides_0_8)] 0),(.vptr [(vI sides_1_0)] 0)]),(2,.fn 109 [(.vptr [(vI line_0_0)] 0)]),(7,ro 7 74)],[(7,w_EdgeT 74 [])]⟩ (z3 1 ⟨[(0,sI ends),(1,.fn 107 [(.vptr [(vS sides_0_0),(vS sides_0_1),(vI sides_0_2),(vI sides_0_3),(vI sides_0_4),(vI sides_0_5),(s_Rect sides_0_6),(s_Rect sides_0_7),(s_Piece sides_0_8)] 0),(.vptr [(vI sides_1_0)] 0)]),(2,.fn 109 [(.vptr [(vI line_0_0)] 0)]),(7,ro 7 74),(8,vI 0)],[(7,w_EdgeT 74 [])]⟩ (z7 ?_))
 refine zA 1 (evs_at (at_mkif (x:=none) ifc_ (by kernel_rfl)) (zA 1 ?_))
 refine evs_at (at_mkif (x:=none) ifc_ (by kernel_rfl)) (z1 2 ⟨[(0,sI ends),(1,.fn 107 [(.vptr [(vS sides_0_0),(vS sides_0_1),(vI sides_0_2),(vI sides_0_3),(vI sides_0_4),(vI sides_0_5),(s_Rect sides_0_6),(s_Rect sides_0_7),(s_Piece sides_0_8)] 0),(.vptr [(vI sides_1_0)] 0)]),(2,.fn 109 [(.vptr [(vI line_0_0)] 0)]),(7,ro 7 74),(8,vI 0),(9,vF 198 194 none),(10,vF 198 194 none)],[(7,w_EdgeT 74 [])]⟩ (zB ?_))
 refine z7 (zA 1 (evs_op (st_len (c:=cI) (l:=ends) (x:=(sI ends)) (by kernel_rfl) (by kernel_rfl)) ?_))
 refine z1 1 ⟨[(0,sI ends),(1,.fn 107 [(.vptr [(vS sides_0_0),(vS sides_0_1),(vI sides_0_2),(vI sides_0_3),(vI sides_0_4),(vI sides_0_5),(s_Rect sides_0_6),(s_Rect sides_0_7),(s_Piece sides_0_8)] 0),(.vptr [(vI sides_1_0)] 0)]),(2,.fn 109 [(.vptr [(vI line_0_0)] 0)]),(7,ro 7 74),(8,vI 0),(9,vF 198 194 none),(10,vF 198 194 none),(19,sI ends),(20,vI (ends.length : Int)),(21,vI 0)],[(7,w_EdgeT 74 [])]⟩ (zC ?_)
 obtain ⟨x486,hx486,h⟩:=bindS h
 refine sem_loopS (fun (s325 : Int × (Option Int) × (Option Int) × Int × (List EdgeT))=>⟨[(0,sI ends),(1,.fn 107 [(.vptr [(vS sides_0_0),(vS sides_0_1),(vI sides_0_2),(vI sides_0_3),(vI sides_0_4),(vI sides_0_5),(s_Rect sides_0_6),(s_Rect sides_0_7),(s_Piece sides_0_8)] 0),(.vptr [(vI sides_1_0)] 0)]),(2,.fn 109 [(.vptr [(vI line_0_0)] 0)]),(7,ro 500000 74),(8,vI s325.1),(9,vF 198 194 s325.2.1),(10,vF 198 194 s325.2.2.1),(19,sI ends),(20,vI (ends.length : Int)),(21,vI s325.2.2.2.1)],[(500000,w_EdgeT 74 s325.2.2.2.2)]⟩) (fun (x486 : (List EdgeT))=>(.exit 0,⟨[(7,ro 500000 74)],[(500000,w_EdgeT 74 x486)]⟩)) (cut_along__cut_edges_1__cut_edges_2_k_l3 ends sides_0_0 sides_0_1 sides_0_2 sides_0_3 sides_0_4 sides_0_5 sides_0_6 sides_0_7 sides_0_8 sides_1_0 line_0_0) (0,none,none,0,[]) x486 (by kernel_rfl) (subR_prep [] [(7,500000)] (by kernel_rfl) rfl rfl (by kernel_rfl)) (iter_loop hx486) ?_ ?_ ?_
 intro s325 r h
 refine z3 1 ⟨[(0,sI ends),(1,.fn 107 [(.vptr [(vS sides_0_0),(vS sides_0_1),(vI sides_0_2),(vI sides_0_3),(vI sides_0_4),(vI sides_0_5),(s_Rect sides_0_6),(s_Rect sides_0_7),(s_Piece sides_0_8)] 0),(.vptr [(vI sides_1_0)] 0)]),(2,.fn 109 [(.vptr [(vI line_0_0)] 0)]),(7,ro 500000 74),(8,vI s325.1),(9,vF 198 194 s325.2.1),(10,vF 198 194 s325.2.2.1),(19,sI ends),(20,vI (ends.length : Int)),(21,vI s325.2.2.2.1),(22,vB (decide (s325.2.2.2.1 < (ends.length : Int))))],[(500000,w_EdgeT 74 s325.2.2.2.2)]⟩ (zB (zI (decide (s325.2.2.2.1 < (ends.length : Int))) (fun hb=>?_) fun hb=>?_))
 replace h:=iteT hb h
 refine z4 ⟨[(0,sI ends),(1,.fn 107 [(.vptr [(vS sides_0_0),(vS sides_0_1),(vI sides_0_2),(vI sides_0_3),(vI sides_0_4),(vI sides_0_5),(s_Rect sides_0_6),(s_Rect sides_0_7),(s_Piece sides_0_8)] 0),(.vptr [(vI sides_1_0)] 0)]),(2,.fn 109 [(.vptr [(vI line_0_0)] 0)]),(7,ro 500000 74),(8,vI s325.1),(9,vF 198 194 s325.2.1),(10,vF 198 194 s325.2.2.1),(19,sI ends),(20,vI (ends.length : Int)),(21,vI s325.2.2.2.1)],[(500000,w_EdgeT 74 s325.2.2.2.2)]⟩ (zB (zC ?_))
 refine z7 (zA 1 ?_)
 obtain ⟨x447,hx447,h⟩:=bindS h
 refine evs_op (st_idx (c:=cI) (l:=ends) (i:=s325.2.2.2.1) (kd:=.i64) (sz:=1) (by kernel_rfl) hx447 rfl) (z1 3 ⟨[(0,sI ends),(1,.fn 107 [(.vptr [(vS sides_0_0),(vS sides_0_1),(vI sides_0_2),(vI sides_0_3),(vI sides_0_4),(vI sides_0_5),(s_Rect sides_0_6),(s_Rect sides_0_7),(s_Piece sides_0_8)] 0),(.vptr [(vI sides_1_0)] 0)]),(2,.fn 109 [(.vptr [(vI line_0_0)] 0)]),(7,ro 500000 74),(8,vI s325.1),(9,vF 198 194 s325.2.1),(10,vF 198 194 s325.2.2.1),(11,vI s325.2.2.2.1),(12,vI x447),(19,sI ends),(20,vI (ends.length : Int)),(21,vI s325.2.2.2.1)],[(500000,w_EdgeT 74 s325.2.2.2.2)]⟩ (z7 ?_))
 refine zA 1 (evs_at (at_mkif (x:=none) ifc_ (by kernel_rfl)) (zA 1 ?_))
 refine evs_at (at_mkif (x:=none) ifc_ (by kernel_rfl)) (z1 2 ⟨[(0,sI ends),(1,.fn 107 [(.vptr [(vS sides_0_0),(vS sides_0_1),(vI sides_0_2),(vI sides_0_3),(vI sides_0_4),(vI sides_0_5),(s_Rect sides_0_6),(s_Rect sides_0_7),(s_Piece sides_0_8)] 0),(.vptr [(vI sides_1_0)] 0)]),(2,.fn 109 [(.vptr [(vI line_0_0)] 0)]),(7,ro 500000 74),(8,vI s325.1),(9,vF 198 194 s325.2.1),(10,vF 198 194 s325.2.2.1),(11,vI s325.2.2.2.1),(12,vI x447),(13,vF 198 194 none),(14,vF 198 194 none),(19,sI ends),(20,vI (ends.length : Int)),(21,vI s325.2.2.2.1)],[(500000,w_EdgeT 74 s325.2.2.2.2)]⟩ (sem_seqJ (fun (j450 : (Option Int) × (Option Int))=>⟨[(0,sI ends),(1,.fn 107 [(.vptr [(vS sides_0_0),(vS sides_0_1),(vI sides_0_2),(vI sides_0_3),(vI sides_0_4),(vI sides_0_5),(s_Rect sides_0_6),(s_Rect sides_0_7),(s_Piece sides_0_8)] 0),(.vptr [(vI sides_1_0)] 0)]),(2,.fn 109 [(.vptr [(vI line_0_0)] 0)]),(7,ro 500000 74),(8,vI s325.1),(9,vF 198 194 s325.2.1),(10,vF 198 194 s325.2.2.1),(12,vI x447),(13,vF 198 194 j450.1),(14,vF 198 194 j450.2),(19,sI ends),(20,vI (ends.length : Int)),(21,vI s325.2.2.2.1)],[(500000,w_EdgeT 74 s325.2.2.2.2)]⟩) (cut_along__cut_edges_1__cut_edges_2_k_k2 line_0_0 s325 x447) r (by kernel_rfl) (fun j450 h=>?_) ?_))
 refine zB (zB ?_)
 obtain ⟨j452,hj452,h⟩:=bindS h
 refine zT ⟨[(0,sI ends),(1,.fn 107 [(.vptr [(vS sides_0_0),(vS sides_0_1),(vI sides_0_2),(vI sides_0_3),(vI sides_0_4),(vI sides_0_5),(s_Rect sides_0_6),(s_Rect sides_0_7),(s_Piece sides_0_8)] 0),(.vptr [(vI sides_1_0)] 0)]),(2,.fn 109 [(.vptr [(vI line_0_0)] 0)]),(7,ro 500000 74),(8,vI s325.1),(9,vF 198 194 s325.2.1),(10,vF 198 194 s325.2.2.1),(12,vI x447),(13,vF 198 194 j450.1),(14,vF 198 194 j450.2),(19,sI ends),(20,vI (ends.length : Int)),(21,vI s325.2.2.2.1),(48,vB j452)],[(500000,w_EdgeT 74 s325.2.2.2.2)]⟩ ?_ fun τ hτ=>?_
 replace h:=hj452
 refine zA 2 (evs_at (at_ife (x:=j450.1) (y:=s325.2.1) ifc_ (by kernel_rfl)) (zA 1 ?_))
 refine zS (j450.1 == s325.2.1) (fun b0=>⟨[(0,sI ends),(1,.fn 107 [(.vptr [(vS sides_0_0),(vS sides_0_1),(vI sides_0_2),(vI sides_0_3),(vI sides_0_4),(vI sides_0_5),(s_Rect sides_0_6),(s_Rect sides_0_7),(s_Piece sides_0_8)] 0),(.vptr [(vI sides_1_0)] 0)]),(2,.fn 109 [(.vptr [(vI line_0_0)] 0)]),(7,ro 500000 74),(8,vI s325.1),(9,vF 198 194 s325.2.1),(10,vF 198 194 s325.2.2.1),(12,vI x447),(13,vF 198 194 j450.1),(14,vF 198 194 j450.2),(19,sI ends),(20,vI (ends.length : Int)),(21,vI s325.2.2.2.1),(44,vB b0)],[(500000,w_EdgeT 74 s325.2.2.2.2)]⟩) (fun hb=>?_) fun hb=>?_
 replace h:=iteT hb h
 refine zA 2 (evs_at (at_ife (x:=j450.2) (y:=s325.2.2.1) ifc_ (by kernel_rfl)) (z6 1 fun τ hτ=>?_))
 obtain rfl:=osi h
 exact zG hτ
 replace h:=iteF hb h
 refine z6 4 fun τ hτ=>?_
 obtain rfl:=osi h
 exact zG hτ
 refine zE hτ ⟨[(0,sI ends),(1,.fn 107 [(.vptr [(vS sides_0_0),(vS sides_0_1),(vI sides_0_2),(vI sides_0_3),(vI sides_0_4),(vI sides_0_5),(s_Rect sides_0_6),(s_Rect sides_0_7),(s_Piece sides_0_8)] 0),(.vptr [(vI sides_1_0)] 0)]),(2,.fn 109 [(.vptr [(vI line_0_0)] 0)]),(7,ro 500000 74),(8,vI s325.1),(9,vF 198 194 s325.2.1),(10,vF 198 194 s325.2.2.1),(12,vI x447),(13,vF 198 194 j450.1),(14,vF 198 194 j450.2),(19,sI ends),(20,vI (ends.length : Int)),(21,vI s325.2.2.2.1),(48,vB j452)],[(500000,w_EdgeT 74 s325.2.2.2.2)]⟩ (zI j452 (fun hb=>?_) fun hb=>?_)
 replace h:=iteT hb h
 exact nomatch h
 replace h:=iteF hb h
 refine z4 ⟨[(0,sI ends),(1,.fn 107 [(.vptr [(vS sides_0_0),(vS sides_0_1),(vI sides_0_2),(vI sides_0_3),(vI sides_0_4),(vI sides_0_5),(s_Rect sides_0_6),(s_Rect sides_0_7),(s_Piece sides_0_8)] 0),(.vptr [(vI sides_1_0)] 0)]),(2,.fn 109 [(.vptr [(vI line_0_0)] 0)]),(7,ro 500000 74),(8,vI s325.1),(9,vF 198 194 s325.2.1),(10,vF 198 194 s325.2.2.1),(12,vI x447),(13,vF 198 194 j450.1),(14,vF 198 194 j450.2),(19,sI ends),(20,vI (ends.length : Int)),(21,vI s325.2.2.2.1)],[(500000,w_EdgeT 74 s325.2.2.2.2)]⟩ (sem_seqJ (fun (j468 : (List EdgeT))=>⟨[(0,sI ends),(1,.fn 107 [(.vptr [(vS sides_0_0),(vS sides_0_1),(vI sides_0_2),(vI sides_0_3),(vI sides_0_4),(vI sides_0_5),(s_Rect sides_0_6),(s_Rect sides_0_7),(s_Piece sides_0_8)] 0),(.vptr [(vI sides_1_0)] 0)]),(2,.fn 109 [(.vptr [(vI line_0_0)] 0)]),(7,ro 500000 74),(12,vI x447),(13,vF 198 194 j450.1),(14,vF 198 194 j450.2),(19,sI ends),(20,vI (ends.length : Int)),(21,vI s325.2.2.2.1)],[(500000,w_EdgeT 74 j468)]⟩) (cut_along__cut_edges_1__cut_edges_2_k_k1 s325 x447 j450) r (by kernel_rfl) (fun j468 h=>?_) ?_)
 refine zD (z6 6 fun τ hτ=>?_)
 refine bl_normal (zE hτ ⟨[(0,sI ends),(1,.fn 107 [(.vptr [(vS sides_0_0),(vS sides_0_1),(vI sides_0_2),(vI sides_0_3),(vI sides_0_4),(vI sides_0_5),(s_Rect sides_0_6),(s_Rect sides_0_7),(s_Piece sides_0_8)] 0),(.vptr [(vI sides_1_0)] 0)]),(2,.fn 109 [(.vptr [(vI line_0_0)] 0)]),(7,ro 500000 74),(8,vI x447),(9,vF 198 194 j450.1),(10,vF 198 194 j450.2),(19,sI ends),(20,vI (ends.length : Int)),(21,vI s325.2.2.2.1)],[(500000,w_EdgeT 74 j468)]⟩ (zD ?_))
 refine z6 2 fun τ hτ=>?_
 obtain rfl:=osi h
 exact zH hτ
 refine zB ?_
 obtain ⟨j471,hj471,h⟩:=bindS h
 refine zT ⟨[(0,sI ends),(1,.fn 107 [(.vptr [(vS sides_0_0),(vS sides_0_1),(vI sides_0_2),(vI sides_0_3),(vI sides_0_4),(vI sides_0_5),(s_Rect sides_0_6),(s_Rect sides_0_7),(s_Piece sides_0_8)] 0),(.vptr [(vI sides_1_0)] 0)]),(2,.fn 109 [(.vptr [(vI line_0_0)] 0)]),(7,ro 500000 74),(8,vI s325.1),(9,vF 198 194 s325.2.1),(10,vF 198 194 s325.2.2.1),(12,vI x447),(13,vF 198 194 j450.1),(14,vF 198 194 j450.2),(19,sI ends),(20,vI (ends.length : Int)),(21,vI s325.2.2.2.1),(59,vB j471)],[(500000,w_EdgeT 74 s325.2.2.2.2)]⟩ ?_ fun τ hτ=>?_
 replace h:=hj471
 refine zA 2 (evs_at (at_ifn (x:=s325.2.1) (y:=s325.2.2.1) ifc_ (by kernel_rfl)) (zA 1 ?_))
 refine zS (s325.2.1 == s325.2.2.1) (fun b0=>⟨[(0,sI ends),(1,.fn 107 [(.vptr [(vS sides_0_0),(vS sides_0_1),(vI sides_0_2),(vI sides_0_3),(vI sides_0_4),(vI sides_0_5),(s_Rect sides_0_6),(s_Rect sides_0_7),(s_Piece sides_0_8)] 0),(.vptr [(vI sides_1_0)] 0)]),(2,.fn 109 [(.vptr [(vI line_0_0)] 0)]),(7,ro 500000 74),(8,vI s325.1),(9,vF 198 194 s325.2.1),(10,vF 198 194 s325.2.2.1),(12,vI x447),(13,vF 198 194 j450.1),(14,vF 198 194 j450.2),(19,sI ends),(20,vI (ends.length : Int)),(21,vI s325.2.2.2.1),(52,vB (!b0))],[(500000,w_EdgeT 74 s325.2.2.2.2)]⟩) (fun hb=>?_) fun hb=>?_
 replace h:=iteT hb h
 refine z6 7 fun τ hτ=>?_
 obtain rfl:=osi h
 exact zG hτ
 replace h:=iteF hb h
 refine zA 1 ?_
 obtain ⟨b472,hb472,h⟩:=bindS h
 refine evs_inv (x:=s325.2.1) (r:=b472) ifc_ (by kernel_rfl) (inv_pc hb472 (fun n h=>W.cut_pieceNo_solid_k_ok h) (fun h=>W.cut_nothing_solid_k_ok h)) (zA 1 (zS b472 (fun b0=>⟨[(0,sI ends),(1,.fn 107 [(.vptr [(vS sides_0_0),(vS sides_0_1),(vI sides_0_2),(vI sides_0_3),(vI sides_0_4),(vI sides_0_5),(s_Rect sides_0_6),(s_Rect sides_0_7),(s_Piece sides_0_8)] 0),(.vptr [(vI sides_1_0)] 0)]),(2,.fn 109 [(.vptr [(vI line_0_0)] 0)]),(7,ro 500000 74),(8,vI s325.1),(9,vF 198 194 s325.2.1),(10,vF 198 194 s325.2.2.1),(12,vI x447),(13,vF 198 194 j450.1),(14,vF 198 194 j450.2),(19,sI ends),(20,vI (ends.length : Int)),(21,vI s325.2.2.2.1),(52,vB true),(55,vB b0)],[(500000,w_EdgeT 74 s325.2.2.2.2)]⟩) (fun hb=>?_) fun hb=>?_))
 replace h:=iteT hb h
 refine z6 4 fun τ hτ=>?_
 obtain rfl:=osi h
 exact zG hτ
 replace h:=iteF hb h
 refine zA 1 ?_
 obtain ⟨b473,hb473,h⟩:=bindS h
 refine evs_inv (x:=s325.2.2.1) (r:=b473) ifc_ (by kernel_rfl) (inv_pc hb473 (fun n h=>W.cut_pieceNo_solid_k_ok h) (fun h=>W.cut_nothing_solid_k_ok h)) (z6 2 fun τ hτ=>?_)
 obtain rfl:=osi h
 exact zG hτ
 refine zE hτ ⟨[(0,sI ends),(1,.fn 107 [(.vptr [(vS sides_0_0),(vS sides_0_1),(vI sides_0_2),(vI sides_0_3),(vI sides_0_4),(vI sides_0_5),(s_Rect sides_0_6),(s_Rect sides_0_7),(s_Piece sides_0_8)] 0),(.vptr [(vI sides_1_0)] 0)]),(2,.fn 109 [(.vptr [(vI line_0_0)] 0)]),(7,ro 500000 74),(8,vI s325.1),(9,vF 198 194 s325.2.1),(10,vF 198 194 s325.2.2.1),(12,vI x447),(13,vF 198 194 j450.1),(14,vF 198 194 j450.2),(19,sI ends),(20,vI (ends.length : Int)),(21,vI s325.2.2.2.1),(59,vB j471)],[(500000,w_EdgeT 74 s325.2.2.2.2)]⟩ (zI j471 (fun hb=>?_) fun hb=>?_)
 replace h:=iteT hb h
 refine zD (zA 4 ?_)
 obtain ⟨r479,hr479,h⟩:=bindS h
 refine evs_callS [] [(0,700200)] [] (by kernel_rfl) (W.cut_edges_2_k_ok hr479) (by kernel_rfl) (by kernel_rfl) (.inl rfl) (zA 1 ?_)
 obtain ⟨r480,hr480,h⟩:=bindS h
 refine evs_callP [] (by kernel_rfl) (W.cut_number_k_ok hr480) (by kernel_rfl) (.inl rfl) (by kernel_rfl) (zA 1 ?_)
 obtain ⟨r481,hr481,h⟩:=bindS h
 refine evs_callP [] (by kernel_rfl) (W.cut_number_k_ok hr481) (by kernel_rfl) (.inl rfl) (by kernel_rfl) ?_
 obtain ⟨r482,hr482,h⟩:=bindS h
 refine evs_callS [] [(0,700450)] [] (by kernel_rfl) (W.cut_edge_k_ok hr482) (by kernel_rfl) (by kernel_rfl) (.inl rfl) (zA 1 ?_)
 obtain ⟨l483,hl483,h⟩:=bindS h
 refine evs_op (st_app (c:=c_EdgeT) (l:=s325.2.2.2.2) (l2:=[(EdgeT.mk (Segment.mk r482.1.Line.X1 r482.1.Line.Y1 r482.1.Line.X2 r482.1.Line.Y2) r482.1.A r482.1.B)]) (x:=(s_EdgeT [(EdgeT.mk (Segment.mk r482.1.Line.X1 r482.1.Line.Y1 r482.1.Line.X2 r482.1.Line.Y2) r482.1.A r482.1.B)])) (g:=500000) (e:=74) (sz:=6) (d:=71) (by kernel_rfl) (by kernel_rfl) (by kernel_rfl) (by kernel_rfl) (fun _=>rfl) rfl hl483) (z6 1 fun τ hτ=>?_)
 exact jk_normal l483 h hτ (here (by kernel_rfl))
 replace h:=iteF hb h
 refine zM fun τ hτ=>?_
 exact jk_normal s325.2.2.2.2 h hτ (here (by kernel_rfl))
 refine z7 (zA 3 (evs_op (st_len (c:=cI) (l:=ends) (x:=(sI ends)) (by kernel_rfl) (by kernel_rfl)) ?_))
 refine z1 1 ⟨[(0,sI ends),(1,.fn 107 [(.vptr [(vS sides_0_0),(vS sides_0_1),(vI sides_0_2),(vI sides_0_3),(vI sides_0_4),(vI sides_0_5),(s_Rect sides_0_6),(s_Rect sides_0_7),(s_Piece sides_0_8)] 0),(.vptr [(vI sides_1_0)] 0)]),(2,.fn 109 [(.vptr [(vI line_0_0)] 0)]),(7,ro 500000 74),(8,vI s325.1),(9,vF 198 194 s325.2.1),(10,vF 198 194 s325.2.2.1),(12,vI x447),(13,vF 198 194 none),(14,vF 198 194 none),(19,sI ends),(20,vI (ends.length : Int)),(21,vI s325.2.2.2.1),(34,vB (decide ((iadd s325.2.2.2.1 1) < (ends.length : Int))))],[(500000,w_EdgeT 74 s325.2.2.2.2)]⟩ (zI (decide ((iadd s325.2.2.2.1 1) < (ends.length : Int))) (fun hb=>?_) fun hb=>?_)
 replace h:=iteT hb h
 refine zD (zA 2 ?_)
 obtain ⟨r485,hr485,h⟩:=bindS h
 refine evs_callP [] (by kernel_rfl) (W.cut_edges_1_k_ok hr485) (by kernel_rfl) (.inl rfl) (by kernel_rfl) (z6 5 fun τ hτ=>?_)
 exact jk_normal (r485.1,r485.2) h hτ (here (by kernel_rfl))
 replace h:=iteF hb h
 refine zM fun τ hτ=>?_
 exact jk_normal (none,none) h hτ (here (by kernel_rfl))
 replace h:=iteF hb h
 refine zL 0 fun τ hτ=>?_
 refine th_exit ?_
 obtain rfl:=osi h
 exact zF hτ
 intro x
 rfl
 intro τ hτ
 refine zQ (zE hτ ⟨[(7,ro 500000 74)],[(500000,w_EdgeT 74 x486)]⟩ (z8 2 ⟨[(6,ro 500000 74)],[(500000,w_EdgeT 74 x486)]⟩ fun τ hτ=>?_))
 obtain rfl:=osi h
 exact rk_ret hτ [(6,ro 0 74)] (subR_prep [] [(500000,0)] (by kernel_rfl) rfl rfl (by kernel_rfl)) (by kernel_rfl)
theorem W.cut_edges_3_k_ok {y : Int} {a_0 : ByteArray} {a_1 : ByteArray} {a_2 : Int} {a_3 : Int} {a_4 : Int} {a_5 : Int} {a_6 : (List Rect)} {a_7 : (List Rect)} {a_8 : (List Piece)} {a2_0 : Int} {r : (Option Int) × (Option Int)} (h : cut_edges_3_k y a_0 a_1 a_2 a_3 a_4 a_5 a_6 a_7 a_8 a2_0 = some r) : PC G.P 110 [(vI y),(.vptr [(vS a_0),(vS a_1),(vI a_2),(vI a_3),(vI a_4),(vI a_5),(.sl (List.map c_Rect a_6)),(.sl (List.map c_Rect a_7)),(.sl (List.map c_Piece a_8))] 0),(.vptr [(vI a2_0)] 0)] [] (.tup [(vF 198 194 r.1),(vF 198 194 r.2)]) []:=by
 refine zU G Tryz.func110 (zK ⟨[(0,vI y),(1,.vptr [(vS a_0),(vS a_1),(vI a_2),(vI a_3),(vI a_4),(vI a_5),(s_Rect a_6),(s_Rect a_7),(s_Piece a_8)] 0),(2,.vptr [(vI a2_0)] 0)],[]⟩ (z3 2 ⟨[(0,vI y),(1,.vptr [(vS a_0),(vS a_1),(vI a_2),(vI a_3),(vI a_4),(vI a_5),(s_Rect a_6),(s_Rect a_7),(s_Piece a_8)] 0),(2,.vptr [(vI a2_0)] 0)],[]⟩ ?_))
 refine zB (sem_drawN [] [] [] [] [] 8 (by kernel_rfl) (by kernel_rfl) (by kernel_rfl) (evd_run 3 (by kernel_rfl) ?_))
 obtain ⟨r5,hr5,h⟩:=bindS h
 refine evd_callS [] [] (by kernel_rfl) (by kernel_rfl) (W.cut_at_k_ok hr5) (by kernel_rfl) (.inl rfl) (by kernel_rfl) (by kernel_rfl) (evd_run 4 (by kernel_rfl) (evd_end (by kernel_rfl) ?_))
 obtain ⟨r6,hr6,h⟩:=bindS h
 refine evo_callP [] (by kernel_rfl) (W.cut_at_k_ok hr6) (by kernel_rfl) (.inl rfl) (by kernel_rfl) (evo_run 2 (by kernel_rfl) (zO fun τ hτ=>?_))
 refine zE hτ ⟨[(4,vF 198 194 r5),(5,vF 198 194 r6)],[]⟩ (zN fun τ hτ=>?_)
 obtain rfl:=osi h
 exact zV hτ [(4,vF 198 194 r5),(5,vF 198 194 r6)]
theorem W.cut_edges_4_k_ok {from0 : Int} {to1 : Int} {a_0 : Int} {r : Segment} (h : cut_edges_4_k from0 to1 a_0 = some r) : PC G.P 111 [(vI from0),(vI to1),(.vptr [(vI a_0)] 0)] [] (.agg (c_Segment r)) [(0,.box [(vI a_0),(vI from0),(vI a_0),(vI to1)])]:=by
 refine zU G Tryz.func111 (zK ⟨[(0,vI from0),(1,vI to1),(2,.vptr [(vI a_0)] 0)],[]⟩ (z3 1 ⟨[(0,vI from0),(1,vI to1),(2,.vptr [(vI a_0)] 0),(5,.ptr 5 0)],[(5,.box [(vI 0),(vI 0),(vI 0),(vI 0)])]⟩ ?_))
 refine z8 6 ⟨[(5,.ptr 5 0)],[(5,.box [(vI a_0),(vI from0),(vI a_0),(vI to1)])]⟩ fun τ hτ=>?_
 obtain rfl:=osi h
 exact rk_ret hτ [(5,.ptr 0 0)] (subR_prep [] [(5,0)] (by kernel_rfl) rfl rfl (by kernel_rfl)) (by kernel_rfl)
theorem W.cut_along__cut_edges_3__cut_edges_4_k_ok {ends : (List Int)} {sides_0_0 : ByteArray} {sides_0_1 : ByteArray} {sides_0_2 : Int} {sides_0_3 : Int} {sides_0_4 : Int} {sides_0_5 : Int} {sides_0_6 : (List Rect)} {sides_0_7 : (List Rect)} {sides_0_8 : (List Piece)} {sides_1_0 : Int} {line_0_0 : Int} {r : (List EdgeT)} (h : cut_along__cut_edges_3__cut_edges_4_k ends sides_0_0 sides_0_1 sides_0_2 sides_0_3 sides_0_4 sides_0_5 sides_0_6 sides_0_7 sides_0_8 sides_1_0 line_0_0 = some r) : PC G.P 106 [(.sl (List.map cI ends)),(.fn 110 [(.vptr [(vS sides_0_0),(vS sides_0_1),(vI sides_0_2),(vI sides_0_3),(vI sides_0_4),(vI sides_0_5),(.sl (List.map c_Rect sides_0_6)),(.sl (List.map c_Rect sides_0_7)),(.sl (List.map c_Piece sides_0_8))] 0),(.vptr [(vI sides_1_0)] 0)]),(.fn 111 [(.vptr [(vI line_0_0)] 0)])] [] (.row (.top 0) 74) [(0,.row 74 [] (List.map c_EdgeT r))]:=by
 refine zU G Tryz.func106 (zK ⟨[(0,sI ends),(1,.fn 110 [(.vptr [(vS sides_0_0),(vS sides_0_1),(vI sides_0_2),(vI sides_0_3),(vI sides_0_4),(vI sides_0_5),(s_Rect sides_0_6),(s_Rect sides_0_7),(s_Piece sides_0_8)] 0),(.vptr [(vI sides_1_0)] 0)]),(2,.fn 111 [(.vptr [(vI line_0_0)] 0)])],[]⟩ (z3 1 ⟨[(0,sI ends),(1,.fn 110 [(.vptr [(vS sides_0_0),(vS sides_0_1),(vI sides_0_2),(vI sides_0_3),(vI sides_0_4),(vI sides_0_5),(s_Rect sides_0_6),(s_Rect sides_0_7),(s_Piece sides_0_8)] 0),(.vptr [(vI sides_1_0)] 0)]),(2,.fn 111 [(.vptr [(vI line_0_0)] 0)])],[]⟩ ?_))
 refine z3 1 ⟨[(0,sI ends),(1,.fn 110 [(.vptr [(vS sides_0_0),(vS sides_0_1),(vI sides_0_2),(vI sides_0_3),(vI sides_0_4),(vI sides_0_5),(s_Rect sides_0_6),(s_Rect sides_0_7),(s_Piece sides_0_8)] 0),(.vptr [(vI sides_1_0)] 0)]),(2,.fn 111 [(.vptr [(vI line_0_0)] 0)]),(7,ro 7 74)],[(7,w_EdgeT 74 [])]⟩ (z3 1 ⟨[(0,sI ends),(1,.fn 110 [(.vptr [(vS sides_0_0),(vS sides_0_1),(vI sides_0_2),(vI sides_0_3),(vI sides_0_4),(vI sides_0_5),(s_Rect sides_0_6),(s_Rect sides_0_7),(s_Piece sides_0_8)] 0),(.vptr [(vI sides_1_0)] 0)]),(2,.fn 111 [(.vptr [(vI line_0_0)] 0)]),(7,ro 7 74),(8,vI 0)],[(7,w_EdgeT 74 [])]⟩ (z7 ?_))
 refine zA 1 (evs_at (at_mkif (x:=none) ifc_ (by kernel_rfl)) (zA 1 ?_))
 refine evs_at (at_mkif (x:=none) ifc_ (by kernel_rfl)) (z1 2 ⟨[(0,sI ends),(1,.fn 110 [(.vptr [(vS sides_0_0),(vS sides_0_1),(vI sides_0_2),(vI sides_0_3),(vI sides_0_4),(vI sides_0_5),(s_Rect sides_0_6),(s_Rect sides_0_7),(s_Piece sides_0_8)] 0),(.vptr [(vI sides_1_0)] 0)]),(2,.fn 111 [(.vptr [(vI line_0_0)] 0)]),(7,ro 7 74),(8,vI 0),(9,vF 198 194 none),(10,vF 198 194 none)],[(7,w_EdgeT 74 [])]⟩ (zB ?_))
 refine z7 (zA 1 (evs_op (st_len (c:=cI) (l:=ends) (x:=(sI ends)) (by kernel_rfl) (by kernel_rfl)) ?_))
 refine z1 1 ⟨[(0,sI ends),(1,.fn 110 [(.vptr [(vS sides_0_0),(vS sides_0_1),(vI sides_0_2),(vI sides_0_3),(vI sides_0_4),(vI sides_0_5),(s_Rect sides_0_6),(s_Rect sides_0_7),(s_Piece sides_0_8)] 0),(.vptr [(vI sides_1_0)] 0)]),(2,.fn 111 [(.vptr [(vI line_0_0)] 0)]),(7,ro 7 74),(8,vI 0),(9,vF 198 194 none),(10,vF 198 194 none),(19,sI ends),(20,vI (ends.length : Int)),(21,vI 0)],[(7,w_EdgeT 74 [])]⟩ (zC ?_)
 obtain ⟨x486,hx486,h⟩:=bindS h
 refine sem_loopS (fun (s325 : Int × (Option Int) × (Option Int) × Int × (List EdgeT))=>⟨[(0,sI ends),(1,.fn 110 [(.vptr [(vS sides_0_0),(vS sides_0_1),(vI sides_0_2),(vI sides_0_3),(vI sides_0_4),(vI sides_0_5),(s_Rect sides_0_6),(s_Rect sides_0_7),(s_Piece sides_0_8)] 0),(.vptr [(vI sides_1_0)] 0)]),(2,.fn 111 [(.vptr [(vI line_0_0)] 0)]),(7,ro 500000 74),(8,vI s325.1),(9,vF 198 194 s325.2.1),(10,vF 198 194 s325.2.2.1),(19,sI ends),(20,vI (ends.length : Int)),(21,vI s325.2.2.2.1)],[(500000,w_EdgeT 74 s325.2.2.2.2)]⟩) (fun (x486 : (List EdgeT))=>(.exit 0,⟨[(7,ro 500000 74)],[(500000,w_EdgeT 74 x486)]⟩)) (cut_along__cut_edges_3__cut_edges_4_k_l3 ends sides_0_0 sides_0_1 sides_0_2 sides_0_3 sides_0_4 sides_0_5 sides_0_6 sides_0_7 sides_0_8 sides_1_0 line_0_0) (0,none,none,0,[]) x486 (by kernel_rfl) (subR_prep [] [(7,500000)] (by kernel_rfl) rfl rfl (by kernel_rfl)) (iter_loop hx486) ?_ ?_ ?_
 intro s325 r h
 refine z3 1 ⟨[(0,sI ends),(1,.fn 110 [(.vptr [(vS sides_0_0),(vS sides_0_1),(vI sides_0_2),(vI sides_0_3),(vI sides_0_4),(vI sides_0_5),(s_Rect sides_0_6),(s_Rect sides_0_7),(s_Piece sides_0_8)] 0),(.vptr [(vI sides_1_0)] 0)]),(2,.fn 111 [(.vptr [(vI line_0_0)] 0)]),(7,ro 500000 74),(8,vI s325.1),(9,vF 198 194 s325.2.1),(10,vF 198 194 s325.2.2.1),(19,sI ends),(20,vI (ends.length : Int)),(21,vI s325.2.2.2.1),(22,vB (decide (s325.2.2.2.1 < (ends.length : Int))))],[(500000,w_EdgeT 74 s325.2.2.2.2)]⟩ (zB (zI (decide (s325.2.2.2.1 < (ends.length : Int))) (fun hb=>?_) fun hb=>?_))
 replace h:=iteT hb h
 refine z4 ⟨[(0,sI ends),(1,.fn 110 [(.vptr [(vS sides_0_0),(vS sides_0_1),(vI sides_0_2),(vI sides_0_3),(vI sides_0_4),(vI sides_0_5),(s_Rect sides_0_6),(s_Rect sides_0_7),(s_Piece sides_0_8)] 0),(.vptr [(vI sides_1_0)] 0)]),(2,.fn 111 [(.vptr [(vI line_0_0)] 0)]),(7,ro 500000 74),(8,vI s325.1),(9,vF 198 194 s325.2.1),(10,vF 198 194 s325.2.2.1),(19,sI ends),(20,vI (ends.length : Int)),(21,vI s325.2.2.2.1)],[(500000,w_EdgeT 74 s325.2.2.2.2)]⟩ (zB (zC ?_))
 refine z7 (zA 1 ?_)
 obtain ⟨x447,hx447,h⟩:=bindS h
 refine evs_op (st_idx (c:=cI) (l:=ends) (i:=s325.2.2.2.1) (kd:=.i64) (sz:=1) (by kernel_rfl) hx447 rfl) (z1 3 ⟨[(0,sI ends),(1,.fn 110 [(.vptr [(vS sides_0_0),(vS sides_0_1),(vI sides_0_2),(vI sides_0_3),(vI sides_0_4),(vI sides_0_5),(s_Rect sides_0_6),(s_Rect sides_0_7),(s_Piece sides_0_8)] 0),(.vptr [(vI sides_1_0)] 0)]),(2,.fn 111 [(.vptr [(vI line_0_0)] 0)]),(7,ro 500000 74),(8,vI s325.1),(9,vF 198 194 s325.2.1),(10,vF 198 194 s325.2.2.1),(11,vI s325.2.2.2.1),(12,vI x447),(19,sI ends),(20,vI (ends.length : Int)),(21,vI s325.2.2.2.1)],[(500000,w_EdgeT 74 s325.2.2.2.2)]⟩ (z7 ?_))
 refine zA 1 (evs_at (at_mkif (x:=none) ifc_ (by kernel_rfl)) (zA 1 ?_))
 refine evs_at (at_mkif (x:=none) ifc_ (by kernel_rfl)) (z1 2 ⟨[(0,sI ends),(1,.fn 110 [(.vptr [(vS sides_0_0),(vS sides_0_1),(vI sides_0_2),(vI sides_0_3),(vI sides_0_4),(vI sides_0_5),(s_Rect sides_0_6),(s_Rect sides_0_7),(s_Piece sides_0_8)] 0),(.vptr [(vI sides_1_0)] 0)]),(2,.fn 111 [(.vptr [(vI line_0_0)] 0)]),(7,ro 500000 74),(8,vI s325.1),(9,vF 198 194 s325.2.1),(10,vF 198 194 s325.2.2.1),(11,vI s325.2.2.2.1),(12,vI x447),(13,vF 198 194 none),(14,vF 198 194 none),(19,sI ends),(20,vI (ends.length : Int)),(21,vI s325.2.2.2.1)],[(500000,w_EdgeT 74 s325.2.2.2.2)]⟩ (sem_seqJ (fun (j450 : (Option Int) × (Option Int))=>⟨[(0,sI ends),(1,.fn 110 [(.vptr [(vS sides_0_0),(vS sides_0_1),(vI sides_0_2),(vI sides_0_3),(vI sides_0_4),(vI sides_0_5),(s_Rect sides_0_6),(s_Rect sides_0_7),(s_Piece sides_0_8)] 0),(.vptr [(vI sides_1_0)] 0)]),(2,.fn 111 [(.vptr [(vI line_0_0)] 0)]),(7,ro 500000 74),(8,vI s325.1),(9,vF 198 194 s325.2.1),(10,vF 198 194 s325.2.2.1),(12,vI x447),(13,vF 198 194 j450.1),(14,vF 198 194 j450.2),(19,sI ends),(20,vI (ends.length : Int)),(21,vI s325.2.2.2.1)],[(500000,w_EdgeT 74 s325.2.2.2.2)]⟩) (cut_along__cut_edges_3__cut_edges_4_k_k2 line_0_0 s325 x447) r (by kernel_rfl) (fun j450 h=>?_) ?_))
 refine zB (zB ?_)
 obtain ⟨j452,hj452,h⟩:=bindS h
 refine zT ⟨[(0,sI ends),(1,.fn 110 [(.vptr [(vS sides_0_0),(vS sides_0_1),(vI sides_0_2),(vI sides_0_3),(vI sides_0_4),(vI sides_0_5),(s_Rect sides_0_6),(s_Rect sides_0_7),(s_Piece sides_0_8)] 0),(.vptr [(vI sides_1_0)] 0)]),(2,.fn 111 [(.vptr [(vI line_0_0)] 0)]),(7,ro 500000 74),(8,vI s325.1),(9,vF 198 194 s325.2.1),(10,vF 198 194 s325.2.2.1),(12,vI x447),(13,vF 198 194 j450.1),(14,vF 198 194 j450.2),(19,sI ends),(20,vI (ends.length : Int)),(21,vI s325.2.2.2.1),(48,vB j452)],[(500000,w_EdgeT 74 s325.2.2.2.2)]⟩ ?_ fun τ hτ=>?_
 replace h:=hj452
 refine zA 2 (evs_at (at_ife (x:=j450.1) (y:=s325.2.1) ifc_ (by kernel_rfl)) (zA 1 ?_))
 refine zS (j450.1 == s325.2.1) (fun b0=>⟨[(0,sI ends),(1,.fn 110 [(.vptr [(vS sides_0_0),(vS sides_0_1),(vI sides_0_2),(vI sides_0_3),(vI sides_0_4),(vI sides_0_5),(s_Rect sides_0_6),(s_Rect sides_0_7),(s_Piece sides_0_8)] 0),(.vptr [(vI sides_1_0)] 0)]),(2,.fn 111 [(.vptr [(vI line_0_0)] 0)]),(7,ro 500000 74),(8,vI s325.1),(9,vF 198 194 s325.2.1),(10,vF 198 194 s325.2.2.1),(12,vI x447),(13,vF 198 194 j450.1),(14,vF 198 194 j450.2),(19,sI ends),(20,vI (ends.length : Int)),(21,vI s325.2.2.2.1),(44,vB b0)],[(500000,w_EdgeT 74 s325.2.2.2.2)]⟩) (fun hb=>?_) fun hb=>?_
 replace h:=iteT hb h
 refine zA 2 (evs_at (at_ife (x:=j450.2) (y:=s325.2.2.1) ifc_ (by kernel_rfl)) (z6 1 fun τ hτ=>?_))
 obtain rfl:=osi h
 exact zG hτ
 replace h:=iteF hb h
 refine z6 4 fun τ hτ=>?_
 obtain rfl:=osi h
 exact zG hτ
 refine zE hτ ⟨[(0,sI ends),(1,.fn 110 [(.vptr [(vS sides_0_0),(vS sides_0_1),(vI sides_0_2),(vI sides_0_3),(vI sides_0_4),(vI sides_0_5),(s_Rect sides_0_6),(s_Rect sides_0_7),(s_Piece sides_0_8)] 0),(.vptr [(vI sides_1_0)] 0)]),(2,.fn 111 [(.vptr [(vI line_0_0)] 0)]),(7,ro 500000 74),(8,vI s325.1),(9,vF 198 194 s325.2.1),(10,vF 198 194 s325.2.2.1),(12,vI x447),(13,vF 198 194 j450.1),(14,vF 198 194 j450.2),(19,sI ends),(20,vI (ends.length : Int)),(21,vI s325.2.2.2.1),(48,vB j452)],[(500000,w_EdgeT 74 s325.2.2.2.2)]⟩ (zI j452 (fun hb=>?_) fun hb=>?_)
 replace h:=iteT hb h
 exact nomatch h
 replace h:=iteF hb h
 refine z4 ⟨[(0,sI ends),(1,.fn 110 [(.vptr [(vS sides_0_0),(vS sides_0_1),(vI sides_0_2),(vI sides_0_3),(vI sides_0_4),(vI sides_0_5),(s_Rect sides_0_6),(s_Rect sides_0_7),(s_Piece sides_0_8)] 0),(.vptr [(vI sides_1_0)] 0)]),(2,.fn 111 [(.vptr [(vI line_0_0)] 0)]),(7,ro 500000 74),(8,vI s325.1),(9,vF 198 194 s325.2.1),(10,vF 198 194 s325.2.2.1),(12,vI x447),(13,vF 198 194 j450.1),(14,vF 198 194 j450.2),(19,sI ends),(20,vI (ends.length : Int)),(21,vI s325.2.2.2.1)],[(500000,w_EdgeT 74 s325.2.2.2.2)]⟩ (sem_seqJ (fun (j468 : (List EdgeT))=>⟨[(0,sI ends),(1,.fn 110 [(.vptr [(vS sides_0_0),(vS sides_0_1),(vI sides_0_2),(vI sides_0_3),(vI sides_0_4),(vI sides_0_5),(s_Rect sides_0_6),(s_Rect sides_0_7),(s_Piece sides_0_8)] 0),(.vptr [(vI sides_1_0)] 0)]),(2,.fn 111 [(.vptr [(vI line_0_0)] 0)]),(7,ro 500000 74),(12,vI x447),(13,vF 198 194 j450.1),(14,vF 198 194 j450.2),(19,sI ends),(20,vI (ends.length : Int)),(21,vI s325.2.2.2.1)],[(500000,w_EdgeT 74 j468)]⟩) (cut_along__cut_edges_3__cut_edges_4_k_k1 s325 x447 j450) r (by kernel_rfl) (fun j468 h=>?_) ?_)
 refine zD (z6 6 fun τ hτ=>?_)
 refine bl_normal (zE hτ ⟨[(0,sI ends),(1,.fn 110 [(.vptr [(vS sides_0_0),(vS sides_0_1),(vI sides_0_2),(vI sides_0_3),(vI sides_0_4),(vI sides_0_5),(s_Rect sides_0_6),(s_Rect sides_0_7),(s_Piece sides_0_8)] 0),(.vptr [(vI sides_1_0)] 0)]),(2,.fn 111 [(.vptr [(vI line_0_0)] 0)]),(7,ro 500000 74),(8,vI x447),(9,vF 198 194 j450.1),(10,vF 198 194 j450.2),(19,sI ends),(20,vI (ends.length : Int)),(21,vI s325.2.2.2.1)],[(500000,w_EdgeT 74 j468)]⟩ (zD ?_))
 refine z6 2 fun τ hτ=>?_
 obtain rfl:=osi h
 exact zH hτ
 refine zB ?_
 obtain ⟨j471,hj471,h⟩:=bindS h
 refine zT ⟨[(0,sI ends),(1,.fn 110 [(.vptr [(vS sides_0_0),(vS sides_0_1),(vI sides_0_2),(vI sides_0_3),(vI sides_0_4),(vI sides_0_5),(s_Rect sides_0_6),(s_Rect sides_0_7),(s_Piece sides_0_8)] 0),(.vptr [(vI sides_1_0)] 0)]),(2,.fn 111 [(.vptr [(vI line_0_0)] 0)]),(7,ro 500000 74),(8,vI s325.1),(9,vF 198 194 s325.2.1),(10,vF 198 194 s325.2.2.1),(12,vI x447),(13,vF 198 194 j450.1),(14,vF 198 194 j450.2),(19,sI ends),(20,vI (ends.length : Int)),(21,vI s325.2.2.2.1),(59,vB j471)],[(500000,w_EdgeT 74 s325.2.2.2.2)]⟩ ?_ fun τ hτ=>?_
 replace h:=hj471
 refine zA 2 (evs_at (at_ifn (x:=s325.2.1) (y:=s325.2.2.1) ifc_ (by kernel_rfl)) (zA 1 ?_))
 refine zS (s325.2.1 == s325.2.2.1) (fun b0=>⟨[(0,sI ends),(1,.fn 110 [(.vptr [(vS sides_0_0),(vS sides_0_1),(vI sides_0_2),(vI sides_0_3),(vI sides_0_4),(vI sides_0_5),(s_Rect sides_0_6),(s_Rect sides_0_7),(s_Piece sides_0_8)] 0),(.vptr [(vI sides_1_0)] 0)]),(2,.fn 111 [(.vptr [(vI line_0_0)] 0)]),(7,ro 500000 74),(8,vI s325.1),(9,vF 198 194 s325.2.1),(10,vF 198 194 s325.2.2.1),(12,vI x447),(13,vF 198 194 j450.1),(14,vF 198 194 j450.2),(19,sI ends),(20,vI (ends.length : Int)),(21,vI s325.2.2.2.1),(52,vB (!b0))],[(500000,w_EdgeT 74 s325.2.2.2.2)]⟩) (fun hb=>?_) fun hb=>?_
 replace h:=iteT hb h
 refine z6 7 fun τ hτ=>?_
 obtain rfl:=osi h
 exact zG hτ
 replace h:=iteF hb h
 refine zA 1 ?_
 obtain ⟨b472,hb472,h⟩:=bindS h
 refine evs_inv (x:=s325.2.1) (r:=b472) ifc_ (by kernel_rfl) (inv_pc hb472 (fun n h=>W.cut_pieceNo_solid_k_ok h) (fun h=>W.cut_nothing_solid_k_ok h)) (zA 1 (zS b472 (fun b0=>⟨[(0,sI ends),(1,.fn 110 [(.vptr [(vS sides_0_0),(vS sides_0_1),(vI sides_0_2),(vI sides_0_3),(vI sides_0_4),(vI sides_0_5),(s_Rect sides_0_6),(s_Rect sides_0_7),(s_Piece sides_0_8)] 0),(.vptr [(vI sides_1_0)] 0)]),(2,.fn 111 [(.vptr [(vI line_0_0)] 0)]),(7,ro 500000 74),(8,vI s325.1),(9,vF 198 194 s325.2.1),(10,vF 198 194 s325.2.2.1),(12,vI x447),(13,vF 198 194 j450.1),(14,vF 198 194 j450.2),(19,sI ends),(20,vI (ends.length : Int)),(21,vI s325.2.2.2.1),(52,vB true),(55,vB b0)],[(500000,w_EdgeT 74 s325.2.2.2.2)]⟩) (fun hb=>?_) fun hb=>?_))
 replace h:=iteT hb h
 refine z6 4 fun τ hτ=>?_
 obtain rfl:=osi h
 exact zG hτ
 replace h:=iteF hb h
 refine zA 1 ?_
 obtain ⟨b473,hb473,h⟩:=bindS h
 refine evs_inv (x:=s325.2.2.1) (r:=b473) ifc_ (by kernel_rfl) (inv_pc hb473 (fun n h=>W.cut_pieceNo_solid_k_ok h) (fun h=>W.cut_nothing_solid_k_ok h)) (z6 2 fun τ hτ=>?_)
 obtain rfl:=osi h
 exact zG hτ
 refine zE hτ ⟨[(0,sI ends),(1,.fn 110 [(.vptr [(vS sides_0_0),(vS sides_0_1),(vI sides_0_2),(vI sides_0_3),(vI sides_0_4),(vI sides_0_5),(s_Rect sides_0_6),(s_Rect sides_0_7),(s_Piece sides_0_8)] 0),(.vptr [(vI sides_1_0)] 0)]),(2,.fn 111 [(.vptr [(vI line_0_0)] 0)]),(7,ro 500000 74),(8,vI s325.1),(9,vF 198 194 s325.2.1),(10,vF 198 194 s325.2.2.1),(12,vI x447),(13,vF 198 194 j450.1),(14,vF 198 194 j450.2),(19,sI ends),(20,vI (ends.length : Int)),(21,vI s325.2.2.2.1),(59,vB j471)],[(500000,w_EdgeT 74 s325.2.2.2.2)]⟩ (zI j471 (fun hb=>?_) fun hb=>?_)
 replace h:=iteT hb h
 refine zD (zA 4 ?_)
 obtain ⟨r479,hr479,h⟩:=bindS h
 refine evs_callS [] [(0,700200)] [] (by kernel_rfl) (W.cut_edges_4_k_ok hr479) (by kernel_rfl) (by kernel_rfl) (.inl rfl) (zA 1 ?_)
 obtain ⟨r480,hr480,h⟩:=bindS h
 refine evs_callP [] (by kernel_rfl) (W.cut_number_k_ok hr480) (by kernel_rfl) (.inl rfl) (by kernel_rfl) (zA 1 ?_)
 obtain ⟨r481,hr481,h⟩:=bindS h
 refine evs_callP [] (by kernel_rfl) (W.cut_number_k_ok hr481) (by kernel_rfl) (.inl rfl) (by kernel_rfl) ?_
 obtain ⟨r482,hr482,h⟩:=bindS h
 refine evs_callS [] [(0,700450)] [] (by kernel_rfl) (W.cut_edge_k_ok hr482) (by kernel_rfl) (by kernel_rfl) (.inl rfl) (zA 1 ?_)
 obtain ⟨l483,hl483,h⟩:=bindS h
 refine evs_op (st_app (c:=c_EdgeT) (l:=s325.2.2.2.2) (l2:=[(EdgeT.mk (Segment.mk r482.1.Line.X1 r482.1.Line.Y1 r482.1.Line.X2 r482.1.Line.Y2) r482.1.A r482.1.B)]) (x:=(s_EdgeT [(EdgeT.mk (Segment.mk r482.1.Line.X1 r482.1.Line.Y1 r482.1.Line.X2 r482.1.Line.Y2) r482.1.A r482.1.B)])) (g:=500000) (e:=74) (sz:=6) (d:=71) (by kernel_rfl) (by kernel_rfl) (by kernel_rfl) (by kernel_rfl) (fun _=>rfl) rfl hl483) (z6 1 fun τ hτ=>?_)
 exact jk_normal l483 h hτ (here (by kernel_rfl))
 replace h:=iteF hb h
 refine zM fun τ hτ=>?_
 exact jk_normal s325.2.2.2.2 h hτ (here (by kernel_rfl))
 refine z7 (zA 3 (evs_op (st_len (c:=cI) (l:=ends) (x:=(sI ends)) (by kernel_rfl) (by kernel_rfl)) ?_))
 refine z1 1 ⟨[(0,sI ends),(1,.fn 110 [(.vptr [(vS sides_0_0),(vS sides_0_1),(vI sides_0_2),(vI sides_0_3),(vI sides_0_4),(vI sides_0_5),(s_Rect sides_0_6),(s_Rect sides_0_7),(s_Piece sides_0_8)] 0),(.vptr [(vI sides_1_0)] 0)]),(2,.fn 111 [(.vptr [(vI line_0_0)] 0)]),(7,ro 500000 74),(8,vI s325.1),(9,vF 198 194 s325.2.1),(10,vF 198 194 s325.2.2.1),(12,vI x447),(13,vF 198 194 none),(14,vF 198 194 none),(19,sI ends),(20,vI (ends.length : Int)),(21,vI s325.2.2.2.1),(34,vB (decide ((iadd s325.2.2.2.1 1) < (ends.length : Int))))],[(500000,w_EdgeT 74 s325.2.2.2.2)]⟩ (zI (decide ((iadd s325.2.2.2.1 1) < (ends.length : Int))) (fun hb=>?_) fun hb=>?_)
 replace h:=iteT hb h
 refine zD (zA 2 ?_)
 obtain ⟨r485,hr485,h⟩:=bindS h
 refine evs_callP [] (by kernel_rfl) (W.cut_edges_3_k_ok hr485) (by kernel_rfl) (.inl rfl) (by kernel_rfl) (z6 5 fun τ hτ=>?_)
 exact jk_normal (r485.1,r485.2) h hτ (here (by kernel_rfl))
 replace h:=iteF hb h
 refine zM fun τ hτ=>?_
 exact jk_normal (none,none) h hτ (here (by kernel_rfl))
 replace h:=iteF hb h
 refine zL 0 fun τ hτ=>?_
 refine th_exit ?_
 obtain rfl:=osi h
 exact zF hτ
 intro x
 rfl
 intro τ hτ
 refine zQ (zE hτ ⟨[(7,ro 500000 74)],[(500000,w_EdgeT 74 x486)]⟩ (z8 2 ⟨[(6,ro 500000 74)],[(500000,w_EdgeT 74 x486)]⟩ fun τ hτ=>?_))
 obtain rfl:=osi h
 exact rk_ret hτ [(6,ro 0 74)] (subR_prep [] [(500000,0)] (by kernel_rfl) rfl rfl (by kernel_rfl)) (by kernel_rfl)
theorem W.cut_edges_k_ok {l : LayoutT} {r : (List EdgeT)} (h : cut_edges_k l = some r) : PC G.P 49 [(.agg (c_LayoutT l))] [] (.row (.top 0) 74) [(0,.row 74 [] (List.map c_EdgeT r))]:=by
 refine zU G Tryz.func49 (zK ⟨[(0,.agg (c_LayoutT l))],[]⟩ (z3 2 ⟨[(1,.ptr 1 0)],[(1,.box (c_LayoutT l))]⟩ ?_))
 refine z3 2 ⟨[(1,.ptr 1 0),(3,ro 3 3),(4,ro 4 3)],[(1,.box (c_LayoutT l)),(3,wI 3 []),(4,wI 3 [])]⟩ (zB (z7 ?_))
 refine zA 2 (evs_op (st_len (c:=c_Piece) (l:=l.Pieces) (x:=(s_Piece l.Pieces)) (by kernel_rfl) (by kernel_rfl)) (z1 1 ⟨[(1,.ptr 1 0),(3,ro 3 3),(4,ro 4 3),(15,s_Piece l.Pieces),(16,vI (l.Pieces.length : Int)),(17,vI 0)],[(1,.box (c_LayoutT l)),(3,wI 3 []),(4,wI 3 [])]⟩ ?_))
 refine zC ?_
 obtain ⟨x498,hx498,h⟩:=bindS h
 refine sem_loopS (fun (s333 : Int × (List Int) × (List Int))=>⟨[(1,.ptr 500000 0),(3,ro 500001 3),(4,ro 500002 3),(15,s_Piece l.Pieces),(16,vI (l.Pieces.length : Int)),(17,vI s333.1)],[(500000,.box (c_LayoutT l)),(500001,wI 3 s333.2.1),(500002,wI 3 s333.2.2)]⟩) (fun (x498 : (List Int) × (List Int))=>(.exit 0,⟨[(1,.ptr 500000 0),(3,ro 500001 3),(4,ro 500002 3)],[(500000,.box (c_LayoutT l)),(500001,wI 3 x498.1),(500002,wI 3 x498.2)]⟩)) (cut_edges_k_l2 l) (0,[],[]) x498 (by kernel_rfl) (subR_prep [] [(1,500000),(3,500001),(4,500002)] (by kernel_rfl) rfl rfl (by kernel_rfl)) (iter_loop hx498) ?_ ?_ ?_
 intro s333 r h
 refine z3 1 ⟨[(1,.ptr 500000 0),(3,ro 500001 3),(4,ro 500002 3),(15,s_Piece l.Pieces),(16,vI (l.Pieces.length : Int)),(17,vI s333.1),(18,vB (decide (s333.1 < (l.Pieces.length : Int))))],[(500000,.box (c_LayoutT l)),(500001,wI 3 s333.2.1),(500002,wI 3 s333.2.2)]⟩ (zB (zI (decide (s333.1 < (l.Pieces.length : Int))) (fun hb=>?_) fun hb=>?_))
 replace h:=iteT hb h
 refine z4 ⟨[(1,.ptr 500000 0),(3,ro 500001 3),(4,ro 500002 3),(15,s_Piece l.Pieces),(16,vI (l.Pieces.length : Int)),(17,vI s333.1)],[(500000,.box (c_LayoutT l)),(500001,wI 3 s333.2.1),(500002,wI 3 s333.2.2)]⟩ (zB (zC ?_))
 refine z7 ?_
 obtain ⟨x458,hx458,h⟩:=bindS h
 refine evs_op (st_idx (c:=c_Piece) (l:=l.Pieces) (i:=s333.1) (kd:=.i64) (sz:=7) (by kernel_rfl) hx458 rfl) (z1 3 ⟨[(1,.ptr 500000 0),(3,ro 500001 3),(4,ro 500002 3),(6,.ptr 6 0),(15,s_Piece l.Pieces),(16,vI (l.Pieces.length : Int)),(17,vI s333.1)],[(6,.box (c_Piece x458)),(500000,.box (c_LayoutT l)),(500001,wI 3 s333.2.1),(500002,wI 3 s333.2.2)]⟩ (z7 ?_))
 refine zA 2 (evs_op (st_len (c:=c_Rect) (l:=x458.Rects) (x:=(s_Rect x458.Rects)) (by kernel_rfl) (by kernel_rfl)) (z1 1 ⟨[(1,.ptr 500000 0),(3,ro 500001 3),(4,ro 500002 3),(15,s_Piece l.Pieces),(16,vI (l.Pieces.length : Int)),(17,vI s333.1),(22,s_Rect x458.Rects),(23,vI (x458.Rects.length : Int)),(24,vI 0)],[(500000,.box (c_LayoutT l)),(500001,wI 3 s333.2.1),(500002,wI 3 s333.2.2)]⟩ ?_))
 refine zC ?_
 obtain ⟨x497,hx497,h⟩:=bindS h
 refine sem_loopS (fun (s472 : Int × (List Int) × (List Int))=>⟨[(1,.ptr 500000 0),(3,ro 500001 3),(4,ro 500002 3),(15,s_Piece l.Pieces),(16,vI (l.Pieces.length : Int)),(17,vI s333.1),(22,s_Rect x458.Rects),(23,vI (x458.Rects.length : Int)),(24,vI s472.1)],[(500000,.box (c_LayoutT l)),(500001,wI 3 s472.2.1),(500002,wI 3 s472.2.2)]⟩) (fun (x497 : (List Int) × (List Int))=>(.exit 2,⟨[(1,.ptr 500000 0),(3,ro 500001 3),(4,ro 500002 3),(15,s_Piece l.Pieces),(16,vI (l.Pieces.length : Int)),(17,vI s333.1)],[(500000,.box (c_LayoutT l)),(500001,wI 3 x497.1),(500002,wI 3 x497.2)]⟩)) (cut_edges_k_l1 x458) (0,s333.2.1,s333.2.2) x497 (by kernel_rfl) (here (by kernel_rfl)) (iter_loop hx497) ?_ ?_ ?_
 intro s472 r h
 refine z3 1 ⟨[(1,.ptr 500000 0),(3,ro 500001 3),(4,ro 500002 3),(15,s_Piece l.Pieces),(16,vI (l.Pieces.length : Int)),(17,vI s333.1),(22,s_Rect x458.Rects),(23,vI (x458.Rects.length : Int)),(24,vI s472.1),(25,vB (decide (s472.1 < (x458.Rects.length : Int))))],[(500000,.box (c_LayoutT l)),(500001,wI 3 s472.2.1),(500002,wI 3 s472.2.2)]⟩ (zB (zI (decide (s472.1 < (x458.Rects.length : Int))) (fun hb=>?_) fun hb=>?_))
 replace h:=iteT hb h
 refine z4 ⟨[(1,.ptr 500000 0),(3,ro 500001 3),(4,ro 500002 3),(15,s_Piece l.Pieces),(16,vI (l.Pieces.length : Int)),(17,vI s333.1),(22,s_Rect x458.Rects),(23,vI (x458.Rects.length : Int)),(24,vI s472.1)],[(500000,.box (c_LayoutT l)),(500001,wI 3 s472.2.1),(500002,wI 3 s472.2.2)]⟩ (zB (zC ?_))
 refine z7 ?_
 obtain ⟨x492,hx492,h⟩:=bindS h
 refine evs_op (st_idx (c:=c_Rect) (l:=x458.Rects) (i:=s472.1) (kd:=.i64) (sz:=4) (by kernel_rfl) hx492 rfl) (z1 3 ⟨[(1,.ptr 500000 0),(3,ro 500001 3),(4,ro 500002 3),(8,.ptr 8 0),(15,s_Piece l.Pieces),(16,vI (l.Pieces.length : Int)),(17,vI s333.1),(22,s_Rect x458.Rects),(23,vI (x458.Rects.length : Int)),(24,vI s472.1)],[(8,.box (c_Rect x492)),(500000,.box (c_LayoutT l)),(500001,wI 3 s472.2.1),(500002,wI 3 s472.2.2)]⟩ (z7 ?_))
 refine zA 9 ?_
 obtain ⟨l494,hl494,h⟩:=bindS h
 refine evs_op (st_app (c:=cI) (l:=s472.2.1) (l2:=[x492.X,(iadd x492.X x492.W)]) (x:=(sI [x492.X,(iadd x492.X x492.W)])) (g:=500001) (e:=3) (sz:=1) (d:=37) (by kernel_rfl) (by kernel_rfl) (by kernel_rfl) (by kernel_rfl) (fun _=>rfl) rfl hl494) (z1 1 ⟨[(1,.ptr 500000 0),(3,ro 500001 3),(4,ro 500002 3),(8,.ptr 8 0),(15,s_Piece l.Pieces),(16,vI (l.Pieces.length : Int)),(17,vI s333.1),(22,s_Rect x458.Rects),(23,vI (x458.Rects.length : Int)),(24,vI s472.1)],[(8,.box (c_Rect x492)),(500000,.box (c_LayoutT l)),(500001,wI 3 l494),(500002,wI 3 s472.2.2)]⟩ (zD ?_))
 refine zA 9 ?_
 obtain ⟨l496,hl496,h⟩:=bindS h
 refine evs_op (st_app (c:=cI) (l:=s472.2.2) (l2:=[x492.Y,(iadd x492.Y x492.H)]) (x:=(sI [x492.Y,(iadd x492.Y x492.H)])) (g:=500002) (e:=3) (sz:=1) (d:=47) (by kernel_rfl) (by kernel_rfl) (by kernel_rfl) (by kernel_rfl) (fun _=>rfl) rfl hl496) (z6 1 fun τ hτ=>?_)
 refine bl_normal (zE hτ ⟨[(1,.ptr 500000 0),(3,ro 500001 3),(4,ro 500002 3),(15,s_Piece l.Pieces),(16,vI (l.Pieces.length : Int)),(17,vI s333.1),(22,s_Rect x458.Rects),(23,vI (x458.Rects.length : Int)),(24,vI s472.1)],[(500000,.box (c_LayoutT l)),(500001,wI 3 l494),(500002,wI 3 l496)]⟩ (zD ?_))
 refine z6 2 fun τ hτ=>?_
 obtain rfl:=osi h
 exact zH hτ
 replace h:=iteF hb h
 refine zL 2 fun τ hτ=>?_
 refine th_exit ?_
 obtain rfl:=osi h
 exact zF hτ
 intro x
 rfl
 intro τ hτ
 refine zQ (bl_normal (zE hτ ⟨[(1,.ptr 500000 0),(3,ro 500001 3),(4,ro 500002 3),(15,s_Piece l.Pieces),(16,vI (l.Pieces.length : Int)),(17,vI s333.1)],[(500000,.box (c_LayoutT l)),(500001,wI 3 x497.1),(500002,wI 3 x497.2)]⟩ ?_))
 refine zD (z6 2 fun τ hτ=>?_)
 obtain rfl:=osi h
 exact zH hτ
 replace h:=iteF hb h
 refine zL 0 fun τ hτ=>?_
 refine th_exit ?_
 obtain rfl:=osi h
 exact zF hτ
 intro x
 rfl
 intro τ hτ
 refine zQ (zE hτ ⟨[(1,.ptr 500000 0),(3,ro 500001 3),(4,ro 500002 3)],[(500000,.box (c_LayoutT l)),(500001,wI 3 x498.1),(500002,wI 3 x498.2)]⟩ (z7 ?_))
 refine zA 1 ?_
 obtain ⟨r501,hr501,h⟩:=bindS h
 refine evs_callS [(300000,500001)] [(0,700050)] [] (by kernel_rfl) (W.cut_set_k_ok hr501) (by kernel_rfl) (by kernel_rfl) (.inl rfl) (zA 1 ?_)
 obtain ⟨r502,hr502,h⟩:=bindS h
 refine evs_callS [(300000,500002)] [(0,700150)] [] (by kernel_rfl) (W.cut_set_k_ok hr502) (by kernel_rfl) (by kernel_rfl) (.inl rfl) (z1 2 ⟨[(1,.ptr 500000 0),(3,ro 700050 3),(4,ro 700150 3)],[(500000,.box (c_LayoutT l)),(700050,wI 3 r501),(700150,wI 3 r502)]⟩ (z3 1 ⟨[(1,.ptr 500000 0),(3,ro 700050 3),(4,ro 700150 3),(9,ro 9 74)],[(9,w_EdgeT 74 []),(500000,.box (c_LayoutT l)),(700050,wI 3 r501),(700150,wI 3 r502)]⟩ ?_))
 refine zB (z7 (zA 1 ?_))
 refine evs_op (st_len (c:=cI) (l:=r502) (x:=(ro 700150 3)) (by kernel_rfl) (by kernel_rfl)) (z1 1 ⟨[(1,.ptr 500000 0),(3,ro 700050 3),(4,ro 700150 3),(9,ro 9 74),(54,ro 700150 3),(55,vI (r502.length : Int)),(56,vI 0)],[(9,w_EdgeT 74 []),(500000,.box (c_LayoutT l)),(700050,wI 3 r501),(700150,wI 3 r502)]⟩ (zC ?_))
 obtain ⟨x580,hx580,h⟩:=bindS h
 refine sem_loopS (fun (s555 : Int × (List EdgeT))=>⟨[(1,.ptr 500000 0),(3,ro 500001 3),(4,ro 500002 3),(9,ro 500003 74),(54,ro 500002 3),(55,vI (r502.length : Int)),(56,vI s555.1)],[(500000,.box (c_LayoutT l)),(500001,wI 3 r501),(500002,wI 3 r502),(500003,w_EdgeT 74 s555.2)]⟩) (fun (x580 : (List EdgeT))=>(.exit 4,⟨[(1,.ptr 500000 0),(3,ro 500001 3),(4,ro 500002 3),(9,ro 500003 74)],[(500000,.box (c_LayoutT l)),(500001,wI 3 r501),(500002,wI 3 r502),(500003,w_EdgeT 74 x580)]⟩)) (cut_edges_k_l3 l r501 r502) (0,[]) x580 (by kernel_rfl) (subR_prep [] [(9,500003),(500000,500000),(700050,500001),(700150,500002)] (by kernel_rfl) rfl rfl (by kernel_rfl)) (iter_loop hx580) ?_ ?_ ?_
 intro s555 r h
 refine z3 1 ⟨[(1,.ptr 500000 0),(3,ro 500001 3),(4,ro 500002 3),(9,ro 500003 74),(54,ro 500002 3),(55,vI (r502.length : Int)),(56,vI s555.1),(57,vB (decide (s555.1 < (r502.length : Int))))],[(500000,.box (c_LayoutT l)),(500001,wI 3 r501),(500002,wI 3 r502),(500003,w_EdgeT 74 s555.2)]⟩ (zB (zI (decide (s555.1 < (r502.length : Int))) (fun hb=>?_) fun hb=>?_))
 replace h:=iteT hb h
 refine z4 ⟨[(1,.ptr 500000 0),(3,ro 500001 3),(4,ro 500002 3),(9,ro 500003 74),(54,ro 500002 3),(55,vI (r502.length : Int)),(56,vI s555.1)],[(500000,.box (c_LayoutT l)),(500001,wI 3 r501),(500002,wI 3 r502),(500003,w_EdgeT 74 s555.2)]⟩ (zB (zC ?_))
 refine z7 ?_
 obtain ⟨x575,hx575,h⟩:=bindS h
 refine evs_op (st_idxO (c:=cI) (l:=r502) (i:=s555.1) (kd:=.i64) (kk:=(.top 500002)) (e:=3) (sz:=1) (by kernel_rfl) (by kernel_rfl) hx575 rfl) (evs_op (st_ldO (c:=cI) (l:=r502) (i:=(Int.toNat s555.1)) (v:=(vI x575)) (agg:=false) (sz:=1) (kk:=(.top 500002)) (e:=3) (off:=0) (J:=[]) (by kernel_rfl) (by kernel_rfl) (by kernel_rfl) ((idxS hx575).2) (by kernel_rfl)) (z1 2 ⟨[(1,.ptr 500000 0),(3,ro 500001 3),(4,ro 500002 3),(9,ro 500003 74),(11,.ptr 11 0),(54,ro 500002 3),(55,vI (r502.length : Int)),(56,vI s555.1)],[(11,.box [(vI x575)]),(500000,.box (c_LayoutT l)),(500001,wI 3 r501),(500002,wI 3 r502),(500003,w_EdgeT 74 s555.2)]⟩ ?_))
 refine zD (zA 4 ?_)
 obtain ⟨r578,hr578,h⟩:=bindS h
 refine evs_callS [] [(0,700200)] [500001,500000,11] (by kernel_rfl) (W.cut_along__cut_edges_1__cut_edges_2_k_ok hr578) (by kernel_rfl) (by kernel_rfl) (.inr ⟨rfl,fun _ _=>ind_cons (ind_row fun _=>rfl) (fun _ _=>ind_nil)⟩) ?_
 obtain ⟨l579,hl579,h⟩:=bindS h
 refine evs_op (st_app (c:=c_EdgeT) (l:=s555.2) (l2:=r578) (x:=(ro 700200 74)) (g:=500003) (e:=74) (sz:=6) (d:=65) (by kernel_rfl) (by kernel_rfl) (by kernel_rfl) (by kernel_rfl) (fun _=>rfl) rfl hl579) (z6 1 fun τ hτ=>?_)
 refine bl_normal (zE hτ ⟨[(1,.ptr 500000 0),(3,ro 500001 3),(4,ro 500002 3),(9,ro 500003 74),(54,ro 500002 3),(55,vI (r502.length : Int)),(56,vI s555.1)],[(500000,.box (c_LayoutT l)),(500001,wI 3 r501),(500002,wI 3 r502),(500003,w_EdgeT 74 l579)]⟩ (zD ?_))
 refine z6 2 fun τ hτ=>?_
 obtain rfl:=osi h
 exact zH hτ
 replace h:=iteF hb h
 refine zL 4 fun τ hτ=>?_
 refine th_exit ?_
 obtain rfl:=osi h
 exact zF hτ
 intro x
 rfl
 intro τ hτ
 refine zQ (zE hτ ⟨[(1,.ptr 500000 0),(3,ro 500001 3),(4,ro 500002 3),(9,ro 500003 74)],[(500000,.box (c_LayoutT l)),(500001,wI 3 r501),(500002,wI 3 r502),(500003,w_EdgeT 74 x580)]⟩ (zB ?_))
 refine z7 (zA 1 (evs_op (st_len (c:=cI) (l:=r501) (x:=(ro 500001 3)) (by kernel_rfl) (by kernel_rfl)) ?_))
 refine z1 1 ⟨[(1,.ptr 500000 0),(4,ro 500002 3),(9,ro 500003 74),(67,ro 500001 3),(68,vI (r501.length : Int)),(69,vI 0)],[(500000,.box (c_LayoutT l)),(500001,wI 3 r501),(500002,wI 3 r502),(500003,w_EdgeT 74 x580)]⟩ (zC ?_)
 obtain ⟨x658,hx658,h⟩:=bindS h
 refine sem_loopS (fun (s633 : Int × (List EdgeT))=>⟨[(1,.ptr 500000 0),(4,ro 500001 3),(9,ro 500002 74),(67,ro 500003 3),(68,vI (r501.length : Int)),(69,vI s633.1)],[(500000,.box (c_LayoutT l)),(500001,wI 3 r502),(500002,w_EdgeT 74 s633.2),(500003,wI 3 r501)]⟩) (fun (x658 : (List EdgeT))=>(.exit 6,⟨[(9,ro 500000 74)],[(500000,w_EdgeT 74 x658)]⟩)) (cut_edges_k_l4 l r501 r502) (0,x580) x658 (by kernel_rfl) (subR_prep [] [(500000,500000),(500001,500003),(500002,500001),(500003,500002)] (by kernel_rfl) rfl rfl (by kernel_rfl)) (iter_loop hx658) ?_ ?_ ?_
 intro s633 r h
 refine z3 1 ⟨[(1,.ptr 500000 0),(4,ro 500001 3),(9,ro 500002 74),(67,ro 500003 3),(68,vI (r501.length : Int)),(69,vI s633.1),(70,vB (decide (s633.1 < (r501.length : Int))))],[(500000,.box (c_LayoutT l)),(500001,wI 3 r502),(500002,w_EdgeT 74 s633.2),(500003,wI 3 r501)]⟩ (zB (zI (decide (s633.1 < (r501.length : Int))) (fun hb=>?_) fun hb=>?_))
 replace h:=iteT hb h
 refine z4 ⟨[(1,.ptr 500000 0),(4,ro 500001 3),(9,ro 500002 74),(67,ro 500003 3),(68,vI (r501.length : Int)),(69,vI s633.1)],[(500000,.box (c_LayoutT l)),(500001,wI 3 r502),(500002,w_EdgeT 74 s633.2),(500003,wI 3 r501)]⟩ (zB (zC ?_))
 refine z7 ?_
 obtain ⟨x653,hx653,h⟩:=bindS h
 refine evs_op (st_idxO (c:=cI) (l:=r501) (i:=s633.1) (kd:=.i64) (kk:=(.top 500003)) (e:=3) (sz:=1) (by kernel_rfl) (by kernel_rfl) hx653 rfl) (evs_op (st_ldO (c:=cI) (l:=r501) (i:=(Int.toNat s633.1)) (v:=(vI x653)) (agg:=false) (sz:=1) (kk:=(.top 500003)) (e:=3) (off:=0) (J:=[]) (by kernel_rfl) (by kernel_rfl) (by kernel_rfl) ((idxS hx653).2) (by kernel_rfl)) (z1 2 ⟨[(1,.ptr 500000 0),(4,ro 500001 3),(9,ro 500002 74),(13,.ptr 13 0),(67,ro 500003 3),(68,vI (r501.length : Int)),(69,vI s633.1)],[(13,.box [(vI x653)]),(500000,.box (c_LayoutT l)),(500001,wI 3 r502),(500002,w_EdgeT 74 s633.2),(500003,wI 3 r501)]⟩ ?_))
 refine zD (zA 4 ?_)
 obtain ⟨r656,hr656,h⟩:=bindS h
 refine evs_callS [] [(0,700200)] [500001,500000,13] (by kernel_rfl) (W.cut_along__cut_edges_3__cut_edges_4_k_ok hr656) (by kernel_rfl) (by kernel_rfl) (.inr ⟨rfl,fun _ _=>ind_cons (ind_row fun _=>rfl) (fun _ _=>ind_nil)⟩) ?_
 obtain ⟨l657,hl657,h⟩:=bindS h
 refine evs_op (st_app (c:=c_EdgeT) (l:=s633.2) (l2:=r656) (x:=(ro 700200 74)) (g:=500002) (e:=74) (sz:=6) (d:=78) (by kernel_rfl) (by kernel_rfl) (by kernel_rfl) (by kernel_rfl) (fun _=>rfl) rfl hl657) (z6 1 fun τ hτ=>?_)
 refine bl_normal (zE hτ ⟨[(1,.ptr 500000 0),(4,ro 500001 3),(9,ro 500002 74),(67,ro 500003 3),(68,vI (r501.length : Int)),(69,vI s633.1)],[(500000,.box (c_LayoutT l)),(500001,wI 3 r502),(500002,w_EdgeT 74 l657),(500003,wI 3 r501)]⟩ (zD ?_))
 refine z6 2 fun τ hτ=>?_
 obtain rfl:=osi h
 exact zH hτ
 replace h:=iteF hb h
 refine zL 6 fun τ hτ=>?_
 refine th_exit ?_
 obtain rfl:=osi h
 exact lk_outS hτ rfl (subR_prep [] [(500002,500000)] (by kernel_rfl) rfl rfl (by kernel_rfl))
 intro x
 rfl
 intro τ hτ
 refine zQ (zE hτ ⟨[(9,ro 500000 74)],[(500000,w_EdgeT 74 x658)]⟩ (z8 2 ⟨[(2,ro 500000 74)],[(500000,w_EdgeT 74 x658)]⟩ fun τ hτ=>?_))
 obtain rfl:=osi h
 exact rk_ret hτ [(2,ro 0 74)] (subR_prep [] [(500000,0)] (by kernel_rfl) rfl rfl (by kernel_rfl)) (by kernel_rfl)
theorem W.cut_Edges_k_ok {l : LayoutT} {r : (List EdgeT) × Int} (h : cut_Edges_k l = some r) : PC G.P 14 [(.agg (c_LayoutT l))] [] (.tup [(.row (.top 0) 74),(vI r.2)]) [(0,.row 74 [] (List.map c_EdgeT r.1))]:=by
 refine zU G Tryz.func14 (zK ⟨[(0,.agg (c_LayoutT l))],[]⟩ (z3 3 ⟨[(1,.ptr 1 0)],[(1,.box (c_LayoutT l))]⟩ ?_))
 refine zB (z7 (zA 1 ?_))
 obtain ⟨r4,hr4,h⟩:=bindS h
 refine evs_callP [] (by kernel_rfl) (W.cut_Validate_k_ok hr4) (by kernel_rfl) (.inl rfl) (by kernel_rfl) (z1 1 ⟨[(1,.ptr 1 0),(4,vI r4)],[(1,.box (c_LayoutT l))]⟩ (z3 2 ⟨[(1,.ptr 1 0),(4,vI r4),(8,vB (r4 != 0))],[(1,.box (c_LayoutT l))]⟩ ?_))
 refine zI (r4 != 0) (fun hb=>?_) fun hb=>?_
 replace h:=iteT hb h
 exact nomatch h
 replace h:=iteF hb h
 refine z4 ⟨[(1,.ptr 1 0)],[(1,.box (c_LayoutT l))]⟩ (z7 (zA 1 ?_))
 obtain ⟨r6,hr6,h⟩:=bindS h
 refine evs_callS [] [(0,700050)] [] (by kernel_rfl) (W.cut_edges_k_ok hr6) (by kernel_rfl) (by kernel_rfl) (.inl rfl) (z1 2 ⟨[(2,ro 700050 74),(3,vI 0)],[(700050,w_EdgeT 74 r6)]⟩ (zN fun τ hτ=>?_))
 obtain rfl:=osi h
 exact rk_ret hτ [(2,ro 0 74),(3,vI 0)] (subR_prep [] [(700050,0)] (by kernel_rfl) rfl rfl (by kernel_rfl)) (by kernel_rfl)
theorem W.cut_start_k_ok {l : LayoutT} {edges : Int} {r : cut_State} (h : cut_start_k l edges = some r) : PC G.P 51 [(.agg (c_LayoutT l)),(vI edges)] [] (.agg [(.row (.top 1) 4),(.row (.top 2) 36),(.row (.top 3) 4),(.row (.top 4) 3),(.row (.top 5) 4)]) [(0,.box [(.row (.top 1) 4),(.row (.top 2) 36),(.row (.top 3) 4),(.row (.top 4) 3),(.row (.top 5) 4)]),(1,.row 4 [] (List.map cB r.Cut)),(2,.row 36 [] (List.map (cS cB) r.Holes)),(3,.row 4 [] (List.map cB r.Done)),(4,.row 3 [] (List.map cI r.Joints)),(5,.row 4 [] (List.map cB r.Fallen))]:=by
 refine zU G Tryz.func51 (zK ⟨[(0,.agg (c_LayoutT l)),(1,vI edges)],[]⟩ (z3 2 ⟨[(1,vI edges),(2,.ptr 2 0),(4,.ptr 4 0)],[(2,.box (c_LayoutT l)),(4,.box [.nl,.nl,.nl,.nl,.nl])]⟩ ?_))
 refine z7 (zA 2 (evs_op (st_len (c:=c_Piece) (l:=l.Pieces) (x:=(s_Piece l.Pieces)) (by kernel_rfl) (by kernel_rfl)) ?_))
 refine z1 1 ⟨[(1,vI edges),(2,.ptr 2 0),(4,.ptr 4 0),(5,vI (l.Pieces.length : Int))],[(2,.box (c_LayoutT l)),(4,.box [.nl,.nl,.nl,.nl,.nl])]⟩ (zB (sem_draw [(1,[13]),(3,[15]),(5,[17]),(7,[19]),(9,[6])] [(1,[13]),(3,[15]),(5,[17]),(7,[19]),(9,[6])] [] [(0,[15,17,19,6]),(1,[15,17,19,6]),(2,[13,17,19,6]),(3,[13,17,19,6]),(4,[13,15,19,6]),(5,[13,15,19,6]),(6,[13,15,17,6]),(7,[13,15,17,6]),(8,[6]),(9,[13,15,17,19])] [(0,[13,15,17,19,6]),(1,[15,17,19,6]),(2,[13,15,17,19,6]),(3,[13,17,19,6]),(4,[13,15,17,19,6]),(5,[13,15,19,6]),(6,[13,15,17,19,6]),(7,[13,15,17,6]),(8,[6]),(9,[13,15,17,19])] 10 (by kernel_rfl) (by kernel_rfl) [6,19,17,15,13] (by kernel_rfl) (by kernel_rfl) ?_))
 refine evd_run 1 (by kernel_rfl) ?_
 obtain ⟨l9,hl9,h⟩:=bindS h
 refine evd_new (by kernel_rfl) (st_mk (c:=cB) (z:=false) (n:=edges) (e:=4) (d:=13) (zs:=[(vB false)]) (k1:=.i64) (k2:=.i64) (by kernel_rfl) rfl hl9) (by kernel_rfl) (by kernel_rfl) (by kernel_rfl) (by kernel_rfl) (evd_run 1 (by kernel_rfl) ?_)
 obtain ⟨l10,hl10,h⟩:=bindS h
 refine evd_new (by kernel_rfl) (st_mk (c:=cB) (z:=false) (n:=(l.Pieces.length : Int)) (e:=4) (d:=15) (zs:=[(vB false)]) (k1:=.i64) (k2:=.i64) (by kernel_rfl) rfl hl10) (by kernel_rfl) (by kernel_rfl) (by kernel_rfl) (by kernel_rfl) (evd_run 1 (by kernel_rfl) ?_)
 obtain ⟨l11,hl11,h⟩:=bindS h
 refine evd_new (by kernel_rfl) (st_mk (c:=cI) (z:=0) (n:=(l.Pieces.length : Int)) (e:=3) (d:=17) (zs:=[(vI 0)]) (k1:=.i64) (k2:=.i64) (by kernel_rfl) rfl hl11) (by kernel_rfl) (by kernel_rfl) (by kernel_rfl) (by kernel_rfl) (evd_run 1 (by kernel_rfl) ?_)
 obtain ⟨l12,hl12,h⟩:=bindS h
 refine evd_new (by kernel_rfl) (st_mk (c:=cB) (z:=false) (n:=(l.Pieces.length : Int)) (e:=4) (d:=19) (zs:=[(vB false)]) (k1:=.i64) (k2:=.i64) (by kernel_rfl) rfl hl12) (by kernel_rfl) (by kernel_rfl) (by kernel_rfl) (by kernel_rfl) (evd_run 1 (by kernel_rfl) (evd_new (g:=6) (ob:=.box [.nl,.nl,.nl,.nl,.nl]) (v:=(.ptr 6 0)) (by kernel_rfl) (by kernel_rfl) (by kernel_rfl) (by kernel_rfl) (by kernel_rfl) (by kernel_rfl) ?_))
 refine evd_end (by kernel_rfl) (evo_run 1 (by kernel_rfl) (zO fun τ hτ=>?_))
 refine zE hτ ⟨[(2,.ptr 2 0),(4,.ptr 4 0),(6,.ptr 6 0)],[(2,.box (c_LayoutT l)),(4,.box [.nl,.nl,.nl,.nl,.nl]),(6,.box [(ro 13 4),.nl,(ro 15 4),(ro 17 3),(ro 19 4)]),(13,wB 4 l9),(15,wB 4 l10),(17,wI 3 l11),(19,wB 4 l12)]⟩ (zB (z7 ?_))
 refine zA 2 (evs_op (st_len (c:=c_Piece) (l:=l.Pieces) (x:=(s_Piece l.Pieces)) (by kernel_rfl) (by kernel_rfl)) (z1 1 ⟨[(4,.ptr 4 0),(6,.ptr 6 0),(22,s_Piece l.Pieces),(23,vI (l.Pieces.length : Int)),(24,vI 0)],[(4,.box [.nl,.nl,.nl,.nl,.nl]),(6,.box [(ro 13 4),.nl,(ro 15 4),(ro 17 3),(ro 19 4)]),(13,wB 4 l9),(15,wB 4 l10),(17,wI 3 l11),(19,wB 4 l12)]⟩ ?_))
 refine zC ?_
 obtain ⟨x114,hx114,h⟩:=bindS h
 refine sem_loopS (fun (s81 : Int × (List (List Bool)))=>⟨[(4,.ptr 500000 0),(6,.ptr 500001 0),(22,s_Piece l.Pieces),(23,vI (l.Pieces.length : Int)),(24,vI s81.1)],[(500000,.box [.nl,.nl,.nl,.nl,.nl]),(500001,.box [(ro 500002 4),(ro 500003 36),(ro 500004 4),(ro 500005 3),(ro 500006 4)]),(500002,wB 4 l9),(500003,.row 36 [] (List.map (cS cB) s81.2)),(500004,wB 4 l10),(500005,wI 3 l11),(500006,wB 4 l12)]⟩) (fun (x114 : (List (List Bool)))=>(.exit 0,⟨[(4,.ptr 500000 0),(6,.ptr 500001 0)],[(500000,.box [.nl,.nl,.nl,.nl,.nl]),(500001,.box [(ro 500002 4),(ro 500003 36),(ro 500004 4),(ro 500005 3),(ro 500006 4)]),(500002,wB 4 l9),(500003,.row 36 [] (List.map (cS cB) x114)),(500004,wB 4 l10),(500005,wI 3 l11),(500006,wB 4 l12)]⟩)) (cut_start_k_l1 l) (0,[]) x114 (by kernel_rfl) (subR_prep [.row (.box 6 1) 800000 36 []] [(4,500000),(6,500001),(13,500002),(15,500004),(17,500005),(19,500006),(800000,500003)] (by kernel_rfl) rfl rfl (by kernel_rfl)) (iter_loop hx114) ?_ ?_ ?_
 intro s81 r h
 refine z3 1 ⟨[(4,.ptr 500000 0),(6,.ptr 500001 0),(22,s_Piece l.Pieces),(23,vI (l.Pieces.length : Int)),(24,vI s81.1),(25,vB (decide (s81.1 < (l.Pieces.length : Int))))],[(500000,.box [.nl,.nl,.nl,.nl,.nl]),(500001,.box [(ro 500002 4),(ro 500003 36),(ro 500004 4),(ro 500005 3),(ro 500006 4)]),(500002,wB 4 l9),(500003,.row 36 [] (List.map (cS cB) s81.2)),(500004,wB 4 l10),(500005,wI 3 l11),(500006,wB 4 l12)]⟩ (zB (zI (decide (s81.1 < (l.Pieces.length : Int))) (fun hb=>?_) fun hb=>?_))
 replace h:=iteT hb h
 refine z4 ⟨[(4,.ptr 500000 0),(6,.ptr 500001 0),(22,s_Piece l.Pieces),(23,vI (l.Pieces.length : Int)),(24,vI s81.1)],[(500000,.box [.nl,.nl,.nl,.nl,.nl]),(500001,.box [(ro 500002 4),(ro 500003 36),(ro 500004 4),(ro 500005 3),(ro 500006 4)]),(500002,wB 4 l9),(500003,.row 36 [] (List.map (cS cB) s81.2)),(500004,wB 4 l10),(500005,wI 3 l11),(500006,wB 4 l12)]⟩ (zB (zC ?_))
 refine z7 ?_
 obtain ⟨x107,hx107,h⟩:=bindS h
 refine evs_op (st_idx (c:=c_Piece) (l:=l.Pieces) (i:=s81.1) (kd:=.i64) (sz:=7) (by kernel_rfl) hx107 rfl) (z1 3 ⟨[(4,.ptr 500000 0),(6,.ptr 500001 0),(8,.ptr 8 0),(22,s_Piece l.Pieces),(23,vI (l.Pieces.length : Int)),(24,vI s81.1)],[(8,.box (c_Piece x107)),(500000,.box [.nl,.nl,.nl,.nl,.nl]),(500001,.box [(ro 500002 4),(ro 500003 36),(ro 500004 4),(ro 500005 3),(ro 500006 4)]),(500002,wB 4 l9),(500003,.row 36 [] (List.map (cS cB) s81.2)),(500004,wB 4 l10),(500005,wI 3 l11),(500006,wB 4 l12)]⟩ (sem_draw [] [(5,[33])] [] [] [(0,[33]),(1,[33]),(2,[33]),(3,[33]),(4,[33])] 7 (by kernel_rfl) (by kernel_rfl) [33] (by kernel_rfl) (by kernel_rfl) ?_))
 refine evd_run 4 (by kernel_rfl) (evd_val (by kernel_rfl) (st_len (c:=c_Rect) (l:=x107.Cuts) (x:=(s_Rect x107.Cuts)) (by kernel_rfl) (by kernel_rfl)) (by kernel_rfl) (by kernel_rfl) ?_)
 obtain ⟨l112,hl112,h⟩:=bindS h
 refine evd_mkF (d:=33) (e:=4) (es:=(List.map cB l112)) (by kernel_rfl) (st_mk (c:=cB) (z:=false) (n:=(x107.Cuts.length : Int)) (e:=4) (d:=33) (zs:=[(vB false)]) (k1:=.i64) (k2:=.i64) (by kernel_rfl) rfl hl112) (by kernel_rfl) (by kernel_rfl) (by kernel_rfl) (by kernel_rfl) (evd_run 1 (by kernel_rfl) (evd_end (by kernel_rfl) ?_))
 obtain ⟨l113,hl113,h⟩:=bindS h
 refine evo_op (st_app (c:=(cS cB)) (l:=s81.2) (l2:=[l112]) (x:=(.sl (List.map (cS cB) [l112]))) (g:=500003) (e:=36) (sz:=1) (d:=35) (by kernel_rfl) (by kernel_rfl) (by kernel_rfl) (by kernel_rfl) (fun _=>rfl) rfl hl113) (evo_run 2 (by kernel_rfl) (zO fun τ hτ=>?_))
 refine bl_normal (zE hτ ⟨[(4,.ptr 500000 0),(6,.ptr 500001 0),(22,s_Piece l.Pieces),(23,vI (l.Pieces.length : Int)),(24,vI s81.1)],[(500000,.box [.nl,.nl,.nl,.nl,.nl]),(500001,.box [(ro 500002 4),(ro 500003 36),(ro 500004 4),(ro 500005 3),(ro 500006 4)]),(500002,wB 4 l9),(500003,.row 36 [] (List.map (cS cB) l113)),(500004,wB 4 l10),(500005,wI 3 l11),(500006,wB 4 l12)]⟩ (zD ?_))
 refine z6 2 fun τ hτ=>?_
 obtain rfl:=osi h
 exact zH hτ
 replace h:=iteF hb h
 refine zL 0 fun τ hτ=>?_
 refine th_exit ?_
 obtain rfl:=osi h
 exact zF hτ
 intro x
 rfl
 intro τ hτ
 refine zQ (zE hτ ⟨[(4,.ptr 500000 0),(6,.ptr 500001 0)],[(500000,.box [.nl,.nl,.nl,.nl,.nl]),(500001,.box [(ro 500002 4),(ro 500003 36),(ro 500004 4),(ro 500005 3),(ro 500006 4)]),(500002,wB 4 l9),(500003,.row 36 [] (List.map (cS cB) x114)),(500004,wB 4 l10),(500005,wI 3 l11),(500006,wB 4 l12)]⟩ (z8 2 ⟨[(4,.ptr 500000 0)],[(500000,.box [(ro 500002 4),(ro 500003 36),(ro 500004 4),(ro 500005 3),(ro 500006 4)]),(500002,wB 4 l9),(500003,.row 36 [] (List.map (cS cB) x114)),(500004,wB 4 l10),(500005,wI 3 l11),(500006,wB 4 l12)]⟩ fun τ hτ=>?_))
 obtain rfl:=osi h
 exact rk_ret hτ [(4,.ptr 0 0)] (subR_prep [] [(500000,0),(500002,1),(500003,2),(500004,3),(500005,4),(500006,5)] (by kernel_rfl) rfl rfl (by kernel_rfl)) (by kernel_rfl)
theorem W.cut_State_fits_k_ok {st : cut_State} {l : LayoutT} {edges : Int} {r : Bool} (h : cut_State_fits_k st l edges = some r) : PC G.P 114 [(.agg (c_cut_State st)),(.agg (c_LayoutT l)),(vI edges)] [] (vB r) []:=by
 refine zU G Tryz.func114 (zK ⟨[(0,.agg (c_cut_State st)),(1,.agg (c_LayoutT l)),(2,vI edges)],[]⟩ (z3 3 ⟨[(2,vI edges),(3,.ptr 3 0),(4,.ptr 4 0)],[(3,.box (c_cut_State st)),(4,.box (c_LayoutT l))]⟩ ?_))
 refine z7 (zA 2 (evs_op (st_len (c:=c_Piece) (l:=l.Pieces) (x:=(s_Piece l.Pieces)) (by kernel_rfl) (by kernel_rfl)) ?_))
 refine z1 1 ⟨[(2,vI edges),(3,.ptr 3 0),(4,.ptr 4 0),(7,vI (l.Pieces.length : Int))],[(3,.box (c_cut_State st)),(4,.box (c_LayoutT l))]⟩ (zB (z7 ?_))
 refine zA 2 (evs_op (st_len (c:=cB) (l:=st.Cut) (x:=(sB st.Cut)) (by kernel_rfl) (by kernel_rfl)) (zA 3 ?_))
 refine zS ((st.Cut.length : Int) != edges) (fun b0=>⟨[(3,.ptr 3 0),(4,.ptr 4 0),(7,vI (l.Pieces.length : Int)),(18,vB b0)],[(3,.box (c_cut_State st)),(4,.box (c_LayoutT l))]⟩) (fun hb=>?_) fun hb=>?_
 replace h:=iteT hb h
 exact nomatch h
 replace h:=iteF hb h
 refine zA 2 (evs_op (st_len (c:=(cS cB)) (l:=st.Holes) (x:=(.sl (List.map (cS cB) st.Holes))) (by kernel_rfl) (by kernel_rfl)) (zA 4 ?_))
 refine zS ((st.Holes.length : Int) != (l.Pieces.length : Int)) (fun b0=>⟨[(3,.ptr 3 0),(4,.ptr 4 0),(7,vI (l.Pieces.length : Int)),(25,vB b0)],[(3,.box (c_cut_State st)),(4,.box (c_LayoutT l))]⟩) (fun hb=>?_) fun hb=>?_
 replace h:=iteT hb h
 exact nomatch h
 replace h:=iteF hb h
 refine zA 2 (evs_op (st_len (c:=cB) (l:=st.Done) (x:=(sB st.Done)) (by kernel_rfl) (by kernel_rfl)) (zA 4 ?_))
 refine zS ((st.Done.length : Int) != (l.Pieces.length : Int)) (fun b0=>⟨[(3,.ptr 3 0),(4,.ptr 4 0),(7,vI (l.Pieces.length : Int)),(32,vB b0)],[(3,.box (c_cut_State st)),(4,.box (c_LayoutT l))]⟩) (fun hb=>?_) fun hb=>?_
 replace h:=iteT hb h
 exact nomatch h
 replace h:=iteF hb h
 refine zA 2 (evs_op (st_len (c:=cI) (l:=st.Joints) (x:=(sI st.Joints)) (by kernel_rfl) (by kernel_rfl)) (zA 4 ?_))
 refine zS ((st.Joints.length : Int) != (l.Pieces.length : Int)) (fun b0=>⟨[(3,.ptr 3 0),(4,.ptr 4 0),(7,vI (l.Pieces.length : Int)),(39,vB b0)],[(3,.box (c_cut_State st)),(4,.box (c_LayoutT l))]⟩) (fun hb=>?_) fun hb=>?_
 replace h:=iteT hb h
 exact nomatch h
 replace h:=iteF hb h
 refine zA 2 (evs_op (st_len (c:=cB) (l:=st.Fallen) (x:=(sB st.Fallen)) (by kernel_rfl) (by kernel_rfl)) (z1 3 ⟨[(3,.ptr 3 0),(4,.ptr 4 0),(45,vB ((st.Fallen.length : Int) != (l.Pieces.length : Int)))],[(3,.box (c_cut_State st)),(4,.box (c_LayoutT l))]⟩ ?_))
 refine zI ((st.Fallen.length : Int) != (l.Pieces.length : Int)) (fun hb=>?_) fun hb=>?_
 replace h:=iteT hb h
 exact nomatch h
 replace h:=iteF hb h
 refine z4 ⟨[(3,.ptr 3 0),(4,.ptr 4 0)],[(3,.box (c_cut_State st)),(4,.box (c_LayoutT l))]⟩ (zB (z7 ?_))
 refine zA 2 (evs_op (st_len (c:=c_Piece) (l:=l.Pieces) (x:=(s_Piece l.Pieces)) (by kernel_rfl) (by kernel_rfl)) (z1 1 ⟨[(3,.ptr 3 0),(47,s_Piece l.Pieces),(48,vI (l.Pieces.length : Int)),(49,vI 0)],[(3,.box (c_cut_State st))]⟩ ?_))
 refine zC ?_
 obtain ⟨x66,hx66,h⟩:=bindS h
 refine sem_loopS (fun (s45 : Int)=>⟨[(3,.ptr 500000 0),(47,s_Piece l.Pieces),(48,vI (l.Pieces.length : Int)),(49,vI s45)],[(500000,.box (c_cut_State st))]⟩) (fun (x66 : Unit)=>(.exit 0,⟨[],[]⟩)) (cut_State_fits_k_l1 st l) 0 x66 (by kernel_rfl) (subR_prep [] [(3,500000)] (by kernel_rfl) rfl rfl (by kernel_rfl)) (iter_loop hx66) ?_ ?_ ?_
 intro s45 r h
 refine z3 1 ⟨[(3,.ptr 500000 0),(47,s_Piece l.Pieces),(48,vI (l.Pieces.length : Int)),(49,vI s45),(50,vB (decide (s45 < (l.Pieces.length : Int))))],[(500000,.box (c_cut_State st))]⟩ (zB (zI (decide (s45 < (l.Pieces.length : Int))) (fun hb=>?_) fun hb=>?_))
 replace h:=iteT hb h
 refine z4 ⟨[(3,.ptr 500000 0),(47,s_Piece l.Pieces),(48,vI (l.Pieces.length : Int)),(49,vI s45)],[(500000,.box (c_cut_State st))]⟩ (zB (zC ?_))
 refine z7 (zA 1 ?_)
 obtain ⟨x62,hx62,h⟩:=bindS h
 refine evs_op (st_idx (c:=c_Piece) (l:=l.Pieces) (i:=s45) (kd:=.i64) (sz:=7) (by kernel_rfl) hx62 rfl) (z1 4 ⟨[(3,.ptr 500000 0),(8,vI s45),(9,.ptr 9 0),(47,s_Piece l.Pieces),(48,vI (l.Pieces.length : Int)),(49,vI s45)],[(9,.box (c_Piece x62)),(500000,.box (c_cut_State st))]⟩ (zB ?_))
 refine sem_drawN [] [] [] [] [] 9 (by kernel_rfl) (by kernel_rfl) (by kernel_rfl) (evd_run 3 (by kernel_rfl) ?_)
 obtain ⟨x65,hx65,h⟩:=bindS h
 refine evd_val (by kernel_rfl) (st_idx (c:=(cS cB)) (l:=st.Holes) (i:=s45) (kd:=.i64) (sz:=1) (by kernel_rfl) hx65 rfl) (by kernel_rfl) (by kernel_rfl) (evd_run 1 (by kernel_rfl) (evd_val (by kernel_rfl) (st_len (c:=cB) (l:=x65) (x:=(sB x65)) (by kernel_rfl) (by kernel_rfl)) (by kernel_rfl) (by kernel_rfl) ?_))
 refine evd_run 2 (by kernel_rfl) (evd_val (by kernel_rfl) (st_len (c:=c_Rect) (l:=x62.Cuts) (x:=(s_Rect x62.Cuts)) (by kernel_rfl) (by kernel_rfl)) (by kernel_rfl) (by kernel_rfl) (evd_end (by kernel_rfl) ?_))
 refine evo_run 1 (by kernel_rfl) (zO fun τ hτ=>?_)
 refine zE hτ ⟨[(3,.ptr 500000 0),(47,s_Piece l.Pieces),(48,vI (l.Pieces.length : Int)),(49,vI s45),(63,vB ((x65.length : Int) != (x62.Cuts.length : Int)))],[(500000,.box (c_cut_State st))]⟩ (zI ((x65.length : Int) != (x62.Cuts.length : Int)) (fun hb=>?_) fun hb=>?_)
 replace h:=iteT hb h
 exact nomatch h
 replace h:=iteF hb h
 refine zM fun τ hτ=>?_
 refine bl_normal (zE hτ ⟨[(3,.ptr 500000 0),(47,s_Piece l.Pieces),(48,vI (l.Pieces.length : Int)),(49,vI s45)],[(500000,.box (c_cut_State st))]⟩ (zD ?_))
 refine z6 2 fun τ hτ=>?_
 obtain rfl:=osi h
 exact zH hτ
 replace h:=iteF hb h
 refine zL 0 fun τ hτ=>?_
 refine th_exit ?_
 obtain rfl:=osi h
 exact zF hτ
 intro x
 rfl
 intro τ hτ
 refine zQ (zE hτ ⟨[],[]⟩ (z8 1 ⟨[(6,vB true)],[]⟩ fun τ hτ=>?_))
 obtain rfl:=osi h
 exact zV hτ [(6,vB true)]
theorem W.slices_Index_Lbool_bool_k_ok {s0 : (List Bool)} {v : Bool} {r : Int} (h : slices_Index_Lbool_bool_k s0 v = some r) : PC G.P 124 [(.sl (List.map cB s0)),(vB v)] [] (vI r) []:=by
 refine zU G Tryz.func124 (zK ⟨[(0,sB s0),(1,vB v)],[]⟩ (z3 1 ⟨[(0,sB s0),(1,vB v)],[]⟩ ?_))
 refine zB (z7 (zA 1 ?_))
 refine evs_op (st_len (c:=cB) (l:=s0) (x:=(sB s0)) (by kernel_rfl) (by kernel_rfl)) (z1 1 ⟨[(0,sB s0),(1,vB v),(7,vI (s0.length : Int)),(8,vI 0)],[]⟩ (zC ?_))
 obtain ⟨x4,hx4,h⟩:=bindS h
 refine sem_loopS (fun (s3 : Unit)=>⟨[(0,sB s0),(1,vB v),(7,vI (s0.length : Int)),(8,vI 0)],[]⟩) (fun (x4 : Unit)=>(.exit 0,⟨[],[]⟩)) (slices_Index_Lbool_bool_k_l1 s0) () x4 (by kernel_rfl) (here (by kernel_rfl)) (iter_loop hx4) ?_ ?_ ?_
 intro s3 r h
 refine z3 1 ⟨[(0,sB s0),(1,vB v),(7,vI (s0.length : Int)),(8,vI 0),(9,vB (decide (0 < (s0.length : Int))))],[]⟩ (zB (zI (decide (0 < (s0.length : Int))) (fun hb=>?_) fun hb=>?_))
 replace h:=iteT hb h
 exact nomatch h
 replace h:=iteF hb h
 refine zL 0 fun τ hτ=>?_
 refine th_exit ?_
 obtain rfl:=osi h
 exact zF hτ
 intro x
 rfl
 intro τ hτ
 refine zQ (zE hτ ⟨[],[]⟩ (z8 1 ⟨[(4,vI (-1))],[]⟩ fun τ hτ=>?_))
 obtain rfl:=osi h
 exact zV hτ [(4,vI (-1))]
theorem W.slices_Contains_Lbool_bool_k_ok {s0 : (List Bool)} {v : Bool} {r : Bool} (h : slices_Contains_Lbool_bool_k s0 v = some r) : PC G.P 60 [(.sl (List.map cB s0)),(vB v)] [] (vB r) []:=by
 refine zU G Tryz.func60 (zK ⟨[(0,sB s0),(1,vB v)],[]⟩ (z3 1 ⟨[(0,sB s0),(1,vB v)],[]⟩ ?_))
 refine z7 (zA 2 ?_)
 obtain ⟨r2,hr2,h⟩:=bindS h
 refine evs_callP [] (by kernel_rfl) (W.slices_Index_Lbool_bool_k_ok hr2) (by kernel_rfl) (.inl rfl) (by kernel_rfl) (z1 2 ⟨[(4,vB (decide (r2 ≥ 0)))],[]⟩ (zN fun τ hτ=>?_))
 obtain rfl:=osi h
 exact zV hτ [(4,vB (decide (r2 ≥ 0)))]
theorem W.cut_of_k_ok {e : EdgeT} {piece : Int} {r : Bool} (h : cut_of_k e piece = some r) : PC G.P 66 [(.agg (c_EdgeT e)),(vI piece)] [] (vB r) []:=by
 refine zU G Tryz.func66 (zK ⟨[(0,.agg (c_EdgeT e)),(1,vI piece)],[]⟩ (z3 2 ⟨[(1,vI piece),(2,.ptr 2 0)],[(2,.box (c_EdgeT e))]⟩ ?_))
 refine zB ?_
 obtain ⟨j1,hj1,h⟩:=bindS h
 refine zT ⟨[(4,vB j1)],[]⟩ ?_ fun τ hτ=>?_
 replace h:=hj1
 refine zA 5 (zS (e.A == piece) (fun b0=>⟨[(1,vI piece),(2,.ptr 2 0),(9,vB b0)],[(2,.box (c_EdgeT e))]⟩) (fun hb=>?_) fun hb=>?_)
 replace h:=iteT hb h
 refine z6 6 fun τ hτ=>?_
 obtain rfl:=osi h
 exact zG hτ
 replace h:=iteF hb h
 refine z6 6 fun τ hτ=>?_
 obtain rfl:=osi h
 exact zG hτ
 refine zE hτ ⟨[(4,vB j1)],[]⟩ (zN fun τ hτ=>?_)
 obtain rfl:=osi h
 exact zV hτ [(4,vB j1)]
theorem W.cut_State_free_k_ok {st : cut_State} {all : (List EdgeT)} {piece : Int} {r : Bool} (h : cut_State_free_k st all piece = some r) : PC G.P 118 [(.agg (c_cut_State st)),(.sl (List.map c_EdgeT all)),(vI piece)] [] (vB r) []:=by
 refine zU G Tryz.func118 (zK ⟨[(0,.agg (c_cut_State st)),(1,s_EdgeT all),(2,vI piece)],[]⟩ (z3 2 ⟨[(1,s_EdgeT all),(2,vI piece),(3,.ptr 3 0)],[(3,.box (c_cut_State st))]⟩ ?_))
 refine zB (z7 (zA 1 ?_))
 refine evs_op (st_len (c:=c_EdgeT) (l:=all) (x:=(s_EdgeT all)) (by kernel_rfl) (by kernel_rfl)) (z1 1 ⟨[(2,vI piece),(3,.ptr 3 0),(9,s_EdgeT all),(10,vI (all.length : Int)),(11,vI 0)],[(3,.box (c_cut_State st))]⟩ (zC ?_))
 obtain ⟨x92,hx92,h⟩:=bindS h
 refine sem_loopS (fun (s63 : Int)=>⟨[(2,vI piece),(3,.ptr 500000 0),(9,s_EdgeT all),(10,vI (all.length : Int)),(11,vI s63)],[(500000,.box (c_cut_State st))]⟩) (fun (x92 : Unit ⊕ Unit)=>match x92 with | .inl j93=>(.ret,⟨[(6,vB false)],[]⟩) | .inr j94=>(.exit 0,⟨[],[]⟩)) (cut_State_free_k_l1 st all piece) 0 x92 (by kernel_rfl) (subR_prep [] [(3,500000)] (by kernel_rfl) rfl rfl (by kernel_rfl)) (iter_loop hx92) ?_ ?_ ?_
 intro s63 r h
 refine z3 1 ⟨[(2,vI piece),(3,.ptr 500000 0),(9,s_EdgeT all),(10,vI (all.length : Int)),(11,vI s63),(12,vB (decide (s63 < (all.length : Int))))],[(500000,.box (c_cut_State st))]⟩ (zB (zI (decide (s63 < (all.length : Int))) (fun hb=>?_) fun hb=>?_))
 replace h:=iteT hb h
 refine z4 ⟨[(2,vI piece),(3,.ptr 500000 0),(9,s_EdgeT all),(10,vI (all.length : Int)),(11,vI s63)],[(500000,.box (c_cut_State st))]⟩ (zB (zC ?_))
 refine z7 (zA 1 ?_)
 obtain ⟨x86,hx86,h⟩:=bindS h
 refine evs_op (st_idx (c:=c_EdgeT) (l:=all) (i:=s63) (kd:=.i64) (sz:=6) (by kernel_rfl) hx86 rfl) (z1 4 ⟨[(2,vI piece),(3,.ptr 500000 0),(7,vI s63),(8,.ptr 8 0),(9,s_EdgeT all),(10,vI (all.length : Int)),(11,vI s63)],[(8,.box (c_EdgeT x86)),(500000,.box (c_cut_State st))]⟩ (zB ?_))
 obtain ⟨j89,hj89,h⟩:=bindS h
 refine zT ⟨[(2,vI piece),(3,.ptr 500000 0),(9,s_EdgeT all),(10,vI (all.length : Int)),(11,vI s63),(26,vB j89)],[(500000,.box (c_cut_State st))]⟩ ?_ fun τ hτ=>?_
 replace h:=hj89
 refine zA 2 ?_
 obtain ⟨r90,hr90,h⟩:=bindS h
 refine evs_callP [] (by kernel_rfl) (W.cut_of_k_ok hr90) (by kernel_rfl) (.inl rfl) (by kernel_rfl) (zA 1 (zS r90 (fun b0=>⟨[(2,vI piece),(3,.ptr 500000 0),(7,vI s63),(9,s_EdgeT all),(10,vI (all.length : Int)),(11,vI s63),(19,vB b0)],[(500000,.box (c_cut_State st))]⟩) (fun hb=>?_) fun hb=>?_))
 replace h:=iteT hb h
 refine zA 3 ?_
 obtain ⟨x91,hx91,h⟩:=bindS h
 refine evs_op (st_idx (c:=cB) (l:=st.Cut) (i:=s63) (kd:=.i64) (sz:=1) (by kernel_rfl) hx91 rfl) (z6 3 fun τ hτ=>?_)
 obtain rfl:=osi h
 exact zG hτ
 replace h:=iteF hb h
 refine z6 7 fun τ hτ=>?_
 obtain rfl:=osi h
 exact zG hτ
 refine zE hτ ⟨[(2,vI piece),(3,.ptr 500000 0),(9,s_EdgeT all),(10,vI (all.length : Int)),(11,vI s63),(26,vB j89)],[(500000,.box (c_cut_State st))]⟩ (zI j89 (fun hb=>?_) fun hb=>?_)
 replace h:=iteT hb h
 refine z8 1 ⟨[(6,vB false)],[]⟩ fun τ hτ=>?_
 refine bl_ret (th_ret ?_)
 obtain rfl:=osi h
 exact zF hτ
 replace h:=iteF hb h
 refine zM fun τ hτ=>?_
 refine bl_normal (zE hτ ⟨[(2,vI piece),(3,.ptr 500000 0),(9,s_EdgeT all),(10,vI (all.length : Int)),(11,vI s63)],[(500000,.box (c_cut_State st))]⟩ (zD ?_))
 refine z6 2 fun τ hτ=>?_
 obtain rfl:=osi h
 exact zH hτ
 replace h:=iteF hb h
 refine zL 0 fun τ hτ=>?_
 refine th_exit ?_
 obtain rfl:=osi h
 exact zF hτ
 intro x
 rcases x with _ | _ <;> rfl
 intro τ hτ
 rcases x92 with j93 | j94
 refine bl_ret (th_ret ?_)
 obtain rfl:=osi h
 exact zV hτ [(6,vB false)]
 refine zQ (zE hτ ⟨[],[]⟩ (z8 1 ⟨[(6,vB true)],[]⟩ fun τ hτ=>?_))
 obtain rfl:=osi h
 exact zV hτ [(6,vB true)]
theorem W.cut_State_order_k_ok {st : cut_State} {all : (List EdgeT)} {x2 : ItemT} {r : Bool} (h : cut_State_order_k st all x2 = some r) : PC G.P 115 [(.agg (c_cut_State st)),(.sl (List.map c_EdgeT all)),(.agg (c_ItemT x2))] [] (vB r) []:=by
 refine zU G Tryz.func115 (zK ⟨[(0,.agg (c_cut_State st)),(1,s_EdgeT all),(2,.agg (c_ItemT x2))],[]⟩ (z3 3 ⟨[(1,s_EdgeT all),(3,.ptr 3 0),(5,.ptr 5 0)],[(3,.box (c_cut_State st)),(5,.box (c_ItemT x2))]⟩ ?_))
 refine zB (zC (z7 ?_))
 refine zA 4 ?_
 obtain ⟨x4,hx4,h⟩:=bindS h
 refine evs_op (st_idx (c:=cB) (l:=st.Fallen) (i:=x2.Piece) (kd:=.i64) (sz:=1) (by kernel_rfl) hx4 rfl) (z1 2 ⟨[(1,s_EdgeT all),(3,.ptr 3 0),(5,.ptr 5 0),(7,vB x4)],[(3,.box (c_cut_State st)),(5,.box (c_ItemT x2))]⟩ (zI x4 (fun hb=>?_) fun hb=>?_))
 replace h:=iteT hb h
 exact nomatch h
 replace h:=iteF hb h
 refine z3 4 ⟨[(1,s_EdgeT all),(3,.ptr 3 0),(5,.ptr 5 0),(14,vB (decide (x2.Hole ≥ 0)))],[(3,.box (c_cut_State st)),(5,.box (c_ItemT x2))]⟩ (zI (decide (x2.Hole ≥ 0)) (fun hb=>?_) fun hb=>?_)
 replace h:=iteT hb h
 exact nomatch h
 replace h:=iteF hb h
 refine zM fun τ hτ=>?_
 refine bl_normal (zE hτ ⟨[(1,s_EdgeT all),(3,.ptr 3 0),(5,.ptr 5 0)],[(3,.box (c_cut_State st)),(5,.box (c_ItemT x2))]⟩ (z7 ?_))
 refine zA 4 ?_
 obtain ⟨x9,hx9,h⟩:=bindS h
 refine evs_op (st_idx (c:=cB) (l:=st.Done) (i:=x2.Piece) (kd:=.i64) (sz:=1) (by kernel_rfl) hx9 rfl) (zA 3 (zS x9 (fun b0=>⟨[(1,s_EdgeT all),(3,.ptr 3 0),(5,.ptr 5 0),(36,vB (!b0))],[(3,.box (c_cut_State st)),(5,.box (c_ItemT x2))]⟩) (fun hb=>?_) fun hb=>?_))
 replace h:=iteT hb h
 exact nomatch h
 replace h:=iteF hb h
 refine zA 4 ?_
 obtain ⟨x10,hx10,h⟩:=bindS h
 refine evs_op (st_idx (c:=(cS cB)) (l:=st.Holes) (i:=x2.Piece) (kd:=.i64) (sz:=1) (by kernel_rfl) hx10 rfl) (zA 1 ?_)
 obtain ⟨r11,hr11,h⟩:=bindS h
 refine evs_callP [] (by kernel_rfl) (W.slices_Contains_Lbool_bool_k_ok hr11) (by kernel_rfl) (.inl rfl) (by kernel_rfl) (zA 3 (zS r11 (fun b0=>⟨[(1,s_EdgeT all),(3,.ptr 3 0),(5,.ptr 5 0),(46,vB (!b0))],[(3,.box (c_cut_State st)),(5,.box (c_ItemT x2))]⟩) (fun hb=>?_) fun hb=>?_))
 replace h:=iteT hb h
 exact nomatch h
 replace h:=iteF hb h
 refine zA 4 ?_
 obtain ⟨r12,hr12,h⟩:=bindS h
 refine evs_callP [] (by kernel_rfl) (W.cut_State_free_k_ok hr12) (by kernel_rfl) (.inl rfl) (by kernel_rfl) (z1 3 ⟨[(6,vB (!r12))],[]⟩ (zN fun τ hτ=>?_))
 obtain rfl:=osi h
 exact zV hτ [(6,vB (!r12))]
theorem W.cut_Small_k_ok {x0 : Piece} {r : Bool} (h : cut_Small_k x0 = some r) : PC G.P 65 [(.agg (c_Piece x0))] [] (vB r) []:=by
 refine zU G Tryz.func65 (zK ⟨[(0,.agg (c_Piece x0))],[]⟩ (z3 2 ⟨[(1,.ptr 1 0)],[(1,.box (c_Piece x0))]⟩ ?_))
 refine z3 1 ⟨[(1,.ptr 1 0),(3,.ptr 3 0)],[(1,.box (c_Piece x0)),(3,.box [(vI 0),(vI 0),(vI 0),(vI 0)])]⟩ (zB (z7 ?_))
 refine zA 2 (evs_op (st_len (c:=c_Rect) (l:=x0.Rects) (x:=(s_Rect x0.Rects)) (by kernel_rfl) (by kernel_rfl)) (z1 1 ⟨[(3,.ptr 3 0),(9,s_Rect x0.Rects),(10,vI (x0.Rects.length : Int)),(11,vI 0)],[(3,.box [(vI 0),(vI 0),(vI 0),(vI 0)])]⟩ ?_))
 refine zC ?_
 obtain ⟨x54,hx54,h⟩:=bindS h
 refine sem_loopS (fun (s37 : Int × Int × Int × Int × Int)=>⟨[(3,.ptr 500000 0),(9,s_Rect x0.Rects),(10,vI (x0.Rects.length : Int)),(11,vI s37.1)],[(500000,.box [(vI s37.2.1),(vI s37.2.2.1),(vI s37.2.2.2.1),(vI s37.2.2.2.2)])]⟩) (fun (x54 : Int × Int × Int × Int)=>(.exit 0,⟨[(3,.ptr 500000 0)],[(500000,.box [(vI x54.1),(vI x54.2.1),(vI x54.2.2.1),(vI x54.2.2.2)])]⟩)) (cut_Small_k_l1 x0) (0,0,0,0,0) x54 (by kernel_rfl) (subR_prep [] [(3,500000)] (by kernel_rfl) rfl rfl (by kernel_rfl)) (iter_loop hx54) ?_ ?_ ?_
 intro s37 r h
 refine z3 1 ⟨[(3,.ptr 500000 0),(9,s_Rect x0.Rects),(10,vI (x0.Rects.length : Int)),(11,vI s37.1),(12,vB (decide (s37.1 < (x0.Rects.length : Int))))],[(500000,.box [(vI s37.2.1),(vI s37.2.2.1),(vI s37.2.2.2.1),(vI s37.2.2.2.2)])]⟩ (zB (zI (decide (s37.1 < (x0.Rects.length : Int))) (fun hb=>?_) fun hb=>?_))
 replace h:=iteT hb h
 refine z4 ⟨[(3,.ptr 500000 0),(9,s_Rect x0.Rects),(10,vI (x0.Rects.length : Int)),(11,vI s37.1)],[(500000,.box [(vI s37.2.1),(vI s37.2.2.1),(vI s37.2.2.2.1),(vI s37.2.2.2.2)])]⟩ (zB (zC ?_))
 refine z7 ?_
 obtain ⟨x51,hx51,h⟩:=bindS h
 refine evs_op (st_idx (c:=c_Rect) (l:=x0.Rects) (i:=s37.1) (kd:=.i64) (sz:=4) (by kernel_rfl) hx51 rfl) (z1 3 ⟨[(3,.ptr 500000 0),(5,.ptr 5 0),(9,s_Rect x0.Rects),(10,vI (x0.Rects.length : Int)),(11,vI s37.1)],[(5,.box (c_Rect x51)),(500000,.box [(vI s37.2.1),(vI s37.2.2.1),(vI s37.2.2.2.1),(vI s37.2.2.2.2)])]⟩ (zC ?_))
 refine z7 (zA 1 ?_)
 obtain ⟨r53,hr53,h⟩:=bindS h
 refine evs_callP [] (by kernel_rfl) (W.geom_ValidRect_k_ok hr53) (by kernel_rfl) (.inl rfl) (by kernel_rfl) (z1 2 ⟨[(3,.ptr 500000 0),(5,.ptr 5 0),(9,s_Rect x0.Rects),(10,vI (x0.Rects.length : Int)),(11,vI s37.1),(57,vB (!r53))],[(5,.box (c_Rect x51)),(500000,.box [(vI s37.2.1),(vI s37.2.2.1),(vI s37.2.2.2.1),(vI s37.2.2.2.2)])]⟩ (zI (!r53) (fun hb=>?_) fun hb=>?_))
 replace h:=iteT hb h
 exact nomatch h
 replace h:=iteF hb h
 refine z3 4 ⟨[(3,.ptr 500000 0),(5,.ptr 5 0),(9,s_Rect x0.Rects),(10,vI (x0.Rects.length : Int)),(11,vI s37.1),(61,vB (s37.2.2.2.1 == 0))],[(5,.box (c_Rect x51)),(500000,.box [(vI s37.2.1),(vI s37.2.2.1),(vI s37.2.2.2.1),(vI s37.2.2.2.2)])]⟩ (zI (s37.2.2.2.1 == 0) (fun hb=>?_) fun hb=>?_)
 replace h:=iteT hb h
 refine zD (z6 2 fun τ hτ=>?_)
 refine bl_normal (bl_normal (zE hτ ⟨[(3,.ptr 500000 0),(9,s_Rect x0.Rects),(10,vI (x0.Rects.length : Int)),(11,vI s37.1)],[(500000,.box (c_Rect x51))]⟩ ?_))
 refine zD (z6 2 fun τ hτ=>?_)
 obtain rfl:=osi h
 exact zH hτ
 replace h:=iteF hb h
 exact nomatch h
 replace h:=iteF hb h
 refine zL 0 fun τ hτ=>?_
 refine th_exit ?_
 obtain rfl:=osi h
 exact zF hτ
 intro x
 rfl
 intro τ hτ
 refine zQ (zE hτ ⟨[(3,.ptr 500000 0)],[(500000,.box [(vI x54.1),(vI x54.2.1),(vI x54.2.2.1),(vI x54.2.2.2)])]⟩ (z8 7 ⟨[(2,vB (decide ((imin x54.2.2.1 x54.2.2.2) < 7200)))],[]⟩ fun τ hτ=>?_))
 obtain rfl:=osi h
 exact zV hτ [(2,vB (decide ((imin x54.2.2.1 x54.2.2.2) < 7200)))]
theorem W.cut_InRegion_1_k_ok {r0 : Rect} {a_0 : Int} {a_1 : Int} {a_2 : Int} {a_3 : Int} {r : Bool} (h : cut_InRegion_1_k r0 a_0 a_1 a_2 a_3 = some r) : PC G.P 184 [(.agg (c_Rect r0)),(.vptr [(vI a_0),(vI a_1),(vI a_2),(vI a_3)] 0)] [] (vB r) []:=by
 refine zU G Tryz.func184 (zK ⟨[(0,.agg (c_Rect r0)),(1,.vptr [(vI a_0),(vI a_1),(vI a_2),(vI a_3)] 0)],[]⟩ (z3 2 ⟨[(1,.vptr [(vI a_0),(vI a_1),(vI a_2),(vI a_3)] 0),(2,.ptr 2 0)],[(2,.box (c_Rect r0))]⟩ ?_))
 refine z7 (zA 2 ?_)
 obtain ⟨r2,hr2,h⟩:=bindS h
 refine evs_callP [] (by kernel_rfl) (W.geom_Inside_k_ok hr2) (by kernel_rfl) (.inl rfl) (by kernel_rfl) (z1 1 ⟨[(3,vB r2)],[]⟩ (zN fun τ hτ=>?_))
 obtain rfl:=osi h
 exact zV hτ [(3,vB r2)]
end Go.Proofs.YtgfjbgoehhnaeaaGreat
