/- Each Go function does what its model says; written by a program out of the translation. -/
import Derived.Test.YtgfjbgoehhnaeaaGreatWV2
import Derived.Test.YtgfjbgoehhnaeaaGreatCzMV
set_option linter.unusedVariables false
set_option linter.unusedSimpArgs false
set_option linter.unusedSectionVars false
namespace Go.Proofs.YtgfjbgoehhnaeaaGreat
open Go Go.VI Go.SM Go.Proofs
set_option maxRecDepth 100000
set_option maxHeartbeats 4000000
theorem W.slices_IndexFunc_Lapi_Rect_api_Rect__cut_InRegion_1_k_ok {s0 : (List Rect)} {f_0_0 : Int} {f_0_1 : Int} {f_0_2 : Int} {f_0_3 : Int} {r : Int} (h : slices_IndexFunc_Lapi_Rect_api_Rect__cut_InRegion_1_k s0 f_0_0 f_0_1 f_0_2 f_0_3 = some r) : PC G.P 147 [(.sl (List.map c_Rect s0)),(.fn 184 [(.vptr [(vI f_0_0),(vI f_0_1),(vI f_0_2),(vI f_0_3)] 0)])] [] (vI r) []:=by
 refine zU G Tryz.func147 (zK ⟨[(0,s_Rect s0),(1,.fn 184 [(.vptr [(vI f_0_0),(vI f_0_1),(vI f_0_2),(vI f_0_3)] 0)])],[]⟩ (z3 1 ⟨[(0,s_Rect s0),(1,.fn 184 [(.vptr [(vI f_0_0),(vI f_0_1),(vI f_0_2),(vI f_0_3)] 0)])],[]⟩ ?_))
 refine zB (z7 (zA 1 ?_))
 refine evs_op (st_len (c:=c_Rect) (l:=s0) (x:=(s_Rect s0)) (by kernel_rfl) (by kernel_rfl)) (z1 1 ⟨[(0,s_Rect s0),(1,.fn 184 [(.vptr [(vI f_0_0),(vI f_0_1),(vI f_0_2),(vI f_0_3)] 0)]),(7,vI (s0.length : Int)),(8,vI 0)],[]⟩ (zC ?_))
 obtain ⟨x54,hx54,h⟩:=bindS h
 refine sem_loopS (fun (s37 : Int)=>⟨[(0,s_Rect s0),(1,.fn 184 [(.vptr [(vI f_0_0),(vI f_0_1),(vI f_0_2),(vI f_0_3)] 0)]),(7,vI (s0.length : Int)),(8,vI s37)],[]⟩) (fun (x54 : Unit)=>(.exit 0,⟨[],[]⟩)) (slices_IndexFunc_Lapi_Rect_api_Rect__cut_InRegion_1_k_l1 s0 f_0_0 f_0_1 f_0_2 f_0_3) 0 x54 (by kernel_rfl) (here (by kernel_rfl)) (iter_loop hx54) ?_ ?_ ?_
 intro s37 r h
 refine z3 1 ⟨[(0,s_Rect s0),(1,.fn 184 [(.vptr [(vI f_0_0),(vI f_0_1),(vI f_0_2),(vI f_0_3)] 0)]),(7,vI (s0.length : Int)),(8,vI s37),(9,vB (decide (s37 < (s0.length : Int))))],[]⟩ (zB (zI (decide (s37 < (s0.length : Int))) (fun hb=>?_) fun hb=>?_))
 replace h:=iteT hb h
 refine z4 ⟨[(0,s_Rect s0),(1,.fn 184 [(.vptr [(vI f_0_0),(vI f_0_1),(vI f_0_2),(vI f_0_3)] 0)]),(7,vI (s0.length : Int)),(8,vI s37)],[]⟩ (zB (zC ?_))
 refine z3 2 ⟨[(0,s_Rect s0),(1,.fn 184 [(.vptr [(vI f_0_0),(vI f_0_1),(vI f_0_2),(vI f_0_3)] 0)]),(5,vI s37),(7,vI (s0.length : Int)),(8,vI s37)],[]⟩ (z7 (zA 3 ?_))
 obtain ⟨x52,hx52,h⟩:=bindS h
 refine evs_op (st_idx (c:=c_Rect) (l:=s0) (i:=s37) (kd:=.i64) (sz:=4) (by kernel_rfl) hx52 rfl) (zA 1 ?_)
 obtain ⟨r53,hr53,h⟩:=bindS h
 refine evs_callP [] (by kernel_rfl) (W.cut_InRegion_1_k_ok hr53) (by kernel_rfl) (.inl rfl) (by kernel_rfl) (zP fun τ hτ=>?_)
 refine zE hτ ⟨[(0,s_Rect s0),(1,.fn 184 [(.vptr [(vI f_0_0),(vI f_0_1),(vI f_0_2),(vI f_0_3)] 0)]),(5,vI s37),(7,vI (s0.length : Int)),(8,vI s37),(16,vB r53)],[]⟩ (zI r53 (fun hb=>?_) fun hb=>?_)
 replace h:=iteT hb h
 exact nomatch h
 replace h:=iteF hb h
 refine zM fun τ hτ=>?_
 refine bl_normal (zE hτ ⟨[(0,s_Rect s0),(1,.fn 184 [(.vptr [(vI f_0_0),(vI f_0_1),(vI f_0_2),(vI f_0_3)] 0)]),(7,vI (s0.length : Int)),(8,vI s37)],[]⟩ (zD ?_))
 refine z6 2 fun τ hτ=>?_
 obtain rfl:=osi h
 exact zH hτ
 replace h:=iteF hb h
 refine zL 0 fun τ hτ=>?_
 refine th_exit ?_
 obtain rfl:=osi h
 exact zF hτ
 intro x
 rfl
 intro τ hτ
 refine zQ (zE hτ ⟨[],[]⟩ (z8 1 ⟨[(4,vI (-1))],[]⟩ fun τ hτ=>?_))
 obtain rfl:=osi h
 exact zV hτ [(4,vI (-1))]
theorem W.slices_ContainsFunc_Lapi_Rect_api_Rect__cut_InRegion_1_k_ok {s0 : (List Rect)} {f_0_0 : Int} {f_0_1 : Int} {f_0_2 : Int} {f_0_3 : Int} {r : Bool} (h : slices_ContainsFunc_Lapi_Rect_api_Rect__cut_InRegion_1_k s0 f_0_0 f_0_1 f_0_2 f_0_3 = some r) : PC G.P 92 [(.sl (List.map c_Rect s0)),(.fn 184 [(.vptr [(vI f_0_0),(vI f_0_1),(vI f_0_2),(vI f_0_3)] 0)])] [] (vB r) []:=by
 refine zU G Tryz.func92 (zK ⟨[(0,s_Rect s0),(1,.fn 184 [(.vptr [(vI f_0_0),(vI f_0_1),(vI f_0_2),(vI f_0_3)] 0)])],[]⟩ (z3 1 ⟨[(0,s_Rect s0),(1,.fn 184 [(.vptr [(vI f_0_0),(vI f_0_1),(vI f_0_2),(vI f_0_3)] 0)])],[]⟩ ?_))
 refine z7 (zA 2 ?_)
 obtain ⟨r2,hr2,h⟩:=bindS h
 refine evs_callP [] (by kernel_rfl) (W.slices_IndexFunc_Lapi_Rect_api_Rect__cut_InRegion_1_k_ok hr2) (by kernel_rfl) (.inl rfl) (by kernel_rfl) (z1 2 ⟨[(4,vB (decide (r2 ≥ 0)))],[]⟩ (zN fun τ hτ=>?_))
 obtain rfl:=osi h
 exact zV hτ [(4,vB (decide (r2 ≥ 0)))]
theorem W.cut_InRegion_k_ok {l : (List Rect)} {s1 : Spot} {r : Bool} (h : cut_InRegion_k l s1 = some r) : PC G.P 158 [(.sl (List.map c_Rect l)),(.agg [(vI s1.X),(vI s1.Y)])] [] (vB r) []:=by
 refine zU G Tryz.func158 (zK ⟨[(0,s_Rect l),(1,.agg [(vI s1.X),(vI s1.Y)])],[]⟩ (z3 2 ⟨[(0,s_Rect l),(3,.ptr 3 0)],[(3,.box [(vI s1.X),(vI s1.Y)])]⟩ ?_))
 refine zB (z7 (zA 4 ?_))
 refine zS (decide (s1.X < (-4194304))) (fun b0=>⟨[(0,s_Rect l),(3,.ptr 3 0),(10,vB b0)],[(3,.box [(vI s1.X),(vI s1.Y)])]⟩) (fun hb=>?_) fun hb=>?_
 replace h:=iteT hb h
 exact nomatch h
 replace h:=iteF hb h
 refine zA 5 (zS (decide (s1.X > 4194304)) (fun b0=>⟨[(0,s_Rect l),(3,.ptr 3 0),(15,vB b0)],[(3,.box [(vI s1.X),(vI s1.Y)])]⟩) (fun hb=>?_) fun hb=>?_)
 replace h:=iteT hb h
 exact nomatch h
 replace h:=iteF hb h
 refine zA 5 (zS (decide (s1.Y < (-4194304))) (fun b0=>⟨[(0,s_Rect l),(3,.ptr 3 0),(20,vB b0)],[(3,.box [(vI s1.X),(vI s1.Y)])]⟩) (fun hb=>?_) fun hb=>?_)
 replace h:=iteT hb h
 exact nomatch h
 replace h:=iteF hb h
 refine z1 4 ⟨[(0,s_Rect l),(3,.ptr 3 0),(24,vB (decide (s1.Y > 4194304)))],[(3,.box [(vI s1.X),(vI s1.Y)])]⟩ (zI (decide (s1.Y > 4194304)) (fun hb=>?_) fun hb=>?_)
 replace h:=iteT hb h
 exact nomatch h
 replace h:=iteF hb h
 refine z4 ⟨[(0,s_Rect l),(3,.ptr 3 0)],[(3,.box [(vI s1.X),(vI s1.Y)])]⟩ (zB (z7 ?_))
 refine zA 25 (evs_op (st_len (c:=c_Rect) (l:=[(Rect.mk (isub s1.X 1) (isub s1.Y 1) 1 1),(Rect.mk s1.X (isub s1.Y 1) 1 1),(Rect.mk (isub s1.X 1) s1.Y 1 1),(Rect.mk s1.X s1.Y 1 1)]) (x:=(s_Rect [(Rect.mk (isub s1.X 1) (isub s1.Y 1) 1 1),(Rect.mk s1.X (isub s1.Y 1) 1 1),(Rect.mk (isub s1.X 1) s1.Y 1 1),(Rect.mk s1.X s1.Y 1 1)])) (by kernel_rfl) (by kernel_rfl)) (z1 1 ⟨[(0,s_Rect l),(49,s_Rect [(Rect.mk (isub s1.X 1) (isub s1.Y 1) 1 1),(Rect.mk s1.X (isub s1.Y 1) 1 1),(Rect.mk (isub s1.X 1) s1.Y 1 1),(Rect.mk s1.X s1.Y 1 1)]),(50,vI ([(Rect.mk (isub s1.X 1) (isub s1.Y 1) 1 1),(Rect.mk s1.X (isub s1.Y 1) 1 1),(Rect.mk (isub s1.X 1) s1.Y 1 1),(Rect.mk s1.X s1.Y 1 1)].length : Int)),(51,vI 0)],[]⟩ ?_))
 refine zC ?_
 obtain ⟨x36,hx36,h⟩:=bindS h
 refine sem_loopS (fun (s19 : Unit)=>⟨[(0,s_Rect l),(49,s_Rect [(Rect.mk (isub s1.X 1) (isub s1.Y 1) 1 1),(Rect.mk s1.X (isub s1.Y 1) 1 1),(Rect.mk (isub s1.X 1) s1.Y 1 1),(Rect.mk s1.X s1.Y 1 1)]),(50,vI ([(Rect.mk (isub s1.X 1) (isub s1.Y 1) 1 1),(Rect.mk s1.X (isub s1.Y 1) 1 1),(Rect.mk (isub s1.X 1) s1.Y 1 1),(Rect.mk s1.X s1.Y 1 1)].length : Int)),(51,vI 0)],[]⟩) (fun (x36 : Unit)=>(.ret,⟨[(4,vB false)],[]⟩)) (cut_InRegion_k_l1 l s1) () x36 (by kernel_rfl) (here (by kernel_rfl)) (iter_loop hx36) ?_ ?_ ?_
 intro s19 r h
 refine z3 1 ⟨[(0,s_Rect l),(49,s_Rect [(Rect.mk (isub s1.X 1) (isub s1.Y 1) 1 1),(Rect.mk s1.X (isub s1.Y 1) 1 1),(Rect.mk (isub s1.X 1) s1.Y 1 1),(Rect.mk s1.X s1.Y 1 1)]),(50,vI ([(Rect.mk (isub s1.X 1) (isub s1.Y 1) 1 1),(Rect.mk s1.X (isub s1.Y 1) 1 1),(Rect.mk (isub s1.X 1) s1.Y 1 1),(Rect.mk s1.X s1.Y 1 1)].length : Int)),(51,vI 0),(52,vB (decide (0 < ([(Rect.mk (isub s1.X 1) (isub s1.Y 1) 1 1),(Rect.mk s1.X (isub s1.Y 1) 1 1),(Rect.mk (isub s1.X 1) s1.Y 1 1),(Rect.mk s1.X s1.Y 1 1)].length : Int))))],[]⟩ (zB (zI (decide (0 < ([(Rect.mk (isub s1.X 1) (isub s1.Y 1) 1 1),(Rect.mk s1.X (isub s1.Y 1) 1 1),(Rect.mk (isub s1.X 1) s1.Y 1 1),(Rect.mk s1.X s1.Y 1 1)].length : Int))) (fun hb=>?_) fun hb=>?_))
 replace h:=iteT hb h
 refine z4 ⟨[(0,s_Rect l),(49,s_Rect [(Rect.mk (isub s1.X 1) (isub s1.Y 1) 1 1),(Rect.mk s1.X (isub s1.Y 1) 1 1),(Rect.mk (isub s1.X 1) s1.Y 1 1),(Rect.mk s1.X s1.Y 1 1)]),(50,vI ([(Rect.mk (isub s1.X 1) (isub s1.Y 1) 1 1),(Rect.mk s1.X (isub s1.Y 1) 1 1),(Rect.mk (isub s1.X 1) s1.Y 1 1),(Rect.mk s1.X s1.Y 1 1)].length : Int)),(51,vI 0)],[]⟩ (zB (zC ?_))
 refine z7 ?_
 obtain ⟨x33,hx33,h⟩:=bindS h
 refine evs_op (st_idx (c:=c_Rect) (l:=[(Rect.mk (isub s1.X 1) (isub s1.Y 1) 1 1),(Rect.mk s1.X (isub s1.Y 1) 1 1),(Rect.mk (isub s1.X 1) s1.Y 1 1),(Rect.mk s1.X s1.Y 1 1)]) (i:=0) (kd:=.i64) (sz:=4) (by kernel_rfl) hx33 rfl) (z1 3 ⟨[(0,s_Rect l),(6,.ptr 6 0),(49,s_Rect [(Rect.mk (isub s1.X 1) (isub s1.Y 1) 1 1),(Rect.mk s1.X (isub s1.Y 1) 1 1),(Rect.mk (isub s1.X 1) s1.Y 1 1),(Rect.mk s1.X s1.Y 1 1)]),(50,vI ([(Rect.mk (isub s1.X 1) (isub s1.Y 1) 1 1),(Rect.mk s1.X (isub s1.Y 1) 1 1),(Rect.mk (isub s1.X 1) s1.Y 1 1),(Rect.mk s1.X s1.Y 1 1)].length : Int)),(51,vI 0)],[(6,.box (c_Rect x33))]⟩ (z7 ?_))
 refine zA 2 ?_
 obtain ⟨r35,hr35,h⟩:=bindS h
 refine evs_callP [6] (by kernel_rfl) (W.slices_ContainsFunc_Lapi_Rect_api_Rect__cut_InRegion_1_k_ok hr35) (by kernel_rfl) (.inr rfl) (by kernel_rfl) (z1 1 ⟨[(0,s_Rect l),(49,s_Rect [(Rect.mk (isub s1.X 1) (isub s1.Y 1) 1 1),(Rect.mk s1.X (isub s1.Y 1) 1 1),(Rect.mk (isub s1.X 1) s1.Y 1 1),(Rect.mk s1.X s1.Y 1 1)]),(50,vI ([(Rect.mk (isub s1.X 1) (isub s1.Y 1) 1 1),(Rect.mk s1.X (isub s1.Y 1) 1 1),(Rect.mk (isub s1.X 1) s1.Y 1 1),(Rect.mk s1.X s1.Y 1 1)].length : Int)),(51,vI 0),(58,vB (!r35))],[]⟩ (zI (!r35) (fun hb=>?_) fun hb=>?_))
 replace h:=iteT hb h
 refine z8 1 ⟨[(4,vB false)],[]⟩ fun τ hτ=>?_
 refine bl_ret (th_ret ?_)
 obtain rfl:=osi h
 exact zF hτ
 replace h:=iteF hb h
 exact nomatch h
 replace h:=iteF hb h
 exact nomatch h
 intro x
 rfl
 intro τ hτ
 refine bl_ret (th_ret ?_)
 obtain rfl:=osi h
 exact zV hτ [(4,vB false)]
theorem W.cut_gap_k_ok {s0 : Spot} {l : Segment} {r : Int} (h : cut_gap_k s0 l = some r) : PC G.P 159 [(.agg [(vI s0.X),(vI s0.Y)]),(.agg (c_Segment l))] [] (vI r) []:=by
 refine zU G Tryz.func159 (zK ⟨[(0,.agg [(vI s0.X),(vI s0.Y)]),(1,.agg (c_Segment l))],[]⟩ (z3 3 ⟨[(2,.ptr 2 0),(3,.ptr 3 0)],[(2,.box [(vI s0.X),(vI s0.Y)]),(3,.box (c_Segment l))]⟩ ?_))
 refine z8 22 ⟨[(4,vI (imax (imax (imax (imax 0 (isub l.X1 s0.X)) (isub s0.X l.X2)) (isub l.Y1 s0.Y)) (isub s0.Y l.Y2)))],[]⟩ fun τ hτ=>?_
 obtain rfl:=osi h
 exact zV hτ [(4,vI (imax (imax (imax (imax 0 (isub l.X1 s0.X)) (isub s0.X l.X2)) (isub l.Y1 s0.Y)) (isub s0.Y l.Y2)))]
theorem W.cut_State_lead_k_ok {st : cut_State} {l : LayoutT} {all : (List EdgeT)} {x3 : ItemT} {r : Bool} (h : cut_State_lead_k st l all x3 = some r) : PC G.P 116 [(.agg (c_cut_State st)),(.agg (c_LayoutT l)),(.sl (List.map c_EdgeT all)),(.agg (c_ItemT x3))] [] (vB r) []:=by
 refine zU G Tryz.func116 (zK ⟨[(0,.agg (c_cut_State st)),(1,.agg (c_LayoutT l)),(2,s_EdgeT all),(3,.agg (c_ItemT x3))],[]⟩ (z3 4 ⟨[(2,s_EdgeT all),(4,.ptr 4 0),(5,.ptr 5 0),(7,.ptr 7 0)],[(4,.box (c_cut_State st)),(5,.box (c_LayoutT l)),(7,.box (c_ItemT x3))]⟩ ?_))
 refine z3 4 ⟨[(2,s_EdgeT all),(4,.ptr 4 0),(5,.ptr 5 0),(7,.ptr 7 0),(9,.ptr 9 0)],[(4,.box (c_cut_State st)),(5,.box (c_LayoutT l)),(7,.box (c_ItemT x3)),(9,.box [(vI x3.Lead.X),(vI x3.Lead.Y)])]⟩ (zB (z3 3 ⟨[(2,s_EdgeT all),(4,.ptr 4 0),(5,.ptr 5 0),(7,.ptr 7 0),(9,.ptr 9 0),(19,vB (decide (x3.Hole ≥ 0)))],[(4,.box (c_cut_State st)),(5,.box (c_LayoutT l)),(7,.box (c_ItemT x3)),(9,.box [(vI x3.Lead.X),(vI x3.Lead.Y)])]⟩ ?_))
 refine zI (decide (x3.Hole ≥ 0)) (fun hb=>?_) fun hb=>?_
 replace h:=iteT hb h
 exact nomatch h
 replace h:=iteF hb h
 refine z4 ⟨[(2,s_EdgeT all),(4,.ptr 4 0),(5,.ptr 5 0),(7,.ptr 7 0),(9,.ptr 9 0)],[(4,.box (c_cut_State st)),(5,.box (c_LayoutT l)),(7,.box (c_ItemT x3)),(9,.box [(vI x3.Lead.X),(vI x3.Lead.Y)])]⟩ (zB (z7 ?_))
 refine zA 4 (zS (decide (x3.Lead.X < 0)) (fun b0=>⟨[(2,s_EdgeT all),(4,.ptr 4 0),(5,.ptr 5 0),(7,.ptr 7 0),(9,.ptr 9 0),(66,vB b0)],[(4,.box (c_cut_State st)),(5,.box (c_LayoutT l)),(7,.box (c_ItemT x3)),(9,.box [(vI x3.Lead.X),(vI x3.Lead.Y)])]⟩) (fun hb=>?_) fun hb=>?_)
 replace h:=iteT hb h
 exact nomatch h
 replace h:=iteF hb h
 refine zA 8 (zS (decide (x3.Lead.X > l.Sheet.Width)) (fun b0=>⟨[(2,s_EdgeT all),(4,.ptr 4 0),(5,.ptr 5 0),(7,.ptr 7 0),(9,.ptr 9 0),(74,vB b0)],[(4,.box (c_cut_State st)),(5,.box (c_LayoutT l)),(7,.box (c_ItemT x3)),(9,.box [(vI x3.Lead.X),(vI x3.Lead.Y)])]⟩) (fun hb=>?_) fun hb=>?_)
 replace h:=iteT hb h
 exact nomatch h
 replace h:=iteF hb h
 refine zA 5 (zS (decide (x3.Lead.Y < 0)) (fun b0=>⟨[(2,s_EdgeT all),(4,.ptr 4 0),(5,.ptr 5 0),(7,.ptr 7 0),(9,.ptr 9 0),(79,vB b0)],[(4,.box (c_cut_State st)),(5,.box (c_LayoutT l)),(7,.box (c_ItemT x3)),(9,.box [(vI x3.Lead.X),(vI x3.Lead.Y)])]⟩) (fun hb=>?_) fun hb=>?_)
 replace h:=iteT hb h
 exact nomatch h
 replace h:=iteF hb h
 refine zA 8 (zS (decide (x3.Lead.Y > l.Sheet.Height)) (fun b0=>⟨[(2,s_EdgeT all),(4,.ptr 4 0),(5,.ptr 5 0),(7,.ptr 7 0),(9,.ptr 9 0),(87,vB b0)],[(4,.box (c_cut_State st)),(5,.box (c_LayoutT l)),(7,.box (c_ItemT x3)),(9,.box [(vI x3.Lead.X),(vI x3.Lead.Y)])]⟩) (fun hb=>?_) fun hb=>?_)
 replace h:=iteT hb h
 exact nomatch h
 replace h:=iteF hb h
 refine zA 4 ?_
 obtain ⟨r4,hr4,h⟩:=bindS h
 refine evs_callP [] (by kernel_rfl) (W.cut_InRegion_k_ok hr4) (by kernel_rfl) (.inl rfl) (by kernel_rfl) (z1 1 ⟨[(2,s_EdgeT all),(4,.ptr 4 0),(5,.ptr 5 0),(7,.ptr 7 0),(9,.ptr 9 0),(93,vB r4)],[(4,.box (c_cut_State st)),(5,.box (c_LayoutT l)),(7,.box (c_ItemT x3)),(9,.box [(vI x3.Lead.X),(vI x3.Lead.Y)])]⟩ (zI r4 (fun hb=>?_) fun hb=>?_))
 replace h:=iteT hb h
 exact nomatch h
 replace h:=iteF hb h
 refine z4 ⟨[(2,s_EdgeT all),(4,.ptr 4 0),(5,.ptr 5 0),(7,.ptr 7 0),(9,.ptr 9 0)],[(4,.box (c_cut_State st)),(5,.box (c_LayoutT l)),(7,.box (c_ItemT x3)),(9,.box [(vI x3.Lead.X),(vI x3.Lead.Y)])]⟩ (zB (z7 ?_))
 refine zA 2 (evs_op (st_len (c:=c_Piece) (l:=l.Pieces) (x:=(s_Piece l.Pieces)) (by kernel_rfl) (by kernel_rfl)) (z1 1 ⟨[(2,s_EdgeT all),(4,.ptr 4 0),(7,.ptr 7 0),(9,.ptr 9 0),(95,s_Piece l.Pieces),(96,vI (l.Pieces.length : Int)),(97,vI 0)],[(4,.box (c_cut_State st)),(7,.box (c_ItemT x3)),(9,.box [(vI x3.Lead.X),(vI x3.Lead.Y)])]⟩ ?_))
 refine zC ?_
 obtain ⟨x58,hx58,h⟩:=bindS h
 refine sem_loopS (fun (s41 : Int)=>⟨[(2,s_EdgeT all),(4,.ptr 500000 0),(7,.ptr 500001 0),(9,.ptr 500002 0),(95,s_Piece l.Pieces),(96,vI (l.Pieces.length : Int)),(97,vI s41)],[(500000,.box (c_cut_State st)),(500001,.box (c_ItemT x3)),(500002,.box [(vI x3.Lead.X),(vI x3.Lead.Y)])]⟩) (fun (x58 : Unit)=>(.exit 0,⟨[(2,s_EdgeT all),(4,.ptr 500000 0),(7,.ptr 500001 0),(9,.ptr 500002 0)],[(500000,.box (c_cut_State st)),(500001,.box (c_ItemT x3)),(500002,.box [(vI x3.Lead.X),(vI x3.Lead.Y)])]⟩)) (cut_State_lead_k_l1 l x3) 0 x58 (by kernel_rfl) (subR_prep [] [(4,500000),(7,500001),(9,500002)] (by kernel_rfl) rfl rfl (by kernel_rfl)) (iter_loop hx58) ?_ ?_ ?_
 intro s41 r h
 refine z3 1 ⟨[(2,s_EdgeT all),(4,.ptr 500000 0),(7,.ptr 500001 0),(9,.ptr 500002 0),(95,s_Piece l.Pieces),(96,vI (l.Pieces.length : Int)),(97,vI s41),(98,vB (decide (s41 < (l.Pieces.length : Int))))],[(500000,.box (c_cut_State st)),(500001,.box (c_ItemT x3)),(500002,.box [(vI x3.Lead.X),(vI x3.Lead.Y)])]⟩ (zB (zI (decide (s41 < (l.Pieces.length : Int))) (fun hb=>?_) fun hb=>?_))
 replace h:=iteT hb h
 refine z4 ⟨[(2,s_EdgeT all),(4,.ptr 500000 0),(7,.ptr 500001 0),(9,.ptr 500002 0),(95,s_Piece l.Pieces),(96,vI (l.Pieces.length : Int)),(97,vI s41)],[(500000,.box (c_cut_State st)),(500001,.box (c_ItemT x3)),(500002,.box [(vI x3.Lead.X),(vI x3.Lead.Y)])]⟩ (zB (zC ?_))
 refine z7 ?_
 obtain ⟨x55,hx55,h⟩:=bindS h
 refine evs_op (st_idx (c:=c_Piece) (l:=l.Pieces) (i:=s41) (kd:=.i64) (sz:=7) (by kernel_rfl) hx55 rfl) (z1 3 ⟨[(2,s_EdgeT all),(4,.ptr 500000 0),(7,.ptr 500001 0),(9,.ptr 500002 0),(12,.ptr 12 0),(95,s_Piece l.Pieces),(96,vI (l.Pieces.length : Int)),(97,vI s41)],[(12,.box (c_Piece x55)),(500000,.box (c_cut_State st)),(500001,.box (c_ItemT x3)),(500002,.box [(vI x3.Lead.X),(vI x3.Lead.Y)])]⟩ (z7 ?_))
 refine zA 3 ?_
 obtain ⟨r57,hr57,h⟩:=bindS h
 refine evs_callP [] (by kernel_rfl) (W.cut_InRegion_k_ok hr57) (by kernel_rfl) (.inl rfl) (by kernel_rfl) (zP fun τ hτ=>?_)
 refine zE hτ ⟨[(2,s_EdgeT all),(4,.ptr 500000 0),(7,.ptr 500001 0),(9,.ptr 500002 0),(95,s_Piece l.Pieces),(96,vI (l.Pieces.length : Int)),(97,vI s41),(104,vB r57)],[(500000,.box (c_cut_State st)),(500001,.box (c_ItemT x3)),(500002,.box [(vI x3.Lead.X),(vI x3.Lead.Y)])]⟩ (zI r57 (fun hb=>?_) fun hb=>?_)
 replace h:=iteT hb h
 exact nomatch h
 replace h:=iteF hb h
 refine zM fun τ hτ=>?_
 refine bl_normal (zE hτ ⟨[(2,s_EdgeT all),(4,.ptr 500000 0),(7,.ptr 500001 0),(9,.ptr 500002 0),(95,s_Piece l.Pieces),(96,vI (l.Pieces.length : Int)),(97,vI s41)],[(500000,.box (c_cut_State st)),(500001,.box (c_ItemT x3)),(500002,.box [(vI x3.Lead.X),(vI x3.Lead.Y)])]⟩ (zD ?_))
 refine z6 2 fun τ hτ=>?_
 obtain rfl:=osi h
 exact zH hτ
 replace h:=iteF hb h
 refine zL 0 fun τ hτ=>?_
 refine th_exit ?_
 obtain rfl:=osi h
 exact zF hτ
 intro x
 rfl
 intro τ hτ
 refine zQ (zE hτ ⟨[(2,s_EdgeT all),(4,.ptr 500000 0),(7,.ptr 500001 0),(9,.ptr 500002 0)],[(500000,.box (c_cut_State st)),(500001,.box (c_ItemT x3)),(500002,.box [(vI x3.Lead.X),(vI x3.Lead.Y)])]⟩ (zB ?_))
 refine z7 (zA 1 (evs_op (st_len (c:=c_EdgeT) (l:=all) (x:=(s_EdgeT all)) (by kernel_rfl) (by kernel_rfl)) ?_))
 refine z1 1 ⟨[(4,.ptr 500000 0),(7,.ptr 500001 0),(9,.ptr 500002 0),(106,s_EdgeT all),(107,vI (all.length : Int)),(108,vI 0)],[(500000,.box (c_cut_State st)),(500001,.box (c_ItemT x3)),(500002,.box [(vI x3.Lead.X),(vI x3.Lead.Y)])]⟩ (zC ?_)
 obtain ⟨x172,hx172,h⟩:=bindS h
 refine sem_loopS (fun (s135 : Int)=>⟨[(4,.ptr 500000 0),(7,.ptr 500001 0),(9,.ptr 500002 0),(106,s_EdgeT all),(107,vI (all.length : Int)),(108,vI s135)],[(500000,.box (c_cut_State st)),(500001,.box (c_ItemT x3)),(500002,.box [(vI x3.Lead.X),(vI x3.Lead.Y)])]⟩) (fun (x172 : Unit)=>(.ret,⟨[(8,vB true)],[]⟩)) (cut_State_lead_k_l2 st all x3) 0 x172 (by kernel_rfl) (here (by kernel_rfl)) (iter_loop hx172) ?_ ?_ ?_
 intro s135 r h
 refine z3 1 ⟨[(4,.ptr 500000 0),(7,.ptr 500001 0),(9,.ptr 500002 0),(106,s_EdgeT all),(107,vI (all.length : Int)),(108,vI s135),(109,vB (decide (s135 < (all.length : Int))))],[(500000,.box (c_cut_State st)),(500001,.box (c_ItemT x3)),(500002,.box [(vI x3.Lead.X),(vI x3.Lead.Y)])]⟩ (zB (zI (decide (s135 < (all.length : Int))) (fun hb=>?_) fun hb=>?_))
 replace h:=iteT hb h
 refine z4 ⟨[(4,.ptr 500000 0),(7,.ptr 500001 0),(9,.ptr 500002 0),(106,s_EdgeT all),(107,vI (all.length : Int)),(108,vI s135)],[(500000,.box (c_cut_State st)),(500001,.box (c_ItemT x3)),(500002,.box [(vI x3.Lead.X),(vI x3.Lead.Y)])]⟩ (zB (zC ?_))
 refine z7 (zA 1 ?_)
 obtain ⟨x164,hx164,h⟩:=bindS h
 refine evs_op (st_idx (c:=c_EdgeT) (l:=all) (i:=s135) (kd:=.i64) (sz:=6) (by kernel_rfl) hx164 rfl) (z1 4 ⟨[(4,.ptr 500000 0),(7,.ptr 500001 0),(9,.ptr 500002 0),(13,vI s135),(14,.ptr 14 0),(106,s_EdgeT all),(107,vI (all.length : Int)),(108,vI s135)],[(14,.box (c_EdgeT x164)),(500000,.box (c_cut_State st)),(500001,.box (c_ItemT x3)),(500002,.box [(vI x3.Lead.X),(vI x3.Lead.Y)])]⟩ (zB ?_))
 obtain ⟨j168,hj168,h⟩:=bindS h
 refine zT ⟨[(4,.ptr 500000 0),(7,.ptr 500001 0),(9,.ptr 500002 0),(106,s_EdgeT all),(107,vI (all.length : Int)),(108,vI s135),(131,vB j168)],[(500000,.box (c_cut_State st)),(500001,.box (c_ItemT x3)),(500002,.box [(vI x3.Lead.X),(vI x3.Lead.Y)])]⟩ ?_ fun τ hτ=>?_
 replace h:=hj168
 refine zA 3 ?_
 obtain ⟨r169,hr169,h⟩:=bindS h
 refine evs_callP [] (by kernel_rfl) (W.cut_of_k_ok hr169) (by kernel_rfl) (.inl rfl) (by kernel_rfl) (zA 1 (zS r169 (fun b0=>⟨[(4,.ptr 500000 0),(7,.ptr 500001 0),(9,.ptr 500002 0),(13,vI s135),(14,.ptr 14 0),(106,s_EdgeT all),(107,vI (all.length : Int)),(108,vI s135),(117,vB b0)],[(14,.box (c_EdgeT x164)),(500000,.box (c_cut_State st)),(500001,.box (c_ItemT x3)),(500002,.box [(vI x3.Lead.X),(vI x3.Lead.Y)])]⟩) (fun hb=>?_) fun hb=>?_))
 replace h:=iteT hb h
 refine zA 3 ?_
 obtain ⟨x170,hx170,h⟩:=bindS h
 refine evs_op (st_idx (c:=cB) (l:=st.Cut) (i:=s135) (kd:=.i64) (sz:=1) (by kernel_rfl) hx170 rfl) (zA 4 (zS x170 (fun b0=>⟨[(4,.ptr 500000 0),(7,.ptr 500001 0),(9,.ptr 500002 0),(14,.ptr 14 0),(106,s_EdgeT all),(107,vI (all.length : Int)),(108,vI s135),(125,vB (!b0))],[(14,.box (c_EdgeT x164)),(500000,.box (c_cut_State st)),(500001,.box (c_ItemT x3)),(500002,.box [(vI x3.Lead.X),(vI x3.Lead.Y)])]⟩) (fun hb=>?_) fun hb=>?_))
 replace h:=iteT hb h
 refine z6 6 fun τ hτ=>?_
 obtain rfl:=osi h
 exact zG hτ
 replace h:=iteF hb h
 refine zA 3 ?_
 obtain ⟨r171,hr171,h⟩:=bindS h
 refine evs_callP [] (by kernel_rfl) (W.cut_gap_k_ok hr171) (by kernel_rfl) (.inl rfl) (by kernel_rfl) (z6 2 fun τ hτ=>?_)
 obtain rfl:=osi h
 exact zG hτ
 replace h:=iteF hb h
 refine z6 14 fun τ hτ=>?_
 obtain rfl:=osi h
 exact zG hτ
 refine zE hτ ⟨[(4,.ptr 500000 0),(7,.ptr 500001 0),(9,.ptr 500002 0),(106,s_EdgeT all),(107,vI (all.length : Int)),(108,vI s135),(131,vB j168)],[(500000,.box (c_cut_State st)),(500001,.box (c_ItemT x3)),(500002,.box [(vI x3.Lead.X),(vI x3.Lead.Y)])]⟩ (zI j168 (fun hb=>?_) fun hb=>?_)
 replace h:=iteT hb h
 refine z8 1 ⟨[(8,vB true)],[]⟩ fun τ hτ=>?_
 refine bl_ret (th_ret ?_)
 obtain rfl:=osi h
 exact zF hτ
 replace h:=iteF hb h
 refine zM fun τ hτ=>?_
 refine bl_normal (zE hτ ⟨[(4,.ptr 500000 0),(7,.ptr 500001 0),(9,.ptr 500002 0),(106,s_EdgeT all),(107,vI (all.length : Int)),(108,vI s135)],[(500000,.box (c_cut_State st)),(500001,.box (c_ItemT x3)),(500002,.box [(vI x3.Lead.X),(vI x3.Lead.Y)])]⟩ (zD ?_))
 refine z6 2 fun τ hτ=>?_
 obtain rfl:=osi h
 exact zH hτ
 replace h:=iteF hb h
 exact nomatch h
 intro x
 rfl
 intro τ hτ
 refine bl_ret (th_ret ?_)
 obtain rfl:=osi h
 exact zV hτ [(8,vB true)]
theorem W.slices_Clone_Lbool_bool_ok {s r : (List Bool)} (h : slices_Clone_Lbool_bool s = some r) : PC G.P 160 [.sl (List.map cB s)] [] (.row (.top 0) 4) [(0,.row 4 [] (List.map cB r))]:=by
 replace h : app [] s = some r:=h
 refine zU G Tryz.func160 (z3 1 ⟨[(0,sB s)],[]⟩ (zB ?_))
 refine z7 (zA 1 (evs_isnil (es:=List.map cB s) (by kernel_rfl) (fun hn=>?_) ?_))
 obtain rfl : s = []:=List.map_eq_nil_iff.1 hn
 obtain rfl : [] = r:=Option.some.inj ((app_eq (by simp [LIM])).symm.trans h)
 refine zP fun τ hτ=>?_
 refine zE hτ ⟨[(0,sB []),(4,vB true)],[]⟩ (sem_condT (by kernel_rfl) (by kernel_rfl) (z8 1 ⟨[(2,ro 2 4)],[(2,wB 4 [])]⟩ fun τ hτ=>?_))
 exact th_ret (rk_ret hτ [(2,ro 0 4)] (subR_of [(2,0)] rfl rfl (by kernel_rfl)) (by kernel_rfl))
 refine zP fun τ hτ=>?_
 refine zE hτ ⟨[(0,sB s),(4,vB false)],[]⟩ (sem_condF (by kernel_rfl) (by kernel_rfl) (z4 ⟨[(0,sB s)],[]⟩ ?_))
 refine z7 (evs_at (at_build (es:=List.map cB []) (e:=4) (d:=5) (by kernel_rfl)) (zA 1 ?_))
 refine evs_op (st_app (c:=cB) (l:=[]) (l2:=s) (x:=sB s) (g:=5) (e:=4) (sz:=1) (d:=7) (by kernel_rfl) (by kernel_rfl) (by kernel_rfl) (by kernel_rfl) (fun _=>rfl) rfl h) (z1 1 ⟨[(2,ro 5 4)],[(5,wB 4 r)]⟩ (zN fun τ hτ=>?_))
 exact rk_ret hτ [(2,ro 0 4)] (subR_of [(5,0)] rfl rfl (by kernel_rfl)) (by kernel_rfl)
theorem W.slices_Clone_Lint_int_ok {s r : (List Int)} (h : slices_Clone_Lint_int s = some r) : PC G.P 161 [.sl (List.map cI s)] [] (.row (.top 0) 3) [(0,.row 3 [] (List.map cI r))]:=by
 replace h : app [] s = some r:=h
 refine zU G Tryz.func161 (z3 1 ⟨[(0,sI s)],[]⟩ (zB ?_))
 refine z7 (zA 1 (evs_isnil (es:=List.map cI s) (by kernel_rfl) (fun hn=>?_) ?_))
 obtain rfl : s = []:=List.map_eq_nil_iff.1 hn
 obtain rfl : [] = r:=Option.some.inj ((app_eq (by simp [LIM])).symm.trans h)
 refine zP fun τ hτ=>?_
 refine zE hτ ⟨[(0,sI []),(4,vB true)],[]⟩ (sem_condT (by kernel_rfl) (by kernel_rfl) (z8 1 ⟨[(2,ro 2 3)],[(2,wI 3 [])]⟩ fun τ hτ=>?_))
 exact th_ret (rk_ret hτ [(2,ro 0 3)] (subR_of [(2,0)] rfl rfl (by kernel_rfl)) (by kernel_rfl))
 refine zP fun τ hτ=>?_
 refine zE hτ ⟨[(0,sI s),(4,vB false)],[]⟩ (sem_condF (by kernel_rfl) (by kernel_rfl) (z4 ⟨[(0,sI s)],[]⟩ ?_))
 refine z7 (evs_at (at_build (es:=List.map cI []) (e:=3) (d:=5) (by kernel_rfl)) (zA 1 ?_))
 refine evs_op (st_app (c:=cI) (l:=[]) (l2:=s) (x:=sI s) (g:=5) (e:=3) (sz:=1) (d:=7) (by kernel_rfl) (by kernel_rfl) (by kernel_rfl) (by kernel_rfl) (fun _=>rfl) rfl h) (z1 1 ⟨[(2,ro 5 3)],[(5,wI 3 r)]⟩ (zN fun τ hτ=>?_))
 exact rk_ret hτ [(2,ro 0 3)] (subR_of [(5,0)] rfl rfl (by kernel_rfl)) (by kernel_rfl)
theorem W.cut_State_clone_k_ok {st : cut_State} {r : cut_State} (h : cut_State_clone_k st = some r) : PC G.P 117 [(.agg (c_cut_State st))] [] (.agg [(.row (.top 1) 4),(.row (.top 2) 36),(.row (.top 3) 4),(.row (.top 4) 3),(.row (.top 5) 4)]) [(0,.box [(.row (.top 1) 4),(.row (.top 2) 36),(.row (.top 3) 4),(.row (.top 4) 3),(.row (.top 5) 4)]),(1,.row 4 [] (List.map cB r.Cut)),(2,.row 36 [] (List.map (cS cB) r.Holes)),(3,.row 4 [] (List.map cB r.Done)),(4,.row 3 [] (List.map cI r.Joints)),(5,.row 4 [] (List.map cB r.Fallen))]:=by
 refine zU G Tryz.func117 (zK ⟨[(0,.agg (c_cut_State st))],[]⟩ (z3 2 ⟨[(1,.ptr 1 0),(2,.ptr 2 0)],[(1,.box (c_cut_State st)),(2,.box [.nl,.nl,.nl,.nl,.nl])]⟩ ?_))
 refine zB (sem_draw [(2,[700100]),(5,[700250]),(8,[700400]),(11,[700550]),(13,[3])] [(2,[700100]),(5,[700250]),(8,[700400]),(11,[700550]),(13,[3])] [] [(0,[3]),(1,[3]),(2,[3]),(3,[700100,3]),(4,[700100,3]),(5,[3]),(6,[700100,700250,3]),(7,[700100,700250,3]),(8,[3]),(9,[700100,700250,700400,3]),(10,[700100,700250,700400,3]),(11,[3]),(12,[3]),(13,[700100,700250,700400,700550])] [(0,[700100,700250,700400,700550,3]),(1,[700100,700250,700400,700550,3]),(2,[700250,700400,700550,3]),(3,[700100,700250,700400,700550,3]),(4,[700100,700250,700400,700550,3]),(5,[700400,700550,3]),(6,[700100,700250,700400,700550,3]),(7,[700100,700250,700400,700550,3]),(8,[700550,3]),(9,[700100,700250,700400,700550,3]),(10,[700100,700250,700400,700550,3]),(11,[3]),(12,[3]),(13,[700100,700250,700400,700550])] 14 (by kernel_rfl) (by kernel_rfl) [700100,700250,700400,700550,3] (by kernel_rfl) (by kernel_rfl) (evd_run 2 (by kernel_rfl) ?_))
 obtain ⟨r9,hr9,h⟩:=bindS h
 refine evd_callS [(0,700100)] [] (by kernel_rfl) (by kernel_rfl) (W.slices_Clone_Lbool_bool_ok hr9) (by kernel_rfl) (.inl rfl) (by kernel_rfl) (by kernel_rfl) (evd_run 2 (by kernel_rfl) ?_)
 obtain ⟨r10,hr10,h⟩:=bindS h
 refine evd_callS [(0,700250)] [] (by kernel_rfl) (by kernel_rfl) (W.slices_Clone_Lbool_bool_ok hr10) (by kernel_rfl) (.inl rfl) (by kernel_rfl) (by kernel_rfl) (evd_run 2 (by kernel_rfl) ?_)
 obtain ⟨r11,hr11,h⟩:=bindS h
 refine evd_callS [(0,700400)] [] (by kernel_rfl) (by kernel_rfl) (W.slices_Clone_Lint_int_ok hr11) (by kernel_rfl) (.inl rfl) (by kernel_rfl) (by kernel_rfl) (evd_run 2 (by kernel_rfl) ?_)
 obtain ⟨r12,hr12,h⟩:=bindS h
 refine evd_callS [(0,700550)] [] (by kernel_rfl) (by kernel_rfl) (W.slices_Clone_Lbool_bool_ok hr12) (by kernel_rfl) (.inl rfl) (by kernel_rfl) (by kernel_rfl) (evd_run 1 (by kernel_rfl) (evd_new (g:=3) (ob:=.box [.nl,.nl,.nl,.nl,.nl]) (v:=(.ptr 3 0)) (by kernel_rfl) (by kernel_rfl) (by kernel_rfl) (by kernel_rfl) (by kernel_rfl) (by kernel_rfl) ?_))
 refine evd_end (by kernel_rfl) (evo_run 1 (by kernel_rfl) (zO fun τ hτ=>?_))
 refine zE hτ ⟨[(1,.ptr 1 0),(2,.ptr 2 0),(3,.ptr 3 0)],[(1,.box (c_cut_State st)),(2,.box [.nl,.nl,.nl,.nl,.nl]),(3,.box [(ro 700100 4),.nl,(ro 700250 4),(ro 700400 3),(ro 700550 4)]),(700100,wB 4 r9),(700250,wB 4 r10),(700400,wI 3 r11),(700550,wB 4 r12)]⟩ (zB (z7 ?_))
 refine zA 2 (evs_op (st_len (c:=(cS cB)) (l:=st.Holes) (x:=(.sl (List.map (cS cB) st.Holes))) (by kernel_rfl) (by kernel_rfl)) (z1 1 ⟨[(2,.ptr 2 0),(3,.ptr 3 0),(20,.sl (List.map (cS cB) st.Holes)),(21,vI (st.Holes.length : Int)),(22,vI 0)],[(2,.box [.nl,.nl,.nl,.nl,.nl]),(3,.box [(ro 700100 4),.nl,(ro 700250 4),(ro 700400 3),(ro 700550 4)]),(700100,wB 4 r9),(700250,wB 4 r10),(700400,wI 3 r11),(700550,wB 4 r12)]⟩ ?_))
 refine zC ?_
 obtain ⟨x114,hx114,h⟩:=bindS h
 refine sem_loopS (fun (s81 : Int × (List (List Bool)))=>⟨[(2,.ptr 500000 0),(3,.ptr 500001 0),(20,.sl (List.map (cS cB) st.Holes)),(21,vI (st.Holes.length : Int)),(22,vI s81.1)],[(500000,.box [.nl,.nl,.nl,.nl,.nl]),(500001,.box [(ro 500002 4),(ro 500003 36),(ro 500004 4),(ro 500005 3),(ro 500006 4)]),(500002,wB 4 r9),(500003,.row 36 [] (List.map (cS cB) s81.2)),(500004,wB 4 r10),(500005,wI 3 r11),(500006,wB 4 r12)]⟩) (fun (x114 : (List (List Bool)))=>(.exit 0,⟨[(2,.ptr 500000 0),(3,.ptr 500001 0)],[(500000,.box [.nl,.nl,.nl,.nl,.nl]),(500001,.box [(ro 500002 4),(ro 500003 36),(ro 500004 4),(ro 500005 3),(ro 500006 4)]),(500002,wB 4 r9),(500003,.row 36 [] (List.map (cS cB) x114)),(500004,wB 4 r10),(500005,wI 3 r11),(500006,wB 4 r12)]⟩)) (cut_State_clone_k_l1 st) (0,[]) x114 (by kernel_rfl) (subR_prep [.row (.box 3 1) 800000 36 []] [(2,500000),(3,500001),(700100,500002),(700250,500004),(700400,500005),(700550,500006),(800000,500003)] (by kernel_rfl) rfl rfl (by kernel_rfl)) (iter_loop hx114) ?_ ?_ ?_
 intro s81 r h
 refine z3 1 ⟨[(2,.ptr 500000 0),(3,.ptr 500001 0),(20,.sl (List.map (cS cB) st.Holes)),(21,vI (st.Holes.length : Int)),(22,vI s81.1),(23,vB (decide (s81.1 < (st.Holes.length : Int))))],[(500000,.box [.nl,.nl,.nl,.nl,.nl]),(500001,.box [(ro 500002 4),(ro 500003 36),(ro 500004 4),(ro 500005 3),(ro 500006 4)]),(500002,wB 4 r9),(500003,.row 36 [] (List.map (cS cB) s81.2)),(500004,wB 4 r10),(500005,wI 3 r11),(500006,wB 4 r12)]⟩ (zB (zI (decide (s81.1 < (st.Holes.length : Int))) (fun hb=>?_) fun hb=>?_))
 replace h:=iteT hb h
 refine z4 ⟨[(2,.ptr 500000 0),(3,.ptr 500001 0),(20,.sl (List.map (cS cB) st.Holes)),(21,vI (st.Holes.length : Int)),(22,vI s81.1)],[(500000,.box [.nl,.nl,.nl,.nl,.nl]),(500001,.box [(ro 500002 4),(ro 500003 36),(ro 500004 4),(ro 500005 3),(ro 500006 4)]),(500002,wB 4 r9),(500003,.row 36 [] (List.map (cS cB) s81.2)),(500004,wB 4 r10),(500005,wI 3 r11),(500006,wB 4 r12)]⟩ (zB (zC ?_))
 refine z7 ?_
 obtain ⟨x107,hx107,h⟩:=bindS h
 refine evs_op (st_idx (c:=(cS cB)) (l:=st.Holes) (i:=s81.1) (kd:=.i64) (sz:=1) (by kernel_rfl) hx107 rfl) (z1 2 ⟨[(2,.ptr 500000 0),(3,.ptr 500001 0),(5,sB x107),(20,.sl (List.map (cS cB) st.Holes)),(21,vI (st.Holes.length : Int)),(22,vI s81.1)],[(500000,.box [.nl,.nl,.nl,.nl,.nl]),(500001,.box [(ro 500002 4),(ro 500003 36),(ro 500004 4),(ro 500005 3),(ro 500006 4)]),(500002,wB 4 r9),(500003,.row 36 [] (List.map (cS cB) s81.2)),(500004,wB 4 r10),(500005,wI 3 r11),(500006,wB 4 r12)]⟩ (sem_drawN [] [] [] [] [] 5 (by kernel_rfl) (by kernel_rfl) (by kernel_rfl) ?_))
 refine evd_run 3 (by kernel_rfl) ?_
 obtain ⟨r112,hr112,h⟩:=bindS h
 refine evd_callS [] [] (by kernel_rfl) (by kernel_rfl) (pc_frz (by decide) (W.slices_Clone_Lbool_bool_ok hr112)) (by kernel_rfl) (.inl rfl) (by kernel_rfl) (by kernel_rfl) (evd_run 1 (by kernel_rfl) (evd_end (by kernel_rfl) ?_))
 obtain ⟨l113,hl113,h⟩:=bindS h
 refine evo_op (st_app (c:=(cS cB)) (l:=s81.2) (l2:=[r112]) (x:=(.sl (List.map (cS cB) [r112]))) (g:=500003) (e:=36) (sz:=1) (d:=31) (by kernel_rfl) (by kernel_rfl) (by kernel_rfl) (by kernel_rfl) (fun _=>rfl) rfl hl113) (evo_run 2 (by kernel_rfl) (zO fun τ hτ=>?_))
 refine bl_normal (zE hτ ⟨[(2,.ptr 500000 0),(3,.ptr 500001 0),(20,.sl (List.map (cS cB) st.Holes)),(21,vI (st.Holes.length : Int)),(22,vI s81.1)],[(500000,.box [.nl,.nl,.nl,.nl,.nl]),(500001,.box [(ro 500002 4),(ro 500003 36),(ro 500004 4),(ro 500005 3),(ro 500006 4)]),(500002,wB 4 r9),(500003,.row 36 [] (List.map (cS cB) l113)),(500004,wB 4 r10),(500005,wI 3 r11),(500006,wB 4 r12)]⟩ (zD ?_))
 refine z6 2 fun τ hτ=>?_
 obtain rfl:=osi h
 exact zH hτ
 replace h:=iteF hb h
 refine zL 0 fun τ hτ=>?_
 refine th_exit ?_
 obtain rfl:=osi h
 exact zF hτ
 intro x
 rfl
 intro τ hτ
 refine zQ (zE hτ ⟨[(2,.ptr 500000 0),(3,.ptr 500001 0)],[(500000,.box [.nl,.nl,.nl,.nl,.nl]),(500001,.box [(ro 500002 4),(ro 500003 36),(ro 500004 4),(ro 500005 3),(ro 500006 4)]),(500002,wB 4 r9),(500003,.row 36 [] (List.map (cS cB) x114)),(500004,wB 4 r10),(500005,wI 3 r11),(500006,wB 4 r12)]⟩ (z8 2 ⟨[(2,.ptr 500000 0)],[(500000,.box [(ro 500002 4),(ro 500003 36),(ro 500004 4),(ro 500005 3),(ro 500006 4)]),(500002,wB 4 r9),(500003,.row 36 [] (List.map (cS cB) x114)),(500004,wB 4 r10),(500005,wI 3 r11),(500006,wB 4 r12)]⟩ fun τ hτ=>?_))
 obtain rfl:=osi h
 exact rk_ret hτ [(2,.ptr 0 0)] (subR_prep [] [(500000,0),(500002,1),(500003,2),(500004,3),(500005,4),(500006,5)] (by kernel_rfl) rfl rfl (by kernel_rfl)) (by kernel_rfl)
theorem W.cut_do_k_ok {l : LayoutT} {all : (List EdgeT)} {st : cut_State} {x3 : ItemT} {r : cut_State × Int} (h : cut_do_k l all st x3 = some r) : PC G.P 54 [(.agg (c_LayoutT l)),(.sl (List.map c_EdgeT all)),(.agg (c_cut_State st)),(.agg (c_ItemT x3))] [] (.tup [(.agg [(.row (.top 1) 4),(.row (.top 2) 36),(.row (.top 3) 4),(.row (.top 4) 3),(.row (.top 5) 4)]),(vI r.2)]) [(0,.box [(.row (.top 1) 4),(.row (.top 2) 36),(.row (.top 3) 4),(.row (.top 4) 3),(.row (.top 5) 4)]),(1,.row 4 [] (List.map cB r.1.Cut)),(2,.row 36 [] (List.map (cS cB) r.1.Holes)),(3,.row 4 [] (List.map cB r.1.Done)),(4,.row 3 [] (List.map cI r.1.Joints)),(5,.row 4 [] (List.map cB r.1.Fallen))]:=by
 refine zU G Tryz.func54 (zK ⟨[(0,.agg (c_LayoutT l)),(1,s_EdgeT all),(2,.agg (c_cut_State st)),(3,.agg (c_ItemT x3))],[]⟩ (z3 5 ⟨[(1,s_EdgeT all),(4,.ptr 4 0),(6,.ptr 6 0),(7,.ptr 7 0),(8,.ptr 8 0)],[(4,.box (c_LayoutT l)),(6,.box (c_cut_State st)),(7,.box (c_ItemT x3)),(8,.box [.nl,.nl,.nl,.nl,.nl])]⟩ ?_))
 refine zB (zC (z7 ?_))
 refine zA 3 (evs_op (st_len (c:=c_EdgeT) (l:=all) (x:=(s_EdgeT all)) (by kernel_rfl) (by kernel_rfl)) ?_)
 obtain ⟨r15,hr15,h⟩:=bindS h
 refine evs_callP [] (by kernel_rfl) (W.cut_State_fits_k_ok hr15) (by kernel_rfl) (.inl rfl) (by kernel_rfl) (zA 2 (zS r15 (fun b0=>⟨[(1,s_EdgeT all),(4,.ptr 4 0),(6,.ptr 6 0),(7,.ptr 7 0),(8,.ptr 8 0),(21,vB (!b0))],[(4,.box (c_LayoutT l)),(6,.box (c_cut_State st)),(7,.box (c_ItemT x3)),(8,.box [.nl,.nl,.nl,.nl,.nl])]⟩) (fun hb=>?_) fun hb=>?_))
 replace h:=iteT hb h
 refine zA 5 (zS (decide (x3.Piece < 0)) (fun b0=>⟨[(1,s_EdgeT all),(4,.ptr 4 0),(6,.ptr 6 0),(7,.ptr 7 0),(8,.ptr 8 0),(26,vB b0)],[(4,.box (c_LayoutT l)),(6,.box (c_cut_State st)),(7,.box (c_ItemT x3)),(8,.box [.nl,.nl,.nl,.nl,.nl])]⟩) (fun hb=>?_) fun hb=>?_)
 replace h:=iteT hb h
 exact nomatch h
 replace h:=iteF hb h
 refine zA 4 (evs_op (st_len (c:=c_Piece) (l:=l.Pieces) (x:=(s_Piece l.Pieces)) (by kernel_rfl) (by kernel_rfl)) (z1 3 ⟨[(1,s_EdgeT all),(4,.ptr 4 0),(6,.ptr 6 0),(7,.ptr 7 0),(8,.ptr 8 0),(14,vB (decide (x3.Piece ≥ (l.Pieces.length : Int))))],[(4,.box (c_LayoutT l)),(6,.box (c_cut_State st)),(7,.box (c_ItemT x3)),(8,.box [.nl,.nl,.nl,.nl,.nl])]⟩ ?_))
 refine zI (decide (x3.Piece ≥ (l.Pieces.length : Int))) (fun hb=>?_) fun hb=>?_
 replace h:=iteT hb h
 exact nomatch h
 replace h:=iteF hb h
 refine zB (sem_drawN [] [] [] [] [] 14 (by kernel_rfl) (by kernel_rfl) (by kernel_rfl) (evd_run 4 (by kernel_rfl) ?_))
 refine evd_split (decide (x3.Hole < (-1))) (fun b0=>⟨[(39,vB b0),(38,vB b0),(37,vI x3.Hole),(36,.ptr 7 1),(1,s_EdgeT all),(4,.ptr 4 0),(6,.ptr 6 0),(7,.ptr 7 0),(8,.ptr 8 0),(14,vB (decide (x3.Piece ≥ (l.Pieces.length : Int))))],[(4,.box (c_LayoutT l)),(6,.box (c_cut_State st)),(7,.box (c_ItemT x3)),(8,.box [.nl,.nl,.nl,.nl,.nl])]⟩) (by kernel_rfl) (fun hb=>?_) fun hb=>?_
 replace h:=iteT hb h
 exact nomatch h
 replace h:=iteF hb h
 refine evd_run 6 (by kernel_rfl) ?_
 obtain ⟨x18,hx18,h⟩:=bindS h
 refine evd_val (by kernel_rfl) (st_idx (c:=c_Piece) (l:=l.Pieces) (i:=x3.Piece) (kd:=.i64) (sz:=7) (by kernel_rfl) hx18 rfl) (by kernel_rfl) (by kernel_rfl) (evd_run 2 (by kernel_rfl) (evd_val (by kernel_rfl) (st_len (c:=c_Rect) (l:=x18.Cuts) (x:=(s_Rect x18.Cuts)) (by kernel_rfl) (by kernel_rfl)) (by kernel_rfl) (by kernel_rfl) ?_))
 refine evd_end (by kernel_rfl) (evo_run 3 (by kernel_rfl) (evo_split (decide (x3.Hole ≥ (x18.Cuts.length : Int))) (fun b0=>⟨[(1,s_EdgeT all),(4,.ptr 4 0),(6,.ptr 6 0),(7,.ptr 7 0),(8,.ptr 8 0),(52,vB b0)],[(4,.box (c_LayoutT l)),(6,.box (c_cut_State st)),(7,.box (c_ItemT x3)),(8,.box [.nl,.nl,.nl,.nl,.nl])]⟩) (by kernel_rfl) (fun hb=>?_) fun hb=>?_))
 replace h:=iteT hb h
 exact nomatch h
 replace h:=iteF hb h
 refine evo_run 5 (by kernel_rfl) (evo_split (decide (x3.Joints < 0)) (fun b0=>⟨[(1,s_EdgeT all),(4,.ptr 4 0),(6,.ptr 6 0),(7,.ptr 7 0),(8,.ptr 8 0),(57,vB b0)],[(4,.box (c_LayoutT l)),(6,.box (c_cut_State st)),(7,.box (c_ItemT x3)),(8,.box [.nl,.nl,.nl,.nl,.nl])]⟩) (by kernel_rfl) (fun hb=>?_) fun hb=>?_)
 replace h:=iteT hb h
 exact nomatch h
 replace h:=iteF hb h
 refine evo_run 5 (by kernel_rfl) (evo_split (decide (x3.Joints > 4)) (fun b0=>⟨[(1,s_EdgeT all),(4,.ptr 4 0),(6,.ptr 6 0),(7,.ptr 7 0),(8,.ptr 8 0),(62,vB b0)],[(4,.box (c_LayoutT l)),(6,.box (c_cut_State st)),(7,.box (c_ItemT x3)),(8,.box [.nl,.nl,.nl,.nl,.nl])]⟩) (by kernel_rfl) (fun hb=>?_) fun hb=>?_)
 replace h:=iteT hb h
 exact nomatch h
 replace h:=iteF hb h
 refine evo_run 4 (by kernel_rfl) (evo_split (decide (x3.Hole ≥ 0)) (fun b0=>⟨[(1,s_EdgeT all),(4,.ptr 4 0),(6,.ptr 6 0),(7,.ptr 7 0),(8,.ptr 8 0),(62,vB false),(66,vB b0)],[(4,.box (c_LayoutT l)),(6,.box (c_cut_State st)),(7,.box (c_ItemT x3)),(8,.box [.nl,.nl,.nl,.nl,.nl])]⟩) (by kernel_rfl) (fun hb=>?_) fun hb=>?_)
 replace h:=iteT hb h
 exact nomatch h
 replace h:=iteF hb h
 refine evo_run 6 (by kernel_rfl) (zO fun τ hτ=>?_)
 refine zE hτ ⟨[(1,s_EdgeT all),(4,.ptr 4 0),(6,.ptr 6 0),(7,.ptr 7 0),(8,.ptr 8 0),(35,vB false)],[(4,.box (c_LayoutT l)),(6,.box (c_cut_State st)),(7,.box (c_ItemT x3)),(8,.box [.nl,.nl,.nl,.nl,.nl])]⟩ (sem_condF (by kernel_rfl) (by kernel_rfl) (z7 ?_))
 refine zA 3 ?_
 obtain ⟨r20,hr20,h⟩:=bindS h
 refine evs_callP [] (by kernel_rfl) (W.cut_State_order_k_ok hr20) (by kernel_rfl) (.inl rfl) (by kernel_rfl) (z1 2 ⟨[(1,s_EdgeT all),(4,.ptr 4 0),(6,.ptr 6 0),(7,.ptr 7 0),(8,.ptr 8 0),(73,vB (!r20))],[(4,.box (c_LayoutT l)),(6,.box (c_cut_State st)),(7,.box (c_ItemT x3)),(8,.box [.nl,.nl,.nl,.nl,.nl])]⟩ (zI (!r20) (fun hb=>?_) fun hb=>?_))
 replace h:=iteT hb h
 exact nomatch h
 replace h:=iteF hb h
 refine z7 (zA 4 (zS (decide (x3.Hole < 0)) (fun b0=>⟨[(1,s_EdgeT all),(4,.ptr 4 0),(6,.ptr 6 0),(7,.ptr 7 0),(8,.ptr 8 0),(84,vB b0)],[(4,.box (c_LayoutT l)),(6,.box (c_cut_State st)),(7,.box (c_ItemT x3)),(8,.box [.nl,.nl,.nl,.nl,.nl])]⟩) (fun hb=>?_) fun hb=>?_))
 replace h:=iteT hb h
 refine zA 5 (zS (x3.Joints == 0) (fun b0=>⟨[(1,s_EdgeT all),(4,.ptr 4 0),(6,.ptr 6 0),(7,.ptr 7 0),(8,.ptr 8 0),(89,vB b0)],[(4,.box (c_LayoutT l)),(6,.box (c_cut_State st)),(7,.box (c_ItemT x3)),(8,.box [.nl,.nl,.nl,.nl,.nl])]⟩) (fun hb=>?_) fun hb=>?_)
 replace h:=iteT hb h
 refine zA 4 ?_
 obtain ⟨x23,hx23,h⟩:=bindS h
 refine evs_op (st_idx (c:=c_Piece) (l:=l.Pieces) (i:=x3.Piece) (kd:=.i64) (sz:=7) (by kernel_rfl) hx23 rfl) (zA 1 ?_)
 obtain ⟨r24,hr24,h⟩:=bindS h
 refine evs_callP [] (by kernel_rfl) (W.cut_Small_k_ok hr24) (by kernel_rfl) (.inl rfl) (by kernel_rfl) (z1 2 ⟨[(1,s_EdgeT all),(4,.ptr 4 0),(6,.ptr 6 0),(7,.ptr 7 0),(8,.ptr 8 0),(80,vB r24)],[(4,.box (c_LayoutT l)),(6,.box (c_cut_State st)),(7,.box (c_ItemT x3)),(8,.box [.nl,.nl,.nl,.nl,.nl])]⟩ (zI r24 (fun hb=>?_) fun hb=>?_))
 replace h:=iteT hb h
 exact nomatch h
 replace h:=iteF hb h
 refine z7 (zA 4 ?_)
 obtain ⟨r26,hr26,h⟩:=bindS h
 refine evs_callP [] (by kernel_rfl) (W.cut_State_lead_k_ok hr26) (by kernel_rfl) (.inl rfl) (by kernel_rfl) (z1 2 ⟨[(1,s_EdgeT all),(4,.ptr 4 0),(6,.ptr 6 0),(7,.ptr 7 0),(8,.ptr 8 0),(99,vB (!r26))],[(4,.box (c_LayoutT l)),(6,.box (c_cut_State st)),(7,.box (c_ItemT x3)),(8,.box [.nl,.nl,.nl,.nl,.nl])]⟩ (zI (!r26) (fun hb=>?_) fun hb=>?_))
 replace h:=iteT hb h
 exact nomatch h
 replace h:=iteF hb h
 refine zM fun τ hτ=>?_
 refine bl_normal (zE hτ ⟨[(1,s_EdgeT all),(4,.ptr 4 0),(6,.ptr 6 0),(7,.ptr 7 0),(8,.ptr 8 0)],[(4,.box (c_LayoutT l)),(6,.box (c_cut_State st)),(7,.box (c_ItemT x3)),(8,.box [.nl,.nl,.nl,.nl,.nl])]⟩ (z7 ?_))
 refine zA 1 ?_
 obtain ⟨r28,hr28,h⟩:=bindS h
 refine evs_callS [] [(0,700050),(1,700051),(2,700052),(3,700053),(4,700054),(5,700055)] [] (by kernel_rfl) (W.cut_State_clone_k_ok hr28) (by kernel_rfl) (by kernel_rfl) (.inl rfl) (z1 2 ⟨[(1,s_EdgeT all),(4,.ptr 4 0),(7,.ptr 7 0),(8,.ptr 8 0),(10,.ptr 10 0)],[(4,.box (c_LayoutT l)),(7,.box (c_ItemT x3)),(8,.box [.nl,.nl,.nl,.nl,.nl]),(10,.box [(ro 700051 4),(ro 700052 36),(ro 700053 4),(ro 700054 3),(ro 700055 4)]),(700051,wB 4 r28.Cut),(700052,.row 36 [] (List.map (cS cB) r28.Holes)),(700053,wB 4 r28.Done),(700054,wI 3 r28.Joints),(700055,wB 4 r28.Fallen)]⟩ (zB ?_))
 refine z3 3 ⟨[(1,s_EdgeT all),(4,.ptr 4 0),(7,.ptr 7 0),(8,.ptr 8 0),(10,.ptr 10 0),(111,vB (decide (x3.Hole ≥ 0)))],[(4,.box (c_LayoutT l)),(7,.box (c_ItemT x3)),(8,.box [.nl,.nl,.nl,.nl,.nl]),(10,.box [(ro 700051 4),(ro 700052 36),(ro 700053 4),(ro 700054 3),(ro 700055 4)]),(700051,wB 4 r28.Cut),(700052,.row 36 [] (List.map (cS cB) r28.Holes)),(700053,wB 4 r28.Done),(700054,wI 3 r28.Joints),(700055,wB 4 r28.Fallen)]⟩ (zI (decide (x3.Hole ≥ 0)) (fun hb=>?_) fun hb=>?_)
 replace h:=iteT hb h
 exact nomatch h
 replace h:=iteF hb h
 refine zB (sem_drawN [(11,[700053])] [] [] [(4,[700053]),(5,[700053]),(6,[700053]),(7,[700053]),(8,[700053]),(9,[700053])] [] 12 (by kernel_rfl) (by kernel_rfl) (by kernel_rfl) (evd_run 10 (by kernel_rfl) ?_))
 obtain ⟨x81,hx81,h⟩:=bindS h
 refine evd_val (by kernel_rfl) (st_idxO (c:=cB) (l:=r28.Done) (i:=x3.Piece) (kd:=.i64) (kk:=(.top 700053)) (e:=4) (sz:=1) (by kernel_rfl) (by kernel_rfl) hx81 rfl) (by kernel_rfl) (by kernel_rfl) (evd_set (by kernel_rfl) (st_stO (c:=cB) (l:=r28.Done) (i:=(Int.toNat x3.Piece)) (x:=x81) (x':=true) (v:=(vB true)) (agg:=false) (sz:=1) (kk:=(.top 700053)) (e:=4) (off:=0) (J:=[]) (o:=wB 4 (List.set r28.Done (Int.toNat x3.Piece) true)) (by kernel_rfl) (by kernel_rfl) (by kernel_rfl) ((idxS hx81).2) (by kernel_rfl) (by kernel_rfl) (by kernel_rfl)) (by kernel_rfl) (by kernel_rfl) (by kernel_rfl) (evd_end (by kernel_rfl) ?_))
 obtain ⟨x82,hx82,h⟩:=bindS h
 refine evo_op (st_idxO (c:=cI) (l:=r28.Joints) (i:=x3.Piece) (kd:=.i64) (kk:=(.top 700054)) (e:=3) (sz:=1) (by kernel_rfl) (by kernel_rfl) hx82 rfl) (evo_op (st_stO (c:=cI) (l:=r28.Joints) (i:=(Int.toNat x3.Piece)) (x:=x82) (x':=x3.Joints) (v:=(vI x3.Joints)) (agg:=false) (sz:=1) (kk:=(.top 700054)) (e:=3) (off:=0) (J:=[]) (o:=wI 3 (List.set r28.Joints (Int.toNat x3.Piece) x3.Joints)) (by kernel_rfl) (by kernel_rfl) (by kernel_rfl) ((idxS hx82).2) (by kernel_rfl) (by kernel_rfl) (by kernel_rfl)) (zO fun τ hτ=>?_))
 refine zE hτ ⟨[(1,s_EdgeT all),(4,.ptr 4 0),(7,.ptr 7 0),(8,.ptr 8 0),(10,.ptr 10 0)],[(4,.box (c_LayoutT l)),(7,.box (c_ItemT x3)),(8,.box [.nl,.nl,.nl,.nl,.nl]),(10,.box [(ro 700051 4),(ro 700052 36),(ro 700053 4),(ro 700054 3),(ro 700055 4)]),(700051,wB 4 r28.Cut),(700052,.row 36 [] (List.map (cS cB) r28.Holes)),(700053,wB 4 (List.set r28.Done (Int.toNat x3.Piece) true)),(700054,wI 3 (List.set r28.Joints (Int.toNat x3.Piece) x3.Joints)),(700055,wB 4 r28.Fallen)]⟩ (z7 (zA 1 ?_))
 refine evs_op (st_len (c:=c_EdgeT) (l:=all) (x:=(s_EdgeT all)) (by kernel_rfl) (by kernel_rfl)) (z1 1 ⟨[(1,s_EdgeT all),(4,.ptr 4 0),(7,.ptr 7 0),(8,.ptr 8 0),(10,.ptr 10 0),(133,s_EdgeT all),(134,vI (all.length : Int)),(135,vI 0)],[(4,.box (c_LayoutT l)),(7,.box (c_ItemT x3)),(8,.box [.nl,.nl,.nl,.nl,.nl]),(10,.box [(ro 700051 4),(ro 700052 36),(ro 700053 4),(ro 700054 3),(ro 700055 4)]),(700051,wB 4 r28.Cut),(700052,.row 36 [] (List.map (cS cB) r28.Holes)),(700053,wB 4 (List.set r28.Done (Int.toNat x3.Piece) true)),(700054,wI 3 (List.set r28.Joints (Int.toNat x3.Piece) x3.Joints)),(700055,wB 4 r28.Fallen)]⟩ (zC ?_))
 obtain ⟨x124,hx124,h⟩:=bindS h
 refine sem_loopS (fun (s97 : Int × (List Bool))=>⟨[(1,s_EdgeT all),(4,.ptr 500000 0),(7,.ptr 500001 0),(8,.ptr 500002 0),(10,.ptr 500003 0),(133,s_EdgeT all),(134,vI (all.length : Int)),(135,vI s97.1)],[(500000,.box (c_LayoutT l)),(500001,.box (c_ItemT x3)),(500002,.box [.nl,.nl,.nl,.nl,.nl]),(500003,.box [(ro 500004 4),(ro 500005 36),(ro 500006 4),(ro 500007 3),(ro 500008 4)]),(500004,wB 4 s97.2),(500005,.row 36 [] (List.map (cS cB) r28.Holes)),(500006,wB 4 (List.set r28.Done (Int.toNat x3.Piece) true)),(500007,wI 3 (List.set r28.Joints (Int.toNat x3.Piece) x3.Joints)),(500008,wB 4 r28.Fallen)]⟩) (fun (x124 : (List Bool))=>(.exit 1,⟨[(1,s_EdgeT all),(4,.ptr 500000 0),(8,.ptr 500001 0),(10,.ptr 500002 0)],[(500000,.box (c_LayoutT l)),(500001,.box [.nl,.nl,.nl,.nl,.nl]),(500002,.box [(ro 500003 4),(ro 500004 36),(ro 500005 4),(ro 500006 3),(ro 500007 4)]),(500003,wB 4 x124),(500004,.row 36 [] (List.map (cS cB) r28.Holes)),(500005,wB 4 (List.set r28.Done (Int.toNat x3.Piece) true)),(500006,wI 3 (List.set r28.Joints (Int.toNat x3.Piece) x3.Joints)),(500007,wB 4 r28.Fallen)]⟩)) (cut_do_k_l2 all x3) (0,r28.Cut) x124 (by kernel_rfl) (subR_prep [] [(4,500000),(7,500001),(8,500002),(10,500003),(700051,500004),(700052,500005),(700053,500006),(700054,500007),(700055,500008)] (by kernel_rfl) rfl rfl (by kernel_rfl)) (iter_loop hx124) ?_ ?_ ?_
 intro s97 r h
 refine z3 1 ⟨[(1,s_EdgeT all),(4,.ptr 500000 0),(7,.ptr 500001 0),(8,.ptr 500002 0),(10,.ptr 500003 0),(133,s_EdgeT all),(134,vI (all.length : Int)),(135,vI s97.1),(136,vB (decide (s97.1 < (all.length : Int))))],[(500000,.box (c_LayoutT l)),(500001,.box (c_ItemT x3)),(500002,.box [.nl,.nl,.nl,.nl,.nl]),(500003,.box [(ro 500004 4),(ro 500005 36),(ro 500006 4),(ro 500007 3),(ro 500008 4)]),(500004,wB 4 s97.2),(500005,.row 36 [] (List.map (cS cB) r28.Holes)),(500006,wB 4 (List.set r28.Done (Int.toNat x3.Piece) true)),(500007,wI 3 (List.set r28.Joints (Int.toNat x3.Piece) x3.Joints)),(500008,wB 4 r28.Fallen)]⟩ (zB (zI (decide (s97.1 < (all.length : Int))) (fun hb=>?_) fun hb=>?_))
 replace h:=iteT hb h
 refine z4 ⟨[(1,s_EdgeT all),(4,.ptr 500000 0),(7,.ptr 500001 0),(8,.ptr 500002 0),(10,.ptr 500003 0),(133,s_EdgeT all),(134,vI (all.length : Int)),(135,vI s97.1)],[(500000,.box (c_LayoutT l)),(500001,.box (c_ItemT x3)),(500002,.box [.nl,.nl,.nl,.nl,.nl]),(500003,.box [(ro 500004 4),(ro 500005 36),(ro 500006 4),(ro 500007 3),(ro 500008 4)]),(500004,wB 4 s97.2),(500005,.row 36 [] (List.map (cS cB) r28.Holes)),(500006,wB 4 (List.set r28.Done (Int.toNat x3.Piece) true)),(500007,wI 3 (List.set r28.Joints (Int.toNat x3.Piece) x3.Joints)),(500008,wB 4 r28.Fallen)]⟩ (sem_seqJ (fun (j117 : (List Bool))=>⟨[(1,s_EdgeT all),(4,.ptr 500000 0),(7,.ptr 500001 0),(8,.ptr 500002 0),(10,.ptr 500003 0),(133,s_EdgeT all),(134,vI (all.length : Int)),(135,vI s97.1)],[(500000,.box (c_LayoutT l)),(500001,.box (c_ItemT x3)),(500002,.box [.nl,.nl,.nl,.nl,.nl]),(500003,.box [(ro 500004 4),(ro 500005 36),(ro 500006 4),(ro 500007 3),(ro 500008 4)]),(500004,wB 4 j117),(500005,.row 36 [] (List.map (cS cB) r28.Holes)),(500006,wB 4 (List.set r28.Done (Int.toNat x3.Piece) true)),(500007,wI 3 (List.set r28.Joints (Int.toNat x3.Piece) x3.Joints)),(500008,wB 4 r28.Fallen)]⟩) (cut_do_k_k1 s97) r (by kernel_rfl) (fun j117 h=>?_) ?_)
 refine zD (z6 2 fun τ hτ=>?_)
 obtain rfl:=osi h
 exact zH hτ
 refine zC (z7 (zA 1 ?_))
 obtain ⟨x119,hx119,h⟩:=bindS h
 refine evs_op (st_idx (c:=c_EdgeT) (l:=all) (i:=s97.1) (kd:=.i64) (sz:=6) (by kernel_rfl) hx119 rfl) (z1 4 ⟨[(1,s_EdgeT all),(4,.ptr 500000 0),(7,.ptr 500001 0),(8,.ptr 500002 0),(10,.ptr 500003 0),(11,vI s97.1),(12,.ptr 12 0),(133,s_EdgeT all),(134,vI (all.length : Int)),(135,vI s97.1)],[(12,.box (c_EdgeT x119)),(500000,.box (c_LayoutT l)),(500001,.box (c_ItemT x3)),(500002,.box [.nl,.nl,.nl,.nl,.nl]),(500003,.box [(ro 500004 4),(ro 500005 36),(ro 500006 4),(ro 500007 3),(ro 500008 4)]),(500004,wB 4 s97.2),(500005,.row 36 [] (List.map (cS cB) r28.Holes)),(500006,wB 4 (List.set r28.Done (Int.toNat x3.Piece) true)),(500007,wI 3 (List.set r28.Joints (Int.toNat x3.Piece) x3.Joints)),(500008,wB 4 r28.Fallen)]⟩ (z7 ?_))
 refine zA 3 ?_
 obtain ⟨r121,hr121,h⟩:=bindS h
 refine evs_callP [] (by kernel_rfl) (W.cut_of_k_ok hr121) (by kernel_rfl) (.inl rfl) (by kernel_rfl) (zP fun τ hτ=>?_)
 refine zE hτ ⟨[(1,s_EdgeT all),(4,.ptr 500000 0),(7,.ptr 500001 0),(8,.ptr 500002 0),(10,.ptr 500003 0),(11,vI s97.1),(133,s_EdgeT all),(134,vI (all.length : Int)),(135,vI s97.1),(143,vB r121)],[(500000,.box (c_LayoutT l)),(500001,.box (c_ItemT x3)),(500002,.box [.nl,.nl,.nl,.nl,.nl]),(500003,.box [(ro 500004 4),(ro 500005 36),(ro 500006 4),(ro 500007 3),(ro 500008 4)]),(500004,wB 4 s97.2),(500005,.row 36 [] (List.map (cS cB) r28.Holes)),(500006,wB 4 (List.set r28.Done (Int.toNat x3.Piece) true)),(500007,wI 3 (List.set r28.Joints (Int.toNat x3.Piece) x3.Joints)),(500008,wB 4 r28.Fallen)]⟩ (zI r121 (fun hb=>?_) fun hb=>?_)
 replace h:=iteT hb h
 refine zD (zA 3 ?_)
 obtain ⟨x123,hx123,h⟩:=bindS h
 refine evs_op (st_idxO (c:=cB) (l:=s97.2) (i:=s97.1) (kd:=.i64) (kk:=(.top 500004)) (e:=4) (sz:=1) (by kernel_rfl) (by kernel_rfl) hx123 rfl) (evs_op (st_stO (c:=cB) (l:=s97.2) (i:=(Int.toNat s97.1)) (x:=x123) (x':=true) (v:=(vB true)) (agg:=false) (sz:=1) (kk:=(.top 500004)) (e:=4) (off:=0) (J:=[]) (o:=wB 4 (List.set s97.2 (Int.toNat s97.1) true)) (by kernel_rfl) (by kernel_rfl) (by kernel_rfl) ((idxS hx123).2) (by kernel_rfl) (by kernel_rfl) (by kernel_rfl)) (zP fun τ hτ=>?_))
 exact bl_normal (jk_normal (List.set s97.2 (Int.toNat s97.1) true) h hτ (here (by kernel_rfl)))
 replace h:=iteF hb h
 refine zM fun τ hτ=>?_
 exact bl_normal (jk_normal s97.2 h hτ (here (by kernel_rfl)))
 replace h:=iteF hb h
 refine zL 1 fun τ hτ=>?_
 refine th_exit ?_
 obtain rfl:=osi h
 exact lk_outS hτ rfl (subR_prep [] [(500000,500000),(500002,500001),(500003,500002),(500004,500003),(500005,500004),(500006,500005),(500007,500006),(500008,500007)] (by kernel_rfl) rfl rfl (by kernel_rfl))
 intro x
 rfl
 intro τ hτ
 refine zQ (zE hτ ⟨[(1,s_EdgeT all),(4,.ptr 500000 0),(8,.ptr 500001 0),(10,.ptr 500002 0)],[(500000,.box (c_LayoutT l)),(500001,.box [.nl,.nl,.nl,.nl,.nl]),(500002,.box [(ro 500003 4),(ro 500004 36),(ro 500005 4),(ro 500006 3),(ro 500007 4)]),(500003,wB 4 x124),(500004,.row 36 [] (List.map (cS cB) r28.Holes)),(500005,wB 4 (List.set r28.Done (Int.toNat x3.Piece) true)),(500006,wI 3 (List.set r28.Joints (Int.toNat x3.Piece) x3.Joints)),(500007,wB 4 r28.Fallen)]⟩ (zB ?_))
 refine z7 (zA 2 (evs_op (st_len (c:=c_Piece) (l:=l.Pieces) (x:=(s_Piece l.Pieces)) (by kernel_rfl) (by kernel_rfl)) ?_))
 refine z1 1 ⟨[(1,s_EdgeT all),(8,.ptr 500001 0),(10,.ptr 500002 0),(151,vI (l.Pieces.length : Int)),(152,vI 0)],[(500001,.box [.nl,.nl,.nl,.nl,.nl]),(500002,.box [(ro 500003 4),(ro 500004 36),(ro 500005 4),(ro 500006 3),(ro 500007 4)]),(500003,wB 4 x124),(500004,.row 36 [] (List.map (cS cB) r28.Holes)),(500005,wB 4 (List.set r28.Done (Int.toNat x3.Piece) true)),(500006,wI 3 (List.set r28.Joints (Int.toNat x3.Piece) x3.Joints)),(500007,wB 4 r28.Fallen)]⟩ (zC ?_)
 obtain ⟨x244,hx244,h⟩:=bindS h
 refine sem_loopS (fun (s205 : Int × (List Bool))=>⟨[(1,s_EdgeT all),(8,.ptr 500000 0),(10,.ptr 500001 0),(151,vI (l.Pieces.length : Int)),(152,vI s205.1)],[(500000,.box [.nl,.nl,.nl,.nl,.nl]),(500001,.box [(ro 500002 4),(ro 500003 36),(ro 500004 4),(ro 500005 3),(ro 500006 4)]),(500002,wB 4 x124),(500003,.row 36 [] (List.map (cS cB) r28.Holes)),(500004,wB 4 (List.set r28.Done (Int.toNat x3.Piece) true)),(500005,wI 3 (List.set r28.Joints (Int.toNat x3.Piece) x3.Joints)),(500006,wB 4 s205.2)]⟩) (fun (x244 : (List Bool))=>(.exit 3,⟨[(8,.ptr 500000 0),(10,.ptr 500001 0)],[(500000,.box [.nl,.nl,.nl,.nl,.nl]),(500001,.box [(ro 500002 4),(ro 500003 36),(ro 500004 4),(ro 500005 3),(ro 500006 4)]),(500002,wB 4 x124),(500003,.row 36 [] (List.map (cS cB) r28.Holes)),(500004,wB 4 (List.set r28.Done (Int.toNat x3.Piece) true)),(500005,wI 3 (List.set r28.Joints (Int.toNat x3.Piece) x3.Joints)),(500006,wB 4 x244)]⟩)) (cut_do_k_l4 l all x3 r28 x124) (0,r28.Fallen) x244 (by kernel_rfl) (subR_prep [] [(500001,500000),(500002,500001),(500003,500002),(500004,500003),(500005,500004),(500006,500005),(500007,500006)] (by kernel_rfl) rfl rfl (by kernel_rfl)) (iter_loop hx244) ?_ ?_ ?_
 intro s205 r h
 refine z3 1 ⟨[(1,s_EdgeT all),(8,.ptr 500000 0),(10,.ptr 500001 0),(151,vI (l.Pieces.length : Int)),(152,vI s205.1),(153,vB (decide (s205.1 < (l.Pieces.length : Int))))],[(500000,.box [.nl,.nl,.nl,.nl,.nl]),(500001,.box [(ro 500002 4),(ro 500003 36),(ro 500004 4),(ro 500005 3),(ro 500006 4)]),(500002,wB 4 x124),(500003,.row 36 [] (List.map (cS cB) r28.Holes)),(500004,wB 4 (List.set r28.Done (Int.toNat x3.Piece) true)),(500005,wI 3 (List.set r28.Joints (Int.toNat x3.Piece) x3.Joints)),(500006,wB 4 s205.2)]⟩ (zB (zI (decide (s205.1 < (l.Pieces.length : Int))) (fun hb=>?_) fun hb=>?_))
 replace h:=iteT hb h
 refine z4 ⟨[(1,s_EdgeT all),(8,.ptr 500000 0),(10,.ptr 500001 0),(151,vI (l.Pieces.length : Int)),(152,vI s205.1)],[(500000,.box [.nl,.nl,.nl,.nl,.nl]),(500001,.box [(ro 500002 4),(ro 500003 36),(ro 500004 4),(ro 500005 3),(ro 500006 4)]),(500002,wB 4 x124),(500003,.row 36 [] (List.map (cS cB) r28.Holes)),(500004,wB 4 (List.set r28.Done (Int.toNat x3.Piece) true)),(500005,wI 3 (List.set r28.Joints (Int.toNat x3.Piece) x3.Joints)),(500006,wB 4 s205.2)]⟩ (sem_seqJ (fun (j234 : (List Bool))=>⟨[(1,s_EdgeT all),(8,.ptr 500000 0),(10,.ptr 500001 0),(151,vI (l.Pieces.length : Int)),(152,vI s205.1)],[(500000,.box [.nl,.nl,.nl,.nl,.nl]),(500001,.box [(ro 500002 4),(ro 500003 36),(ro 500004 4),(ro 500005 3),(ro 500006 4)]),(500002,wB 4 x124),(500003,.row 36 [] (List.map (cS cB) r28.Holes)),(500004,wB 4 (List.set r28.Done (Int.toNat x3.Piece) true)),(500005,wI 3 (List.set r28.Joints (Int.toNat x3.Piece) x3.Joints)),(500006,wB 4 j234)]⟩) (cut_do_k_k3 s205) r (by kernel_rfl) (fun j234 h=>?_) ?_)
 refine zD (z6 2 fun τ hτ=>?_)
 obtain rfl:=osi h
 exact zH hτ
 refine zC (z3 2 ⟨[(1,s_EdgeT all),(8,.ptr 500000 0),(10,.ptr 500001 0),(13,vI s205.1),(151,vI (l.Pieces.length : Int)),(152,vI s205.1)],[(500000,.box [.nl,.nl,.nl,.nl,.nl]),(500001,.box [(ro 500002 4),(ro 500003 36),(ro 500004 4),(ro 500005 3),(ro 500006 4)]),(500002,wB 4 x124),(500003,.row 36 [] (List.map (cS cB) r28.Holes)),(500004,wB 4 (List.set r28.Done (Int.toNat x3.Piece) true)),(500005,wI 3 (List.set r28.Joints (Int.toNat x3.Piece) x3.Joints)),(500006,wB 4 s205.2)]⟩ (zB ?_))
 obtain ⟨j238,hj238,h⟩:=bindS h
 refine zT ⟨[(1,s_EdgeT all),(8,.ptr 500000 0),(10,.ptr 500001 0),(13,vI s205.1),(151,vI (l.Pieces.length : Int)),(152,vI s205.1),(174,vB j238)],[(500000,.box [.nl,.nl,.nl,.nl,.nl]),(500001,.box [(ro 500002 4),(ro 500003 36),(ro 500004 4),(ro 500005 3),(ro 500006 4)]),(500002,wB 4 x124),(500003,.row 36 [] (List.map (cS cB) r28.Holes)),(500004,wB 4 (List.set r28.Done (Int.toNat x3.Piece) true)),(500005,wI 3 (List.set r28.Joints (Int.toNat x3.Piece) x3.Joints)),(500006,wB 4 s205.2)]⟩ ?_ fun τ hτ=>?_
 replace h:=hj238
 refine zA 3 ?_
 obtain ⟨r239,hr239,h⟩:=bindS h
 refine evs_callP [500002,500003,500004,500005,500006] (by kernel_rfl) (W.cut_State_free_k_ok hr239) (by kernel_rfl) (.inr rfl) (by kernel_rfl) (zA 1 (zS r239 (fun b0=>⟨[(1,s_EdgeT all),(8,.ptr 500000 0),(10,.ptr 500001 0),(13,vI s205.1),(151,vI (l.Pieces.length : Int)),(152,vI s205.1),(159,vB b0)],[(500000,.box [.nl,.nl,.nl,.nl,.nl]),(500001,.box [(ro 500002 4),(ro 500003 36),(ro 500004 4),(ro 500005 3),(ro 500006 4)]),(500002,wB 4 x124),(500003,.row 36 [] (List.map (cS cB) r28.Holes)),(500004,wB 4 (List.set r28.Done (Int.toNat x3.Piece) true)),(500005,wI 3 (List.set r28.Joints (Int.toNat x3.Piece) x3.Joints)),(500006,wB 4 s205.2)]⟩) (fun hb=>?_) fun hb=>?_))
 replace h:=iteT hb h
 refine zA 3 ?_
 obtain ⟨x240,hx240,h⟩:=bindS h
 refine evs_op (st_idxO (c:=cB) (l:=(List.set r28.Done (Int.toNat x3.Piece) true)) (i:=s205.1) (kd:=.i64) (kk:=(.top 500004)) (e:=4) (sz:=1) (by kernel_rfl) (by kernel_rfl) hx240 rfl) (evs_op (st_ldO (c:=cB) (l:=(List.set r28.Done (Int.toNat x3.Piece) true)) (i:=(Int.toNat s205.1)) (v:=(vB x240)) (agg:=false) (sz:=1) (kk:=(.top 500004)) (e:=4) (off:=0) (J:=[]) (by kernel_rfl) (by kernel_rfl) (by kernel_rfl) ((idxS hx240).2) (by kernel_rfl)) (zA 1 ?_))
 refine zS x240 (fun b0=>⟨[(1,s_EdgeT all),(8,.ptr 500000 0),(10,.ptr 500001 0),(13,vI s205.1),(151,vI (l.Pieces.length : Int)),(152,vI s205.1),(159,vB true),(165,vB b0)],[(500000,.box [.nl,.nl,.nl,.nl,.nl]),(500001,.box [(ro 500002 4),(ro 500003 36),(ro 500004 4),(ro 500005 3),(ro 500006 4)]),(500002,wB 4 x124),(500003,.row 36 [] (List.map (cS cB) r28.Holes)),(500004,wB 4 (List.set r28.Done (Int.toNat x3.Piece) true)),(500005,wI 3 (List.set r28.Joints (Int.toNat x3.Piece) x3.Joints)),(500006,wB 4 s205.2)]⟩) (fun hb=>?_) fun hb=>?_
 replace h:=iteT hb h
 refine zA 3 ?_
 obtain ⟨x241,hx241,h⟩:=bindS h
 refine evs_op (st_idxO (c:=cI) (l:=(List.set r28.Joints (Int.toNat x3.Piece) x3.Joints)) (i:=s205.1) (kd:=.i64) (kk:=(.top 500005)) (e:=3) (sz:=1) (by kernel_rfl) (by kernel_rfl) hx241 rfl) (evs_op (st_ldO (c:=cI) (l:=(List.set r28.Joints (Int.toNat x3.Piece) x3.Joints)) (i:=(Int.toNat s205.1)) (v:=(vI x241)) (agg:=false) (sz:=1) (kk:=(.top 500005)) (e:=3) (off:=0) (J:=[]) (by kernel_rfl) (by kernel_rfl) (by kernel_rfl) ((idxS hx241).2) (by kernel_rfl)) (z6 4 fun τ hτ=>?_))
 obtain rfl:=osi h
 exact zG hτ
 replace h:=iteF hb h
 refine z6 9 fun τ hτ=>?_
 obtain rfl:=osi h
 exact zG hτ
 replace h:=iteF hb h
 refine z6 15 fun τ hτ=>?_
 obtain rfl:=osi h
 exact zG hτ
 refine zE hτ ⟨[(1,s_EdgeT all),(8,.ptr 500000 0),(10,.ptr 500001 0),(13,vI s205.1),(151,vI (l.Pieces.length : Int)),(152,vI s205.1),(174,vB j238)],[(500000,.box [.nl,.nl,.nl,.nl,.nl]),(500001,.box [(ro 500002 4),(ro 500003 36),(ro 500004 4),(ro 500005 3),(ro 500006 4)]),(500002,wB 4 x124),(500003,.row 36 [] (List.map (cS cB) r28.Holes)),(500004,wB 4 (List.set r28.Done (Int.toNat x3.Piece) true)),(500005,wI 3 (List.set r28.Joints (Int.toNat x3.Piece) x3.Joints)),(500006,wB 4 s205.2)]⟩ (zI j238 (fun hb=>?_) fun hb=>?_)
 replace h:=iteT hb h
 refine zD (zA 3 ?_)
 obtain ⟨x243,hx243,h⟩:=bindS h
 refine evs_op (st_idxO (c:=cB) (l:=s205.2) (i:=s205.1) (kd:=.i64) (kk:=(.top 500006)) (e:=4) (sz:=1) (by kernel_rfl) (by kernel_rfl) hx243 rfl) (evs_op (st_stO (c:=cB) (l:=s205.2) (i:=(Int.toNat s205.1)) (x:=x243) (x':=true) (v:=(vB true)) (agg:=false) (sz:=1) (kk:=(.top 500006)) (e:=4) (off:=0) (J:=[]) (o:=wB 4 (List.set s205.2 (Int.toNat s205.1) true)) (by kernel_rfl) (by kernel_rfl) (by kernel_rfl) ((idxS hx243).2) (by kernel_rfl) (by kernel_rfl) (by kernel_rfl)) (zP fun τ hτ=>?_))
 exact bl_normal (jk_normal (List.set s205.2 (Int.toNat s205.1) true) h hτ (here (by kernel_rfl)))
 replace h:=iteF hb h
 refine zM fun τ hτ=>?_
 exact bl_normal (jk_normal s205.2 h hτ (here (by kernel_rfl)))
 replace h:=iteF hb h
 refine zL 3 fun τ hτ=>?_
 refine th_exit ?_
 obtain rfl:=osi h
 exact zF hτ
 intro x
 rfl
 intro τ hτ
 refine zQ (zE hτ ⟨[(8,.ptr 500000 0),(10,.ptr 500001 0)],[(500000,.box [.nl,.nl,.nl,.nl,.nl]),(500001,.box [(ro 500002 4),(ro 500003 36),(ro 500004 4),(ro 500005 3),(ro 500006 4)]),(500002,wB 4 x124),(500003,.row 36 [] (List.map (cS cB) r28.Holes)),(500004,wB 4 (List.set r28.Done (Int.toNat x3.Piece) true)),(500005,wI 3 (List.set r28.Joints (Int.toNat x3.Piece) x3.Joints)),(500006,wB 4 x244)]⟩ (z8 3 ⟨[(8,.ptr 500000 0),(9,vI 0)],[(500000,.box [(ro 500002 4),(ro 500003 36),(ro 500004 4),(ro 500005 3),(ro 500006 4)]),(500002,wB 4 x124),(500003,.row 36 [] (List.map (cS cB) r28.Holes)),(500004,wB 4 (List.set r28.Done (Int.toNat x3.Piece) true)),(500005,wI 3 (List.set r28.Joints (Int.toNat x3.Piece) x3.Joints)),(500006,wB 4 x244)]⟩ fun τ hτ=>?_))
 obtain rfl:=osi h
 exact rk_ret hτ [(8,.ptr 0 0),(9,vI 0)] (subR_prep [] [(500000,0),(500002,1),(500003,2),(500004,3),(500005,4),(500006,5)] (by kernel_rfl) rfl rfl (by kernel_rfl)) (by kernel_rfl)
 replace h:=iteF hb h
 exact nomatch h
 replace h:=iteF hb h
 exact nomatch h
 replace h:=iteF hb h
 exact nomatch h
theorem W.cut_Falls_1_k'_ok {st : cut_State} {h0_0 : (List Bool)} {h2 : (List (List Int))} {r : (List (List Int))} (h : cut_Falls_1_k' st h0_0 h2 = some r) : PC G.P 62 [(.agg (c_cut_State st)),(.ptr 1000000 0),(.ptr 1000001 0)] [(1000000,.box [(.sl (List.map cB h0_0))]),(1000001,.box [(.row (.top 300002) 38)]),(300002,.row 38 [] (List.map (cS cI) h2))] (.tup []) [(0,.row 38 [] (List.map (cS cI) r)),(1000000,.box [(.sl (List.map cB st.Fallen))]),(1000001,.box [(.row (.top 0) 38)])]:=by
 refine zU G Tryz.func62 (zK ⟨[(0,.agg (c_cut_State st)),(1,.ptr 1000000 0),(2,.ptr 1000001 0)],[(300002,.row 38 [] (List.map (cS cI) h2)),(1000000,.box [(sB h0_0)]),(1000001,.box [(ro 300002 38)])]⟩ (z3 1 ⟨[(1,.ptr 1000000 0),(2,.ptr 1000001 0),(3,.ptr 3 0)],[(3,.box (c_cut_State st)),(300002,.row 38 [] (List.map (cS cI) h2)),(1000000,.box [(sB h0_0)]),(1000001,.box [(ro 300002 38)])]⟩ ?_))
 refine z3 1 ⟨[(1,.ptr 1000000 0),(2,.ptr 1000001 0),(3,.ptr 3 0),(4,ro 4 3)],[(3,.box (c_cut_State st)),(4,wI 3 []),(300002,.row 38 [] (List.map (cS cI) h2)),(1000000,.box [(sB h0_0)]),(1000001,.box [(ro 300002 38)])]⟩ (zB (z7 ?_))
 refine zA 2 (evs_op (st_len (c:=cB) (l:=st.Fallen) (x:=(sB st.Fallen)) (by kernel_rfl) (by kernel_rfl)) (z1 1 ⟨[(1,.ptr 1000000 0),(2,.ptr 1000001 0),(3,.ptr 3 0),(4,ro 4 3),(8,sB st.Fallen),(9,vI (st.Fallen.length : Int)),(10,vI 0)],[(3,.box (c_cut_State st)),(4,wI 3 []),(300002,.row 38 [] (List.map (cS cI) h2)),(1000000,.box [(sB h0_0)]),(1000001,.box [(ro 300002 38)])]⟩ ?_))
 refine zC ?_
 obtain ⟨x96,hx96,h⟩:=bindS h
 refine sem_loopS (fun (s65 : Int × (List Int))=>⟨[(1,.ptr 1000000 0),(2,.ptr 1000001 0),(3,.ptr 500001 0),(4,ro 500002 3),(8,sB st.Fallen),(9,vI (st.Fallen.length : Int)),(10,vI s65.1)],[(500000,.row 38 [] (List.map (cS cI) h2)),(500001,.box (c_cut_State st)),(500002,wI 3 s65.2),(1000000,.box [(sB h0_0)]),(1000001,.box [(ro 500000 38)])]⟩) (fun (x96 : (List Int))=>(.exit 0,⟨[(1,.ptr 1000000 0),(2,.ptr 1000001 0),(3,.ptr 500001 0),(4,ro 500002 3)],[(500000,.row 38 [] (List.map (cS cI) h2)),(500001,.box (c_cut_State st)),(500002,wI 3 x96),(1000000,.box [(sB h0_0)]),(1000001,.box [(ro 500000 38)])]⟩)) (cut_Falls_1_k'_l2 st h0_0) (0,[]) x96 (by kernel_rfl) (subR_prep [] [(3,500001),(4,500002),(300002,500000),(1000000,1000000),(1000001,1000001)] (by kernel_rfl) rfl rfl (by kernel_rfl)) (iter_loop hx96) ?_ ?_ ?_
 intro s65 r h
 refine z3 1 ⟨[(1,.ptr 1000000 0),(2,.ptr 1000001 0),(3,.ptr 500001 0),(4,ro 500002 3),(8,sB st.Fallen),(9,vI (st.Fallen.length : Int)),(10,vI s65.1),(11,vB (decide (s65.1 < (st.Fallen.length : Int))))],[(500000,.row 38 [] (List.map (cS cI) h2)),(500001,.box (c_cut_State st)),(500002,wI 3 s65.2),(1000000,.box [(sB h0_0)]),(1000001,.box [(ro 500000 38)])]⟩ (zB (zI (decide (s65.1 < (st.Fallen.length : Int))) (fun hb=>?_) fun hb=>?_))
 replace h:=iteT hb h
 refine z4 ⟨[(1,.ptr 1000000 0),(2,.ptr 1000001 0),(3,.ptr 500001 0),(4,ro 500002 3),(8,sB st.Fallen),(9,vI (st.Fallen.length : Int)),(10,vI s65.1)],[(500000,.row 38 [] (List.map (cS cI) h2)),(500001,.box (c_cut_State st)),(500002,wI 3 s65.2),(1000000,.box [(sB h0_0)]),(1000001,.box [(ro 500000 38)])]⟩ (sem_seqJ (fun (j88 : (List Int))=>⟨[(1,.ptr 1000000 0),(2,.ptr 1000001 0),(3,.ptr 500001 0),(4,ro 500002 3),(8,sB st.Fallen),(9,vI (st.Fallen.length : Int)),(10,vI s65.1)],[(500000,.row 38 [] (List.map (cS cI) h2)),(500001,.box (c_cut_State st)),(500002,wI 3 j88),(1000000,.box [(sB h0_0)]),(1000001,.box [(ro 500000 38)])]⟩) (cut_Falls_1_k'_k1 s65) r (by kernel_rfl) (fun j88 h=>?_) ?_)
 refine zD (z6 2 fun τ hτ=>?_)
 obtain rfl:=osi h
 exact zH hτ
 refine zC (z7 (zA 1 ?_))
 obtain ⟨x90,hx90,h⟩:=bindS h
 refine evs_op (st_idx (c:=cB) (l:=st.Fallen) (i:=s65.1) (kd:=.i64) (sz:=1) (by kernel_rfl) hx90 rfl) (z1 3 ⟨[(1,.ptr 1000000 0),(2,.ptr 1000001 0),(3,.ptr 500001 0),(4,ro 500002 3),(5,vI s65.1),(6,vB x90),(8,sB st.Fallen),(9,vI (st.Fallen.length : Int)),(10,vI s65.1)],[(500000,.row 38 [] (List.map (cS cI) h2)),(500001,.box (c_cut_State st)),(500002,wI 3 s65.2),(1000000,.box [(sB h0_0)]),(1000001,.box [(ro 500000 38)])]⟩ (zB ?_))
 obtain ⟨j92,hj92,h⟩:=bindS h
 refine zT ⟨[(1,.ptr 1000000 0),(2,.ptr 1000001 0),(3,.ptr 500001 0),(4,ro 500002 3),(5,vI s65.1),(8,sB st.Fallen),(9,vI (st.Fallen.length : Int)),(10,vI s65.1),(22,vB j92)],[(500000,.row 38 [] (List.map (cS cI) h2)),(500001,.box (c_cut_State st)),(500002,wI 3 s65.2),(1000000,.box [(sB h0_0)]),(1000001,.box [(ro 500000 38)])]⟩ ?_ fun τ hτ=>?_
 replace h:=hj92
 refine zA 2 (zS x90 (fun b0=>⟨[(1,.ptr 1000000 0),(2,.ptr 1000001 0),(3,.ptr 500001 0),(4,ro 500002 3),(5,vI s65.1),(8,sB st.Fallen),(9,vI (st.Fallen.length : Int)),(10,vI s65.1),(16,vB b0)],[(500000,.row 38 [] (List.map (cS cI) h2)),(500001,.box (c_cut_State st)),(500002,wI 3 s65.2),(1000000,.box [(sB h0_0)]),(1000001,.box [(ro 500000 38)])]⟩) (fun hb=>?_) fun hb=>?_)
 replace h:=iteT hb h
 refine zA 2 ?_
 obtain ⟨x93,hx93,h⟩:=bindS h
 refine evs_op (st_idx (c:=cB) (l:=h0_0) (i:=s65.1) (kd:=.i64) (sz:=1) (by kernel_rfl) hx93 rfl) (z6 3 fun τ hτ=>?_)
 obtain rfl:=osi h
 exact zG hτ
 replace h:=iteF hb h
 refine z6 6 fun τ hτ=>?_
 obtain rfl:=osi h
 exact zG hτ
 refine zE hτ ⟨[(1,.ptr 1000000 0),(2,.ptr 1000001 0),(3,.ptr 500001 0),(4,ro 500002 3),(5,vI s65.1),(8,sB st.Fallen),(9,vI (st.Fallen.length : Int)),(10,vI s65.1),(22,vB j92)],[(500000,.row 38 [] (List.map (cS cI) h2)),(500001,.box (c_cut_State st)),(500002,wI 3 s65.2),(1000000,.box [(sB h0_0)]),(1000001,.box [(ro 500000 38)])]⟩ (zI j92 (fun hb=>?_) fun hb=>?_)
 replace h:=iteT hb h
 refine zD (zA 3 ?_)
 obtain ⟨l95,hl95,h⟩:=bindS h
 refine evs_op (st_app (c:=cI) (l:=s65.2) (l2:=[s65.1]) (x:=(sI [s65.1])) (g:=500002) (e:=3) (sz:=1) (d:=26) (by kernel_rfl) (by kernel_rfl) (by kernel_rfl) (by kernel_rfl) (fun _=>rfl) rfl hl95) (z6 1 fun τ hτ=>?_)
 exact bl_normal (jk_normal l95 h hτ (here (by kernel_rfl)))
 replace h:=iteF hb h
 refine zM fun τ hτ=>?_
 exact bl_normal (jk_normal s65.2 h hτ (here (by kernel_rfl)))
 replace h:=iteF hb h
 refine zL 0 fun τ hτ=>?_
 refine th_exit ?_
 obtain rfl:=osi h
 exact zF hτ
 intro x
 rfl
 intro τ hτ
 refine zQ (zE hτ ⟨[(1,.ptr 1000000 0),(2,.ptr 1000001 0),(3,.ptr 500001 0),(4,ro 500002 3)],[(500000,.row 38 [] (List.map (cS cI) h2)),(500001,.box (c_cut_State st)),(500002,wI 3 x96),(1000000,.box [(sB h0_0)]),(1000001,.box [(ro 500000 38)])]⟩ (z7 ?_))
 refine zA 2 (evs_prep [.frz 500002] (by kernel_rfl) (zA 1 ?_))
 obtain ⟨l98,hl98,h⟩:=bindS h
 refine evs_op (st_app (c:=(cS cI)) (l:=h2) (l2:=[x96]) (x:=(.sl (List.map (cS cI) [x96]))) (g:=500000) (e:=38) (sz:=1) (d:=31) (by kernel_rfl) (by kernel_rfl) (by kernel_rfl) (by kernel_rfl) (fun _=>rfl) rfl hl98) (z1 1 ⟨[(1,.ptr 1000000 0),(3,.ptr 500001 0)],[(500000,.row 38 [] (List.map (cS cI) l98)),(500001,.box (c_cut_State st)),(1000000,.box [(sB h0_0)]),(1000001,.box [(ro 500000 38)])]⟩ (zD ?_))
 refine z6 3 fun τ hτ=>?_
 obtain rfl:=osi h
 exact rk_normal hτ [] (subR_prep [] [(500000,0),(1000000,1000000),(1000001,1000001)] (by kernel_rfl) rfl rfl (by kernel_rfl)) (by kernel_rfl)
theorem W.cut_run__cut_Falls_1_k_ok {l : LayoutT} {items : (List ItemT)} {h1 : (List Bool)} {h3 : (List (List Int))} {r : cut_State × Int × Int × (List Bool) × (List (List Bool)) × (List Bool) × (List Int) × (List Bool) × (List (List Int)) × (List Bool)} (h : cut_run__cut_Falls_1_k l items h1 h3 = some r) : PC G.P 57 [(.agg (c_LayoutT l)),(.sl (List.map c_ItemT items)),(.fn 62 [(.ptr 1000000 0),(.ptr 1000002 0)])] [(1000000,.box [(.row (.top 300001) 4)]),(300001,.row 4 [] (List.map cB h1)),(1000002,.box [(.row (.top 300003) 38)]),(300003,.row 38 [] (List.map (cS cI) h3))] (.tup [(.agg (c_cut_State r.1)),(vI r.2.1),(vI r.2.2.1)]) [(0,.box [(.sl (List.map cB r.2.2.2.1)),(.sl (List.map (cS cB) r.2.2.2.2.1)),(.sl (List.map cB r.2.2.2.2.2.1)),(.sl (List.map cI r.2.2.2.2.2.2.1)),(.sl (List.map cB r.2.2.2.2.2.2.2.1))]),(1,.row 38 [] (List.map (cS cI) r.2.2.2.2.2.2.2.2.1)),(1000000,.box [(.sl (List.map cB r.2.2.2.2.2.2.2.2.2))]),(1000002,.box [(.row (.top 1) 38)])]:=by
 refine zU G Tryz.func57 (zK ⟨[(0,.agg (c_LayoutT l)),(1,s_ItemT items),(2,.fn 62 [(.ptr 1000000 0),(.ptr 1000002 0)])],[(300001,wB 4 h1),(300003,.row 38 [] (List.map (cS cI) h3)),(1000000,.box [(ro 300001 4)]),(1000002,.box [(ro 300003 38)])]⟩ (z3 4 ⟨[(1,s_ItemT items),(2,.fn 62 [(.ptr 1000000 0),(.ptr 1000002 0)]),(3,.ptr 3 0),(6,.ptr 6 0)],[(3,.box (c_LayoutT l)),(6,.box [.nl,.nl,.nl,.nl,.nl]),(300001,wB 4 h1),(300003,.row 38 [] (List.map (cS cI) h3)),(1000000,.box [(ro 300001 4)]),(1000002,.box [(ro 300003 38)])]⟩ ?_))
 refine z7 (zA 1 ?_)
 obtain ⟨r2,hr2,h⟩:=bindS h
 refine evs_callS [] [(0,700050)] [] (by kernel_rfl) (W.cut_Edges_k_ok hr2) (by kernel_rfl) (by kernel_rfl) (.inl rfl) (z1 5 ⟨[(1,s_ItemT items),(2,.fn 62 [(.ptr 1000000 0),(.ptr 1000002 0)]),(3,.ptr 3 0),(6,.ptr 6 0),(9,ro 700050 74),(10,vI r2.2)],[(3,.box (c_LayoutT l)),(6,.box [.nl,.nl,.nl,.nl,.nl]),(300001,wB 4 h1),(300003,.row 38 [] (List.map (cS cI) h3)),(700050,w_EdgeT 74 r2.1),(1000000,.box [(ro 300001 4)]),(1000002,.box [(ro 300003 38)])]⟩ (zB ?_))
 refine z3 2 ⟨[(1,s_ItemT items),(2,.fn 62 [(.ptr 1000000 0),(.ptr 1000002 0)]),(3,.ptr 3 0),(6,.ptr 6 0),(9,ro 700050 74),(10,vI r2.2),(22,vB (r2.2 != 0))],[(3,.box (c_LayoutT l)),(6,.box [.nl,.nl,.nl,.nl,.nl]),(300001,wB 4 h1),(300003,.row 38 [] (List.map (cS cI) h3)),(700050,w_EdgeT 74 r2.1),(1000000,.box [(ro 300001 4)]),(1000002,.box [(ro 300003 38)])]⟩ (zI (r2.2 != 0) (fun hb=>?_) fun hb=>?_)
 replace h:=iteT hb h
 exact nomatch h
 replace h:=iteF hb h
 refine z4 ⟨[(1,s_ItemT items),(2,.fn 62 [(.ptr 1000000 0),(.ptr 1000002 0)]),(3,.ptr 3 0),(6,.ptr 6 0),(9,ro 700050 74)],[(3,.box (c_LayoutT l)),(6,.box [.nl,.nl,.nl,.nl,.nl]),(300001,wB 4 h1),(300003,.row 38 [] (List.map (cS cI) h3)),(700050,w_EdgeT 74 r2.1),(1000000,.box [(ro 300001 4)]),(1000002,.box [(ro 300003 38)])]⟩ (zB (z7 ?_))
 refine zA 1 (evs_op (st_len (c:=c_ItemT) (l:=items) (x:=(s_ItemT items)) (by kernel_rfl) (by kernel_rfl)) (z1 1 ⟨[(1,s_ItemT items),(2,.fn 62 [(.ptr 1000000 0),(.ptr 1000002 0)]),(3,.ptr 3 0),(6,.ptr 6 0),(9,ro 700050 74),(27,vB (decide ((items.length : Int) > 128)))],[(3,.box (c_LayoutT l)),(6,.box [.nl,.nl,.nl,.nl,.nl]),(300001,wB 4 h1),(300003,.row 38 [] (List.map (cS cI) h3)),(700050,w_EdgeT 74 r2.1),(1000000,.box [(ro 300001 4)]),(1000002,.box [(ro 300003 38)])]⟩ ?_))
 refine zI (decide ((items.length : Int) > 128)) (fun hb=>?_) fun hb=>?_
 replace h:=iteT hb h
 exact nomatch h
 replace h:=iteF hb h
 refine z4 ⟨[(1,s_ItemT items),(2,.fn 62 [(.ptr 1000000 0),(.ptr 1000002 0)]),(3,.ptr 3 0),(6,.ptr 6 0),(9,ro 700050 74)],[(3,.box (c_LayoutT l)),(6,.box [.nl,.nl,.nl,.nl,.nl]),(300001,wB 4 h1),(300003,.row 38 [] (List.map (cS cI) h3)),(700050,w_EdgeT 74 r2.1),(1000000,.box [(ro 300001 4)]),(1000002,.box [(ro 300003 38)])]⟩ (z7 (zA 2 ?_))
 refine evs_op (st_len (c:=c_EdgeT) (l:=r2.1) (x:=(ro 700050 74)) (by kernel_rfl) (by kernel_rfl)) ?_
 obtain ⟨r4,hr4,h⟩:=bindS h
 refine evs_callS [] [(0,700150),(1,700151),(2,700152),(3,700153),(4,700154),(5,700155)] [] (by kernel_rfl) (W.cut_start_k_ok hr4) (by kernel_rfl) (by kernel_rfl) (.inl rfl) (z1 2 ⟨[(1,s_ItemT items),(2,.fn 62 [(.ptr 1000000 0),(.ptr 1000002 0)]),(3,.ptr 3 0),(6,.ptr 6 0),(9,ro 700050 74),(11,.ptr 11 0)],[(3,.box (c_LayoutT l)),(6,.box [.nl,.nl,.nl,.nl,.nl]),(11,.box [(ro 700151 4),(ro 700152 36),(ro 700153 4),(ro 700154 3),(ro 700155 4)]),(300001,wB 4 h1),(300003,.row 38 [] (List.map (cS cI) h3)),(700050,w_EdgeT 74 r2.1),(700151,wB 4 r4.Cut),(700152,.row 36 [] (List.map (cS cB) r4.Holes)),(700153,wB 4 r4.Done),(700154,wI 3 r4.Joints),(700155,wB 4 r4.Fallen),(1000000,.box [(ro 300001 4)]),(1000002,.box [(ro 300003 38)])]⟩ (zB ?_))
 refine z7 (zA 1 (evs_op (st_len (c:=c_ItemT) (l:=items) (x:=(s_ItemT items)) (by kernel_rfl) (by kernel_rfl)) ?_))
 refine z1 1 ⟨[(2,.fn 62 [(.ptr 1000000 0),(.ptr 1000002 0)]),(3,.ptr 3 0),(6,.ptr 6 0),(9,ro 700050 74),(11,.ptr 11 0),(33,s_ItemT items),(34,vI (items.length : Int)),(35,vI 0)],[(3,.box (c_LayoutT l)),(6,.box [.nl,.nl,.nl,.nl,.nl]),(11,.box [(ro 700151 4),(ro 700152 36),(ro 700153 4),(ro 700154 3),(ro 700155 4)]),(300001,wB 4 h1),(300003,.row 38 [] (List.map (cS cI) h3)),(700050,w_EdgeT 74 r2.1),(700151,wB 4 r4.Cut),(700152,.row 36 [] (List.map (cS cB) r4.Holes)),(700153,wB 4 r4.Done),(700154,wI 3 r4.Joints),(700155,wB 4 r4.Fallen),(1000000,.box [(ro 300001 4)]),(1000002,.box [(ro 300003 38)])]⟩ (zC ?_)
 obtain ⟨x82,hx82,h⟩:=bindS h
 refine sem_loopS (fun (s57 : Int × (List (List Int)) × (List Bool) × (List (List Bool)) × (List Bool) × (List Int) × (List Bool) × (List Bool))=>⟨[(2,.fn 62 [(.ptr 1000000 0),(.ptr 1000002 0)]),(3,.ptr 500001 0),(6,.ptr 500002 0),(9,s_EdgeT r2.1),(11,.ptr 500003 0),(33,s_ItemT items),(34,vI (items.length : Int)),(35,vI s57.1)],[(500000,.row 38 [] (List.map (cS cI) s57.2.1)),(500001,.box (c_LayoutT l)),(500002,.box [.nl,.nl,.nl,.nl,.nl]),(500003,.box [(sB s57.2.2.1),(.sl (List.map (cS cB) s57.2.2.2.1)),(sB s57.2.2.2.2.1),(sI s57.2.2.2.2.2.1),(sB s57.2.2.2.2.2.2.1)]),(1000000,.box [(sB s57.2.2.2.2.2.2.2)]),(1000002,.box [(ro 500000 38)])]⟩) (fun (x82 : (List Bool) × (List (List Bool)) × (List Bool) × (List Int) × (List Bool) × (List (List Int)) × (List Bool))=>(.exit 0,⟨[(6,.ptr 500000 0),(11,.ptr 500001 0)],[(500000,.box [.nl,.nl,.nl,.nl,.nl]),(500001,.box [(sB x82.1),(.sl (List.map (cS cB) x82.2.1)),(sB x82.2.2.1),(sI x82.2.2.2.1),(sB x82.2.2.2.2.1)]),(500002,.row 38 [] (List.map (cS cI) x82.2.2.2.2.2.1)),(1000000,.box [(sB x82.2.2.2.2.2.2)]),(1000002,.box [(ro 500002 38)])]⟩)) (cut_run__cut_Falls_1_k_l1 l items r2) (0,h3,r4.Cut,r4.Holes,r4.Done,r4.Joints,r4.Fallen,h1) x82 (by kernel_rfl) (subR_prep [.frz 300001,.frz 700050,.frz 700151,.frz 700152,.frz 700153,.frz 700154,.frz 700155] [(3,500001),(6,500002),(11,500003),(300003,500000),(1000000,1000000),(1000002,1000002)] (by kernel_rfl) rfl rfl (by kernel_rfl)) (iter_loop hx82) ?_ ?_ ?_
 intro s57 r h
 refine z3 1 ⟨[(2,.fn 62 [(.ptr 1000000 0),(.ptr 1000002 0)]),(3,.ptr 500001 0),(6,.ptr 500002 0),(9,s_EdgeT r2.1),(11,.ptr 500003 0),(33,s_ItemT items),(34,vI (items.length : Int)),(35,vI s57.1),(36,vB (decide (s57.1 < (items.length : Int))))],[(500000,.row 38 [] (List.map (cS cI) s57.2.1)),(500001,.box (c_LayoutT l)),(500002,.box [.nl,.nl,.nl,.nl,.nl]),(500003,.box [(sB s57.2.2.1),(.sl (List.map (cS cB) s57.2.2.2.1)),(sB s57.2.2.2.2.1),(sI s57.2.2.2.2.2.1),(sB s57.2.2.2.2.2.2.1)]),(1000000,.box [(sB s57.2.2.2.2.2.2.2)]),(1000002,.box [(ro 500000 38)])]⟩ (zB (zI (decide (s57.1 < (items.length : Int))) (fun hb=>?_) fun hb=>?_))
 replace h:=iteT hb h
 refine z4 ⟨[(2,.fn 62 [(.ptr 1000000 0),(.ptr 1000002 0)]),(3,.ptr 500001 0),(6,.ptr 500002 0),(9,s_EdgeT r2.1),(11,.ptr 500003 0),(33,s_ItemT items),(34,vI (items.length : Int)),(35,vI s57.1)],[(500000,.row 38 [] (List.map (cS cI) s57.2.1)),(500001,.box (c_LayoutT l)),(500002,.box [.nl,.nl,.nl,.nl,.nl]),(500003,.box [(sB s57.2.2.1),(.sl (List.map (cS cB) s57.2.2.2.1)),(sB s57.2.2.2.2.1),(sI s57.2.2.2.2.2.1),(sB s57.2.2.2.2.2.2.1)]),(1000000,.box [(sB s57.2.2.2.2.2.2.2)]),(1000002,.box [(ro 500000 38)])]⟩ (zB (zC ?_))
 refine z7 (zA 1 ?_)
 obtain ⟨x77,hx77,h⟩:=bindS h
 refine evs_op (st_idx (c:=c_ItemT) (l:=items) (i:=s57.1) (kd:=.i64) (sz:=5) (by kernel_rfl) hx77 rfl) (z1 4 ⟨[(2,.fn 62 [(.ptr 1000000 0),(.ptr 1000002 0)]),(3,.ptr 500001 0),(6,.ptr 500002 0),(9,s_EdgeT r2.1),(11,.ptr 500003 0),(12,vI s57.1),(13,.ptr 13 0),(33,s_ItemT items),(34,vI (items.length : Int)),(35,vI s57.1)],[(13,.box (c_ItemT x77)),(500000,.row 38 [] (List.map (cS cI) s57.2.1)),(500001,.box (c_LayoutT l)),(500002,.box [.nl,.nl,.nl,.nl,.nl]),(500003,.box [(sB s57.2.2.1),(.sl (List.map (cS cB) s57.2.2.2.1)),(sB s57.2.2.2.2.1),(sI s57.2.2.2.2.2.1),(sB s57.2.2.2.2.2.2.1)]),(1000000,.box [(sB s57.2.2.2.2.2.2.2)]),(1000002,.box [(ro 500000 38)])]⟩ (z7 ?_))
 refine zA 4 ?_
 obtain ⟨r79,hr79,h⟩:=bindS h
 refine evs_callS [] [(0,700200),(1,700201),(2,700202),(3,700203),(4,700204),(5,700205)] [] (by kernel_rfl) (W.cut_do_k_ok hr79) (by kernel_rfl) (by kernel_rfl) (.inl rfl) (z1 6 ⟨[(2,.fn 62 [(.ptr 1000000 0),(.ptr 1000002 0)]),(3,.ptr 500001 0),(6,.ptr 500002 0),(9,s_EdgeT r2.1),(11,.ptr 500003 0),(12,vI s57.1),(14,.ptr 14 0),(15,vI r79.2),(33,s_ItemT items),(34,vI (items.length : Int)),(35,vI s57.1)],[(14,.box [(ro 700201 4),(ro 700202 36),(ro 700203 4),(ro 700204 3),(ro 700205 4)]),(500000,.row 38 [] (List.map (cS cI) s57.2.1)),(500001,.box (c_LayoutT l)),(500002,.box [.nl,.nl,.nl,.nl,.nl]),(500003,.box [(sB s57.2.2.1),(.sl (List.map (cS cB) s57.2.2.2.1)),(sB s57.2.2.2.2.1),(sI s57.2.2.2.2.2.1),(sB s57.2.2.2.2.2.2.1)]),(700201,wB 4 r79.1.Cut),(700202,.row 36 [] (List.map (cS cB) r79.1.Holes)),(700203,wB 4 r79.1.Done),(700204,wI 3 r79.1.Joints),(700205,wB 4 r79.1.Fallen),(1000000,.box [(sB s57.2.2.2.2.2.2.2)]),(1000002,.box [(ro 500000 38)])]⟩ (zB ?_))
 refine z3 2 ⟨[(2,.fn 62 [(.ptr 1000000 0),(.ptr 1000002 0)]),(3,.ptr 500001 0),(6,.ptr 500002 0),(9,s_EdgeT r2.1),(11,.ptr 500003 0),(12,vI s57.1),(14,.ptr 14 0),(15,vI r79.2),(33,s_ItemT items),(34,vI (items.length : Int)),(35,vI s57.1),(49,vB (r79.2 != 0))],[(14,.box [(ro 700201 4),(ro 700202 36),(ro 700203 4),(ro 700204 3),(ro 700205 4)]),(500000,.row 38 [] (List.map (cS cI) s57.2.1)),(500001,.box (c_LayoutT l)),(500002,.box [.nl,.nl,.nl,.nl,.nl]),(500003,.box [(sB s57.2.2.1),(.sl (List.map (cS cB) s57.2.2.2.1)),(sB s57.2.2.2.2.1),(sI s57.2.2.2.2.2.1),(sB s57.2.2.2.2.2.2.1)]),(700201,wB 4 r79.1.Cut),(700202,.row 36 [] (List.map (cS cB) r79.1.Holes)),(700203,wB 4 r79.1.Done),(700204,wI 3 r79.1.Joints),(700205,wB 4 r79.1.Fallen),(1000000,.box [(sB s57.2.2.2.2.2.2.2)]),(1000002,.box [(ro 500000 38)])]⟩ (zI (r79.2 != 0) (fun hb=>?_) fun hb=>?_)
 replace h:=iteT hb h
 exact nomatch h
 replace h:=iteF hb h
 refine z4 ⟨[(2,.fn 62 [(.ptr 1000000 0),(.ptr 1000002 0)]),(3,.ptr 500001 0),(6,.ptr 500002 0),(9,s_EdgeT r2.1),(11,.ptr 500003 0),(14,.ptr 14 0),(33,s_ItemT items),(34,vI (items.length : Int)),(35,vI s57.1)],[(14,.box [(ro 700201 4),(ro 700202 36),(ro 700203 4),(ro 700204 3),(ro 700205 4)]),(500000,.row 38 [] (List.map (cS cI) s57.2.1)),(500001,.box (c_LayoutT l)),(500002,.box [.nl,.nl,.nl,.nl,.nl]),(500003,.box [(sB s57.2.2.1),(.sl (List.map (cS cB) s57.2.2.2.1)),(sB s57.2.2.2.2.1),(sI s57.2.2.2.2.2.1),(sB s57.2.2.2.2.2.2.1)]),(700201,wB 4 r79.1.Cut),(700202,.row 36 [] (List.map (cS cB) r79.1.Holes)),(700203,wB 4 r79.1.Done),(700204,wI 3 r79.1.Joints),(700205,wB 4 r79.1.Fallen),(1000000,.box [(sB s57.2.2.2.2.2.2.2)]),(1000002,.box [(ro 500000 38)])]⟩ (z3 2 ⟨[(2,.fn 62 [(.ptr 1000000 0),(.ptr 1000002 0)]),(3,.ptr 500001 0),(6,.ptr 500002 0),(9,s_EdgeT r2.1),(11,.ptr 500003 0),(33,s_ItemT items),(34,vI (items.length : Int)),(35,vI s57.1)],[(500000,.row 38 [] (List.map (cS cI) s57.2.1)),(500001,.box (c_LayoutT l)),(500002,.box [.nl,.nl,.nl,.nl,.nl]),(500003,.box [(ro 700201 4),(ro 700202 36),(ro 700203 4),(ro 700204 3),(ro 700205 4)]),(700201,wB 4 r79.1.Cut),(700202,.row 36 [] (List.map (cS cB) r79.1.Holes)),(700203,wB 4 r79.1.Done),(700204,wI 3 r79.1.Joints),(700205,wB 4 r79.1.Fallen),(1000000,.box [(sB s57.2.2.2.2.2.2.2)]),(1000002,.box [(ro 500000 38)])]⟩ (zD ?_))
 refine zA 2 (evs_prep [.frz 700201,.frz 700202,.frz 700203,.frz 700204,.frz 700205] (by kernel_rfl) ?_)
 obtain ⟨r81,hr81,h⟩:=bindS h
 refine evs_callS [(1000000,1000000),(1000001,1000002),(300002,500000)] [(0,700100)] [] (by kernel_rfl) (W.cut_Falls_1_k'_ok hr81) (by kernel_rfl) (by kernel_rfl) (.inl rfl) (zP fun τ hτ=>?_)
 refine bl_normal (zE hτ ⟨[(2,.fn 62 [(.ptr 1000000 0),(.ptr 1000002 0)]),(3,.ptr 500001 0),(6,.ptr 500002 0),(9,s_EdgeT r2.1),(11,.ptr 500003 0),(33,s_ItemT items),(34,vI (items.length : Int)),(35,vI s57.1)],[(500001,.box (c_LayoutT l)),(500002,.box [.nl,.nl,.nl,.nl,.nl]),(500003,.box (c_cut_State r79.1)),(700100,.row 38 [] (List.map (cS cI) r81)),(1000000,.box [(sB r79.1.Fallen)]),(1000002,.box [(ro 700100 38)])]⟩ (zD ?_))
 refine z6 2 fun τ hτ=>?_
 obtain rfl:=osi h
 exact lk_nextS hτ (subR_prep [] [(500001,500001),(500002,500002),(500003,500003),(700100,500000),(1000000,1000000),(1000002,1000002)] (by kernel_rfl) rfl rfl (by kernel_rfl))
 replace h:=iteF hb h
 refine zL 0 fun τ hτ=>?_
 refine th_exit ?_
 obtain rfl:=osi h
 exact lk_outS hτ rfl (subR_prep [] [(500000,500002),(500002,500000),(500003,500001),(1000000,1000000),(1000002,1000002)] (by kernel_rfl) rfl rfl (by kernel_rfl))
 intro x
 rfl
 intro τ hτ
 refine zQ (zE hτ ⟨[(6,.ptr 500000 0),(11,.ptr 500001 0)],[(500000,.box [.nl,.nl,.nl,.nl,.nl]),(500001,.box [(sB x82.1),(.sl (List.map (cS cB) x82.2.1)),(sB x82.2.2.1),(sI x82.2.2.2.1),(sB x82.2.2.2.2.1)]),(500002,.row 38 [] (List.map (cS cI) x82.2.2.2.2.2.1)),(1000000,.box [(sB x82.2.2.2.2.2.2)]),(1000002,.box [(ro 500002 38)])]⟩ (z8 4 ⟨[(6,.ptr 500000 0),(7,vI 0),(8,vI 0)],[(500000,.box [(sB x82.1),(.sl (List.map (cS cB) x82.2.1)),(sB x82.2.2.1),(sI x82.2.2.2.1),(sB x82.2.2.2.2.1)]),(500002,.row 38 [] (List.map (cS cI) x82.2.2.2.2.2.1)),(1000000,.box [(sB x82.2.2.2.2.2.2)]),(1000002,.box [(ro 500002 38)])]⟩ fun τ hτ=>?_))
 obtain rfl:=osi h
 exact rk_ret hτ [(6,.ptr 0 0),(7,vI 0),(8,vI 0)] (subR_prep [] [(500000,0),(500002,1),(1000000,1000000),(1000002,1000002)] (by kernel_rfl) rfl rfl (by kernel_rfl)) (by kernel_rfl)
theorem W.cut_Falls_k_ok {l : LayoutT} {items : (List ItemT)} {r : (List (List Int)) × Int} (h : cut_Falls_k l items = some r) : PC G.P 26 [(.agg (c_LayoutT l)),(.sl (List.map c_ItemT items))] [] (.tup [(.row (.top 0) 38),(vI r.2)]) [(0,.row 38 [] (List.map (cS cI) r.1))]:=by
 refine zU G Tryz.func26 (zK ⟨[(0,.agg (c_LayoutT l)),(1,s_ItemT items)],[]⟩ (z3 3 ⟨[(1,s_ItemT items),(2,.ptr 2 0)],[(2,.box (c_LayoutT l))]⟩ ?_))
 refine z7 (zA 1 (evs_prep [.row (.box 6 0) 800006 38 []] (by kernel_rfl) ?_))
 refine zP fun τ hτ=>?_
 refine zE hτ ⟨[(1,s_ItemT items),(2,.ptr 2 0),(6,.ptr 6 0)],[(2,.box (c_LayoutT l)),(6,.box [(ro 800006 38)]),(800006,.row 38 [] (List.map (cS cI) []))]⟩ (z7 (zA 2 ?_))
 refine evs_op (st_len (c:=c_Piece) (l:=l.Pieces) (x:=(s_Piece l.Pieces)) (by kernel_rfl) (by kernel_rfl)) ?_
 obtain ⟨l2,hl2,h⟩:=bindS h
 refine evs_op (st_mk (c:=cB) (z:=false) (n:=(l.Pieces.length : Int)) (e:=4) (d:=14) (zs:=[(vB false)]) (k1:=.i64) (k2:=.i64) (by kernel_rfl) rfl hl2) (zA 1 (evs_prep [.row (.box 7 0) 800007 4 []] (by kernel_rfl) ?_))
 refine z1 1 ⟨[(1,s_ItemT items),(2,.ptr 2 0),(6,.ptr 6 0),(7,.ptr 7 0)],[(2,.box (c_LayoutT l)),(6,.box [(ro 800006 38)]),(7,.box [(ro 14 4)]),(14,wB 4 l2),(800006,.row 38 [] (List.map (cS cI) []))]⟩ (z7 (zA 3 ?_))
 obtain ⟨r4,hr4,h⟩:=bindS h
 refine evs_callS [(1000000,7),(300001,14),(1000002,6),(300003,800006)] [(0,700150),(1,700151)] [] (by kernel_rfl) (W.cut_run__cut_Falls_1_k_ok hr4) (by kernel_rfl) (by kernel_rfl) (.inl rfl) (z1 8 ⟨[(6,.ptr 6 0),(10,vI r4.2.2.1)],[(6,.box [(ro 700151 38)]),(700151,.row 38 [] (List.map (cS cI) r4.2.2.2.2.2.2.2.2.1))]⟩ (zB ?_))
 refine z3 2 ⟨[(6,.ptr 6 0),(10,vI r4.2.2.1),(24,vB (r4.2.2.1 != 0))],[(6,.box [(ro 700151 38)]),(700151,.row 38 [] (List.map (cS cI) r4.2.2.2.2.2.2.2.2.1))]⟩ (zI (r4.2.2.1 != 0) (fun hb=>?_) fun hb=>?_)
 replace h:=iteT hb h
 exact nomatch h
 replace h:=iteF hb h
 refine z4 ⟨[(6,.ptr 6 0)],[(6,.box [(ro 700151 38)]),(700151,.row 38 [] (List.map (cS cI) r4.2.2.2.2.2.2.2.2.1))]⟩ (z8 3 ⟨[(4,ro 700151 38),(5,vI 0)],[(700151,.row 38 [] (List.map (cS cI) r4.2.2.2.2.2.2.2.2.1))]⟩ fun τ hτ=>?_)
 obtain rfl:=osi h
 exact rk_ret hτ [(4,ro 0 38),(5,vI 0)] (subR_prep [] [(700151,0)] (by kernel_rfl) rfl rfl (by kernel_rfl)) (by kernel_rfl)
theorem W.sheetmetalref06_SameInts_k_ok {a : (List Int)} {b : (List Int)} {r : Bool} (h : sheetmetalref06_SameInts_k a b = some r) : PC G.P 30 [(.sl (List.map cI a)),(.sl (List.map cI b))] [] (vB r) []:=by
 refine zU G Tryz.func30 (zK ⟨[(0,sI a),(1,sI b)],[]⟩ (z3 1 ⟨[(0,sI a),(1,sI b)],[]⟩ ?_))
 refine zB (z7 (zA 1 ?_))
 refine evs_op (st_len (c:=cI) (l:=a) (x:=(sI a)) (by kernel_rfl) (by kernel_rfl)) (zA 1 (evs_op (st_len (c:=cI) (l:=b) (x:=(sI b)) (by kernel_rfl) (by kernel_rfl)) ?_))
 refine z1 1 ⟨[(0,sI a),(1,sI b),(10,vB ((a.length : Int) != (b.length : Int)))],[]⟩ (zI ((a.length : Int) != (b.length : Int)) (fun hb=>?_) fun hb=>?_)
 replace h:=iteT hb h
 exact nomatch h
 replace h:=iteF hb h
 refine z4 ⟨[(0,sI a),(1,sI b)],[]⟩ (zB (z3 1 ⟨[(0,sI a),(1,sI b),(5,vI 0)],[]⟩ ?_))
 refine zC ?_
 obtain ⟨x78,hx78,h⟩:=bindS h
 refine sem_loopS (fun (s53 : Int)=>⟨[(0,sI a),(1,sI b),(5,vI s53)],[]⟩) (fun (x78 : Unit)=>(.exit 0,⟨[],[]⟩)) (sheetmetalref06_SameInts_k_l1 a b) 0 x78 (by kernel_rfl) (here (by kernel_rfl)) (iter_loop hx78) ?_ ?_ ?_
 intro s53 r h
 refine zB (z7 (zA 2 ?_))
 refine evs_op (st_len (c:=cI) (l:=a) (x:=(sI a)) (by kernel_rfl) (by kernel_rfl)) (z1 1 ⟨[(0,sI a),(1,sI b),(5,vI s53),(14,vB (decide (s53 < (a.length : Int))))],[]⟩ (zI (decide (s53 < (a.length : Int))) (fun hb=>?_) fun hb=>?_))
 replace h:=iteT hb h
 refine z4 ⟨[(0,sI a),(1,sI b),(5,vI s53)],[]⟩ (zB (zC ?_))
 refine zB (sem_drawN [] [] [] [] [] 8 (by kernel_rfl) (by kernel_rfl) (by kernel_rfl) (evd_run 2 (by kernel_rfl) ?_))
 obtain ⟨x76,hx76,h⟩:=bindS h
 refine evd_val (by kernel_rfl) (st_idx (c:=cI) (l:=a) (i:=s53) (kd:=.i64) (sz:=1) (by kernel_rfl) hx76 rfl) (by kernel_rfl) (by kernel_rfl) (evd_run 3 (by kernel_rfl) ?_)
 obtain ⟨x77,hx77,h⟩:=bindS h
 refine evd_val (by kernel_rfl) (st_idx (c:=cI) (l:=b) (i:=s53) (kd:=.i64) (sz:=1) (by kernel_rfl) hx77 rfl) (by kernel_rfl) (by kernel_rfl) (evd_run 1 (by kernel_rfl) (evd_end (by kernel_rfl) ?_))
 refine evo_run 1 (by kernel_rfl) (zO fun τ hτ=>?_)
 refine zE hτ ⟨[(0,sI a),(1,sI b),(5,vI s53),(25,vB (x76 != x77))],[]⟩ (zI (x76 != x77) (fun hb=>?_) fun hb=>?_)
 replace h:=iteT hb h
 exact nomatch h
 replace h:=iteF hb h
 refine zM fun τ hτ=>?_
 refine bl_normal (zE hτ ⟨[(0,sI a),(1,sI b),(5,vI s53)],[]⟩ (zD ?_))
 refine z6 3 fun τ hτ=>?_
 obtain rfl:=osi h
 exact zH hτ
 replace h:=iteF hb h
 refine zL 0 fun τ hτ=>?_
 refine th_exit ?_
 obtain rfl:=osi h
 exact zF hτ
 intro x
 rfl
 intro τ hτ
 refine zQ (zE hτ ⟨[],[]⟩ (z8 1 ⟨[(4,vB true)],[]⟩ fun τ hτ=>?_))
 obtain rfl:=osi h
 exact zV hτ [(4,vB true)]
theorem W.sheetmetallaw07_known_k_ok {r : Bool} (h : sheetmetallaw07_known_k = some r) : PC G.P 13 [] [] (vB r) []:=by
 refine zU G Tryz.func13 (zK ⟨[],[]⟩ (z3 1 ⟨[],[]⟩ ?_))
 refine z3 1 ⟨[(1,vI 14400)],[]⟩ (z3 7 ⟨[(1,vI 14400),(2,.ptr 2 0)],[(2,.box [(vS (ByteArray.mk #[115])),(vS (ByteArray.mk #[115,116,101,101,108])),(vI 10),(vI 0),(vI 57600),(vI 57600),.nl,.nl])]⟩ (z3 7 ⟨[(1,vI 14400),(2,.ptr 2 0),(3,.ptr 3 0)],[(2,.box [(vS (ByteArray.mk #[115])),(vS (ByteArray.mk #[115,116,101,101,108])),(vI 10),(vI 0),(vI 57600),(vI 57600),.nl,.nl]),(3,.box [(vS (ByteArray.mk #[97])),(vS (ByteArray.mk #[115,116,101,101,108])),(vI 10),(vI 0),(s_Rect [(Rect.mk 0 0 14400 14400)]),.nl,.nl])]⟩ ?_))
 refine z3 8 ⟨[(1,vI 14400),(2,.ptr 2 0),(3,.ptr 3 0),(4,.ptr 4 0)],[(2,.box [(vS (ByteArray.mk #[115])),(vS (ByteArray.mk #[115,116,101,101,108])),(vI 10),(vI 0),(vI 57600),(vI 57600),.nl,.nl]),(3,.box [(vS (ByteArray.mk #[97])),(vS (ByteArray.mk #[115,116,101,101,108])),(vI 10),(vI 0),(s_Rect [(Rect.mk 0 0 14400 14400)]),.nl,.nl]),(4,.box [(vS (ByteArray.mk #[98])),(vS (ByteArray.mk #[115,116,101,101,108])),(vI 10),(vI 0),(s_Rect [(Rect.mk 14400 0 14400 14400)]),.nl,.nl])]⟩ (z7 (zA 3 ?_))
 refine evs_at (at_buildS (es:=(List.map c_Piece [(Piece.mk (ByteArray.mk #[97]) (ByteArray.mk #[115,116,101,101,108]) 10 0 [(Rect.mk 0 0 14400 14400)] [] []),(Piece.mk (ByteArray.mk #[98]) (ByteArray.mk #[115,116,101,101,108]) 10 0 [(Rect.mk 14400 0 14400 14400)] [] [])])) (by kernel_rfl)) (z1 3 ⟨[(1,vI 14400),(5,.ptr 5 0)],[(5,.box [(vS (ByteArray.mk #[115])),(vS (ByteArray.mk #[115,116,101,101,108])),(vI 10),(vI 0),(vI 57600),(vI 57600),.nl,.nl,(s_Piece [(Piece.mk (ByteArray.mk #[97]) (ByteArray.mk #[115,116,101,101,108]) 10 0 [(Rect.mk 0 0 14400 14400)] [] []),(Piece.mk (ByteArray.mk #[98]) (ByteArray.mk #[115,116,101,101,108]) 10 0 [(Rect.mk 14400 0 14400 14400)] [] [])])])]⟩ (z7 ?_))
 refine zA 1 ?_
 obtain ⟨r2,hr2,h⟩:=bindS h
 refine evs_callS [] [(0,700050)] [] (by kernel_rfl) (W.cut_Edges_k_ok hr2) (by kernel_rfl) (by kernel_rfl) (.inl rfl) (z1 5 ⟨[(1,vI 14400),(5,.ptr 5 0),(6,ro 700050 74),(7,vI r2.2)],[(5,.box [(vS (ByteArray.mk #[115])),(vS (ByteArray.mk #[115,116,101,101,108])),(vI 10),(vI 0),(vI 57600),(vI 57600),.nl,.nl,(s_Piece [(Piece.mk (ByteArray.mk #[97]) (ByteArray.mk #[115,116,101,101,108]) 10 0 [(Rect.mk 0 0 14400 14400)] [] []),(Piece.mk (ByteArray.mk #[98]) (ByteArray.mk #[115,116,101,101,108]) 10 0 [(Rect.mk 14400 0 14400 14400)] [] [])])]),(700050,w_EdgeT 74 r2.1)]⟩ (z3 7 ⟨[(5,.ptr 5 0),(6,ro 700050 74),(7,vI r2.2),(8,s_ItemT [(ItemT.mk 0 (-1) 0 (Spot.mk 0 0)),(ItemT.mk 1 (-1) 0 (Spot.mk 28800 0))])],[(5,.box [(vS (ByteArray.mk #[115])),(vS (ByteArray.mk #[115,116,101,101,108])),(vI 10),(vI 0),(vI 57600),(vI 57600),.nl,.nl,(s_Piece [(Piece.mk (ByteArray.mk #[97]) (ByteArray.mk #[115,116,101,101,108]) 10 0 [(Rect.mk 0 0 14400 14400)] [] []),(Piece.mk (ByteArray.mk #[98]) (ByteArray.mk #[115,116,101,101,108]) 10 0 [(Rect.mk 14400 0 14400 14400)] [] [])])]),(700050,w_EdgeT 74 r2.1)]⟩ ?_))
 refine z7 (zA 2 ?_)
 obtain ⟨r4,hr4,h⟩:=bindS h
 refine evs_callS [] [(0,700100)] [] (by kernel_rfl) (W.cut_Falls_k_ok hr4) (by kernel_rfl) (by kernel_rfl) (.inl rfl) (z1 5 ⟨[(6,ro 700050 74),(7,vI r2.2),(9,ro 700100 38),(10,vI r4.2)],[(700050,w_EdgeT 74 r2.1),(700100,.row 38 [] (List.map (cS cI) r4.1))]⟩ (z7 ?_))
 refine zA 3 (zS (r2.2 == 0) (fun b0=>⟨[(6,ro 700050 74),(9,ro 700100 38),(10,vI r4.2),(51,vB b0)],[(700050,w_EdgeT 74 r2.1),(700100,.row 38 [] (List.map (cS cI) r4.1))]⟩) (fun hb=>?_) fun hb=>?_)
 replace h:=iteT hb h
 refine zA 1 (evs_op (st_len (c:=c_EdgeT) (l:=r2.1) (x:=(ro 700050 74)) (by kernel_rfl) (by kernel_rfl)) (zA 3 ?_))
 refine zS ((r2.1.length : Int) == 7) (fun b0=>⟨[(9,ro 700100 38),(10,vI r4.2),(56,vB b0)],[(700100,.row 38 [] (List.map (cS cI) r4.1))]⟩) (fun hb=>?_) fun hb=>?_
 replace h:=iteT hb h
 refine zA 4 (zS (r4.2 == 0) (fun b0=>⟨[(9,ro 700100 38),(60,vB b0)],[(700100,.row 38 [] (List.map (cS cI) r4.1))]⟩) (fun hb=>?_) fun hb=>?_)
 replace h:=iteT hb h
 refine zA 1 (evs_op (st_len (c:=(cS cI)) (l:=r4.1) (x:=(ro 700100 38)) (by kernel_rfl) (by kernel_rfl)) (zA 3 ?_))
 refine zS ((r4.1.length : Int) == 2) (fun b0=>⟨[(9,ro 700100 38),(65,vB b0)],[(700100,.row 38 [] (List.map (cS cI) r4.1))]⟩) (fun hb=>?_) fun hb=>?_
 replace h:=iteT hb h
 refine zA 1 ?_
 obtain ⟨x9,hx9,h⟩:=bindS h
 refine evs_op (st_idxO (c:=(cS cI)) (l:=r4.1) (i:=0) (kd:=.i64) (kk:=(.top 700100)) (e:=38) (sz:=1) (by kernel_rfl) (by kernel_rfl) hx9 rfl) (evs_op (st_ldO (c:=(cS cI)) (l:=r4.1) (i:=(Int.toNat 0)) (v:=(sI x9)) (agg:=false) (sz:=1) (kk:=(.top 700100)) (e:=38) (off:=0) (J:=[]) (by kernel_rfl) (by kernel_rfl) (by kernel_rfl) ((idxS hx9).2) (by kernel_rfl)) (zA 1 ?_))
 obtain ⟨r10,hr10,h⟩:=bindS h
 refine evs_callP [] (by kernel_rfl) (W.sheetmetalref06_SameInts_k_ok hr10) (by kernel_rfl) (.inl rfl) (by kernel_rfl) (zA 2 (zS r10 (fun b0=>⟨[(9,ro 700100 38),(72,vB b0)],[(700100,.row 38 [] (List.map (cS cI) r4.1))]⟩) (fun hb=>?_) fun hb=>?_))
 replace h:=iteT hb h
 refine zA 1 ?_
 obtain ⟨x11,hx11,h⟩:=bindS h
 refine evs_op (st_idxO (c:=(cS cI)) (l:=r4.1) (i:=1) (kd:=.i64) (kk:=(.top 700100)) (e:=38) (sz:=1) (by kernel_rfl) (by kernel_rfl) hx11 rfl) (evs_op (st_ldO (c:=(cS cI)) (l:=r4.1) (i:=(Int.toNat 1)) (v:=(sI x11)) (agg:=false) (sz:=1) (kk:=(.top 700100)) (e:=38) (off:=0) (J:=[]) (by kernel_rfl) (by kernel_rfl) (by kernel_rfl) ((idxS hx11).2) (by kernel_rfl)) (zA 1 ?_))
 obtain ⟨r12,hr12,h⟩:=bindS h
 refine evs_callP [] (by kernel_rfl) (W.sheetmetalref06_SameInts_k_ok hr12) (by kernel_rfl) (.inl rfl) (by kernel_rfl) (z1 2 ⟨[(0,vB r12)],[]⟩ (zN fun τ hτ=>?_))
 obtain rfl:=osi h
 exact zV hτ [(0,vB r12)]
 replace h:=iteF hb h
 exact nomatch h
 replace h:=iteF hb h
 exact nomatch h
 replace h:=iteF hb h
 exact nomatch h
 replace h:=iteF hb h
 exact nomatch h
 replace h:=iteF hb h
 exact nomatch h
theorem W.sheetmetallaw07_CutValidates_ok {l : LayoutT} {r : Bool} (h : sheetmetallaw07_CutValidates l = some r) : PC G.P 3 [(.agg (c_LayoutT l))] [] (vB r) []:=by
 refine zU G Tryz.func3 (zK ⟨[(0,.agg (c_LayoutT l))],[]⟩ (z3 2 ⟨[(1,.ptr 1 0)],[(1,.box (c_LayoutT l))]⟩ ?_))
 refine zB ?_
 obtain ⟨j7,hj7,h⟩:=bindS h
 refine sem_drawP ⟨[(2,vB j7)],[]⟩ [] [] [] [] [] 3 (by kernel_rfl) (by kernel_rfl) (by kernel_rfl) ?_ fun τ hτ=>?_
 replace h:=hj7
 refine evd_run 1 (by kernel_rfl) ?_
 obtain ⟨r8,hr8,h⟩:=bindS h
 refine evd_callS [] [] (by kernel_rfl) (by kernel_rfl) (W.cut_Validate_ok hr8) (by kernel_rfl) (.inl rfl) (by kernel_rfl) (by kernel_rfl) (evd_run 1 (by kernel_rfl) (evd_end (by kernel_rfl) ?_))
 obtain ⟨r9,hr9,h⟩:=bindS h
 refine evo_callP [] (by kernel_rfl) (W.sheetmetalref07_Validate_ok hr9) (by kernel_rfl) (.inl rfl) (by kernel_rfl) (evo_run 2 (by kernel_rfl) (evo_split (r8 == r9) (fun b0=>⟨[(8,vB b0)],[]⟩) (by kernel_rfl) (fun hb=>?_) fun hb=>?_))
 replace h:=iteT hb h
 obtain ⟨r10,hr10,h⟩:=bindS h
 refine evo_callP [] (by kernel_rfl) (W.sheetmetallaw07_known_k_ok hr10) (by kernel_rfl) (.inl rfl) (by kernel_rfl) (evo_run 2 (by kernel_rfl) (zO fun τ hτ=>?_))
 obtain rfl:=osi h
 exact zG hτ
 replace h:=iteF hb h
 refine evo_run 3 (by kernel_rfl) (zO fun τ hτ=>?_)
 obtain rfl:=osi h
 exact zG hτ
 refine zE hτ ⟨[(2,vB j7)],[]⟩ (zN fun τ hτ=>?_)
 obtain rfl:=osi h
 exact zV hτ [(2,vB j7)]
end Go.Proofs.YtgfjbgoehhnaeaaGreat
