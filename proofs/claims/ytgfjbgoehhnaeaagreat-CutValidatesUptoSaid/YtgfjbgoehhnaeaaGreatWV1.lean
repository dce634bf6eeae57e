/- Each Go function does what its model says; written by a program out of the translation. -/
import Derived.Test.YtgfjbgoehhnaeaaGreatWV
import Derived.Test.YtgfjbgoehhnaeaaGreatCzMV
set_option linter.unusedVariables false
set_option linter.unusedSimpArgs false
set_option linter.unusedSectionVars false
namespace Go.Proofs.YtgfjbgoehhnaeaaGreat
open Go Go.VI Go.SM Go.Proofs
set_option maxRecDepth 100000
set_option maxHeartbeats 4000000
theorem W.sheetmetalref06_ValidateSheet_ok {s0 : Sheet} {r : Int} (h : sheetmetalref06_ValidateSheet s0 = some r) : PC G.P 44 [(.agg (c_Sheet s0))] [] (vI r) []:=by
 refine zU G Tryz.func44 (zK ⟨[(0,.agg (c_Sheet s0))],[]⟩ (z3 2 ⟨[(1,.ptr 1 0)],[(1,.box (c_Sheet s0))]⟩ ?_))
 refine z7 (zA 8 ?_)
 obtain ⟨r2,hr2,h⟩:=bindS h
 refine evs_callP [] (by kernel_rfl) (W.sheetmetalref06_stuff_ok hr2) (by kernel_rfl) (.inl rfl) (by kernel_rfl) (z1 1 ⟨[(1,.ptr 1 0),(3,vI r2)],[(1,.box (c_Sheet s0))]⟩ (zB ?_))
 refine z3 2 ⟨[(1,.ptr 1 0),(3,vI r2),(14,vB (r2 != 0))],[(1,.box (c_Sheet s0))]⟩ (zI (r2 != 0) (fun hb=>?_) fun hb=>?_)
 replace h:=iteT hb h
 refine z8 2 ⟨[(2,vI r2)],[]⟩ fun τ hτ=>?_
 refine th_ret ?_
 obtain rfl:=osi h
 exact zV hτ [(2,vI r2)]
 replace h:=iteF hb h
 refine z4 ⟨[(1,.ptr 1 0)],[(1,.box (c_Sheet s0))]⟩ (zB (zB ?_))
 obtain ⟨j4,hj4,h⟩:=bindS h
 refine zT ⟨[(1,.ptr 500000 0),(33,vB j4)],[(500000,.box (c_Sheet s0))]⟩ ?_ fun τ hτ=>?_
 replace h:=hj4
 refine zA 4 (zS (decide (s0.Width < 1)) (fun b0=>⟨[(1,.ptr 1 0),(19,vB b0)],[(1,.box (c_Sheet s0))]⟩) (fun hb=>?_) fun hb=>?_)
 replace h:=iteT hb h
 refine z6 14 fun τ hτ=>?_
 obtain rfl:=osi h
 exact leafC hτ (subR_prep [] [(1,500000)] (by kernel_rfl) rfl rfl (by kernel_rfl))
 replace h:=iteF hb h
 refine zA 5 (zS (decide (s0.Width > 1048576)) (fun b0=>⟨[(1,.ptr 1 0),(24,vB b0)],[(1,.box (c_Sheet s0))]⟩) (fun hb=>?_) fun hb=>?_)
 replace h:=iteT hb h
 refine z6 9 fun τ hτ=>?_
 obtain rfl:=osi h
 exact leafC hτ (subR_prep [] [(1,500000)] (by kernel_rfl) rfl rfl (by kernel_rfl))
 replace h:=iteF hb h
 refine zA 5 (zS (decide (s0.Height < 1)) (fun b0=>⟨[(1,.ptr 1 0),(29,vB b0)],[(1,.box (c_Sheet s0))]⟩) (fun hb=>?_) fun hb=>?_)
 replace h:=iteT hb h
 refine z6 4 fun τ hτ=>?_
 obtain rfl:=osi h
 exact leafC hτ (subR_prep [] [(1,500000)] (by kernel_rfl) rfl rfl (by kernel_rfl))
 replace h:=iteF hb h
 refine z6 4 fun τ hτ=>?_
 obtain rfl:=osi h
 exact leafC hτ (subR_prep [] [(1,500000)] (by kernel_rfl) rfl rfl (by kernel_rfl))
 refine zE hτ ⟨[(1,.ptr 500000 0),(33,vB j4)],[(500000,.box (c_Sheet s0))]⟩ (zI j4 (fun hb=>?_) fun hb=>?_)
 replace h:=iteT hb h
 refine z8 1 ⟨[(2,vI 1)],[]⟩ fun τ hτ=>?_
 refine th_ret ?_
 obtain rfl:=osi h
 exact zV hτ [(2,vI 1)]
 replace h:=iteF hb h
 refine z4 ⟨[(1,.ptr 500000 0)],[(500000,.box (c_Sheet s0))]⟩ (zB (zB ?_))
 obtain ⟨j6,hj6,h⟩:=bindS h
 refine zT ⟨[(1,.ptr 500000 0),(43,vB j6)],[(500000,.box (c_Sheet s0))]⟩ ?_ fun τ hτ=>?_
 replace h:=hj6
 refine zA 2 (evs_op (st_len (c:=c_Rect) (l:=s0.Clamps) (x:=(s_Rect s0.Clamps)) (by kernel_rfl) (by kernel_rfl)) (zA 2 ?_))
 refine zS (decide ((s0.Clamps.length : Int) > 4)) (fun b0=>⟨[(1,.ptr 500000 0),(38,vB b0)],[(500000,.box (c_Sheet s0))]⟩) (fun hb=>?_) fun hb=>?_
 replace h:=iteT hb h
 refine z6 5 fun τ hτ=>?_
 obtain rfl:=osi h
 exact zG hτ
 replace h:=iteF hb h
 refine zA 2 (evs_op (st_len (c:=c_Rect) (l:=s0.Used) (x:=(s_Rect s0.Used)) (by kernel_rfl) (by kernel_rfl)) (z6 2 fun τ hτ=>?_))
 obtain rfl:=osi h
 exact zG hτ
 refine zE hτ ⟨[(1,.ptr 500000 0),(43,vB j6)],[(500000,.box (c_Sheet s0))]⟩ (zI j6 (fun hb=>?_) fun hb=>?_)
 replace h:=iteT hb h
 refine z8 1 ⟨[(2,vI 4)],[]⟩ fun τ hτ=>?_
 refine th_ret ?_
 obtain rfl:=osi h
 exact zV hτ [(2,vI 4)]
 replace h:=iteF hb h
 refine z4 ⟨[(1,.ptr 500000 0)],[(500000,.box (c_Sheet s0))]⟩ (zB (zB ?_))
 obtain ⟨j14,hj14,h⟩:=bindS h
 refine zT ⟨[(1,.ptr 500000 0),(53,vB j14)],[(500000,.box (c_Sheet s0))]⟩ ?_ fun τ hτ=>?_
 replace h:=hj14
 refine zA 2 ?_
 obtain ⟨r15,hr15,h⟩:=bindS h
 refine evs_callP [] (by kernel_rfl) (W.sheetmetalref06_Rights_ok hr15) (by kernel_rfl) (.inl rfl) (by kernel_rfl) (zA 2 (zS r15 (fun b0=>⟨[(1,.ptr 500000 0),(48,vB (!b0))],[(500000,.box (c_Sheet s0))]⟩) (fun hb=>?_) fun hb=>?_))
 replace h:=iteT hb h
 refine zA 2 ?_
 obtain ⟨r16,hr16,h⟩:=bindS h
 refine evs_callP [] (by kernel_rfl) (W.sheetmetalref06_Rights_ok hr16) (by kernel_rfl) (.inl rfl) (by kernel_rfl) (z6 2 fun τ hτ=>?_)
 obtain rfl:=osi h
 exact zG hτ
 replace h:=iteF hb h
 refine z6 5 fun τ hτ=>?_
 obtain rfl:=osi h
 exact zG hτ
 refine zE hτ ⟨[(1,.ptr 500000 0),(53,vB j14)],[(500000,.box (c_Sheet s0))]⟩ (zI j14 (fun hb=>?_) fun hb=>?_)
 replace h:=iteT hb h
 refine z8 1 ⟨[(2,vI 1)],[]⟩ fun τ hτ=>?_
 refine th_ret ?_
 obtain rfl:=osi h
 exact zV hτ [(2,vI 1)]
 replace h:=iteF hb h
 refine z4 ⟨[(1,.ptr 500000 0)],[(500000,.box (c_Sheet s0))]⟩ (zB (zB ?_))
 obtain ⟨j24,hj24,h⟩:=bindS h
 refine zT ⟨[(65,vB j24)],[]⟩ ?_ fun τ hτ=>?_
 replace h:=hj24
 refine zA 3 ?_
 obtain ⟨r25,hr25,h⟩:=bindS h
 refine evs_callP [] (by kernel_rfl) (W.sheetmetalref06_inside_ok hr25) (by kernel_rfl) (.inl rfl) (by kernel_rfl) (zA 2 (zS r25 (fun b0=>⟨[(1,.ptr 500000 0),(59,vB (!b0))],[(500000,.box (c_Sheet s0))]⟩) (fun hb=>?_) fun hb=>?_))
 replace h:=iteT hb h
 refine zA 3 ?_
 obtain ⟨r26,hr26,h⟩:=bindS h
 refine evs_callP [] (by kernel_rfl) (W.sheetmetalref06_inside_ok hr26) (by kernel_rfl) (.inl rfl) (by kernel_rfl) (z6 2 fun τ hτ=>?_)
 obtain rfl:=osi h
 exact zG hτ
 replace h:=iteF hb h
 refine z6 6 fun τ hτ=>?_
 obtain rfl:=osi h
 exact zG hτ
 refine zE hτ ⟨[(65,vB j24)],[]⟩ (zI j24 (fun hb=>?_) fun hb=>?_)
 replace h:=iteT hb h
 refine z8 1 ⟨[(2,vI 13)],[]⟩ fun τ hτ=>?_
 refine th_ret ?_
 obtain rfl:=osi h
 exact zV hτ [(2,vI 13)]
 replace h:=iteF hb h
 refine z4 ⟨[],[]⟩ (z8 1 ⟨[(2,vI 0)],[]⟩ fun τ hτ=>?_)
 obtain rfl:=osi h
 exact zV hτ [(2,vI 0)]
theorem W.sheetmetalref06_Shift_ok {l : (List Rect)} {x1 : Int} {y : Int} {r : (List Rect)} (h : sheetmetalref06_Shift l x1 y = some r) : PC G.P 149 [(.sl (List.map c_Rect l)),(vI x1),(vI y)] [] (.row (.top 0) 98) [(0,.row 98 [] (List.map c_Rect r))]:=by
 refine zU G Tryz.func149 (zK ⟨[(0,s_Rect l),(1,vI x1),(2,vI y)],[]⟩ (z3 1 ⟨[(0,s_Rect l),(1,vI x1),(2,vI y)],[]⟩ ?_))
 refine z3 1 ⟨[(0,s_Rect l),(1,vI x1),(2,vI y),(7,ro 7 98)],[(7,w_Rect 98 [])]⟩ (z3 1 ⟨[(0,s_Rect l),(1,vI x1),(2,vI y),(7,ro 7 98),(8,vI 2147483648)],[(7,w_Rect 98 [])]⟩ (zB ?_))
 refine z3 1 ⟨[(0,s_Rect l),(1,vI x1),(2,vI y),(7,ro 7 98),(8,vI 2147483648),(9,vI 0)],[(7,w_Rect 98 [])]⟩ (zC ?_)
 obtain ⟨x90,hx90,h⟩:=bindS h
 refine sem_loopS (fun (s61 : Int × (List Rect))=>⟨[(0,s_Rect l),(1,vI x1),(2,vI y),(7,ro 500000 98),(8,vI 2147483648),(9,vI s61.1)],[(500000,w_Rect 98 s61.2)]⟩) (fun (x90 : (List Rect))=>(.exit 0,⟨[(7,ro 500000 98)],[(500000,w_Rect 98 x90)]⟩)) (sheetmetalref06_Shift_l2 l x1 y) (0,[]) x90 (by kernel_rfl) (subR_prep [] [(7,500000)] (by kernel_rfl) rfl rfl (by kernel_rfl)) hx90 ?_ ?_ ?_
 intro s61 r h
 refine zB (z7 (zA 2 ?_))
 refine evs_op (st_len (c:=c_Rect) (l:=l) (x:=(s_Rect l)) (by kernel_rfl) (by kernel_rfl)) (z1 1 ⟨[(0,s_Rect l),(1,vI x1),(2,vI y),(7,ro 500000 98),(8,vI 2147483648),(9,vI s61.1),(14,vB (decide (s61.1 < (l.length : Int))))],[(500000,w_Rect 98 s61.2)]⟩ (zI (decide (s61.1 < (l.length : Int))) (fun hb=>?_) fun hb=>?_))
 replace h:=iteT hb h
 refine z4 ⟨[(0,s_Rect l),(1,vI x1),(2,vI y),(7,ro 500000 98),(8,vI 2147483648),(9,vI s61.1)],[(500000,w_Rect 98 s61.2)]⟩ (zB (zC ?_))
 refine z7 (zA 2 ?_)
 obtain ⟨x84,hx84,h⟩:=bindS h
 refine evs_op (st_idx (c:=c_Rect) (l:=l) (i:=s61.1) (kd:=.i64) (sz:=4) (by kernel_rfl) hx84 rfl) (z1 3 ⟨[(0,s_Rect l),(1,vI x1),(2,vI y),(7,ro 500000 98),(8,vI 2147483648),(9,vI s61.1),(10,.ptr 10 0)],[(10,.box (c_Rect x84)),(500000,w_Rect 98 s61.2)]⟩ (sem_seqJ (fun (j86 : Int × Int)=>⟨[(0,s_Rect l),(1,vI x1),(2,vI y),(7,ro 500000 98),(8,vI 2147483648),(9,vI s61.1),(10,.ptr 500001 0)],[(500000,w_Rect 98 s61.2),(500001,.box [(vI j86.1),(vI j86.2),(vI x84.W),(vI x84.H)])]⟩) (sheetmetalref06_Shift_k1 s61 x84) r (by kernel_rfl) (fun j86 h=>?_) ?_))
 refine zD (zA 3 ?_)
 obtain ⟨l88,hl88,h⟩:=bindS h
 refine evs_op (st_app (c:=c_Rect) (l:=s61.2) (l2:=[(Rect.mk j86.1 j86.2 x84.W x84.H)]) (x:=(s_Rect [(Rect.mk j86.1 j86.2 x84.W x84.H)])) (g:=500000) (e:=98) (sz:=4) (d:=58) (by kernel_rfl) (by kernel_rfl) (by kernel_rfl) (by kernel_rfl) (fun _=>rfl) rfl hl88) (z6 1 fun τ hτ=>?_)
 refine bl_normal (zE hτ ⟨[(0,s_Rect l),(1,vI x1),(2,vI y),(7,ro 500000 98),(8,vI 2147483648),(9,vI s61.1)],[(500000,w_Rect 98 l88)]⟩ (zD ?_))
 refine z6 3 fun τ hτ=>?_
 obtain rfl:=osi h
 exact zH hτ
 refine zB ?_
 obtain ⟨j89,hj89,h⟩:=bindS h
 refine zT ⟨[(0,s_Rect l),(1,vI x1),(2,vI y),(7,ro 500000 98),(8,vI 2147483648),(9,vI s61.1),(10,.ptr 500001 0),(44,vB j89)],[(500000,w_Rect 98 s61.2),(500001,.box (c_Rect x84))]⟩ ?_ fun τ hτ=>?_
 replace h:=hj89
 refine zA 6 (zS (decide (x84.X > (-2147483648))) (fun b0=>⟨[(0,s_Rect l),(1,vI x1),(2,vI y),(7,ro 500000 98),(8,vI 2147483648),(9,vI s61.1),(10,.ptr 10 0),(26,vB b0)],[(10,.box (c_Rect x84)),(500000,w_Rect 98 s61.2)]⟩) (fun hb=>?_) fun hb=>?_)
 replace h:=iteT hb h
 refine zA 6 (zS (decide (x84.X < 2147483648)) (fun b0=>⟨[(0,s_Rect l),(1,vI x1),(2,vI y),(7,ro 500000 98),(8,vI 2147483648),(9,vI s61.1),(10,.ptr 10 0),(32,vB b0)],[(10,.box (c_Rect x84)),(500000,w_Rect 98 s61.2)]⟩) (fun hb=>?_) fun hb=>?_)
 replace h:=iteT hb h
 refine zA 7 (zS (decide (x84.Y > (-2147483648))) (fun b0=>⟨[(0,s_Rect l),(1,vI x1),(2,vI y),(7,ro 500000 98),(8,vI 2147483648),(9,vI s61.1),(10,.ptr 10 0),(39,vB b0)],[(10,.box (c_Rect x84)),(500000,w_Rect 98 s61.2)]⟩) (fun hb=>?_) fun hb=>?_)
 replace h:=iteT hb h
 refine z6 5 fun τ hτ=>?_
 obtain rfl:=osi h
 exact leafC hτ (subR_prep [] [(10,500001),(500000,500000)] (by kernel_rfl) rfl rfl (by kernel_rfl))
 replace h:=iteF hb h
 refine z6 5 fun τ hτ=>?_
 obtain rfl:=osi h
 exact leafC hτ (subR_prep [] [(10,500001),(500000,500000)] (by kernel_rfl) rfl rfl (by kernel_rfl))
 replace h:=iteF hb h
 refine z6 12 fun τ hτ=>?_
 obtain rfl:=osi h
 exact leafC hτ (subR_prep [] [(10,500001),(500000,500000)] (by kernel_rfl) rfl rfl (by kernel_rfl))
 replace h:=iteF hb h
 refine z6 18 fun τ hτ=>?_
 obtain rfl:=osi h
 exact leafC hτ (subR_prep [] [(10,500001),(500000,500000)] (by kernel_rfl) rfl rfl (by kernel_rfl))
 refine zE hτ ⟨[(0,s_Rect l),(1,vI x1),(2,vI y),(7,ro 500000 98),(8,vI 2147483648),(9,vI s61.1),(10,.ptr 500001 0),(44,vB j89)],[(500000,w_Rect 98 s61.2),(500001,.box (c_Rect x84))]⟩ (zI j89 (fun hb=>?_) fun hb=>?_)
 replace h:=iteT hb h
 refine z3 6 ⟨[(0,s_Rect l),(1,vI x1),(2,vI y),(7,ro 500000 98),(8,vI 2147483648),(9,vI s61.1),(10,.ptr 500001 0)],[(500000,w_Rect 98 s61.2),(500001,.box [(vI (iadd x84.X x1)),(vI x84.Y),(vI x84.W),(vI x84.H)])]⟩ (zD (z6 6 fun τ hτ=>?_))
 exact jk_normal ((iadd x84.X x1),(iadd x84.Y y)) h hτ (here (by kernel_rfl))
 replace h:=iteF hb h
 refine zM fun τ hτ=>?_
 exact jk_normal (x84.X,x84.Y) h hτ (here (by kernel_rfl))
 replace h:=iteF hb h
 refine zL 0 fun τ hτ=>?_
 refine th_exit ?_
 obtain rfl:=osi h
 exact zF hτ
 intro x
 rfl
 intro τ hτ
 refine zQ (zE hτ ⟨[(7,ro 500000 98)],[(500000,w_Rect 98 x90)]⟩ (z8 2 ⟨[(6,ro 500000 98)],[(500000,w_Rect 98 x90)]⟩ fun τ hτ=>?_))
 obtain rfl:=osi h
 exact rk_ret hτ [(6,ro 0 98)] (subR_prep [] [(500000,0)] (by kernel_rfl) rfl rfl (by kernel_rfl)) (by kernel_rfl)
theorem W.sheetmetalref06_Move_ok {x0 : Piece} {dx : Int} {dy : Int} {r : Piece} (h : sheetmetalref06_Move x0 dx dy = some r) : PC G.P 98 [(.agg (c_Piece x0)),(vI dx),(vI dy)] [] (.agg [(vS r.Name),(vS r.Material),(vI r.Gauge),(vI r.Grain),(.row (.top 1) 98),(.row (.top 2) 98),(.row (.top 3) 98)]) [(0,.box [(vS x0.Name),(vS x0.Material),(vI x0.Gauge),(vI x0.Grain),(.row (.top 1) 98),(.row (.top 2) 98),(.row (.top 3) 98)]),(1,.row 98 [] (List.map c_Rect r.Rects)),(2,.row 98 [] (List.map c_Rect r.Cuts)),(3,.row 98 [] (List.map c_Rect r.Forms))]:=by
 refine zU G Tryz.func98 (zK ⟨[(0,.agg (c_Piece x0)),(1,vI dx),(2,vI dy)],[]⟩ (z3 2 ⟨[(1,vI dx),(2,vI dy),(3,.ptr 3 0),(6,.ptr 6 0)],[(3,.box (c_Piece x0)),(6,.box [(vS ByteArray.empty),(vS ByteArray.empty),(vI 0),(vI 0),.nl,.nl,.nl])]⟩ ?_))
 refine z7 (zA 4 ?_)
 obtain ⟨r2,hr2,h⟩:=bindS h
 refine evs_callS [] [(0,700200)] [] (by kernel_rfl) (W.sheetmetalref06_Shift_ok hr2) (by kernel_rfl) (by kernel_rfl) (.inl rfl) (z1 2 ⟨[(1,vI dx),(2,vI dy),(3,.ptr 3 0),(6,.ptr 6 0)],[(3,.box [(vS x0.Name),(vS x0.Material),(vI x0.Gauge),(vI x0.Grain),(ro 700200 98),(s_Rect x0.Cuts),(s_Rect x0.Forms)]),(6,.box [(vS ByteArray.empty),(vS ByteArray.empty),(vI 0),(vI 0),.nl,.nl,.nl]),(700200,w_Rect 98 r2)]⟩ (z7 ?_))
 refine zA 4 ?_
 obtain ⟨r4,hr4,h⟩:=bindS h
 refine evs_callS [] [(0,700201)] [] (by kernel_rfl) (W.sheetmetalref06_Shift_ok hr4) (by kernel_rfl) (by kernel_rfl) (.inl rfl) (z1 2 ⟨[(1,vI dx),(2,vI dy),(3,.ptr 3 0),(6,.ptr 6 0)],[(3,.box [(vS x0.Name),(vS x0.Material),(vI x0.Gauge),(vI x0.Grain),(ro 700200 98),(ro 700201 98),(s_Rect x0.Forms)]),(6,.box [(vS ByteArray.empty),(vS ByteArray.empty),(vI 0),(vI 0),.nl,.nl,.nl]),(700200,w_Rect 98 r2),(700201,w_Rect 98 r4)]⟩ (z7 ?_))
 refine zA 4 ?_
 obtain ⟨r6,hr6,h⟩:=bindS h
 refine evs_callS [] [(0,700202)] [] (by kernel_rfl) (W.sheetmetalref06_Shift_ok hr6) (by kernel_rfl) (by kernel_rfl) (.inl rfl) (z1 2 ⟨[(3,.ptr 3 0),(6,.ptr 6 0)],[(3,.box [(vS x0.Name),(vS x0.Material),(vI x0.Gauge),(vI x0.Grain),(ro 700200 98),(ro 700201 98),(ro 700202 98)]),(6,.box [(vS ByteArray.empty),(vS ByteArray.empty),(vI 0),(vI 0),.nl,.nl,.nl]),(700200,w_Rect 98 r2),(700201,w_Rect 98 r4),(700202,w_Rect 98 r6)]⟩ (z8 2 ⟨[(6,.ptr 6 0)],[(6,.box [(vS x0.Name),(vS x0.Material),(vI x0.Gauge),(vI x0.Grain),(ro 700200 98),(ro 700201 98),(ro 700202 98)]),(700200,w_Rect 98 r2),(700201,w_Rect 98 r4),(700202,w_Rect 98 r6)]⟩ fun τ hτ=>?_))
 obtain rfl:=osi h
 exact rk_ret hτ [(6,.ptr 0 0)] (subR_prep [] [(6,0),(700200,1),(700201,2),(700202,3)] (by kernel_rfl) rfl rfl (by kernel_rfl)) (by kernel_rfl)
theorem W.sheetmetalref07_base_ok {x0 : Piece} {r : Piece × Bool × ByteArray × ByteArray × Int × Int × (List Rect) × (List Rect) × (List Rect)} (h : sheetmetalref07_base x0 = some r) : PC G.P 45 [(.agg (c_Piece x0))] [] (.tup [(.agg (c_Piece r.1)),(vB r.2.1)]) [(0,.box [(vS r.2.2.1),(vS r.2.2.2.1),(vI r.2.2.2.2.1),(vI r.2.2.2.2.2.1),(.sl (List.map c_Rect r.2.2.2.2.2.2.1)),(.sl (List.map c_Rect r.2.2.2.2.2.2.2.1)),(.sl (List.map c_Rect r.2.2.2.2.2.2.2.2))])]:=by
 refine zU G Tryz.func45 (zK ⟨[(0,.agg (c_Piece x0))],[]⟩ (z3 3 ⟨[(1,.ptr 1 0),(2,.ptr 2 0)],[(1,.box (c_Piece x0)),(2,.box [(vS ByteArray.empty),(vS ByteArray.empty),(vI 0),(vI 0),.nl,.nl,.nl])]⟩ ?_))
 refine zB (z7 (zA 2 ?_))
 obtain ⟨r4,hr4,h⟩:=bindS h
 refine evs_callP [] (by kernel_rfl) (W.sheetmetalref06_Rights_ok hr4) (by kernel_rfl) (.inl rfl) (by kernel_rfl) (z1 1 ⟨[(1,.ptr 1 0),(2,.ptr 2 0),(10,vB (!r4))],[(1,.box (c_Piece x0)),(2,.box [(vS ByteArray.empty),(vS ByteArray.empty),(vI 0),(vI 0),.nl,.nl,.nl])]⟩ (zI (!r4) (fun hb=>?_) fun hb=>?_))
 replace h:=iteT hb h
 refine z8 3 ⟨[(2,.ptr 2 0),(3,vB false)],[(2,.box (c_Piece x0))]⟩ fun τ hτ=>?_
 refine th_ret ?_
 obtain rfl:=osi h
 exact rk_ret hτ [(2,.ptr 0 0),(3,vB false)] (subR_prep [] [(2,0)] (by kernel_rfl) rfl rfl (by kernel_rfl)) (by kernel_rfl)
 replace h:=iteF hb h
 refine z4 ⟨[(1,.ptr 1 0),(2,.ptr 2 0)],[(1,.box (c_Piece x0)),(2,.box [(vS ByteArray.empty),(vS ByteArray.empty),(vI 0),(vI 0),.nl,.nl,.nl])]⟩ (zB (z7 ?_))
 refine zA 2 (evs_op (st_len (c:=c_Rect) (l:=x0.Rects) (x:=(s_Rect x0.Rects)) (by kernel_rfl) (by kernel_rfl)) (z1 1 ⟨[(1,.ptr 1 0),(2,.ptr 2 0),(15,vB ((x0.Rects.length : Int) == 0))],[(1,.box (c_Piece x0)),(2,.box [(vS ByteArray.empty),(vS ByteArray.empty),(vI 0),(vI 0),.nl,.nl,.nl])]⟩ ?_))
 refine zI ((x0.Rects.length : Int) == 0) (fun hb=>?_) fun hb=>?_
 replace h:=iteT hb h
 refine z8 3 ⟨[(2,.ptr 2 0),(3,vB true)],[(2,.box (c_Piece x0))]⟩ fun τ hτ=>?_
 refine th_ret ?_
 obtain rfl:=osi h
 exact rk_ret hτ [(2,.ptr 0 0),(3,vB true)] (subR_prep [] [(2,0)] (by kernel_rfl) rfl rfl (by kernel_rfl)) (by kernel_rfl)
 replace h:=iteF hb h
 refine z4 ⟨[(1,.ptr 1 0),(2,.ptr 2 0)],[(1,.box (c_Piece x0)),(2,.box [(vS ByteArray.empty),(vS ByteArray.empty),(vI 0),(vI 0),.nl,.nl,.nl])]⟩ (zB (sem_drawN [] [] [] [] [] 11 (by kernel_rfl) (by kernel_rfl) (by kernel_rfl) ?_))
 refine evd_run 2 (by kernel_rfl) ?_
 obtain ⟨x9,hx9,h⟩:=bindS h
 refine evd_val (by kernel_rfl) (st_idx (c:=c_Rect) (l:=x0.Rects) (i:=0) (kd:=.i64) (sz:=4) (by kernel_rfl) hx9 rfl) (by kernel_rfl) (by kernel_rfl) (evd_run 4 (by kernel_rfl) ?_)
 obtain ⟨x10,hx10,h⟩:=bindS h
 refine evd_val (by kernel_rfl) (st_idx (c:=c_Rect) (l:=x0.Rects) (i:=0) (kd:=.i64) (sz:=4) (by kernel_rfl) hx10 rfl) (by kernel_rfl) (by kernel_rfl) (evd_run 3 (by kernel_rfl) (evd_end (by kernel_rfl) ?_))
 refine evo_run 1 (by kernel_rfl) (zO fun τ hτ=>?_)
 refine zE hτ ⟨[(1,.ptr 1 0),(2,.ptr 2 0),(4,vI x9.X),(5,vI x10.Y)],[(1,.box (c_Piece x0)),(2,.box [(vS ByteArray.empty),(vS ByteArray.empty),(vI 0),(vI 0),.nl,.nl,.nl])]⟩ (zB (z3 1 ⟨[(1,.ptr 1 0),(2,.ptr 2 0),(4,vI x9.X),(5,vI x10.Y),(6,vI 1)],[(1,.box (c_Piece x0)),(2,.box [(vS ByteArray.empty),(vS ByteArray.empty),(vI 0),(vI 0),.nl,.nl,.nl])]⟩ ?_))
 refine zC ?_
 obtain ⟨x64,hx64,h⟩:=bindS h
 refine sem_loopS (fun (s47 : Int × Int × Int)=>⟨[(1,.ptr 500000 0),(2,.ptr 500001 0),(4,vI s47.1),(5,vI s47.2.1),(6,vI s47.2.2)],[(500000,.box (c_Piece x0)),(500001,.box [(vS ByteArray.empty),(vS ByteArray.empty),(vI 0),(vI 0),.nl,.nl,.nl])]⟩) (fun (x64 : Int × Int)=>(.exit 0,⟨[(1,.ptr 500000 0),(2,.ptr 500001 0),(4,vI x64.1),(5,vI x64.2)],[(500000,.box (c_Piece x0)),(500001,.box [(vS ByteArray.empty),(vS ByteArray.empty),(vI 0),(vI 0),.nl,.nl,.nl])]⟩)) (sheetmetalref07_base_l1 x0) (x9.X,x10.Y,1) x64 (by kernel_rfl) (subR_prep [] [(1,500000),(2,500001)] (by kernel_rfl) rfl rfl (by kernel_rfl)) hx64 ?_ ?_ ?_
 intro s47 r h
 refine zB (z7 (zA 3 ?_))
 refine evs_op (st_len (c:=c_Rect) (l:=x0.Rects) (x:=(s_Rect x0.Rects)) (by kernel_rfl) (by kernel_rfl)) (z1 1 ⟨[(1,.ptr 500000 0),(2,.ptr 500001 0),(4,vI s47.1),(5,vI s47.2.1),(6,vI s47.2.2),(31,vB (decide (s47.2.2 < (x0.Rects.length : Int))))],[(500000,.box (c_Piece x0)),(500001,.box [(vS ByteArray.empty),(vS ByteArray.empty),(vI 0),(vI 0),.nl,.nl,.nl])]⟩ (zI (decide (s47.2.2 < (x0.Rects.length : Int))) (fun hb=>?_) fun hb=>?_))
 replace h:=iteT hb h
 refine z4 ⟨[(1,.ptr 500000 0),(2,.ptr 500001 0),(4,vI s47.1),(5,vI s47.2.1),(6,vI s47.2.2)],[(500000,.box (c_Piece x0)),(500001,.box [(vS ByteArray.empty),(vS ByteArray.empty),(vI 0),(vI 0),.nl,.nl,.nl])]⟩ (zB (zC ?_))
 refine z7 (zA 4 ?_)
 obtain ⟨x61,hx61,h⟩:=bindS h
 refine evs_op (st_idx (c:=c_Rect) (l:=x0.Rects) (i:=s47.2.2) (kd:=.i64) (sz:=4) (by kernel_rfl) hx61 rfl) (z1 4 ⟨[(1,.ptr 500000 0),(2,.ptr 500001 0),(4,vI (imin s47.1 x61.X)),(5,vI s47.2.1),(6,vI s47.2.2)],[(500000,.box (c_Piece x0)),(500001,.box [(vS ByteArray.empty),(vS ByteArray.empty),(vI 0),(vI 0),.nl,.nl,.nl])]⟩ (zD ?_))
 refine zA 4 ?_
 obtain ⟨x63,hx63,h⟩:=bindS h
 refine evs_op (st_idx (c:=c_Rect) (l:=x0.Rects) (i:=s47.2.2) (kd:=.i64) (sz:=4) (by kernel_rfl) hx63 rfl) (z6 4 fun τ hτ=>?_)
 refine bl_normal (zE hτ ⟨[(1,.ptr 500000 0),(2,.ptr 500001 0),(4,vI (imin s47.1 x61.X)),(5,vI (imin s47.2.1 x63.Y)),(6,vI s47.2.2)],[(500000,.box (c_Piece x0)),(500001,.box [(vS ByteArray.empty),(vS ByteArray.empty),(vI 0),(vI 0),.nl,.nl,.nl])]⟩ (zD ?_))
 refine z6 3 fun τ hτ=>?_
 obtain rfl:=osi h
 exact zH hτ
 replace h:=iteF hb h
 refine zL 0 fun τ hτ=>?_
 refine th_exit ?_
 obtain rfl:=osi h
 exact zF hτ
 intro x
 rfl
 intro τ hτ
 refine zQ (zE hτ ⟨[(1,.ptr 500000 0),(2,.ptr 500001 0),(4,vI x64.1),(5,vI x64.2)],[(500000,.box (c_Piece x0)),(500001,.box [(vS ByteArray.empty),(vS ByteArray.empty),(vI 0),(vI 0),.nl,.nl,.nl])]⟩ (z7 ?_))
 refine zA 5 ?_
 obtain ⟨r66,hr66,h⟩:=bindS h
 refine evs_callS [] [(0,700250),(1,700251),(2,700252),(3,700253)] [] (by kernel_rfl) (W.sheetmetalref06_Move_ok hr66) (by kernel_rfl) (by kernel_rfl) (.inl rfl) (z1 2 ⟨[(2,.ptr 500001 0),(3,vB true)],[(500001,.box [(vS r66.Name),(vS r66.Material),(vI r66.Gauge),(vI r66.Grain),(ro 700251 98),(ro 700252 98),(ro 700253 98)]),(700251,w_Rect 98 r66.Rects),(700252,w_Rect 98 r66.Cuts),(700253,w_Rect 98 r66.Forms)]⟩ (zN fun τ hτ=>?_))
 obtain rfl:=osi h
 exact rk_ret hτ [(2,.ptr 0 0),(3,vB true)] (subR_prep [.frz 700251,.frz 700252,.frz 700253] [(500001,0)] (by kernel_rfl) rfl rfl (by kernel_rfl)) (by kernel_rfl)
theorem W.sheetmetalref06_least_ok {l : (List Rect)} {r : Int × Int} (h : sheetmetalref06_least l = some r) : PC G.P 99 [(.sl (List.map c_Rect l))] [] (.tup [(vI r.1),(vI r.2)]) []:=by
 refine zU G Tryz.func99 (zK ⟨[(0,s_Rect l)],[]⟩ (z3 2 ⟨[(0,s_Rect l)],[]⟩ ?_))
 refine zB (sem_drawN [] [] [] [] [] 9 (by kernel_rfl) (by kernel_rfl) (by kernel_rfl) (evd_run 1 (by kernel_rfl) ?_))
 obtain ⟨x5,hx5,h⟩:=bindS h
 refine evd_val (by kernel_rfl) (st_idx (c:=c_Rect) (l:=l) (i:=0) (kd:=.i64) (sz:=4) (by kernel_rfl) hx5 rfl) (by kernel_rfl) (by kernel_rfl) (evd_run 3 (by kernel_rfl) ?_)
 obtain ⟨x6,hx6,h⟩:=bindS h
 refine evd_val (by kernel_rfl) (st_idx (c:=c_Rect) (l:=l) (i:=0) (kd:=.i64) (sz:=4) (by kernel_rfl) hx6 rfl) (by kernel_rfl) (by kernel_rfl) (evd_run 3 (by kernel_rfl) (evd_end (by kernel_rfl) ?_))
 refine evo_run 1 (by kernel_rfl) (zO fun τ hτ=>?_)
 refine zE hτ ⟨[(0,s_Rect l),(4,vI x5.X),(5,vI x6.Y)],[]⟩ (zB (z3 1 ⟨[(0,s_Rect l),(4,vI x5.X),(5,vI x6.Y),(6,vI 1)],[]⟩ ?_))
 refine zC ?_
 obtain ⟨x60,hx60,h⟩:=bindS h
 refine sem_loopS (fun (s43 : Int × Int × Int)=>⟨[(0,s_Rect l),(4,vI s43.1),(5,vI s43.2.1),(6,vI s43.2.2)],[]⟩) (fun (x60 : Int × Int)=>(.exit 0,⟨[(4,vI x60.1),(5,vI x60.2)],[]⟩)) (sheetmetalref06_least_l1 l) (x5.X,x6.Y,1) x60 (by kernel_rfl) (here (by kernel_rfl)) hx60 ?_ ?_ ?_
 intro s43 r h
 refine zB (z7 (zA 2 ?_))
 refine evs_op (st_len (c:=c_Rect) (l:=l) (x:=(s_Rect l)) (by kernel_rfl) (by kernel_rfl)) (z1 1 ⟨[(0,s_Rect l),(4,vI s43.1),(5,vI s43.2.1),(6,vI s43.2.2),(18,vB (decide (s43.2.2 < (l.length : Int))))],[]⟩ (zI (decide (s43.2.2 < (l.length : Int))) (fun hb=>?_) fun hb=>?_))
 replace h:=iteT hb h
 refine z4 ⟨[(0,s_Rect l),(4,vI s43.1),(5,vI s43.2.1),(6,vI s43.2.2)],[]⟩ (zB (zC ?_))
 refine z7 (zA 3 ?_)
 obtain ⟨x57,hx57,h⟩:=bindS h
 refine evs_op (st_idx (c:=c_Rect) (l:=l) (i:=s43.2.2) (kd:=.i64) (sz:=4) (by kernel_rfl) hx57 rfl) (z1 4 ⟨[(0,s_Rect l),(4,vI (imin s43.1 x57.X)),(5,vI s43.2.1),(6,vI s43.2.2)],[]⟩ (zD ?_))
 refine zA 3 ?_
 obtain ⟨x59,hx59,h⟩:=bindS h
 refine evs_op (st_idx (c:=c_Rect) (l:=l) (i:=s43.2.2) (kd:=.i64) (sz:=4) (by kernel_rfl) hx59 rfl) (z6 4 fun τ hτ=>?_)
 refine bl_normal (zE hτ ⟨[(0,s_Rect l),(4,vI (imin s43.1 x57.X)),(5,vI (imin s43.2.1 x59.Y)),(6,vI s43.2.2)],[]⟩ (zD ?_))
 refine z6 3 fun τ hτ=>?_
 obtain rfl:=osi h
 exact zH hτ
 replace h:=iteF hb h
 refine zL 0 fun τ hτ=>?_
 refine th_exit ?_
 obtain rfl:=osi h
 exact zF hτ
 intro x
 rfl
 intro τ hτ
 refine zQ (zE hτ ⟨[(4,vI x60.1),(5,vI x60.2)],[]⟩ (z8 4 ⟨[(2,vI x60.1),(3,vI x60.2)],[]⟩ fun τ hτ=>?_))
 obtain rfl:=osi h
 exact zV hτ [(2,vI x60.1),(3,vI x60.2)]
theorem W.sheetmetalref06_Overlaps_ok {a : Rect} {b : Rect} {r : Bool} (h : sheetmetalref06_Overlaps a b = some r) : PC G.P 104 [(.agg (c_Rect a)),(.agg (c_Rect b))] [] (vB r) []:=by
 refine zU G Tryz.func104 (zK ⟨[(0,.agg (c_Rect a)),(1,.agg (c_Rect b))],[]⟩ (z3 3 ⟨[(2,.ptr 2 0),(3,.ptr 3 0)],[(2,.box (c_Rect a)),(3,.box (c_Rect b))]⟩ ?_))
 refine zB ?_
 obtain ⟨j3,hj3,h⟩:=bindS h
 refine zT ⟨[(4,vB j3)],[]⟩ ?_ fun τ hτ=>?_
 replace h:=hj3
 refine zA 1 ?_
 obtain ⟨r4,hr4,h⟩:=bindS h
 refine evs_callP [] (by kernel_rfl) (W.sheetmetalref06_Right_ok hr4) (by kernel_rfl) (.inl rfl) (by kernel_rfl) (zA 1 (zS r4 (fun b0=>⟨[(2,.ptr 2 0),(3,.ptr 3 0),(7,vB b0)],[(2,.box (c_Rect a)),(3,.box (c_Rect b))]⟩) (fun hb=>?_) fun hb=>?_))
 replace h:=iteT hb h
 refine zA 1 ?_
 obtain ⟨r5,hr5,h⟩:=bindS h
 refine evs_callP [] (by kernel_rfl) (W.sheetmetalref06_Right_ok hr5) (by kernel_rfl) (.inl rfl) (by kernel_rfl) (zA 2 (zS r5 (fun b0=>⟨[(2,.ptr 2 0),(3,.ptr 3 0),(11,vB b0)],[(2,.box (c_Rect a)),(3,.box (c_Rect b))]⟩) (fun hb=>?_) fun hb=>?_))
 replace h:=iteT hb h
 refine zA 10 (zS (decide (a.X < (iadd b.X b.W))) (fun b0=>⟨[(2,.ptr 2 0),(3,.ptr 3 0),(21,vB b0)],[(2,.box (c_Rect a)),(3,.box (c_Rect b))]⟩) (fun hb=>?_) fun hb=>?_)
 replace h:=iteT hb h
 refine zA 10 (zS (decide (b.X < (iadd a.X a.W))) (fun b0=>⟨[(2,.ptr 2 0),(3,.ptr 3 0),(31,vB b0)],[(2,.box (c_Rect a)),(3,.box (c_Rect b))]⟩) (fun hb=>?_) fun hb=>?_)
 replace h:=iteT hb h
 refine zA 10 (zS (decide (a.Y < (iadd b.Y b.H))) (fun b0=>⟨[(2,.ptr 2 0),(3,.ptr 3 0),(41,vB b0)],[(2,.box (c_Rect a)),(3,.box (c_Rect b))]⟩) (fun hb=>?_) fun hb=>?_)
 replace h:=iteT hb h
 refine z6 10 fun τ hτ=>?_
 obtain rfl:=osi h
 exact zG hτ
 replace h:=iteF hb h
 refine z6 10 fun τ hτ=>?_
 obtain rfl:=osi h
 exact zG hτ
 replace h:=iteF hb h
 refine z6 20 fun τ hτ=>?_
 obtain rfl:=osi h
 exact zG hτ
 replace h:=iteF hb h
 refine z6 30 fun τ hτ=>?_
 obtain rfl:=osi h
 exact zG hτ
 replace h:=iteF hb h
 refine z6 40 fun τ hτ=>?_
 obtain rfl:=osi h
 exact zG hτ
 replace h:=iteF hb h
 refine z6 44 fun τ hτ=>?_
 obtain rfl:=osi h
 exact zG hτ
 refine zE hτ ⟨[(4,vB j3)],[]⟩ (zN fun τ hτ=>?_)
 obtain rfl:=osi h
 exact zV hτ [(4,vB j3)]
theorem W.sheetmetalref06_Meets_ok {r0 : Rect} {l : (List Rect)} {r : Bool} (h : sheetmetalref06_Meets r0 l = some r) : PC G.P 48 [(.agg (c_Rect r0)),(.sl (List.map c_Rect l))] [] (vB r) []:=by
 refine zU G Tryz.func48 (zK ⟨[(0,.agg (c_Rect r0)),(1,s_Rect l)],[]⟩ (z3 2 ⟨[(1,s_Rect l),(2,.ptr 2 0)],[(2,.box (c_Rect r0))]⟩ ?_))
 refine zB (z3 1 ⟨[(1,s_Rect l),(2,.ptr 2 0),(5,vI 0)],[(2,.box (c_Rect r0))]⟩ (zC ?_))
 obtain ⟨x80,hx80,h⟩:=bindS h
 refine sem_loopS (fun (s55 : Int)=>⟨[(1,s_Rect l),(2,.ptr 500000 0),(5,vI s55)],[(500000,.box (c_Rect r0))]⟩) (fun (x80 : Unit ⊕ Unit)=>match x80 with | .inl j81=>(.ret,⟨[(4,vB true)],[]⟩) | .inr j82=>(.exit 0,⟨[],[]⟩)) (sheetmetalref06_Meets_l1 r0 l) 0 x80 (by kernel_rfl) (subR_prep [] [(2,500000)] (by kernel_rfl) rfl rfl (by kernel_rfl)) hx80 ?_ ?_ ?_
 intro s55 r h
 refine zB (z7 (zA 2 ?_))
 refine evs_op (st_len (c:=c_Rect) (l:=l) (x:=(s_Rect l)) (by kernel_rfl) (by kernel_rfl)) (z1 1 ⟨[(1,s_Rect l),(2,.ptr 500000 0),(5,vI s55),(9,vB (decide (s55 < (l.length : Int))))],[(500000,.box (c_Rect r0))]⟩ (zI (decide (s55 < (l.length : Int))) (fun hb=>?_) fun hb=>?_))
 replace h:=iteT hb h
 refine z4 ⟨[(1,s_Rect l),(2,.ptr 500000 0),(5,vI s55)],[(500000,.box (c_Rect r0))]⟩ (zB (zC ?_))
 refine zB (sem_drawN [] [] [] [] [] 5 (by kernel_rfl) (by kernel_rfl) (by kernel_rfl) (evd_run 3 (by kernel_rfl) ?_))
 obtain ⟨x78,hx78,h⟩:=bindS h
 refine evd_val (by kernel_rfl) (st_idx (c:=c_Rect) (l:=l) (i:=s55) (kd:=.i64) (sz:=4) (by kernel_rfl) hx78 rfl) (by kernel_rfl) (by kernel_rfl) (evd_run 1 (by kernel_rfl) (evd_end (by kernel_rfl) ?_))
 obtain ⟨r79,hr79,h⟩:=bindS h
 refine evo_callP [] (by kernel_rfl) (W.sheetmetalref06_Overlaps_ok hr79) (by kernel_rfl) (.inl rfl) (by kernel_rfl) (zO fun τ hτ=>?_)
 refine zE hτ ⟨[(1,s_Rect l),(2,.ptr 500000 0),(5,vI s55),(17,vB r79)],[(500000,.box (c_Rect r0))]⟩ (zI r79 (fun hb=>?_) fun hb=>?_)
 replace h:=iteT hb h
 refine z8 1 ⟨[(4,vB true)],[]⟩ fun τ hτ=>?_
 refine bl_ret (th_ret ?_)
 obtain rfl:=osi h
 exact zF hτ
 replace h:=iteF hb h
 refine zM fun τ hτ=>?_
 refine bl_normal (zE hτ ⟨[(1,s_Rect l),(2,.ptr 500000 0),(5,vI s55)],[(500000,.box (c_Rect r0))]⟩ (zD ?_))
 refine z6 3 fun τ hτ=>?_
 obtain rfl:=osi h
 exact zH hτ
 replace h:=iteF hb h
 refine zL 0 fun τ hτ=>?_
 refine th_exit ?_
 obtain rfl:=osi h
 exact zF hτ
 intro x
 rcases x with _ | _ <;> rfl
 intro τ hτ
 rcases x80 with j81 | j82
 refine bl_ret (th_ret ?_)
 obtain rfl:=osi h
 exact zV hτ [(4,vB true)]
 refine zQ (zE hτ ⟨[],[]⟩ (z8 1 ⟨[(4,vB false)],[]⟩ fun τ hτ=>?_))
 obtain rfl:=osi h
 exact zV hτ [(4,vB false)]
theorem W.sheetmetalref06_touching_ok {a : Rect} {b : Rect} {r : Bool} (h : sheetmetalref06_touching a b = some r) : PC G.P 150 [(.agg (c_Rect a)),(.agg (c_Rect b))] [] (vB r) []:=by
 refine zU G Tryz.func150 (zK ⟨[(0,.agg (c_Rect a)),(1,.agg (c_Rect b))],[]⟩ (z3 3 ⟨[(2,.ptr 2 0),(3,.ptr 3 0)],[(2,.box (c_Rect a)),(3,.box (c_Rect b))]⟩ ?_))
 refine z3 18 ⟨[(2,.ptr 2 0),(3,.ptr 3 0),(5,vI (isub (imin (iadd a.X a.W) (iadd b.X b.W)) (imax a.X b.X)))],[(2,.box (c_Rect a)),(3,.box (c_Rect b))]⟩ (z3 18 ⟨[(5,vI (isub (imin (iadd a.X a.W) (iadd b.X b.W)) (imax a.X b.X))),(6,vI (isub (imin (iadd a.Y a.H) (iadd b.Y b.H)) (imax a.Y b.Y)))],[]⟩ (zB ?_))
 obtain ⟨j1,hj1,h⟩:=bindS h
 refine zT ⟨[(4,vB j1)],[]⟩ ?_ fun τ hτ=>?_
 replace h:=hj1
 refine zA 3 (zS ((isub (imin (iadd a.X a.W) (iadd b.X b.W)) (imax a.X b.X)) == 0) (fun b0=>⟨[(5,vI (isub (imin (iadd a.X a.W) (iadd b.X b.W)) (imax a.X b.X))),(6,vI (isub (imin (iadd a.Y a.H) (iadd b.Y b.H)) (imax a.Y b.Y))),(43,vB b0)],[]⟩) (fun hb=>?_) fun hb=>?_)
 replace h:=iteT hb h
 refine zA 4 (zS (decide ((isub (imin (iadd a.Y a.H) (iadd b.Y b.H)) (imax a.Y b.Y)) > 0)) (fun b0=>⟨[(5,vI (isub (imin (iadd a.X a.W) (iadd b.X b.W)) (imax a.X b.X))),(6,vI (isub (imin (iadd a.Y a.H) (iadd b.Y b.H)) (imax a.Y b.Y))),(47,vB b0)],[]⟩) (fun hb=>?_) fun hb=>?_)
 replace h:=iteT hb h
 refine z6 8 fun τ hτ=>?_
 obtain rfl:=osi h
 exact zG hτ
 replace h:=iteF hb h
 refine zA 3 (zS ((isub (imin (iadd a.Y a.H) (iadd b.Y b.H)) (imax a.Y b.Y)) == 0) (fun b0=>⟨[(5,vI (isub (imin (iadd a.X a.W) (iadd b.X b.W)) (imax a.X b.X))),(47,vB false),(50,vB b0)],[]⟩) (fun hb=>?_) fun hb=>?_)
 replace h:=iteT hb h
 refine z6 5 fun τ hτ=>?_
 obtain rfl:=osi h
 exact zG hτ
 replace h:=iteF hb h
 refine z6 5 fun τ hτ=>?_
 obtain rfl:=osi h
 exact zG hτ
 replace h:=iteF hb h
 refine zA 7 (zS ((isub (imin (iadd a.Y a.H) (iadd b.Y b.H)) (imax a.Y b.Y)) == 0) (fun b0=>⟨[(5,vI (isub (imin (iadd a.X a.W) (iadd b.X b.W)) (imax a.X b.X))),(47,vB false),(50,vB b0)],[]⟩) (fun hb=>?_) fun hb=>?_)
 replace h:=iteT hb h
 refine z6 5 fun τ hτ=>?_
 obtain rfl:=osi h
 exact zG hτ
 replace h:=iteF hb h
 refine z6 5 fun τ hτ=>?_
 obtain rfl:=osi h
 exact zG hτ
 refine zE hτ ⟨[(4,vB j1)],[]⟩ (zN fun τ hτ=>?_)
 obtain rfl:=osi h
 exact zV hτ [(4,vB j1)]
theorem W.sheetmetalref06_connected_ok {l : (List Rect)} {r : Bool} (h : sheetmetalref06_connected l = some r) : PC G.P 100 [(.sl (List.map c_Rect l))] [] (vB r) []:=by
 refine zU G Tryz.func100 (zK ⟨[(0,s_Rect l)],[]⟩ (z3 1 ⟨[(0,s_Rect l)],[]⟩ ?_))
 refine z7 (zA 1 (evs_op (st_len (c:=c_Rect) (l:=l) (x:=(s_Rect l)) (by kernel_rfl) (by kernel_rfl)) ?_))
 obtain ⟨l2,hl2,h⟩:=bindS h
 refine evs_op (st_mk (c:=cB) (z:=false) (n:=(l.length : Int)) (e:=4) (d:=9) (zs:=[(vB false)]) (k1:=.i64) (k2:=.i64) (by kernel_rfl) rfl hl2) (z1 1 ⟨[(0,s_Rect l),(3,ro 9 4)],[(9,wB 4 l2)]⟩ (z7 ?_))
 refine evs_at (at_build (e:=3) (d:=10) (es:=(List.map cI [0])) (by kernel_rfl)) (z1 1 ⟨[(0,s_Rect l),(3,ro 9 4),(4,ro 10 3)],[(9,wB 4 l2),(10,wI 3 [0])]⟩ (z7 ?_))
 refine zA 1 ?_
 obtain ⟨x4,hx4,h⟩:=bindS h
 refine evs_op (st_idxO (c:=cB) (l:=l2) (i:=0) (kd:=.i64) (kk:=(.top 9)) (e:=4) (sz:=1) (by kernel_rfl) (by kernel_rfl) hx4 rfl) (evs_op (st_stO (c:=cB) (l:=l2) (i:=(Int.toNat 0)) (x:=x4) (x':=true) (v:=(vB true)) (agg:=false) (sz:=1) (kk:=(.top 9)) (e:=4) (off:=0) (J:=[]) (o:=wB 4 (List.set l2 (Int.toNat 0) true)) (by kernel_rfl) (by kernel_rfl) (by kernel_rfl) ((idxS hx4).2) (by kernel_rfl) (by kernel_rfl) (by kernel_rfl)) (zP fun τ hτ=>?_))
 refine zE hτ ⟨[(0,s_Rect l),(3,ro 9 4),(4,ro 10 3)],[(9,wB 4 (List.set l2 (Int.toNat 0) true)),(10,wI 3 [0])]⟩ (zB (z3 1 ⟨[(0,s_Rect l),(3,ro 9 4),(4,ro 10 3),(5,vI 0)],[(9,wB 4 (List.set l2 (Int.toNat 0) true)),(10,wI 3 [0])]⟩ ?_))
 refine zC ?_
 obtain ⟨x1522,hx1522,h⟩:=bindS h
 refine sem_loopS (fun (s1017 : Int × (List Bool) × (List Int))=>⟨[(0,s_Rect l),(3,ro 500000 4),(4,ro 500001 3),(5,vI s1017.1)],[(500000,wB 4 s1017.2.1),(500001,wI 3 s1017.2.2)]⟩) (fun (x1522 : (List Int))=>(.exit 0,⟨[(0,s_Rect l),(4,ro 500000 3)],[(500000,wI 3 x1522)]⟩)) (sheetmetalref06_connected_l3 l) (0,(List.set l2 (Int.toNat 0) true),[0]) x1522 (by kernel_rfl) (subR_prep [] [(9,500000),(10,500001)] (by kernel_rfl) rfl rfl (by kernel_rfl)) hx1522 ?_ ?_ ?_
 intro s1017 r h
 refine zB (z7 (zA 2 ?_))
 refine evs_op (st_len (c:=cI) (l:=s1017.2.2) (x:=(ro 500001 3)) (by kernel_rfl) (by kernel_rfl)) (z1 1 ⟨[(0,s_Rect l),(3,ro 500000 4),(4,ro 500001 3),(5,vI s1017.1),(16,vB (decide (s1017.1 < (s1017.2.2.length : Int))))],[(500000,wB 4 s1017.2.1),(500001,wI 3 s1017.2.2)]⟩ (zI (decide (s1017.1 < (s1017.2.2.length : Int))) (fun hb=>?_) fun hb=>?_))
 replace h:=iteT hb h
 refine z4 ⟨[(0,s_Rect l),(3,ro 500000 4),(4,ro 500001 3),(5,vI s1017.1)],[(500000,wB 4 s1017.2.1),(500001,wI 3 s1017.2.2)]⟩ (zB (zC ?_))
 refine z3 1 ⟨[(0,s_Rect l),(3,ro 500000 4),(4,ro 500001 3),(5,vI s1017.1),(6,vI 0)],[(500000,wB 4 s1017.2.1),(500001,wI 3 s1017.2.2)]⟩ (zC ?_)
 obtain ⟨x1521,hx1521,h⟩:=bindS h
 refine sem_loopS (fun (s1438 : Int × (List Bool) × (List Int))=>⟨[(0,s_Rect l),(3,ro 500000 4),(4,ro 500001 3),(5,vI s1017.1),(6,vI s1438.1)],[(500000,wB 4 s1438.2.1),(500001,wI 3 s1438.2.2)]⟩) (fun (x1521 : (List Bool) × (List Int))=>(.exit 2,⟨[(0,s_Rect l),(3,ro 500000 4),(4,ro 500001 3),(5,vI s1017.1)],[(500000,wB 4 x1521.1),(500001,wI 3 x1521.2)]⟩)) (sheetmetalref06_connected_l2 l s1017) (0,s1017.2.1,s1017.2.2) x1521 (by kernel_rfl) (here (by kernel_rfl)) hx1521 ?_ ?_ ?_
 intro s1438 r h
 refine zB (z7 (zA 2 ?_))
 refine evs_op (st_len (c:=c_Rect) (l:=l) (x:=(s_Rect l)) (by kernel_rfl) (by kernel_rfl)) (z1 1 ⟨[(0,s_Rect l),(3,ro 500000 4),(4,ro 500001 3),(5,vI s1017.1),(6,vI s1438.1),(22,vB (decide (s1438.1 < (l.length : Int))))],[(500000,wB 4 s1438.2.1),(500001,wI 3 s1438.2.2)]⟩ (zI (decide (s1438.1 < (l.length : Int))) (fun hb=>?_) fun hb=>?_))
 replace h:=iteT hb h
 refine z4 ⟨[(0,s_Rect l),(3,ro 500000 4),(4,ro 500001 3),(5,vI s1017.1),(6,vI s1438.1)],[(500000,wB 4 s1438.2.1),(500001,wI 3 s1438.2.2)]⟩ (sem_seqJ (fun (j1500 : (List Bool) × (List Int))=>⟨[(0,s_Rect l),(3,ro 500000 4),(4,ro 500001 3),(5,vI s1017.1),(6,vI s1438.1)],[(500000,wB 4 j1500.1),(500001,wI 3 j1500.2)]⟩) (sheetmetalref06_connected_k1 s1438) r (by kernel_rfl) (fun j1500 h=>?_) ?_)
 refine zD (z6 3 fun τ hτ=>?_)
 obtain rfl:=osi h
 exact zH hτ
 refine zC (zB ?_)
 obtain ⟨j1511,hj1511,h⟩:=bindS h
 refine sem_drawP ⟨[(0,s_Rect l),(3,ro 500000 4),(4,ro 500001 3),(5,vI s1017.1),(6,vI s1438.1),(43,vB j1511)],[(500000,wB 4 s1438.2.1),(500001,wI 3 s1438.2.2)]⟩ [] [] [] [] [] 17 (by kernel_rfl) (by kernel_rfl) (by kernel_rfl) ?_ fun τ hτ=>?_
 replace h:=hj1511
 refine evd_run 2 (by kernel_rfl) ?_
 obtain ⟨x1512,hx1512,h⟩:=bindS h
 refine evd_val (by kernel_rfl) (st_idxO (c:=cB) (l:=s1438.2.1) (i:=s1438.1) (kd:=.i64) (kk:=(.top 500000)) (e:=4) (sz:=1) (by kernel_rfl) (by kernel_rfl) hx1512 rfl) (by kernel_rfl) (by kernel_rfl) (evd_val (by kernel_rfl) (st_ldO (c:=cB) (l:=s1438.2.1) (i:=(Int.toNat s1438.1)) (v:=(vB x1512)) (agg:=false) (sz:=1) (kk:=(.top 500000)) (e:=4) (off:=0) (J:=[]) (by kernel_rfl) (by kernel_rfl) (by kernel_rfl) ((idxS hx1512).2) (by kernel_rfl)) (by kernel_rfl) (by kernel_rfl) (evd_run 2 (by kernel_rfl) ?_))
 refine evd_split x1512 (fun b0=>⟨[(30,vB (!b0)),(29,vB (!b0)),(28,vB b0),(27,.rptr (.top 500000) 4 (Int.toNat s1438.1) 0),(26,vI s1438.1),(25,ro 500000 4),(0,s_Rect l),(3,ro 500000 4),(4,ro 500001 3),(5,vI s1017.1),(6,vI s1438.1)],[(500000,wB 4 s1438.2.1),(500001,wI 3 s1438.2.2)]⟩) (by kernel_rfl) (fun hb=>?_) fun hb=>?_
 replace h:=iteT hb h
 refine evd_run 11 (by kernel_rfl) (evd_end (by kernel_rfl) (evo_run 2 (by kernel_rfl) ?_))
 refine zO fun τ hτ=>?_
 obtain rfl:=osi h
 exact zG hτ
 replace h:=iteF hb h
 refine evd_run 3 (by kernel_rfl) ?_
 obtain ⟨x1513,hx1513,h⟩:=bindS h
 refine evd_val (by kernel_rfl) (st_idxO (c:=cI) (l:=s1438.2.2) (i:=s1017.1) (kd:=.i64) (kk:=(.top 500001)) (e:=3) (sz:=1) (by kernel_rfl) (by kernel_rfl) hx1513 rfl) (by kernel_rfl) (by kernel_rfl) (evd_val (by kernel_rfl) (st_ldO (c:=cI) (l:=s1438.2.2) (i:=(Int.toNat s1017.1)) (v:=(vI x1513)) (agg:=false) (sz:=1) (kk:=(.top 500001)) (e:=3) (off:=0) (J:=[]) (by kernel_rfl) (by kernel_rfl) (by kernel_rfl) ((idxS hx1513).2) (by kernel_rfl)) (by kernel_rfl) (by kernel_rfl) ?_)
 obtain ⟨x1514,hx1514,h⟩:=bindS h
 refine evd_val (by kernel_rfl) (st_idx (c:=c_Rect) (l:=l) (i:=x1513) (kd:=.i64) (sz:=4) (by kernel_rfl) hx1514 rfl) (by kernel_rfl) (by kernel_rfl) (evd_run 3 (by kernel_rfl) ?_)
 obtain ⟨x1515,hx1515,h⟩:=bindS h
 refine evd_val (by kernel_rfl) (st_idx (c:=c_Rect) (l:=l) (i:=s1438.1) (kd:=.i64) (sz:=4) (by kernel_rfl) hx1515 rfl) (by kernel_rfl) (by kernel_rfl) (evd_run 1 (by kernel_rfl) (evd_end (by kernel_rfl) ?_))
 obtain ⟨r1516,hr1516,h⟩:=bindS h
 refine evo_callP [] (by kernel_rfl) (W.sheetmetalref06_touching_ok hr1516) (by kernel_rfl) (.inl rfl) (by kernel_rfl) (evo_run 1 (by kernel_rfl) (zO fun τ hτ=>?_))
 obtain rfl:=osi h
 exact zG hτ
 refine zE hτ ⟨[(0,s_Rect l),(3,ro 500000 4),(4,ro 500001 3),(5,vI s1017.1),(6,vI s1438.1),(43,vB j1511)],[(500000,wB 4 s1438.2.1),(500001,wI 3 s1438.2.2)]⟩ (zI j1511 (fun hb=>?_) fun hb=>?_)
 replace h:=iteT hb h
 refine z7 (zA 2 ?_)
 obtain ⟨x1518,hx1518,h⟩:=bindS h
 refine evs_op (st_idxO (c:=cB) (l:=s1438.2.1) (i:=s1438.1) (kd:=.i64) (kk:=(.top 500000)) (e:=4) (sz:=1) (by kernel_rfl) (by kernel_rfl) hx1518 rfl) (evs_op (st_stO (c:=cB) (l:=s1438.2.1) (i:=(Int.toNat s1438.1)) (x:=x1518) (x':=true) (v:=(vB true)) (agg:=false) (sz:=1) (kk:=(.top 500000)) (e:=4) (off:=0) (J:=[]) (o:=wB 4 (List.set s1438.2.1 (Int.toNat s1438.1) true)) (by kernel_rfl) (by kernel_rfl) (by kernel_rfl) ((idxS hx1518).2) (by kernel_rfl) (by kernel_rfl) (by kernel_rfl)) (zP fun τ hτ=>?_))
 refine zE hτ ⟨[(0,s_Rect l),(3,ro 500000 4),(4,ro 500001 3),(5,vI s1017.1),(6,vI s1438.1)],[(500000,wB 4 (List.set s1438.2.1 (Int.toNat s1438.1) true)),(500001,wI 3 s1438.2.2)]⟩ (zD (zA 3 ?_))
 obtain ⟨l1520,hl1520,h⟩:=bindS h
 refine evs_op (st_app (c:=cI) (l:=s1438.2.2) (l2:=[s1438.1]) (x:=(sI [s1438.1])) (g:=500001) (e:=3) (sz:=1) (d:=50) (by kernel_rfl) (by kernel_rfl) (by kernel_rfl) (by kernel_rfl) (fun _=>rfl) rfl hl1520) (z6 1 fun τ hτ=>?_)
 exact bl_normal (jk_normal ((List.set s1438.2.1 (Int.toNat s1438.1) true),l1520) h hτ (here (by kernel_rfl)))
 replace h:=iteF hb h
 refine zM fun τ hτ=>?_
 exact bl_normal (jk_normal (s1438.2.1,s1438.2.2) h hτ (here (by kernel_rfl)))
 replace h:=iteF hb h
 refine zL 2 fun τ hτ=>?_
 refine th_exit ?_
 obtain rfl:=osi h
 exact zF hτ
 intro x
 rfl
 intro τ hτ
 refine zQ (bl_normal (zE hτ ⟨[(0,s_Rect l),(3,ro 500000 4),(4,ro 500001 3),(5,vI s1017.1)],[(500000,wB 4 x1521.1),(500001,wI 3 x1521.2)]⟩ ?_))
 refine zD (z6 3 fun τ hτ=>?_)
 obtain rfl:=osi h
 exact zH hτ
 replace h:=iteF hb h
 refine zL 0 fun τ hτ=>?_
 refine th_exit ?_
 obtain rfl:=osi h
 exact lk_outS hτ rfl (subR_prep [] [(500001,500000)] (by kernel_rfl) rfl rfl (by kernel_rfl))
 intro x
 rfl
 intro τ hτ
 refine zQ (zE hτ ⟨[(0,s_Rect l),(4,ro 500000 3)],[(500000,wI 3 x1522)]⟩ (z7 ?_))
 refine zA 1 (evs_op (st_len (c:=cI) (l:=x1522) (x:=(ro 500000 3)) (by kernel_rfl) (by kernel_rfl)) (zA 1 ?_))
 refine evs_op (st_len (c:=c_Rect) (l:=l) (x:=(s_Rect l)) (by kernel_rfl) (by kernel_rfl)) (z1 2 ⟨[(2,vB ((x1522.length : Int) == (l.length : Int)))],[]⟩ (zN fun τ hτ=>?_))
 obtain rfl:=osi h
 exact zV hτ [(2,vB ((x1522.length : Int) == (l.length : Int)))]
theorem W.sheetmetalref06_deep_ok {r0 : Rect} {l : (List Rect)} {r : Bool} (h : sheetmetalref06_deep r0 l = some r) : PC G.P 101 [(.agg (c_Rect r0)),(.sl (List.map c_Rect l))] [] (vB r) []:=by
 refine zU G Tryz.func101 (zK ⟨[(0,.agg (c_Rect r0)),(1,s_Rect l)],[]⟩ (z3 2 ⟨[(1,s_Rect l),(2,.ptr 2 0)],[(2,.box (c_Rect r0))]⟩ ?_))
 refine zB (z3 1 ⟨[(1,s_Rect l),(2,.ptr 2 0),(5,vI 0)],[(2,.box (c_Rect r0))]⟩ (zC ?_))
 obtain ⟨x236,hx236,h⟩:=bindS h
 refine sem_loopS (fun (s159 : Int)=>⟨[(1,s_Rect l),(2,.ptr 500000 0),(5,vI s159)],[(500000,.box (c_Rect r0))]⟩) (fun (x236 : Unit ⊕ Unit)=>match x236 with | .inl j237=>(.ret,⟨[(4,vB true)],[]⟩) | .inr j238=>(.exit 0,⟨[],[]⟩)) (sheetmetalref06_deep_l1 r0 l) 0 x236 (by kernel_rfl) (subR_prep [] [(2,500000)] (by kernel_rfl) rfl rfl (by kernel_rfl)) hx236 ?_ ?_ ?_
 intro s159 r h
 refine zB (z7 (zA 2 ?_))
 refine evs_op (st_len (c:=c_Rect) (l:=l) (x:=(s_Rect l)) (by kernel_rfl) (by kernel_rfl)) (z1 1 ⟨[(1,s_Rect l),(2,.ptr 500000 0),(5,vI s159),(9,vB (decide (s159 < (l.length : Int))))],[(500000,.box (c_Rect r0))]⟩ (zI (decide (s159 < (l.length : Int))) (fun hb=>?_) fun hb=>?_))
 replace h:=iteT hb h
 refine z4 ⟨[(1,s_Rect l),(2,.ptr 500000 0),(5,vI s159)],[(500000,.box (c_Rect r0))]⟩ (zB (zC ?_))
 refine zB ?_
 obtain ⟨j229,hj229,h⟩:=bindS h
 refine sem_drawP ⟨[(1,s_Rect l),(2,.ptr 500000 0),(5,vI s159),(67,vB j229)],[(500000,.box (c_Rect r0))]⟩ [] [] [] [] [] 54 (by kernel_rfl) (by kernel_rfl) (by kernel_rfl) ?_ fun τ hτ=>?_
 replace h:=hj229
 refine evd_run 4 (by kernel_rfl) ?_
 obtain ⟨x230,hx230,h⟩:=bindS h
 refine evd_val (by kernel_rfl) (st_idx (c:=c_Rect) (l:=l) (i:=s159) (kd:=.i64) (sz:=4) (by kernel_rfl) hx230 rfl) (by kernel_rfl) (by kernel_rfl) (evd_run 4 (by kernel_rfl) (evd_split (decide (r0.X > x230.X)) (fun b0=>⟨[(20,vB b0),(19,vB b0),(18,vI x230.X),(17,.vptr (c_Rect x230) 0),(16,.vptr (c_Rect x230) 0),(15,vI s159),(14,s_Rect l),(13,vI r0.X),(12,.ptr 500000 0),(1,s_Rect l),(2,.ptr 500000 0),(5,vI s159)],[(500000,.box (c_Rect r0))]⟩) (by kernel_rfl) (fun hb=>?_) fun hb=>?_))
 replace h:=iteT hb h
 refine evd_run 4 (by kernel_rfl) ?_
 obtain ⟨x231,hx231,h⟩:=bindS h
 refine evd_val (by kernel_rfl) (st_idx (c:=c_Rect) (l:=l) (i:=s159) (kd:=.i64) (sz:=4) (by kernel_rfl) hx231 rfl) (by kernel_rfl) (by kernel_rfl) (evd_run 5 (by kernel_rfl) (evd_split (decide (r0.Y > x231.Y)) (fun b0=>⟨[(30,vB b0),(29,vB b0),(28,vB b0),(27,vI x231.Y),(26,.vptr (c_Rect x231) 1),(25,.vptr (c_Rect x231) 0),(24,vI s159),(23,s_Rect l),(22,vI r0.Y),(21,.ptr 500000 1),(20,vB true),(19,vB true),(18,vI x230.X),(17,.vptr (c_Rect x230) 0),(16,.vptr (c_Rect x230) 0),(15,vI s159),(14,s_Rect l),(13,vI r0.X),(12,.ptr 500000 0),(1,s_Rect l),(2,.ptr 500000 0),(5,vI s159)],[(500000,.box (c_Rect r0))]⟩) (by kernel_rfl) (fun hb=>?_) fun hb=>?_))
 replace h:=iteT hb h
 refine evd_run 7 (by kernel_rfl) ?_
 obtain ⟨x232,hx232,h⟩:=bindS h
 refine evd_val (by kernel_rfl) (st_idx (c:=c_Rect) (l:=l) (i:=s159) (kd:=.i64) (sz:=4) (by kernel_rfl) hx232 rfl) (by kernel_rfl) (by kernel_rfl) (evd_run 4 (by kernel_rfl) ?_)
 obtain ⟨x233,hx233,h⟩:=bindS h
 refine evd_val (by kernel_rfl) (st_idx (c:=c_Rect) (l:=l) (i:=s159) (kd:=.i64) (sz:=4) (by kernel_rfl) hx233 rfl) (by kernel_rfl) (by kernel_rfl) (evd_run 6 (by kernel_rfl) (evd_split (decide ((iadd r0.X r0.W) < (iadd x232.X x233.W))) (fun b0=>⟨[(49,vB b0),(48,vB b0),(47,vB b0),(46,vI (iadd x232.X x233.W)),(45,vI x233.W),(44,.vptr (c_Rect x233) 2),(43,.vptr (c_Rect x233) 0),(42,vI s159),(41,s_Rect l),(40,vI x232.X),(39,.vptr (c_Rect x232) 0),(38,.vptr (c_Rect x232) 0),(37,vI s159),(36,s_Rect l),(35,vI (iadd r0.X r0.W)),(34,vI r0.W),(33,.ptr 500000 2),(32,vI r0.X),(31,.ptr 500000 0),(30,vB true),(29,vB true),(28,vB true),(27,vI x231.Y),(26,.vptr (c_Rect x231) 1),(25,.vptr (c_Rect x231) 0),(24,vI s159),(23,s_Rect l),(22,vI r0.Y),(21,.ptr 500000 1),(20,vB true),(19,vB true),(18,vI x230.X),(17,.vptr (c_Rect x230) 0),(16,.vptr (c_Rect x230) 0),(15,vI s159),(14,s_Rect l),(13,vI r0.X),(12,.ptr 500000 0),(1,s_Rect l),(2,.ptr 500000 0),(5,vI s159)],[(500000,.box (c_Rect r0))]⟩) (by kernel_rfl) (fun hb=>?_) fun hb=>?_))
 replace h:=iteT hb h
 refine evd_run 7 (by kernel_rfl) ?_
 obtain ⟨x234,hx234,h⟩:=bindS h
 refine evd_val (by kernel_rfl) (st_idx (c:=c_Rect) (l:=l) (i:=s159) (kd:=.i64) (sz:=4) (by kernel_rfl) hx234 rfl) (by kernel_rfl) (by kernel_rfl) (evd_run 4 (by kernel_rfl) ?_)
 obtain ⟨x235,hx235,h⟩:=bindS h
 refine evd_val (by kernel_rfl) (st_idx (c:=c_Rect) (l:=l) (i:=s159) (kd:=.i64) (sz:=4) (by kernel_rfl) hx235 rfl) (by kernel_rfl) (by kernel_rfl) (evd_run 3 (by kernel_rfl) (evd_end (by kernel_rfl) ?_))
 refine evo_run 2 (by kernel_rfl) (zO fun τ hτ=>?_)
 obtain rfl:=osi h
 exact zG hτ
 replace h:=iteF hb h
 refine evd_run 16 (by kernel_rfl) (evd_end (by kernel_rfl) (evo_run 2 (by kernel_rfl) ?_))
 refine zO fun τ hτ=>?_
 obtain rfl:=osi h
 exact zG hτ
 replace h:=iteF hb h
 refine evd_run 35 (by kernel_rfl) (evd_end (by kernel_rfl) (evo_run 2 (by kernel_rfl) ?_))
 refine zO fun τ hτ=>?_
 obtain rfl:=osi h
 exact zG hτ
 replace h:=iteF hb h
 refine evd_run 45 (by kernel_rfl) (evd_end (by kernel_rfl) (evo_run 2 (by kernel_rfl) ?_))
 refine zO fun τ hτ=>?_
 obtain rfl:=osi h
 exact zG hτ
 refine zE hτ ⟨[(1,s_Rect l),(2,.ptr 500000 0),(5,vI s159),(67,vB j229)],[(500000,.box (c_Rect r0))]⟩ (zI j229 (fun hb=>?_) fun hb=>?_)
 replace h:=iteT hb h
 refine z8 1 ⟨[(4,vB true)],[]⟩ fun τ hτ=>?_
 refine bl_ret (th_ret ?_)
 obtain rfl:=osi h
 exact zF hτ
 replace h:=iteF hb h
 refine zM fun τ hτ=>?_
 refine bl_normal (zE hτ ⟨[(1,s_Rect l),(2,.ptr 500000 0),(5,vI s159)],[(500000,.box (c_Rect r0))]⟩ (zD ?_))
 refine z6 3 fun τ hτ=>?_
 obtain rfl:=osi h
 exact zH hτ
 replace h:=iteF hb h
 refine zL 0 fun τ hτ=>?_
 refine th_exit ?_
 obtain rfl:=osi h
 exact zF hτ
 intro x
 rcases x with _ | _ <;> rfl
 intro τ hτ
 rcases x236 with j237 | j238
 refine bl_ret (th_ret ?_)
 obtain rfl:=osi h
 exact zV hτ [(4,vB true)]
 refine zQ (zE hτ ⟨[],[]⟩ (z8 1 ⟨[(4,vB false)],[]⟩ fun τ hτ=>?_))
 obtain rfl:=osi h
 exact zV hτ [(4,vB false)]
theorem W.sheetmetalref06_Apart_ok {a : Rect} {b : Rect} {r : Int} (h : sheetmetalref06_Apart a b = some r) : PC G.P 102 [(.agg (c_Rect a)),(.agg (c_Rect b))] [] (vI r) []:=by
 refine zU G Tryz.func102 (zK ⟨[(0,.agg (c_Rect a)),(1,.agg (c_Rect b))],[]⟩ (z3 3 ⟨[(2,.ptr 2 0),(3,.ptr 3 0)],[(2,.box (c_Rect a)),(3,.box (c_Rect b))]⟩ ?_))
 refine zB (zB ?_)
 obtain ⟨j8,hj8,h⟩:=bindS h
 refine zT ⟨[(2,.ptr 500000 0),(3,.ptr 500001 0),(14,vB j8)],[(500000,.box (c_Rect a)),(500001,.box (c_Rect b))]⟩ ?_ fun τ hτ=>?_
 replace h:=hj8
 refine zA 1 ?_
 obtain ⟨r9,hr9,h⟩:=bindS h
 refine evs_callP [] (by kernel_rfl) (W.sheetmetalref06_Right_ok hr9) (by kernel_rfl) (.inl rfl) (by kernel_rfl) (zA 2 (zS r9 (fun b0=>⟨[(2,.ptr 2 0),(3,.ptr 3 0),(10,vB (!b0))],[(2,.box (c_Rect a)),(3,.box (c_Rect b))]⟩) (fun hb=>?_) fun hb=>?_))
 replace h:=iteT hb h
 refine zA 1 ?_
 obtain ⟨r10,hr10,h⟩:=bindS h
 refine evs_callP [] (by kernel_rfl) (W.sheetmetalref06_Right_ok hr10) (by kernel_rfl) (.inl rfl) (by kernel_rfl) (z6 2 fun τ hτ=>?_)
 obtain rfl:=osi h
 exact leafC hτ (subR_prep [] [(2,500000),(3,500001)] (by kernel_rfl) rfl rfl (by kernel_rfl))
 replace h:=iteF hb h
 refine z6 4 fun τ hτ=>?_
 obtain rfl:=osi h
 exact leafC hτ (subR_prep [] [(2,500000),(3,500001)] (by kernel_rfl) rfl rfl (by kernel_rfl))
 refine zE hτ ⟨[(2,.ptr 500000 0),(3,.ptr 500001 0),(14,vB j8)],[(500000,.box (c_Rect a)),(500001,.box (c_Rect b))]⟩ (zI j8 (fun hb=>?_) fun hb=>?_)
 replace h:=iteT hb h
 refine z8 1 ⟨[(4,vI 0)],[]⟩ fun τ hτ=>?_
 refine th_ret ?_
 obtain rfl:=osi h
 exact zV hτ [(4,vI 0)]
 replace h:=iteF hb h
 refine z4 ⟨[(2,.ptr 500000 0),(3,.ptr 500001 0)],[(500000,.box (c_Rect a)),(500001,.box (c_Rect b))]⟩ (z3 18 ⟨[(2,.ptr 500000 0),(3,.ptr 500001 0),(5,vI (imax (imax 0 (isub (isub a.X b.X) b.W)) (isub (isub b.X a.X) a.W)))],[(500000,.box (c_Rect a)),(500001,.box (c_Rect b))]⟩ (z3 18 ⟨[(5,vI (imax (imax 0 (isub (isub a.X b.X) b.W)) (isub (isub b.X a.X) a.W))),(6,vI (imax (imax 0 (isub (isub a.Y b.Y) b.H)) (isub (isub b.Y a.Y) a.H)))],[]⟩ ?_))
 refine z8 4 ⟨[(4,vI (imax (imax (imax 0 (isub (isub a.X b.X) b.W)) (isub (isub b.X a.X) a.W)) (imax (imax 0 (isub (isub a.Y b.Y) b.H)) (isub (isub b.Y a.Y) a.H))))],[]⟩ fun τ hτ=>?_
 obtain rfl:=osi h
 exact zV hτ [(4,vI (imax (imax (imax 0 (isub (isub a.X b.X) b.W)) (isub (isub b.X a.X) a.W)) (imax (imax 0 (isub (isub a.Y b.Y) b.H)) (isub (isub b.Y a.Y) a.H))))]
theorem W.sheetmetalref06_ValidatePiece_ok {x0 : Piece} {r : Int} (h : sheetmetalref06_ValidatePiece x0 = some r) : PC G.P 46 [(.agg (c_Piece x0))] [] (vI r) []:=by
 refine zU G Tryz.func46 (zK ⟨[(0,.agg (c_Piece x0))],[]⟩ (z3 2 ⟨[(1,.ptr 1 0)],[(1,.box (c_Piece x0))]⟩ ?_))
 refine z7 (zA 8 ?_)
 obtain ⟨r2,hr2,h⟩:=bindS h
 refine evs_callP [] (by kernel_rfl) (W.sheetmetalref06_stuff_ok hr2) (by kernel_rfl) (.inl rfl) (by kernel_rfl) (z1 1 ⟨[(1,.ptr 1 0),(3,vI r2)],[(1,.box (c_Piece x0))]⟩ (zB ?_))
 refine z3 2 ⟨[(1,.ptr 1 0),(3,vI r2),(21,vB (r2 != 0))],[(1,.box (c_Piece x0))]⟩ (zI (r2 != 0) (fun hb=>?_) fun hb=>?_)
 replace h:=iteT hb h
 refine z8 2 ⟨[(2,vI r2)],[]⟩ fun τ hτ=>?_
 refine th_ret ?_
 obtain rfl:=osi h
 exact zV hτ [(2,vI r2)]
 replace h:=iteF hb h
 refine z4 ⟨[(1,.ptr 1 0)],[(1,.box (c_Piece x0))]⟩ (zB (zB ?_))
 obtain ⟨j4,hj4,h⟩:=bindS h
 refine zT ⟨[(1,.ptr 500000 0),(38,vB j4)],[(500000,.box (c_Piece x0))]⟩ ?_ fun τ hτ=>?_
 replace h:=hj4
 refine zA 2 (evs_op (st_len (c:=c_Rect) (l:=x0.Rects) (x:=(s_Rect x0.Rects)) (by kernel_rfl) (by kernel_rfl)) (zA 2 ?_))
 refine zS (decide ((x0.Rects.length : Int) > 12)) (fun b0=>⟨[(1,.ptr 1 0),(27,vB b0)],[(1,.box (c_Piece x0))]⟩) (fun hb=>?_) fun hb=>?_
 replace h:=iteT hb h
 refine z6 11 fun τ hτ=>?_
 obtain rfl:=osi h
 exact leafC hτ (subR_prep [] [(1,500000)] (by kernel_rfl) rfl rfl (by kernel_rfl))
 replace h:=iteF hb h
 refine zA 2 (evs_op (st_len (c:=c_Rect) (l:=x0.Cuts) (x:=(s_Rect x0.Cuts)) (by kernel_rfl) (by kernel_rfl)) (zA 3 ?_))
 refine zS (decide ((x0.Cuts.length : Int) > 12)) (fun b0=>⟨[(1,.ptr 1 0),(33,vB b0)],[(1,.box (c_Piece x0))]⟩) (fun hb=>?_) fun hb=>?_
 replace h:=iteT hb h
 refine z6 5 fun τ hτ=>?_
 obtain rfl:=osi h
 exact leafC hτ (subR_prep [] [(1,500000)] (by kernel_rfl) rfl rfl (by kernel_rfl))
 replace h:=iteF hb h
 refine zA 2 (evs_op (st_len (c:=c_Rect) (l:=x0.Forms) (x:=(s_Rect x0.Forms)) (by kernel_rfl) (by kernel_rfl)) (z6 2 fun τ hτ=>?_))
 obtain rfl:=osi h
 exact leafC hτ (subR_prep [] [(1,500000)] (by kernel_rfl) rfl rfl (by kernel_rfl))
 refine zE hτ ⟨[(1,.ptr 500000 0),(38,vB j4)],[(500000,.box (c_Piece x0))]⟩ (zI j4 (fun hb=>?_) fun hb=>?_)
 replace h:=iteT hb h
 refine z8 1 ⟨[(2,vI 4)],[]⟩ fun τ hτ=>?_
 refine th_ret ?_
 obtain rfl:=osi h
 exact zV hτ [(2,vI 4)]
 replace h:=iteF hb h
 refine z4 ⟨[(1,.ptr 500000 0)],[(500000,.box (c_Piece x0))]⟩ (zB (zB ?_))
 obtain ⟨j15,hj15,h⟩:=bindS h
 refine zT ⟨[(1,.ptr 500000 0),(60,vB j15)],[(500000,.box (c_Piece x0))]⟩ ?_ fun τ hτ=>?_
 replace h:=hj15
 refine zA 2 (evs_op (st_len (c:=c_Rect) (l:=x0.Rects) (x:=(s_Rect x0.Rects)) (by kernel_rfl) (by kernel_rfl)) (zA 2 ?_))
 refine zS ((x0.Rects.length : Int) == 0) (fun b0=>⟨[(1,.ptr 500000 0),(43,vB b0)],[(500000,.box (c_Piece x0))]⟩) (fun hb=>?_) fun hb=>?_
 replace h:=iteT hb h
 refine z6 17 fun τ hτ=>?_
 obtain rfl:=osi h
 exact zG hτ
 replace h:=iteF hb h
 refine zA 2 ?_
 obtain ⟨r16,hr16,h⟩:=bindS h
 refine evs_callP [] (by kernel_rfl) (W.sheetmetalref06_Rights_ok hr16) (by kernel_rfl) (.inl rfl) (by kernel_rfl) (zA 3 (zS r16 (fun b0=>⟨[(1,.ptr 500000 0),(49,vB (!b0))],[(500000,.box (c_Piece x0))]⟩) (fun hb=>?_) fun hb=>?_))
 replace h:=iteT hb h
 refine zA 2 ?_
 obtain ⟨r17,hr17,h⟩:=bindS h
 refine evs_callP [] (by kernel_rfl) (W.sheetmetalref06_Rights_ok hr17) (by kernel_rfl) (.inl rfl) (by kernel_rfl) (zA 3 (zS r17 (fun b0=>⟨[(1,.ptr 500000 0),(55,vB (!b0))],[(500000,.box (c_Piece x0))]⟩) (fun hb=>?_) fun hb=>?_))
 replace h:=iteT hb h
 refine zA 2 ?_
 obtain ⟨r18,hr18,h⟩:=bindS h
 refine evs_callP [] (by kernel_rfl) (W.sheetmetalref06_Rights_ok hr18) (by kernel_rfl) (.inl rfl) (by kernel_rfl) (z6 2 fun τ hτ=>?_)
 obtain rfl:=osi h
 exact zG hτ
 replace h:=iteF hb h
 refine z6 5 fun τ hτ=>?_
 obtain rfl:=osi h
 exact zG hτ
 replace h:=iteF hb h
 refine z6 11 fun τ hτ=>?_
 obtain rfl:=osi h
 exact zG hτ
 refine zE hτ ⟨[(1,.ptr 500000 0),(60,vB j15)],[(500000,.box (c_Piece x0))]⟩ (zI j15 (fun hb=>?_) fun hb=>?_)
 replace h:=iteT hb h
 refine z8 1 ⟨[(2,vI 1)],[]⟩ fun τ hτ=>?_
 refine th_ret ?_
 obtain rfl:=osi h
 exact zV hτ [(2,vI 1)]
 replace h:=iteF hb h
 refine z4 ⟨[(1,.ptr 500000 0)],[(500000,.box (c_Piece x0))]⟩ (z7 (zA 2 ?_))
 obtain ⟨r20,hr20,h⟩:=bindS h
 refine evs_callP [] (by kernel_rfl) (W.sheetmetalref06_least_ok hr20) (by kernel_rfl) (.inl rfl) (by kernel_rfl) (z1 5 ⟨[(1,.ptr 500000 0),(4,vI r20.1),(5,vI r20.2)],[(500000,.box (c_Piece x0))]⟩ (zB ?_))
 refine zB ?_
 obtain ⟨j22,hj22,h⟩:=bindS h
 refine zT ⟨[(1,.ptr 500000 0),(72,vB j22)],[(500000,.box (c_Piece x0))]⟩ ?_ fun τ hτ=>?_
 replace h:=hj22
 refine zA 3 (zS (r20.1 != 0) (fun b0=>⟨[(1,.ptr 500000 0),(5,vI r20.2),(69,vB b0)],[(500000,.box (c_Piece x0))]⟩) (fun hb=>?_) fun hb=>?_)
 replace h:=iteT hb h
 refine z6 3 fun τ hτ=>?_
 obtain rfl:=osi h
 exact zG hτ
 replace h:=iteF hb h
 refine z6 3 fun τ hτ=>?_
 obtain rfl:=osi h
 exact zG hτ
 refine zE hτ ⟨[(1,.ptr 500000 0),(72,vB j22)],[(500000,.box (c_Piece x0))]⟩ (zI j22 (fun hb=>?_) fun hb=>?_)
 replace h:=iteT hb h
 refine z8 1 ⟨[(2,vI 1)],[]⟩ fun τ hτ=>?_
 refine th_ret ?_
 obtain rfl:=osi h
 exact zV hτ [(2,vI 1)]
 replace h:=iteF hb h
 refine z4 ⟨[(1,.ptr 500000 0)],[(500000,.box (c_Piece x0))]⟩ (zB (z3 1 ⟨[(1,.ptr 500000 0),(6,vI 0)],[(500000,.box (c_Piece x0))]⟩ ?_))
 refine zC ?_
 obtain ⟨x138,hx138,h⟩:=bindS h
 refine sem_loopS (fun (s101 : Int)=>⟨[(1,.ptr 500000 0),(6,vI s101)],[(500000,.box (c_Piece x0))]⟩) (fun (x138 : Unit ⊕ Unit)=>match x138 with | .inl j139=>(.ret,⟨[(2,vI 7)],[]⟩) | .inr j140=>(.exit 0,⟨[(1,.ptr 500000 0)],[(500000,.box (c_Piece x0))]⟩)) (sheetmetalref06_ValidatePiece_l1 x0) 0 x138 (by kernel_rfl) (here (by kernel_rfl)) hx138 ?_ ?_ ?_
 intro s101 r h
 refine zB (z7 (zA 3 ?_))
 refine evs_op (st_len (c:=c_Rect) (l:=x0.Rects) (x:=(s_Rect x0.Rects)) (by kernel_rfl) (by kernel_rfl)) (z1 1 ⟨[(1,.ptr 500000 0),(6,vI s101),(77,vB (decide (s101 < (x0.Rects.length : Int))))],[(500000,.box (c_Piece x0))]⟩ (zI (decide (s101 < (x0.Rects.length : Int))) (fun hb=>?_) fun hb=>?_))
 replace h:=iteT hb h
 refine z4 ⟨[(1,.ptr 500000 0),(6,vI s101)],[(500000,.box (c_Piece x0))]⟩ (zB (zC ?_))
 refine zB (sem_drawN [] [] [] [] [] 9 (by kernel_rfl) (by kernel_rfl) (by kernel_rfl) (evd_run 3 (by kernel_rfl) ?_))
 obtain ⟨x135,hx135,h⟩:=bindS h
 refine evd_val (by kernel_rfl) (st_idx (c:=c_Rect) (l:=x0.Rects) (i:=s101) (kd:=.i64) (sz:=4) (by kernel_rfl) hx135 rfl) (by kernel_rfl) (by kernel_rfl) (evd_run 4 (by kernel_rfl) ?_)
 obtain ⟨l136,hl136,h⟩:=bindS h
 refine evd_val (by kernel_rfl) (st_slH (c:=c_Rect) (l:=x0.Rects) (sz:=4) (hi:=s101) (k2:=.i64) (by kernel_rfl) hl136) (by kernel_rfl) (by kernel_rfl) (evd_end (by kernel_rfl) ?_)
 obtain ⟨r137,hr137,h⟩:=bindS h
 refine evo_callP [] (by kernel_rfl) (W.sheetmetalref06_Meets_ok hr137) (by kernel_rfl) (.inl rfl) (by kernel_rfl) (zO fun τ hτ=>?_)
 refine zE hτ ⟨[(1,.ptr 500000 0),(6,vI s101),(89,vB r137)],[(500000,.box (c_Piece x0))]⟩ (zI r137 (fun hb=>?_) fun hb=>?_)
 replace h:=iteT hb h
 refine z8 1 ⟨[(2,vI 7)],[]⟩ fun τ hτ=>?_
 refine bl_ret (th_ret ?_)
 obtain rfl:=osi h
 exact zF hτ
 replace h:=iteF hb h
 refine zM fun τ hτ=>?_
 refine bl_normal (zE hτ ⟨[(1,.ptr 500000 0),(6,vI s101)],[(500000,.box (c_Piece x0))]⟩ (zD ?_))
 refine z6 3 fun τ hτ=>?_
 obtain rfl:=osi h
 exact zH hτ
 replace h:=iteF hb h
 refine zL 0 fun τ hτ=>?_
 refine th_exit ?_
 obtain rfl:=osi h
 exact zF hτ
 intro x
 rcases x with _ | _ <;> rfl
 intro τ hτ
 rcases x138 with j139 | j140
 refine bl_ret (th_ret ?_)
 obtain rfl:=osi h
 exact zV hτ [(2,vI 7)]
 refine zQ (zE hτ ⟨[(1,.ptr 500000 0)],[(500000,.box (c_Piece x0))]⟩ (zB ?_))
 refine z7 (zA 2 ?_)
 obtain ⟨r144,hr144,h⟩:=bindS h
 refine evs_callP [] (by kernel_rfl) (W.sheetmetalref06_connected_ok hr144) (by kernel_rfl) (.inl rfl) (by kernel_rfl) (z1 1 ⟨[(1,.ptr 500000 0),(93,vB (!r144))],[(500000,.box (c_Piece x0))]⟩ (zI (!r144) (fun hb=>?_) fun hb=>?_))
 replace h:=iteT hb h
 refine z8 1 ⟨[(2,vI 6)],[]⟩ fun τ hτ=>?_
 refine th_ret ?_
 obtain rfl:=osi h
 exact zV hτ [(2,vI 6)]
 replace h:=iteF hb h
 refine z4 ⟨[(1,.ptr 500000 0)],[(500000,.box (c_Piece x0))]⟩ (zB (sem_draw [(0,[94]),(3,[94,600003])] [(0,[94]),(3,[600003])] [] [(1,[94]),(2,[94]),(4,[94,600003]),(5,[94,600003])] [(0,[600003]),(1,[94,600003]),(2,[94,600003]),(4,[94,600003]),(5,[94,600003])] 6 (by kernel_rfl) (by kernel_rfl) [600003,94] (by kernel_rfl) (by kernel_rfl) ?_))
 refine evd_build (e:=98) (d:=94) (es:=(List.map c_Rect [])) (by kernel_rfl) (by kernel_rfl) (by kernel_rfl) (by kernel_rfl) (by kernel_rfl) (by kernel_rfl) (evd_run 2 (by kernel_rfl) ?_)
 obtain ⟨l149,hl149,h⟩:=bindS h
 refine evd_app (c:=c_Rect) (l:=[]) (l2:=x0.Cuts) (x:=(s_Rect x0.Cuts)) (g:=94) (g2:=600003) (e:=98) (sz:=4) (d:=97) (by kernel_rfl) (by kernel_rfl) (by kernel_rfl) (by kernel_rfl) (by kernel_rfl) (fun _=>rfl) hl149 (by kernel_rfl) (by kernel_rfl) (by kernel_rfl) (by kernel_rfl) (by kernel_rfl) (evd_run 2 (by kernel_rfl) (evd_end (by kernel_rfl) ?_))
 obtain ⟨l150,hl150,h⟩:=bindS h
 refine evo_op (st_app (c:=c_Rect) (l:=l149) (l2:=x0.Forms) (x:=(s_Rect x0.Forms)) (g:=600003) (e:=98) (sz:=4) (d:=100) (by kernel_rfl) (by kernel_rfl) (by kernel_rfl) (by kernel_rfl) (fun _=>rfl) rfl hl150) (evo_run 1 (by kernel_rfl) (zO fun τ hτ=>?_))
 refine zE hτ ⟨[(1,.ptr 500000 0),(7,ro 600003 98)],[(500000,.box (c_Piece x0)),(600003,w_Rect 98 l150)]⟩ (zB (z3 1 ⟨[(1,.ptr 500000 0),(7,ro 600003 98),(8,vI 0)],[(500000,.box (c_Piece x0)),(600003,w_Rect 98 l150)]⟩ ?_))
 refine zC ?_
 obtain ⟨x314,hx314,h⟩:=bindS h
 refine sem_loopS (fun (s261 : Int)=>⟨[(1,.ptr 500000 0),(7,ro 500001 98),(8,vI s261)],[(500000,.box (c_Piece x0)),(500001,w_Rect 98 l150)]⟩) (fun (x314 : Unit ⊕ Unit)=>match x314 with | .inl j315=>(.ret,⟨[(2,vI 13)],[]⟩) | .inr j316=>(.exit 2,⟨[(7,ro 500000 98)],[(500000,w_Rect 98 l150)]⟩)) (sheetmetalref06_ValidatePiece_l2 x0 l150) 0 x314 (by kernel_rfl) (subR_prep [] [(500000,500000),(600003,500001)] (by kernel_rfl) rfl rfl (by kernel_rfl)) hx314 ?_ ?_ ?_
 intro s261 r h
 refine zB (z7 (zA 2 ?_))
 refine evs_op (st_len (c:=c_Rect) (l:=l150) (x:=(ro 500001 98)) (by kernel_rfl) (by kernel_rfl)) (z1 1 ⟨[(1,.ptr 500000 0),(7,ro 500001 98),(8,vI s261),(104,vB (decide (s261 < (l150.length : Int))))],[(500000,.box (c_Piece x0)),(500001,w_Rect 98 l150)]⟩ (zI (decide (s261 < (l150.length : Int))) (fun hb=>?_) fun hb=>?_))
 replace h:=iteT hb h
 refine z4 ⟨[(1,.ptr 500000 0),(7,ro 500001 98),(8,vI s261)],[(500000,.box (c_Piece x0)),(500001,w_Rect 98 l150)]⟩ (zB (zC ?_))
 refine zB ?_
 obtain ⟨j309,hj309,h⟩:=bindS h
 refine sem_drawP ⟨[(1,.ptr 500000 0),(7,ro 500001 98),(8,vI s261),(137,vB j309)],[(500000,.box (c_Piece x0)),(500001,w_Rect 98 l150)]⟩ [] [] [] [] [] 24 (by kernel_rfl) (by kernel_rfl) (by kernel_rfl) ?_ fun τ hτ=>?_
 replace h:=hj309
 refine evd_run 2 (by kernel_rfl) ?_
 obtain ⟨x310,hx310,h⟩:=bindS h
 refine evd_val (by kernel_rfl) (st_idxO (c:=c_Rect) (l:=l150) (i:=s261) (kd:=.i64) (kk:=(.top 500001)) (e:=98) (sz:=4) (by kernel_rfl) (by kernel_rfl) hx310 rfl) (by kernel_rfl) (by kernel_rfl) (evd_val (by kernel_rfl) (st_ldO (c:=c_Rect) (l:=l150) (i:=(Int.toNat s261)) (v:=(.agg (c_Rect x310))) (agg:=true) (sz:=4) (kk:=(.top 500001)) (e:=98) (off:=0) (J:=[]) (by kernel_rfl) (by kernel_rfl) (by kernel_rfl) ((idxS hx310).2) (by kernel_rfl)) (by kernel_rfl) (by kernel_rfl) (evd_run 2 (by kernel_rfl) ?_))
 obtain ⟨r311,hr311,h⟩:=bindS h
 refine evd_callS [] [] (by kernel_rfl) (by kernel_rfl) (W.sheetmetalref06_deep_ok hr311) (by kernel_rfl) (.inl rfl) (by kernel_rfl) (by kernel_rfl) (evd_run 2 (by kernel_rfl) (evd_split r311 (fun b0=>⟨[(115,vB (!b0)),(114,vB (!b0)),(113,vB b0),(112,s_Rect x0.Rects),(111,.ptr 500000 4),(110,.agg (c_Rect x310)),(109,.rptr (.top 500001) 98 (Int.toNat s261) 0),(108,vI s261),(107,ro 500001 98),(1,.ptr 500000 0),(7,ro 500001 98),(8,vI s261)],[(500000,.box (c_Piece x0)),(500001,w_Rect 98 l150)]⟩) (by kernel_rfl) (fun hb=>?_) fun hb=>?_))
 replace h:=iteT hb h
 refine evd_run 3 (by kernel_rfl) (evd_val (by kernel_rfl) (st_len (c:=c_Rect) (l:=x0.Cuts) (x:=(s_Rect x0.Cuts)) (by kernel_rfl) (by kernel_rfl)) (by kernel_rfl) (by kernel_rfl) (evd_run 2 (by kernel_rfl) ?_))
 refine evd_split (decide (s261 < (x0.Cuts.length : Int))) (fun b0=>⟨[(121,vB b0),(120,vB b0),(119,vI (x0.Cuts.length : Int)),(118,s_Rect x0.Cuts),(117,.ptr 500000 5),(116,vI s261),(115,vB false),(114,vB false),(113,vB true),(112,s_Rect x0.Rects),(111,.ptr 500000 4),(110,.agg (c_Rect x310)),(109,.rptr (.top 500001) 98 (Int.toNat s261) 0),(108,vI s261),(107,ro 500001 98),(1,.ptr 500000 0),(7,ro 500001 98),(8,vI s261)],[(500000,.box (c_Piece x0)),(500001,w_Rect 98 l150)]⟩) (by kernel_rfl) (fun hb=>?_) fun hb=>?_
 replace h:=iteT hb h
 refine evd_run 2 (by kernel_rfl) ?_
 obtain ⟨x312,hx312,h⟩:=bindS h
 refine evd_val (by kernel_rfl) (st_idxO (c:=c_Rect) (l:=l150) (i:=s261) (kd:=.i64) (kk:=(.top 500001)) (e:=98) (sz:=4) (by kernel_rfl) (by kernel_rfl) hx312 rfl) (by kernel_rfl) (by kernel_rfl) (evd_run 1 (by kernel_rfl) (evd_val (by kernel_rfl) (st_ldO (c:=c_Rect) (l:=l150) (i:=(Int.toNat s261)) (v:=(vI x312.W)) (agg:=false) (sz:=1) (kk:=(.top 500001)) (e:=98) (off:=2) (J:=[]) (by kernel_rfl) (by kernel_rfl) (by kernel_rfl) ((idxS hx312).2) (by kernel_rfl)) (by kernel_rfl) (by kernel_rfl) ?_))
 refine evd_run 2 (by kernel_rfl) (evd_split (x312.W == 1) (fun b0=>⟨[(128,vB b0),(127,vB b0),(126,vI x312.W),(125,.rptr (.top 500001) 98 (Int.toNat s261) 2),(124,.rptr (.top 500001) 98 (Int.toNat s261) 0),(123,vI s261),(122,ro 500001 98),(121,vB true),(120,vB true),(119,vI (x0.Cuts.length : Int)),(118,s_Rect x0.Cuts),(117,.ptr 500000 5),(116,vI s261),(115,vB false),(114,vB false),(113,vB true),(112,s_Rect x0.Rects),(111,.ptr 500000 4),(110,.agg (c_Rect x310)),(109,.rptr (.top 500001) 98 (Int.toNat s261) 0),(108,vI s261),(107,ro 500001 98),(1,.ptr 500000 0),(7,ro 500001 98),(8,vI s261)],[(500000,.box (c_Piece x0)),(500001,w_Rect 98 l150)]⟩) (by kernel_rfl) (fun hb=>?_) fun hb=>?_)
 replace h:=iteT hb h
 refine evd_run 2 (by kernel_rfl) (evd_end (by kernel_rfl) (evo_run 7 (by kernel_rfl) ?_))
 refine zO fun τ hτ=>?_
 obtain rfl:=osi h
 exact zG hτ
 replace h:=iteF hb h
 refine evd_run 2 (by kernel_rfl) (evd_end (by kernel_rfl) ?_)
 obtain ⟨x313,hx313,h⟩:=bindS h
 refine evo_op (st_idxO (c:=c_Rect) (l:=l150) (i:=s261) (kd:=.i64) (kk:=(.top 500001)) (e:=98) (sz:=4) (by kernel_rfl) (by kernel_rfl) hx313 rfl) (evo_run 1 (by kernel_rfl) (evo_op (st_ldO (c:=c_Rect) (l:=l150) (i:=(Int.toNat s261)) (v:=(vI x313.H)) (agg:=false) (sz:=1) (kk:=(.top 500001)) (e:=98) (off:=3) (J:=[]) (by kernel_rfl) (by kernel_rfl) (by kernel_rfl) ((idxS hx313).2) (by kernel_rfl)) ?_))
 refine evo_run 4 (by kernel_rfl) (zO fun τ hτ=>?_)
 obtain rfl:=osi h
 exact zG hτ
 replace h:=iteF hb h
 refine evd_run 9 (by kernel_rfl) (evd_end (by kernel_rfl) (evo_run 7 (by kernel_rfl) ?_))
 refine zO fun τ hτ=>?_
 obtain rfl:=osi h
 exact zG hτ
 replace h:=iteF hb h
 refine evd_run 15 (by kernel_rfl) (evd_end (by kernel_rfl) (evo_run 7 (by kernel_rfl) ?_))
 refine zO fun τ hτ=>?_
 obtain rfl:=osi h
 exact zG hτ
 refine zE hτ ⟨[(1,.ptr 500000 0),(7,ro 500001 98),(8,vI s261),(137,vB j309)],[(500000,.box (c_Piece x0)),(500001,w_Rect 98 l150)]⟩ (zI j309 (fun hb=>?_) fun hb=>?_)
 replace h:=iteT hb h
 refine z8 1 ⟨[(2,vI 13)],[]⟩ fun τ hτ=>?_
 refine bl_ret (th_ret ?_)
 obtain rfl:=osi h
 exact zF hτ
 replace h:=iteF hb h
 refine zM fun τ hτ=>?_
 refine bl_normal (zE hτ ⟨[(1,.ptr 500000 0),(7,ro 500001 98),(8,vI s261)],[(500000,.box (c_Piece x0)),(500001,w_Rect 98 l150)]⟩ (zD ?_))
 refine z6 3 fun τ hτ=>?_
 obtain rfl:=osi h
 exact zH hτ
 replace h:=iteF hb h
 refine zL 2 fun τ hτ=>?_
 refine th_exit ?_
 obtain rfl:=osi h
 exact lk_outS hτ rfl (subR_prep [] [(500001,500000)] (by kernel_rfl) rfl rfl (by kernel_rfl))
 intro x
 rcases x with _ | _ <;> rfl
 intro τ hτ
 rcases x314 with j315 | j316
 refine bl_ret (th_ret ?_)
 obtain rfl:=osi h
 exact zV hτ [(2,vI 13)]
 refine zQ (zE hτ ⟨[(7,ro 500000 98)],[(500000,w_Rect 98 l150)]⟩ (zB ?_))
 refine z3 1 ⟨[(7,ro 500000 98),(9,vI 0)],[(500000,w_Rect 98 l150)]⟩ (zC ?_)
 obtain ⟨x804,hx804,h⟩:=bindS h
 refine sem_loopS (fun (s567 : Int)=>⟨[(7,ro 500000 98),(9,vI s567)],[(500000,w_Rect 98 l150)]⟩) (fun (x804 : Unit ⊕ Unit)=>match x804 with | .inl j805=>(.ret,⟨[(2,vI 7)],[]⟩) | .inr j806=>(.exit 4,⟨[],[]⟩)) (sheetmetalref06_ValidatePiece_l4 l150) 0 x804 (by kernel_rfl) (here (by kernel_rfl)) hx804 ?_ ?_ ?_
 intro s567 r h
 refine zB (z7 (zA 2 ?_))
 refine evs_op (st_len (c:=c_Rect) (l:=l150) (x:=(ro 500000 98)) (by kernel_rfl) (by kernel_rfl)) (z1 1 ⟨[(7,ro 500000 98),(9,vI s567),(141,vB (decide (s567 < (l150.length : Int))))],[(500000,w_Rect 98 l150)]⟩ (zI (decide (s567 < (l150.length : Int))) (fun hb=>?_) fun hb=>?_))
 replace h:=iteT hb h
 refine z4 ⟨[(7,ro 500000 98),(9,vI s567)],[(500000,w_Rect 98 l150)]⟩ (zB (zC ?_))
 refine z3 1 ⟨[(7,ro 500000 98),(9,vI s567),(10,vI 0)],[(500000,w_Rect 98 l150)]⟩ (zC ?_)
 obtain ⟨x801,hx801,h⟩:=bindS h
 refine sem_loopS (fun (s764 : Int)=>⟨[(7,ro 500000 98),(9,vI s567),(10,vI s764)],[(500000,w_Rect 98 l150)]⟩) (fun (x801 : Unit ⊕ Unit)=>match x801 with | .inl j802=>(.ret,⟨[(2,vI 7)],[]⟩) | .inr j803=>(.exit 6,⟨[(7,ro 500000 98),(9,vI s567)],[(500000,w_Rect 98 l150)]⟩)) (sheetmetalref06_ValidatePiece_l3 l150 s567) 0 x801 (by kernel_rfl) (here (by kernel_rfl)) hx801 ?_ ?_ ?_
 intro s764 r h
 refine zB (z3 3 ⟨[(7,ro 500000 98),(9,vI s567),(10,vI s764),(146,vB (decide (s764 < s567)))],[(500000,w_Rect 98 l150)]⟩ (zI (decide (s764 < s567)) (fun hb=>?_) fun hb=>?_))
 replace h:=iteT hb h
 refine z4 ⟨[(7,ro 500000 98),(9,vI s567),(10,vI s764)],[(500000,w_Rect 98 l150)]⟩ (zB (zC ?_))
 refine zB (sem_drawN [] [] [] [] [] 8 (by kernel_rfl) (by kernel_rfl) (by kernel_rfl) (evd_run 2 (by kernel_rfl) ?_))
 obtain ⟨x798,hx798,h⟩:=bindS h
 refine evd_val (by kernel_rfl) (st_idxO (c:=c_Rect) (l:=l150) (i:=s567) (kd:=.i64) (kk:=(.top 500000)) (e:=98) (sz:=4) (by kernel_rfl) (by kernel_rfl) hx798 rfl) (by kernel_rfl) (by kernel_rfl) (evd_val (by kernel_rfl) (st_ldO (c:=c_Rect) (l:=l150) (i:=(Int.toNat s567)) (v:=(.agg (c_Rect x798))) (agg:=true) (sz:=4) (kk:=(.top 500000)) (e:=98) (off:=0) (J:=[]) (by kernel_rfl) (by kernel_rfl) (by kernel_rfl) ((idxS hx798).2) (by kernel_rfl)) (by kernel_rfl) (by kernel_rfl) (evd_run 2 (by kernel_rfl) ?_))
 obtain ⟨x799,hx799,h⟩:=bindS h
 refine evd_val (by kernel_rfl) (st_idxO (c:=c_Rect) (l:=l150) (i:=s764) (kd:=.i64) (kk:=(.top 500000)) (e:=98) (sz:=4) (by kernel_rfl) (by kernel_rfl) hx799 rfl) (by kernel_rfl) (by kernel_rfl) (evd_val (by kernel_rfl) (st_ldO (c:=c_Rect) (l:=l150) (i:=(Int.toNat s764)) (v:=(.agg (c_Rect x799))) (agg:=true) (sz:=4) (kk:=(.top 500000)) (e:=98) (off:=0) (J:=[]) (by kernel_rfl) (by kernel_rfl) (by kernel_rfl) ((idxS hx799).2) (by kernel_rfl)) (by kernel_rfl) (by kernel_rfl) (evd_end (by kernel_rfl) ?_))
 obtain ⟨r800,hr800,h⟩:=bindS h
 refine evo_callP [] (by kernel_rfl) (W.sheetmetalref06_Apart_ok hr800) (by kernel_rfl) (.inl rfl) (by kernel_rfl) (evo_run 1 (by kernel_rfl) (zO fun τ hτ=>?_))
 refine zE hτ ⟨[(7,ro 500000 98),(9,vI s567),(10,vI s764),(158,vB (r800 == 0))],[(500000,w_Rect 98 l150)]⟩ (zI (r800 == 0) (fun hb=>?_) fun hb=>?_)
 replace h:=iteT hb h
 refine z8 1 ⟨[(2,vI 7)],[]⟩ fun τ hτ=>?_
 refine bl_ret (th_ret ?_)
 obtain rfl:=osi h
 exact zF hτ
 replace h:=iteF hb h
 refine zM fun τ hτ=>?_
 refine bl_normal (zE hτ ⟨[(7,ro 500000 98),(9,vI s567),(10,vI s764)],[(500000,w_Rect 98 l150)]⟩ (zD ?_))
 refine z6 3 fun τ hτ=>?_
 obtain rfl:=osi h
 exact zH hτ
 replace h:=iteF hb h
 refine zL 6 fun τ hτ=>?_
 refine th_exit ?_
 obtain rfl:=osi h
 exact zF hτ
 intro x
 rcases x with _ | _ <;> rfl
 intro τ hτ
 rcases x801 with j802 | j803
 refine bl_ret (bl_ret (th_ret ?_))
 obtain rfl:=osi h
 exact zF hτ
 refine zQ (bl_normal (zE hτ ⟨[(7,ro 500000 98),(9,vI s567)],[(500000,w_Rect 98 l150)]⟩ ?_))
 refine zD (z6 3 fun τ hτ=>?_)
 obtain rfl:=osi h
 exact zH hτ
 replace h:=iteF hb h
 refine zL 4 fun τ hτ=>?_
 refine th_exit ?_
 obtain rfl:=osi h
 exact zF hτ
 intro x
 rcases x with _ | _ <;> rfl
 intro τ hτ
 rcases x804 with j805 | j806
 refine bl_ret (th_ret ?_)
 obtain rfl:=osi h
 exact zV hτ [(2,vI 7)]
 refine zQ (zE hτ ⟨[],[]⟩ (z8 1 ⟨[(2,vI 0)],[]⟩ fun τ hτ=>?_))
 obtain rfl:=osi h
 exact zV hτ [(2,vI 0)]
theorem W.sheetmetalref07_Validate_ok {l : LayoutT} {r : Int} (h : sheetmetalref07_Validate l = some r) : PC G.P 12 [(.agg (c_LayoutT l))] [] (vI r) []:=by
 refine zU G Tryz.func12 (zK ⟨[(0,.agg (c_LayoutT l))],[]⟩ (z3 2 ⟨[(1,.ptr 1 0)],[(1,.box (c_LayoutT l))]⟩ ?_))
 refine z7 (zA 2 ?_)
 obtain ⟨r2,hr2,h⟩:=bindS h
 refine evs_callP [] (by kernel_rfl) (W.sheetmetalref06_ValidateSheet_ok hr2) (by kernel_rfl) (.inl rfl) (by kernel_rfl) (z1 1 ⟨[(1,.ptr 1 0),(3,vI r2)],[(1,.box (c_LayoutT l))]⟩ (zB ?_))
 refine z3 2 ⟨[(1,.ptr 1 0),(3,vI r2),(18,vB (r2 != 0))],[(1,.box (c_LayoutT l))]⟩ (zI (r2 != 0) (fun hb=>?_) fun hb=>?_)
 replace h:=iteT hb h
 refine z8 2 ⟨[(2,vI r2)],[]⟩ fun τ hτ=>?_
 refine th_ret ?_
 obtain rfl:=osi h
 exact zV hτ [(2,vI r2)]
 replace h:=iteF hb h
 refine z4 ⟨[(1,.ptr 1 0)],[(1,.box (c_LayoutT l))]⟩ (zB (z7 ?_))
 refine zA 2 (evs_op (st_len (c:=c_Piece) (l:=l.Pieces) (x:=(s_Piece l.Pieces)) (by kernel_rfl) (by kernel_rfl)) (z1 1 ⟨[(1,.ptr 1 0),(23,vB (decide ((l.Pieces.length : Int) > 8)))],[(1,.box (c_LayoutT l))]⟩ ?_))
 refine zI (decide ((l.Pieces.length : Int) > 8)) (fun hb=>?_) fun hb=>?_
 replace h:=iteT hb h
 refine z8 1 ⟨[(2,vI 4)],[]⟩ fun τ hτ=>?_
 refine th_ret ?_
 obtain rfl:=osi h
 exact zV hτ [(2,vI 4)]
 replace h:=iteF hb h
 refine z4 ⟨[(1,.ptr 1 0)],[(1,.box (c_LayoutT l))]⟩ (zB (z3 1 ⟨[(1,.ptr 1 0),(4,vI 0)],[(1,.box (c_LayoutT l))]⟩ ?_))
 refine zC ?_
 obtain ⟨x82,hx82,h⟩:=bindS h
 refine sem_loopS (fun (s57 : Int)=>⟨[(1,.ptr 500000 0),(4,vI s57)],[(500000,.box (c_LayoutT l))]⟩) (fun (x82 : Int ⊕ Unit)=>match x82 with | .inl j83=>(.ret,⟨[(2,vI j83)],[]⟩) | .inr j84=>(.exit 0,⟨[(1,.ptr 500000 0)],[(500000,.box (c_LayoutT l))]⟩)) (sheetmetalref07_Validate_l1 l) 0 x82 (by kernel_rfl) (subR_prep [] [(1,500000)] (by kernel_rfl) rfl rfl (by kernel_rfl)) hx82 ?_ ?_ ?_
 intro s57 r h
 refine zB (z7 (zA 3 ?_))
 refine evs_op (st_len (c:=c_Piece) (l:=l.Pieces) (x:=(s_Piece l.Pieces)) (by kernel_rfl) (by kernel_rfl)) (z1 1 ⟨[(1,.ptr 500000 0),(4,vI s57),(28,vB (decide (s57 < (l.Pieces.length : Int))))],[(500000,.box (c_LayoutT l))]⟩ (zI (decide (s57 < (l.Pieces.length : Int))) (fun hb=>?_) fun hb=>?_))
 replace h:=iteT hb h
 refine z4 ⟨[(1,.ptr 500000 0),(4,vI s57)],[(500000,.box (c_LayoutT l))]⟩ (zB (zC ?_))
 refine z7 (zA 3 ?_)
 obtain ⟨x78,hx78,h⟩:=bindS h
 refine evs_op (st_idx (c:=c_Piece) (l:=l.Pieces) (i:=s57) (kd:=.i64) (sz:=7) (by kernel_rfl) hx78 rfl) (zA 1 ?_)
 obtain ⟨r79,hr79,h⟩:=bindS h
 refine evs_callS [] [(0,700250)] [] (by kernel_rfl) (W.sheetmetalref07_base_ok hr79) (by kernel_rfl) (by kernel_rfl) (.inl rfl) (z1 6 ⟨[(1,.ptr 500000 0),(4,vI s57),(5,.ptr 5 0),(6,vB r79.2.1)],[(5,.box (c_Piece r79.1)),(500000,.box (c_LayoutT l))]⟩ (zB ?_))
 refine z3 2 ⟨[(1,.ptr 500000 0),(4,vI s57),(5,.ptr 5 0),(41,vB (!r79.2.1))],[(5,.box (c_Piece r79.1)),(500000,.box (c_LayoutT l))]⟩ (zI (!r79.2.1) (fun hb=>?_) fun hb=>?_)
 replace h:=iteT hb h
 refine z8 1 ⟨[(2,vI 1)],[]⟩ fun τ hτ=>?_
 refine th_ret (bl_ret (th_ret ?_))
 obtain rfl:=osi h
 exact zF hτ
 replace h:=iteF hb h
 refine z4 ⟨[(1,.ptr 500000 0),(4,vI s57),(5,.ptr 5 0)],[(5,.box (c_Piece r79.1)),(500000,.box (c_LayoutT l))]⟩ (z7 (zA 1 ?_))
 obtain ⟨r81,hr81,h⟩:=bindS h
 refine evs_callP [] (by kernel_rfl) (W.sheetmetalref06_ValidatePiece_ok hr81) (by kernel_rfl) (.inl rfl) (by kernel_rfl) (z1 1 ⟨[(1,.ptr 500000 0),(3,vI r81),(4,vI s57)],[(500000,.box (c_LayoutT l))]⟩ (z3 2 ⟨[(1,.ptr 500000 0),(3,vI r81),(4,vI s57),(45,vB (r81 != 0))],[(500000,.box (c_LayoutT l))]⟩ ?_))
 refine zI (r81 != 0) (fun hb=>?_) fun hb=>?_
 replace h:=iteT hb h
 refine z8 2 ⟨[(2,vI r81)],[]⟩ fun τ hτ=>?_
 refine bl_ret (th_ret ?_)
 obtain rfl:=osi h
 exact zF hτ
 replace h:=iteF hb h
 refine zM fun τ hτ=>?_
 refine bl_normal (zE hτ ⟨[(1,.ptr 500000 0),(4,vI s57)],[(500000,.box (c_LayoutT l))]⟩ (zD ?_))
 refine z6 3 fun τ hτ=>?_
 obtain rfl:=osi h
 exact zH hτ
 replace h:=iteF hb h
 refine zL 0 fun τ hτ=>?_
 refine th_exit ?_
 obtain rfl:=osi h
 exact zF hτ
 intro x
 rcases x with _ | _ <;> rfl
 intro τ hτ
 rcases x82 with j83 | j84
 refine bl_ret (th_ret ?_)
 obtain rfl:=osi h
 exact zV hτ [(2,vI j83)]
 refine zQ (zE hτ ⟨[(1,.ptr 500000 0)],[(500000,.box (c_LayoutT l))]⟩ (z3 9 ⟨[(1,.ptr 500000 0),(7,.ptr 7 0)],[(7,.box [(vI 0),(vI 0),(vI l.Sheet.Width),(vI l.Sheet.Height)]),(500000,.box (c_LayoutT l))]⟩ ?_))
 refine zB (z3 1 ⟨[(1,.ptr 500000 0),(7,.ptr 7 0),(8,vI 0)],[(7,.box [(vI 0),(vI 0),(vI l.Sheet.Width),(vI l.Sheet.Height)]),(500000,.box (c_LayoutT l))]⟩ (zC ?_))
 obtain ⟨x1544,hx1544,h⟩:=bindS h
 refine sem_loopS (fun (s1059 : Int)=>⟨[(1,.ptr 500000 0),(7,.ptr 500001 0),(8,vI s1059)],[(500000,.box (c_LayoutT l)),(500001,.box [(vI 0),(vI 0),(vI l.Sheet.Width),(vI l.Sheet.Height)])]⟩) (fun (x1544 : Unit ⊕ Unit)=>match x1544 with | .inl j1545=>(.ret,⟨[(2,vI 13)],[]⟩) | .inr j1546=>(.exit 2,⟨[(1,.ptr 500000 0)],[(500000,.box (c_LayoutT l))]⟩)) (sheetmetalref07_Validate_l3 l) 0 x1544 (by kernel_rfl) (subR_prep [] [(7,500001),(500000,500000)] (by kernel_rfl) rfl rfl (by kernel_rfl)) hx1544 ?_ ?_ ?_
 intro s1059 r h
 refine zB (z7 (zA 3 ?_))
 refine evs_op (st_len (c:=c_Piece) (l:=l.Pieces) (x:=(s_Piece l.Pieces)) (by kernel_rfl) (by kernel_rfl)) (z1 1 ⟨[(1,.ptr 500000 0),(7,.ptr 500001 0),(8,vI s1059),(58,vB (decide (s1059 < (l.Pieces.length : Int))))],[(500000,.box (c_LayoutT l)),(500001,.box [(vI 0),(vI 0),(vI l.Sheet.Width),(vI l.Sheet.Height)])]⟩ (zI (decide (s1059 < (l.Pieces.length : Int))) (fun hb=>?_) fun hb=>?_))
 replace h:=iteT hb h
 refine z4 ⟨[(1,.ptr 500000 0),(7,.ptr 500001 0),(8,vI s1059)],[(500000,.box (c_LayoutT l)),(500001,.box [(vI 0),(vI 0),(vI l.Sheet.Width),(vI l.Sheet.Height)])]⟩ (zB (zC ?_))
 refine z7 (zA 3 ?_)
 obtain ⟨x1424,hx1424,h⟩:=bindS h
 refine evs_op (st_idx (c:=c_Piece) (l:=l.Pieces) (i:=s1059) (kd:=.i64) (sz:=7) (by kernel_rfl) hx1424 rfl) (z1 3 ⟨[(1,.ptr 500000 0),(7,.ptr 500001 0),(8,vI s1059),(9,s_Rect x1424.Rects)],[(500000,.box (c_LayoutT l)),(500001,.box [(vI 0),(vI 0),(vI l.Sheet.Width),(vI l.Sheet.Height)])]⟩ (z3 1 ⟨[(1,.ptr 500000 0),(7,.ptr 500001 0),(8,vI s1059),(9,s_Rect x1424.Rects),(10,vI 0)],[(500000,.box (c_LayoutT l)),(500001,.box [(vI 0),(vI 0),(vI l.Sheet.Width),(vI l.Sheet.Height)])]⟩ ?_))
 refine zC ?_
 obtain ⟨x1541,hx1541,h⟩:=bindS h
 refine sem_loopS (fun (s1464 : Int)=>⟨[(1,.ptr 500000 0),(7,.ptr 500001 0),(8,vI s1059),(9,s_Rect x1424.Rects),(10,vI s1464)],[(500000,.box (c_LayoutT l)),(500001,.box [(vI 0),(vI 0),(vI l.Sheet.Width),(vI l.Sheet.Height)])]⟩) (fun (x1541 : Unit ⊕ Unit)=>match x1541 with | .inl j1542=>(.ret,⟨[(2,vI 13)],[]⟩) | .inr j1543=>(.exit 4,⟨[(1,.ptr 500000 0),(7,.ptr 500001 0),(8,vI s1059)],[(500000,.box (c_LayoutT l)),(500001,.box [(vI 0),(vI 0),(vI l.Sheet.Width),(vI l.Sheet.Height)])]⟩)) (sheetmetalref07_Validate_l2 l x1424) 0 x1541 (by kernel_rfl) (here (by kernel_rfl)) hx1541 ?_ ?_ ?_
 intro s1464 r h
 refine zB (z7 (zA 2 ?_))
 refine evs_op (st_len (c:=c_Rect) (l:=x1424.Rects) (x:=(s_Rect x1424.Rects)) (by kernel_rfl) (by kernel_rfl)) (z1 1 ⟨[(1,.ptr 500000 0),(7,.ptr 500001 0),(8,vI s1059),(9,s_Rect x1424.Rects),(10,vI s1464),(70,vB (decide (s1464 < (x1424.Rects.length : Int))))],[(500000,.box (c_LayoutT l)),(500001,.box [(vI 0),(vI 0),(vI l.Sheet.Width),(vI l.Sheet.Height)])]⟩ (zI (decide (s1464 < (x1424.Rects.length : Int))) (fun hb=>?_) fun hb=>?_))
 replace h:=iteT hb h
 refine z4 ⟨[(1,.ptr 500000 0),(7,.ptr 500001 0),(8,vI s1059),(9,s_Rect x1424.Rects),(10,vI s1464)],[(500000,.box (c_LayoutT l)),(500001,.box [(vI 0),(vI 0),(vI l.Sheet.Width),(vI l.Sheet.Height)])]⟩ (zB (zC ?_))
 refine zB ?_
 obtain ⟨j1534,hj1534,h⟩:=bindS h
 refine sem_drawP ⟨[(1,.ptr 500000 0),(7,.ptr 500001 0),(8,vI s1059),(9,s_Rect x1424.Rects),(10,vI s1464),(99,vB j1534)],[(500000,.box (c_LayoutT l)),(500001,.box [(vI 0),(vI 0),(vI l.Sheet.Width),(vI l.Sheet.Height)])]⟩ [] [] [] [] [] 25 (by kernel_rfl) (by kernel_rfl) (by kernel_rfl) ?_ fun τ hτ=>?_
 replace h:=hj1534
 refine evd_run 2 (by kernel_rfl) ?_
 obtain ⟨x1535,hx1535,h⟩:=bindS h
 refine evd_val (by kernel_rfl) (st_idx (c:=c_Rect) (l:=x1424.Rects) (i:=s1464) (kd:=.i64) (sz:=4) (by kernel_rfl) hx1535 rfl) (by kernel_rfl) (by kernel_rfl) (evd_run 2 (by kernel_rfl) ?_)
 obtain ⟨r1536,hr1536,h⟩:=bindS h
 refine evd_callS [] [] (by kernel_rfl) (by kernel_rfl) (W.sheetmetalref06_Within_ok hr1536) (by kernel_rfl) (.inl rfl) (by kernel_rfl) (by kernel_rfl) (evd_run 2 (by kernel_rfl) (evd_split r1536 (fun b0=>⟨[(80,vB (!b0)),(79,vB (!b0)),(78,vB b0),(77,.agg [(vI 0),(vI 0),(vI l.Sheet.Width),(vI l.Sheet.Height)]),(76,.agg (c_Rect x1535)),(75,.vptr (c_Rect x1535) 0),(74,vI s1464),(73,s_Rect x1424.Rects),(1,.ptr 500000 0),(7,.ptr 500001 0),(8,vI s1059),(9,s_Rect x1424.Rects),(10,vI s1464)],[(500000,.box (c_LayoutT l)),(500001,.box [(vI 0),(vI 0),(vI l.Sheet.Width),(vI l.Sheet.Height)])]⟩) (by kernel_rfl) (fun hb=>?_) fun hb=>?_))
 replace h:=iteT hb h
 refine evd_run 2 (by kernel_rfl) ?_
 obtain ⟨x1537,hx1537,h⟩:=bindS h
 refine evd_val (by kernel_rfl) (st_idx (c:=c_Rect) (l:=x1424.Rects) (i:=s1464) (kd:=.i64) (sz:=4) (by kernel_rfl) hx1537 rfl) (by kernel_rfl) (by kernel_rfl) (evd_run 4 (by kernel_rfl) ?_)
 obtain ⟨r1538,hr1538,h⟩:=bindS h
 refine evd_callS [] [] (by kernel_rfl) (by kernel_rfl) (W.sheetmetalref06_Meets_ok hr1538) (by kernel_rfl) (.inl rfl) (by kernel_rfl) (by kernel_rfl) (evd_run 2 (by kernel_rfl) (evd_split r1538 (fun b0=>⟨[(90,vB b0),(89,vB b0),(88,vB b0),(87,s_Rect l.Sheet.Clamps),(86,.ptr 500000 6),(85,.ptr 500000 0),(84,.agg (c_Rect x1537)),(83,.vptr (c_Rect x1537) 0),(82,vI s1464),(81,s_Rect x1424.Rects),(80,vB false),(79,vB false),(78,vB true),(77,.agg [(vI 0),(vI 0),(vI l.Sheet.Width),(vI l.Sheet.Height)]),(76,.agg (c_Rect x1535)),(75,.vptr (c_Rect x1535) 0),(74,vI s1464),(73,s_Rect x1424.Rects),(1,.ptr 500000 0),(7,.ptr 500001 0),(8,vI s1059),(9,s_Rect x1424.Rects),(10,vI s1464)],[(500000,.box (c_LayoutT l)),(500001,.box [(vI 0),(vI 0),(vI l.Sheet.Width),(vI l.Sheet.Height)])]⟩) (by kernel_rfl) (fun hb=>?_) fun hb=>?_))
 replace h:=iteT hb h
 refine evd_run 7 (by kernel_rfl) (evd_end (by kernel_rfl) (evo_run 2 (by kernel_rfl) ?_))
 refine zO fun τ hτ=>?_
 obtain rfl:=osi h
 exact zG hτ
 replace h:=iteF hb h
 refine evd_run 2 (by kernel_rfl) ?_
 obtain ⟨x1539,hx1539,h⟩:=bindS h
 refine evd_val (by kernel_rfl) (st_idx (c:=c_Rect) (l:=x1424.Rects) (i:=s1464) (kd:=.i64) (sz:=4) (by kernel_rfl) hx1539 rfl) (by kernel_rfl) (by kernel_rfl) (evd_run 4 (by kernel_rfl) (evd_end (by kernel_rfl) ?_))
 obtain ⟨r1540,hr1540,h⟩:=bindS h
 refine evo_callP [] (by kernel_rfl) (W.sheetmetalref06_Meets_ok hr1540) (by kernel_rfl) (.inl rfl) (by kernel_rfl) (evo_run 1 (by kernel_rfl) (zO fun τ hτ=>?_))
 obtain rfl:=osi h
 exact zG hτ
 replace h:=iteF hb h
 refine evd_run 17 (by kernel_rfl) (evd_end (by kernel_rfl) (evo_run 2 (by kernel_rfl) ?_))
 refine zO fun τ hτ=>?_
 obtain rfl:=osi h
 exact zG hτ
 refine zE hτ ⟨[(1,.ptr 500000 0),(7,.ptr 500001 0),(8,vI s1059),(9,s_Rect x1424.Rects),(10,vI s1464),(99,vB j1534)],[(500000,.box (c_LayoutT l)),(500001,.box [(vI 0),(vI 0),(vI l.Sheet.Width),(vI l.Sheet.Height)])]⟩ (zI j1534 (fun hb=>?_) fun hb=>?_)
 replace h:=iteT hb h
 refine z8 1 ⟨[(2,vI 13)],[]⟩ fun τ hτ=>?_
 refine bl_ret (th_ret ?_)
 obtain rfl:=osi h
 exact zF hτ
 replace h:=iteF hb h
 refine zM fun τ hτ=>?_
 refine bl_normal (zE hτ ⟨[(1,.ptr 500000 0),(7,.ptr 500001 0),(8,vI s1059),(9,s_Rect x1424.Rects),(10,vI s1464)],[(500000,.box (c_LayoutT l)),(500001,.box [(vI 0),(vI 0),(vI l.Sheet.Width),(vI l.Sheet.Height)])]⟩ (zD ?_))
 refine z6 3 fun τ hτ=>?_
 obtain rfl:=osi h
 exact zH hτ
 replace h:=iteF hb h
 refine zL 4 fun τ hτ=>?_
 refine th_exit ?_
 obtain rfl:=osi h
 exact zF hτ
 intro x
 rcases x with _ | _ <;> rfl
 intro τ hτ
 rcases x1541 with j1542 | j1543
 refine bl_ret (bl_ret (th_ret ?_))
 obtain rfl:=osi h
 exact zF hτ
 refine zQ (bl_normal (zE hτ ⟨[(1,.ptr 500000 0),(7,.ptr 500001 0),(8,vI s1059)],[(500000,.box (c_LayoutT l)),(500001,.box [(vI 0),(vI 0),(vI l.Sheet.Width),(vI l.Sheet.Height)])]⟩ ?_))
 refine zD (z6 3 fun τ hτ=>?_)
 obtain rfl:=osi h
 exact zH hτ
 replace h:=iteF hb h
 refine zL 2 fun τ hτ=>?_
 refine th_exit ?_
 obtain rfl:=osi h
 exact zF hτ
 intro x
 rcases x with _ | _ <;> rfl
 intro τ hτ
 rcases x1544 with j1545 | j1546
 refine bl_ret (th_ret ?_)
 obtain rfl:=osi h
 exact zV hτ [(2,vI 13)]
 refine zQ (zE hτ ⟨[(1,.ptr 500000 0)],[(500000,.box (c_LayoutT l))]⟩ (zB ?_))
 refine z3 1 ⟨[(1,.ptr 500000 0),(11,vI 0)],[(500000,.box (c_LayoutT l))]⟩ (zC ?_)
 obtain ⟨x5874,hx5874,h⟩:=bindS h
 refine sem_loopS (fun (s3717 : Int)=>⟨[(1,.ptr 500000 0),(11,vI s3717)],[(500000,.box (c_LayoutT l))]⟩) (fun (x5874 : Unit ⊕ Unit)=>match x5874 with | .inl j5875=>(.ret,⟨[(2,vI 7)],[]⟩) | .inr j5876=>(.exit 6,⟨[],[]⟩)) (sheetmetalref07_Validate_l6 l) 0 x5874 (by kernel_rfl) (here (by kernel_rfl)) hx5874 ?_ ?_ ?_
 intro s3717 r h
 refine zB (z7 (zA 3 ?_))
 refine evs_op (st_len (c:=c_Piece) (l:=l.Pieces) (x:=(s_Piece l.Pieces)) (by kernel_rfl) (by kernel_rfl)) (z1 1 ⟨[(1,.ptr 500000 0),(11,vI s3717),(104,vB (decide (s3717 < (l.Pieces.length : Int))))],[(500000,.box (c_LayoutT l))]⟩ (zI (decide (s3717 < (l.Pieces.length : Int))) (fun hb=>?_) fun hb=>?_))
 replace h:=iteT hb h
 refine z4 ⟨[(1,.ptr 500000 0),(11,vI s3717)],[(500000,.box (c_LayoutT l))]⟩ (zB (zC ?_))
 refine z3 1 ⟨[(1,.ptr 500000 0),(11,vI s3717),(12,vI 0)],[(500000,.box (c_LayoutT l))]⟩ (zC ?_)
 obtain ⟨x5871,hx5871,h⟩:=bindS h
 refine sem_loopS (fun (s5514 : Int)=>⟨[(1,.ptr 500000 0),(11,vI s3717),(12,vI s5514)],[(500000,.box (c_LayoutT l))]⟩) (fun (x5871 : Unit ⊕ Unit)=>match x5871 with | .inl j5872=>(.ret,⟨[(2,vI 7)],[]⟩) | .inr j5873=>(.exit 8,⟨[(1,.ptr 500000 0),(11,vI s3717)],[(500000,.box (c_LayoutT l))]⟩)) (sheetmetalref07_Validate_l5 l s3717) 0 x5871 (by kernel_rfl) (here (by kernel_rfl)) hx5871 ?_ ?_ ?_
 intro s5514 r h
 refine zB (z3 3 ⟨[(1,.ptr 500000 0),(11,vI s3717),(12,vI s5514),(109,vB (decide (s5514 < s3717)))],[(500000,.box (c_LayoutT l))]⟩ (zI (decide (s5514 < s3717)) (fun hb=>?_) fun hb=>?_))
 replace h:=iteT hb h
 refine z4 ⟨[(1,.ptr 500000 0),(11,vI s3717),(12,vI s5514)],[(500000,.box (c_LayoutT l))]⟩ (zB (zC ?_))
 refine z3 1 ⟨[(1,.ptr 500000 0),(11,vI s3717),(12,vI s5514),(13,vI 0)],[(500000,.box (c_LayoutT l))]⟩ (zC ?_)
 obtain ⟨x5868,hx5868,h⟩:=bindS h
 refine sem_loopS (fun (s5811 : Int)=>⟨[(1,.ptr 500000 0),(11,vI s3717),(12,vI s5514),(13,vI s5811)],[(500000,.box (c_LayoutT l))]⟩) (fun (x5868 : Unit ⊕ Unit)=>match x5868 with | .inl j5869=>(.ret,⟨[(2,vI 7)],[]⟩) | .inr j5870=>(.exit 10,⟨[(1,.ptr 500000 0),(11,vI s3717),(12,vI s5514)],[(500000,.box (c_LayoutT l))]⟩)) (sheetmetalref07_Validate_l4 l s3717 s5514) 0 x5868 (by kernel_rfl) (here (by kernel_rfl)) hx5868 ?_ ?_ ?_
 intro s5811 r h
 refine zB (z7 (zA 4 ?_))
 obtain ⟨x5843,hx5843,h⟩:=bindS h
 refine evs_op (st_idx (c:=c_Piece) (l:=l.Pieces) (i:=s3717) (kd:=.i64) (sz:=7) (by kernel_rfl) hx5843 rfl) (zA 2 (evs_op (st_len (c:=c_Rect) (l:=x5843.Rects) (x:=(s_Rect x5843.Rects)) (by kernel_rfl) (by kernel_rfl)) ?_))
 refine z1 1 ⟨[(1,.ptr 500000 0),(11,vI s3717),(12,vI s5514),(13,vI s5811),(120,vB (decide (s5811 < (x5843.Rects.length : Int))))],[(500000,.box (c_LayoutT l))]⟩ (zI (decide (s5811 < (x5843.Rects.length : Int))) (fun hb=>?_) fun hb=>?_)
 replace h:=iteT hb h
 refine z4 ⟨[(1,.ptr 500000 0),(11,vI s3717),(12,vI s5514),(13,vI s5811)],[(500000,.box (c_LayoutT l))]⟩ (zB (zC ?_))
 refine zB (sem_drawN [] [] [] [] [] 15 (by kernel_rfl) (by kernel_rfl) (by kernel_rfl) (evd_run 3 (by kernel_rfl) ?_))
 obtain ⟨x5864,hx5864,h⟩:=bindS h
 refine evd_val (by kernel_rfl) (st_idx (c:=c_Piece) (l:=l.Pieces) (i:=s3717) (kd:=.i64) (sz:=7) (by kernel_rfl) hx5864 rfl) (by kernel_rfl) (by kernel_rfl) (evd_run 3 (by kernel_rfl) ?_)
 obtain ⟨x5865,hx5865,h⟩:=bindS h
 refine evd_val (by kernel_rfl) (st_idx (c:=c_Rect) (l:=x5864.Rects) (i:=s5811) (kd:=.i64) (sz:=4) (by kernel_rfl) hx5865 rfl) (by kernel_rfl) (by kernel_rfl) (evd_run 4 (by kernel_rfl) ?_)
 obtain ⟨x5866,hx5866,h⟩:=bindS h
 refine evd_val (by kernel_rfl) (st_idx (c:=c_Piece) (l:=l.Pieces) (i:=s5514) (kd:=.i64) (sz:=7) (by kernel_rfl) hx5866 rfl) (by kernel_rfl) (by kernel_rfl) (evd_run 2 (by kernel_rfl) (evd_end (by kernel_rfl) ?_))
 obtain ⟨r5867,hr5867,h⟩:=bindS h
 refine evo_callP [] (by kernel_rfl) (W.sheetmetalref06_Meets_ok hr5867) (by kernel_rfl) (.inl rfl) (by kernel_rfl) (zO fun τ hτ=>?_)
 refine zE hτ ⟨[(1,.ptr 500000 0),(11,vI s3717),(12,vI s5514),(13,vI s5811),(138,vB r5867)],[(500000,.box (c_LayoutT l))]⟩ (zI r5867 (fun hb=>?_) fun hb=>?_)
 replace h:=iteT hb h
 refine z8 1 ⟨[(2,vI 7)],[]⟩ fun τ hτ=>?_
 refine bl_ret (th_ret ?_)
 obtain rfl:=osi h
 exact zF hτ
 replace h:=iteF hb h
 refine zM fun τ hτ=>?_
 refine bl_normal (zE hτ ⟨[(1,.ptr 500000 0),(11,vI s3717),(12,vI s5514),(13,vI s5811)],[(500000,.box (c_LayoutT l))]⟩ (zD ?_))
 refine z6 3 fun τ hτ=>?_
 obtain rfl:=osi h
 exact zH hτ
 replace h:=iteF hb h
 refine zL 10 fun τ hτ=>?_
 refine th_exit ?_
 obtain rfl:=osi h
 exact zF hτ
 intro x
 rcases x with _ | _ <;> rfl
 intro τ hτ
 rcases x5868 with j5869 | j5870
 refine bl_ret (bl_ret (th_ret ?_))
 obtain rfl:=osi h
 exact zF hτ
 refine zQ (bl_normal (zE hτ ⟨[(1,.ptr 500000 0),(11,vI s3717),(12,vI s5514)],[(500000,.box (c_LayoutT l))]⟩ ?_))
 refine zD (z6 3 fun τ hτ=>?_)
 obtain rfl:=osi h
 exact zH hτ
 replace h:=iteF hb h
 refine zL 8 fun τ hτ=>?_
 refine th_exit ?_
 obtain rfl:=osi h
 exact zF hτ
 intro x
 rcases x with _ | _ <;> rfl
 intro τ hτ
 rcases x5871 with j5872 | j5873
 refine bl_ret (bl_ret (th_ret ?_))
 obtain rfl:=osi h
 exact zF hτ
 refine zQ (bl_normal (zE hτ ⟨[(1,.ptr 500000 0),(11,vI s3717)],[(500000,.box (c_LayoutT l))]⟩ ?_))
 refine zD (z6 3 fun τ hτ=>?_)
 obtain rfl:=osi h
 exact zH hτ
 replace h:=iteF hb h
 refine zL 6 fun τ hτ=>?_
 refine th_exit ?_
 obtain rfl:=osi h
 exact zF hτ
 intro x
 rcases x with _ | _ <;> rfl
 intro τ hτ
 rcases x5874 with j5875 | j5876
 refine bl_ret (th_ret ?_)
 obtain rfl:=osi h
 exact zV hτ [(2,vI 7)]
 refine zQ (zE hτ ⟨[],[]⟩ (z8 1 ⟨[(2,vI 0)],[]⟩ fun τ hτ=>?_))
 obtain rfl:=osi h
 exact zV hτ [(2,vI 0)]
theorem W.strings_Contains'_ok {s sub : ByteArray} {r : Bool} (h : strings_Contains' s sub = some r) : PC G.P 142 [vS s,vS sub] [] (vB r) []:=by
 unfold strings_Contains' at h
 split at h
 rename_i hs
 injection h with h; subst h
 exact pc_pure (args:=[.string s,.string sub]) (by kernel_rfl) 0 (by kernel_rfl) fun m w hm=>Any.strings_Contains Tryz.contains_lays s sub m w hs hm
 cases h
theorem W.part_ValidName_k_ok {s0 : ByteArray} {r : Bool} (h : part_ValidName_k s0 = some r) : PC G.P 84 [(vS s0)] [] (vB r) []:=by
 refine zU G Tryz.func84 (zK ⟨[(0,vS s0)],[]⟩ (z3 1 ⟨[(0,vS s0)],[]⟩ ?_))
 refine zB (z7 (zA 4 ?_))
 refine zS (decide ((s0.size : Int) < 1)) (fun b0=>⟨[(0,vS s0),(8,vB b0)],[]⟩) (fun hb=>?_) fun hb=>?_
 replace h:=iteT hb h
 exact nomatch h
 replace h:=iteF hb h
 refine zA 5 (zS (decide ((s0.size : Int) > 8)) (fun b0=>⟨[(0,vS s0),(13,vB b0)],[]⟩) (fun hb=>?_) fun hb=>?_)
 replace h:=iteT hb h
 exact nomatch h
 replace h:=iteF hb h
 refine zA 1 ?_
 obtain ⟨x7,hx7,h⟩:=bindS h
 refine evs_at (at_sidx (s:=s0) (i:=0) (kd:=.i64) (by kernel_rfl) hx7) (zA 3 (zS (decide (x7 < 97)) (fun b0=>⟨[(0,vS s0),(18,vB b0)],[]⟩) (fun hb=>?_) fun hb=>?_))
 replace h:=iteT hb h
 exact nomatch h
 replace h:=iteF hb h
 refine zA 1 ?_
 obtain ⟨x8,hx8,h⟩:=bindS h
 refine evs_at (at_sidx (s:=s0) (i:=0) (kd:=.i64) (by kernel_rfl) hx8) (z1 2 ⟨[(0,vS s0),(22,vB (decide (x8 > 122)))],[]⟩ (zI (decide (x8 > 122)) (fun hb=>?_) fun hb=>?_))
 replace h:=iteT hb h
 exact nomatch h
 replace h:=iteF hb h
 refine z4 ⟨[(0,vS s0)],[]⟩ (zB (z3 3 ⟨[(0,vS s0),(24,vI (s0.size : Int)),(25,vI 0)],[]⟩ ?_))
 refine zC ?_
 obtain ⟨x38,hx38,h⟩:=bindS h
 refine sem_loopS (fun (s29 : Int)=>⟨[(0,vS s0),(24,vI (s0.size : Int)),(25,vI s29)],[]⟩) (fun (x38 : Unit)=>(.exit 0,⟨[(0,vS s0)],[]⟩)) (part_ValidName_k_l1 s0) 0 x38 (by kernel_rfl) (here (by kernel_rfl)) (iter_loop hx38) ?_ ?_ ?_
 intro s29 r h
 refine z3 1 ⟨[(0,vS s0),(24,vI (s0.size : Int)),(25,vI s29),(26,vB (decide (s29 < (s0.size : Int))))],[]⟩ (zB (zI (decide (s29 < (s0.size : Int))) (fun hb=>?_) fun hb=>?_))
 replace h:=iteT hb h
 refine z4 ⟨[(0,vS s0),(24,vI (s0.size : Int)),(25,vI s29)],[]⟩ (zB (zC ?_))
 refine z3 2 ⟨[(0,vS s0),(3,vI s29),(24,vI (s0.size : Int)),(25,vI s29)],[]⟩ (z7 (zA 2 ?_))
 obtain ⟨x37,hx37,h⟩:=bindS h
 refine evs_at (at_sidx (s:=s0) (i:=s29) (kd:=.i64) (by kernel_rfl) hx37) (z1 1 ⟨[(0,vS s0),(4,vK .u8 x37),(24,vI (s0.size : Int)),(25,vI s29)],[]⟩ (z7 ?_))
 refine zA 3 (zS (decide (x37 < 97)) (fun b0=>⟨[(0,vS s0),(4,vK .u8 x37),(24,vI (s0.size : Int)),(25,vI s29),(33,vB b0)],[]⟩) (fun hb=>?_) fun hb=>?_)
 replace h:=iteT hb h
 exact nomatch h
 replace h:=iteF hb h
 refine zA 4 (zS (decide (x37 > 122)) (fun b0=>⟨[(0,vS s0),(4,vK .u8 x37),(24,vI (s0.size : Int)),(25,vI s29),(37,vB b0)],[]⟩) (fun hb=>?_) fun hb=>?_)
 replace h:=iteT hb h
 exact nomatch h
 replace h:=iteF hb h
 refine z1 7 ⟨[(0,vS s0),(24,vI (s0.size : Int)),(25,vI s29),(44,vB false)],[]⟩ (sem_condF (by kernel_rfl) (by kernel_rfl) (zM fun τ hτ=>?_))
 refine bl_normal (zE hτ ⟨[(0,vS s0),(24,vI (s0.size : Int)),(25,vI s29)],[]⟩ (zD ?_))
 refine z6 2 fun τ hτ=>?_
 obtain rfl:=osi h
 exact zH hτ
 replace h:=iteF hb h
 refine zL 0 fun τ hτ=>?_
 refine th_exit ?_
 obtain rfl:=osi h
 exact zF hτ
 intro x
 rfl
 intro τ hτ
 refine zQ (zE hτ ⟨[(0,vS s0)],[]⟩ (z7 ?_))
 refine zA 1 ?_
 obtain ⟨s42,hs42,h⟩:=bindS h
 refine evs_op (st_cat (a:=(ByteArray.mk #[32])) (b:=s0) (by kernel_rfl) hs42) ?_
 obtain ⟨s43,hs43,h⟩:=bindS h
 refine evs_op (st_cat (a:=s42) (b:=(ByteArray.mk #[32])) (by kernel_rfl) hs43) ?_
 obtain ⟨r44,hr44,h⟩:=bindS h
 refine evs_callP [] (by kernel_rfl) (W.strings_Contains'_ok hr44) (by kernel_rfl) (.inl rfl) (by kernel_rfl) (z1 2 ⟨[(2,vB (!r44))],[]⟩ (zN fun τ hτ=>?_))
 obtain rfl:=osi h
 exact zV hτ [(2,vB (!r44))]
theorem W.nest_from_k_ok {n : Int} {lo : Int} {hi : Int} {r : Bool} (h : nest_from_k n lo hi = some r) : PC G.P 86 [(vI n),(vI lo),(vI hi)] [] (vB r) []:=by
 refine zU G Tryz.func86 (zK ⟨[(0,vI n),(1,vI lo),(2,vI hi)],[]⟩ (z3 1 ⟨[(0,vI n),(1,vI lo),(2,vI hi)],[]⟩ ?_))
 refine z7 (zA 4 (zS (decide (lo ≤ n)) (fun b0=>⟨[(0,vI n),(2,vI hi),(10,vB b0)],[]⟩) (fun hb=>?_) fun hb=>?_))
 replace h:=iteT hb h
 refine z1 5 ⟨[(6,vB (decide (n ≤ hi)))],[]⟩ (zN fun τ hτ=>?_)
 obtain rfl:=osi h
 exact zV hτ [(6,vB (decide (n ≤ hi)))]
 replace h:=iteF hb h
 exact nomatch h
theorem W.nest_plain_k_ok {gauge : Int} {grain : Int} {r : Bool} (h : nest_plain_k gauge grain = some r) : PC G.P 85 [(vI gauge),(vI grain)] [] (vB r) []:=by
 refine zU G Tryz.func85 (zK ⟨[(0,vI gauge),(1,vI grain)],[]⟩ (z3 1 ⟨[(0,vI gauge),(1,vI grain)],[]⟩ ?_))
 refine z7 (zA 1 ?_)
 obtain ⟨r3,hr3,h⟩:=bindS h
 refine evs_callP [] (by kernel_rfl) (W.nest_from_k_ok hr3) (by kernel_rfl) (.inl rfl) (by kernel_rfl) (zA 1 (zS r3 (fun b0=>⟨[(1,vI grain),(7,vB b0)],[]⟩) (fun hb=>?_) fun hb=>?_))
 replace h:=iteT hb h
 refine zA 1 ?_
 obtain ⟨r4,hr4,h⟩:=bindS h
 refine evs_callP [] (by kernel_rfl) (W.nest_from_k_ok hr4) (by kernel_rfl) (.inl rfl) (by kernel_rfl) (z1 2 ⟨[(4,vB r4)],[]⟩ (zN fun τ hτ=>?_))
 obtain rfl:=osi h
 exact zV hτ [(4,vB r4)]
 replace h:=iteF hb h
 exact nomatch h
theorem W.geom_within_k_ok {n : Int} {most : Int} {r : Bool} (h : geom_within_k n most = some r) : PC G.P 144 [(vI n),(vI most)] [] (vB r) []:=by
 refine zU G Tryz.func144 (zK ⟨[(0,vI n),(1,vI most)],[]⟩ (z3 1 ⟨[(0,vI n),(1,vI most)],[]⟩ ?_))
 refine z7 (zA 5 (zS (decide ((ineg most) ≤ n)) (fun b0=>⟨[(0,vI n),(1,vI most),(9,vB b0)],[]⟩) (fun hb=>?_) fun hb=>?_))
 replace h:=iteT hb h
 refine z1 5 ⟨[(4,vB (decide (n ≤ most)))],[]⟩ (zN fun τ hτ=>?_)
 obtain rfl:=osi h
 exact zV hτ [(4,vB (decide (n ≤ most)))]
 replace h:=iteF hb h
 exact nomatch h
theorem W.geom_ValidRect_1_k_ok {x0 : Int} {w : Int} {r : Bool} (h : geom_ValidRect_1_k x0 w = some r) : PC G.P 143 [(vI x0),(vI w)] [] (vB r) []:=by
 refine zU G Tryz.func143 (zK ⟨[(0,vI x0),(1,vI w)],[]⟩ (z3 1 ⟨[(0,vI x0),(1,vI w)],[]⟩ ?_))
 refine z7 (zA 1 ?_)
 obtain ⟨r2,hr2,h⟩:=bindS h
 refine evs_callP [] (by kernel_rfl) (W.geom_within_k_ok hr2) (by kernel_rfl) (.inl rfl) (by kernel_rfl) (zA 1 (zS r2 (fun b0=>⟨[(0,vI x0),(1,vI w),(7,vB b0)],[]⟩) (fun hb=>?_) fun hb=>?_))
 replace h:=iteT hb h
 refine zA 4 (zS (decide (w > 0)) (fun b0=>⟨[(0,vI x0),(1,vI w),(11,vB b0)],[]⟩) (fun hb=>?_) fun hb=>?_)
 replace h:=iteT hb h
 refine zA 4 (zS (decide (w ≤ 2097152)) (fun b0=>⟨[(0,vI x0),(1,vI w),(15,vB b0)],[]⟩) (fun hb=>?_) fun hb=>?_)
 replace h:=iteT hb h
 refine z1 6 ⟨[(4,vB (decide ((iadd x0 w) ≤ 1048576)))],[]⟩ (zN fun τ hτ=>?_)
 obtain rfl:=osi h
 exact zV hτ [(4,vB (decide ((iadd x0 w) ≤ 1048576)))]
 replace h:=iteF hb h
 exact nomatch h
 replace h:=iteF hb h
 exact nomatch h
 replace h:=iteF hb h
 exact nomatch h
theorem W.geom_ValidRect_k_ok {r0 : Rect} {r : Bool} (h : geom_ValidRect_k r0 = some r) : PC G.P 89 [(.agg (c_Rect r0))] [] (vB r) []:=by
 refine zU G Tryz.func89 (zK ⟨[(0,.agg (c_Rect r0))],[]⟩ (z3 2 ⟨[(1,.ptr 1 0)],[(1,.box (c_Rect r0))]⟩ ?_))
 refine z3 1 ⟨[(1,.ptr 1 0),(3,.fn 143 [])],[(1,.box (c_Rect r0))]⟩ (z7 (zA 5 ?_))
 obtain ⟨r3,hr3,h⟩:=bindS h
 refine evs_callP [] (by kernel_rfl) (W.geom_ValidRect_1_k_ok hr3) (by kernel_rfl) (.inl rfl) (by kernel_rfl) (zA 1 (zS r3 (fun b0=>⟨[(1,.ptr 1 0),(3,.fn 143 []),(10,vB b0)],[(1,.box (c_Rect r0))]⟩) (fun hb=>?_) fun hb=>?_))
 replace h:=iteT hb h
 refine zA 5 ?_
 obtain ⟨r4,hr4,h⟩:=bindS h
 refine evs_callP [] (by kernel_rfl) (W.geom_ValidRect_1_k_ok hr4) (by kernel_rfl) (.inl rfl) (by kernel_rfl) (z1 2 ⟨[(2,vB r4)],[]⟩ (zN fun τ hτ=>?_))
 obtain rfl:=osi h
 exact zV hτ [(2,vB r4)]
 replace h:=iteF hb h
 exact nomatch h
theorem W.nest_valid_k_ok {l : (List Rect)} {r : Bool} (h : nest_valid_k l = some r) : PC G.P 87 [(.sl (List.map c_Rect l))] [] (vB r) []:=by
 refine zU G Tryz.func87 (zK ⟨[(0,s_Rect l)],[]⟩ (z3 1 ⟨[(0,s_Rect l)],[]⟩ ?_))
 refine zB (z7 (zA 1 ?_))
 refine evs_op (st_len (c:=c_Rect) (l:=l) (x:=(s_Rect l)) (by kernel_rfl) (by kernel_rfl)) (z1 1 ⟨[(5,s_Rect l),(6,vI (l.length : Int)),(7,vI 0)],[]⟩ (zC ?_))
 obtain ⟨x54,hx54,h⟩:=bindS h
 refine sem_loopS (fun (s37 : Int)=>⟨[(5,s_Rect l),(6,vI (l.length : Int)),(7,vI s37)],[]⟩) (fun (x54 : Unit)=>(.exit 0,⟨[],[]⟩)) (nest_valid_k_l1 l) 0 x54 (by kernel_rfl) (here (by kernel_rfl)) (iter_loop hx54) ?_ ?_ ?_
 intro s37 r h
 refine z3 1 ⟨[(5,s_Rect l),(6,vI (l.length : Int)),(7,vI s37),(8,vB (decide (s37 < (l.length : Int))))],[]⟩ (zB (zI (decide (s37 < (l.length : Int))) (fun hb=>?_) fun hb=>?_))
 replace h:=iteT hb h
 refine z4 ⟨[(5,s_Rect l),(6,vI (l.length : Int)),(7,vI s37)],[]⟩ (zB (zC ?_))
 refine z7 ?_
 obtain ⟨x51,hx51,h⟩:=bindS h
 refine evs_op (st_idx (c:=c_Rect) (l:=l) (i:=s37) (kd:=.i64) (sz:=4) (by kernel_rfl) hx51 rfl) (z1 3 ⟨[(4,.ptr 4 0),(5,s_Rect l),(6,vI (l.length : Int)),(7,vI s37)],[(4,.box (c_Rect x51))]⟩ (z7 ?_))
 refine zA 1 ?_
 obtain ⟨r53,hr53,h⟩:=bindS h
 refine evs_callP [] (by kernel_rfl) (W.geom_ValidRect_k_ok hr53) (by kernel_rfl) (.inl rfl) (by kernel_rfl) (z1 1 ⟨[(5,s_Rect l),(6,vI (l.length : Int)),(7,vI s37),(13,vB (!r53))],[]⟩ (zI (!r53) (fun hb=>?_) fun hb=>?_))
 replace h:=iteT hb h
 exact nomatch h
 replace h:=iteF hb h
 refine zM fun τ hτ=>?_
 refine bl_normal (zE hτ ⟨[(5,s_Rect l),(6,vI (l.length : Int)),(7,vI s37)],[]⟩ (zD ?_))
 refine z6 2 fun τ hτ=>?_
 obtain rfl:=osi h
 exact zH hτ
 replace h:=iteF hb h
 refine zL 0 fun τ hτ=>?_
 refine th_exit ?_
 obtain rfl:=osi h
 exact zF hτ
 intro x
 rfl
 intro τ hτ
 refine zQ (zE hτ ⟨[],[]⟩ (z8 1 ⟨[(2,vB true)],[]⟩ fun τ hτ=>?_))
 obtain rfl:=osi h
 exact zV hτ [(2,vB true)]
theorem W.nest_inner_k_ok {s0 : Sheet} {margin : Int} {r : Rect × Bool} (h : nest_inner_k s0 margin = some r) : PC G.P 88 [(.agg (c_Sheet s0)),(vI margin)] [] (.tup [(.agg (c_Rect r.1)),(vB r.2)]) [(0,.box [(vI margin),(vI margin),(vI (isub s0.Width (imul 2 margin))),(vI (isub s0.Height (imul 2 margin)))])]:=by
 refine zU G Tryz.func88 (zK ⟨[(0,.agg (c_Sheet s0)),(1,vI margin)],[]⟩ (z3 3 ⟨[(1,vI margin),(2,.ptr 2 0),(4,.ptr 4 0)],[(2,.box (c_Sheet s0)),(4,.box [(vI 0),(vI 0),(vI 0),(vI 0)])]⟩ ?_))
 refine z3 15 ⟨[(4,.ptr 4 0),(6,.ptr 6 0)],[(4,.box [(vI 0),(vI 0),(vI 0),(vI 0)]),(6,.box [(vI margin),(vI margin),(vI (isub s0.Width (imul 2 margin))),(vI (isub s0.Height (imul 2 margin)))])]⟩ (zB (sem_drawN [] [] [] [] [] 3 (by kernel_rfl) (by kernel_rfl) (by kernel_rfl) ?_))
 refine evd_run 2 (by kernel_rfl) ?_
 obtain ⟨r3,hr3,h⟩:=bindS h
 refine evd_callS [] [] (by kernel_rfl) (by kernel_rfl) (W.geom_ValidRect_k_ok hr3) (by kernel_rfl) (.inl rfl) (by kernel_rfl) (by kernel_rfl) (evd_end (by kernel_rfl) (evo_run 2 (by kernel_rfl) ?_))
 refine zO fun τ hτ=>?_
 refine zE hτ ⟨[(4,.ptr 4 0),(5,vB r3)],[(4,.box [(vI margin),(vI margin),(vI (isub s0.Width (imul 2 margin))),(vI (isub s0.Height (imul 2 margin)))])]⟩ (zN fun τ hτ=>?_)
 obtain rfl:=osi h
 exact rk_ret hτ [(4,.ptr 0 0),(5,vB r3)] (subR_prep [] [(4,0)] (by kernel_rfl) rfl rfl (by kernel_rfl)) (by kernel_rfl)
theorem W.nest_ValidateSheet_k_ok {s0 : Sheet} {r : Int} (h : nest_ValidateSheet_k s0 = some r) : PC G.P 40 [(.agg (c_Sheet s0))] [] (vI r) []:=by
 refine zU G Tryz.func40 (zK ⟨[(0,.agg (c_Sheet s0))],[]⟩ (z3 2 ⟨[(1,.ptr 1 0)],[(1,.box (c_Sheet s0))]⟩ ?_))
 refine zB (zC (z7 ?_))
 refine zA 2 ?_
 obtain ⟨r17,hr17,h⟩:=bindS h
 refine evs_callP [] (by kernel_rfl) (W.part_ValidName_k_ok hr17) (by kernel_rfl) (.inl rfl) (by kernel_rfl) (zA 2 (zS r17 (fun b0=>⟨[(1,.ptr 1 0),(14,vB (!b0))],[(1,.box (c_Sheet s0))]⟩) (fun hb=>?_) fun hb=>?_))
 replace h:=iteT hb h
 refine zA 2 ?_
 obtain ⟨r18,hr18,h⟩:=bindS h
 refine evs_callP [] (by kernel_rfl) (W.part_ValidName_k_ok hr18) (by kernel_rfl) (.inl rfl) (by kernel_rfl) (z1 3 ⟨[(1,.ptr 1 0),(9,vB (!r18))],[(1,.box (c_Sheet s0))]⟩ (zI (!r18) (fun hb=>?_) fun hb=>?_))
 replace h:=iteT hb h
 exact nomatch h
 replace h:=iteF hb h
 refine z7 (zA 4 ?_)
 obtain ⟨r22,hr22,h⟩:=bindS h
 refine evs_callP [] (by kernel_rfl) (W.nest_plain_k_ok hr22) (by kernel_rfl) (.inl rfl) (by kernel_rfl) (zA 2 (zS r22 (fun b0=>⟨[(1,.ptr 1 0),(27,vB (!b0))],[(1,.box (c_Sheet s0))]⟩) (fun hb=>?_) fun hb=>?_))
 replace h:=iteT hb h
 refine zA 2 ?_
 obtain ⟨r23,hr23,h⟩:=bindS h
 refine evs_callP [] (by kernel_rfl) (W.nest_from_k_ok hr23) (by kernel_rfl) (.inl rfl) (by kernel_rfl) (zA 3 (zS r23 (fun b0=>⟨[(1,.ptr 1 0),(33,vB (!b0))],[(1,.box (c_Sheet s0))]⟩) (fun hb=>?_) fun hb=>?_))
 replace h:=iteT hb h
 refine zA 2 ?_
 obtain ⟨r24,hr24,h⟩:=bindS h
 refine evs_callP [] (by kernel_rfl) (W.nest_from_k_ok hr24) (by kernel_rfl) (.inl rfl) (by kernel_rfl) (z1 3 ⟨[(1,.ptr 1 0),(20,vB (!r24))],[(1,.box (c_Sheet s0))]⟩ (zI (!r24) (fun hb=>?_) fun hb=>?_))
 replace h:=iteT hb h
 exact nomatch h
 replace h:=iteF hb h
 refine z7 (zA 2 (evs_op (st_len (c:=c_Rect) (l:=s0.Clamps) (x:=(s_Rect s0.Clamps)) (by kernel_rfl) (by kernel_rfl)) ?_))
 refine zA 2 (zS (decide ((s0.Clamps.length : Int) > 4)) (fun b0=>⟨[(1,.ptr 1 0),(44,vB b0)],[(1,.box (c_Sheet s0))]⟩) (fun hb=>?_) fun hb=>?_)
 replace h:=iteT hb h
 exact nomatch h
 replace h:=iteF hb h
 refine zA 2 (evs_op (st_len (c:=c_Rect) (l:=s0.Used) (x:=(s_Rect s0.Used)) (by kernel_rfl) (by kernel_rfl)) (z1 3 ⟨[(1,.ptr 1 0),(39,vB (decide ((s0.Used.length : Int) > 48)))],[(1,.box (c_Sheet s0))]⟩ ?_))
 refine zI (decide ((s0.Used.length : Int) > 48)) (fun hb=>?_) fun hb=>?_
 replace h:=iteT hb h
 exact nomatch h
 replace h:=iteF hb h
 refine z7 (zA 2 ?_)
 obtain ⟨r27,hr27,h⟩:=bindS h
 refine evs_callP [] (by kernel_rfl) (W.nest_valid_k_ok hr27) (by kernel_rfl) (.inl rfl) (by kernel_rfl) (zA 2 (zS r27 (fun b0=>⟨[(1,.ptr 1 0),(55,vB (!b0))],[(1,.box (c_Sheet s0))]⟩) (fun hb=>?_) fun hb=>?_))
 replace h:=iteT hb h
 refine zA 2 ?_
 obtain ⟨r28,hr28,h⟩:=bindS h
 refine evs_callP [] (by kernel_rfl) (W.nest_valid_k_ok hr28) (by kernel_rfl) (.inl rfl) (by kernel_rfl) (z1 3 ⟨[(1,.ptr 1 0),(50,vB (!r28))],[(1,.box (c_Sheet s0))]⟩ (zI (!r28) (fun hb=>?_) fun hb=>?_))
 replace h:=iteT hb h
 exact nomatch h
 replace h:=iteF hb h
 refine zM fun τ hτ=>?_
 refine bl_normal (zE hτ ⟨[(1,.ptr 1 0)],[(1,.box (c_Sheet s0))]⟩ (z7 ?_))
 refine zA 1 ?_
 obtain ⟨r30,hr30,h⟩:=bindS h
 refine evs_callS [] [(0,700050)] [] (by kernel_rfl) (W.nest_inner_k_ok hr30) (by kernel_rfl) (by kernel_rfl) (.inl rfl) (z1 6 ⟨[(1,.ptr 1 0),(3,.ptr 3 0)],[(1,.box (c_Sheet s0)),(3,.box (c_Rect r30.1))]⟩ (zB ?_))
 refine z7 (zA 5 (evs_op (st_len (c:=(cS c_Rect)) (l:=[s0.Clamps,s0.Used]) (x:=(.sl (List.map (cS c_Rect) [s0.Clamps,s0.Used]))) (by kernel_rfl) (by kernel_rfl)) ?_))
 refine z1 1 ⟨[(3,.ptr 3 0),(70,.sl (List.map (cS c_Rect) [s0.Clamps,s0.Used])),(71,vI ([s0.Clamps,s0.Used].length : Int)),(72,vI 0)],[(3,.box (c_Rect r30.1))]⟩ (zC ?_)
 obtain ⟨x84,hx84,h⟩:=bindS h
 refine sem_loopS (fun (s67 : Int)=>⟨[(3,.ptr 500000 0),(70,.sl (List.map (cS c_Rect) [s0.Clamps,s0.Used])),(71,vI ([s0.Clamps,s0.Used].length : Int)),(72,vI s67)],[(500000,.box (c_Rect r30.1))]⟩) (fun (x84 : Unit)=>(.exit 1,⟨[],[]⟩)) (nest_ValidateSheet_k_l2 s0) 0 x84 (by kernel_rfl) (subR_prep [] [(3,500000)] (by kernel_rfl) rfl rfl (by kernel_rfl)) (iter_loop hx84) ?_ ?_ ?_
 intro s67 r h
 refine z3 1 ⟨[(3,.ptr 500000 0),(70,.sl (List.map (cS c_Rect) [s0.Clamps,s0.Used])),(71,vI ([s0.Clamps,s0.Used].length : Int)),(72,vI s67),(73,vB (decide (s67 < ([s0.Clamps,s0.Used].length : Int))))],[(500000,.box (c_Rect r30.1))]⟩ (zB (zI (decide (s67 < ([s0.Clamps,s0.Used].length : Int))) (fun hb=>?_) fun hb=>?_))
 replace h:=iteT hb h
 refine z4 ⟨[(3,.ptr 500000 0),(70,.sl (List.map (cS c_Rect) [s0.Clamps,s0.Used])),(71,vI ([s0.Clamps,s0.Used].length : Int)),(72,vI s67)],[(500000,.box (c_Rect r30.1))]⟩ (zB (zC ?_))
 refine z7 ?_
 obtain ⟨x81,hx81,h⟩:=bindS h
 refine evs_op (st_idx (c:=(cS c_Rect)) (l:=[s0.Clamps,s0.Used]) (i:=s67) (kd:=.i64) (sz:=1) (by kernel_rfl) hx81 rfl) (z1 2 ⟨[(3,.ptr 500000 0),(6,s_Rect x81),(70,.sl (List.map (cS c_Rect) [s0.Clamps,s0.Used])),(71,vI ([s0.Clamps,s0.Used].length : Int)),(72,vI s67)],[(500000,.box (c_Rect r30.1))]⟩ (z7 ?_))
 refine zA 1 (evs_op (st_len (c:=c_Rect) (l:=x81) (x:=(s_Rect x81)) (by kernel_rfl) (by kernel_rfl)) (z1 1 ⟨[(3,.ptr 500000 0),(70,.sl (List.map (cS c_Rect) [s0.Clamps,s0.Used])),(71,vI ([s0.Clamps,s0.Used].length : Int)),(72,vI s67),(76,s_Rect x81),(77,vI (x81.length : Int)),(78,vI 0)],[(500000,.box (c_Rect r30.1))]⟩ ?_))
 refine zC ?_
 obtain ⟨x83,hx83,h⟩:=bindS h
 refine sem_loopS (fun (s82 : Unit)=>⟨[(3,.ptr 500000 0),(70,.sl (List.map (cS c_Rect) [s0.Clamps,s0.Used])),(71,vI ([s0.Clamps,s0.Used].length : Int)),(72,vI s67),(76,s_Rect x81),(77,vI (x81.length : Int)),(78,vI 0)],[(500000,.box (c_Rect r30.1))]⟩) (fun (x83 : Unit)=>(.exit 3,⟨[(3,.ptr 500000 0),(70,.sl (List.map (cS c_Rect) [s0.Clamps,s0.Used])),(71,vI ([s0.Clamps,s0.Used].length : Int)),(72,vI s67)],[(500000,.box (c_Rect r30.1))]⟩)) (nest_ValidateSheet_k_l1 x81) () x83 (by kernel_rfl) (here (by kernel_rfl)) (iter_loop hx83) ?_ ?_ ?_
 intro s82 r h
 refine z3 1 ⟨[(3,.ptr 500000 0),(70,.sl (List.map (cS c_Rect) [s0.Clamps,s0.Used])),(71,vI ([s0.Clamps,s0.Used].length : Int)),(72,vI s67),(76,s_Rect x81),(77,vI (x81.length : Int)),(78,vI 0),(79,vB (decide (0 < (x81.length : Int))))],[(500000,.box (c_Rect r30.1))]⟩ (zB (zI (decide (0 < (x81.length : Int))) (fun hb=>?_) fun hb=>?_))
 replace h:=iteT hb h
 exact nomatch h
 replace h:=iteF hb h
 refine zL 3 fun τ hτ=>?_
 refine th_exit ?_
 obtain rfl:=osi h
 exact zF hτ
 intro x
 rfl
 intro τ hτ
 refine zQ (bl_normal (zE hτ ⟨[(3,.ptr 500000 0),(70,.sl (List.map (cS c_Rect) [s0.Clamps,s0.Used])),(71,vI ([s0.Clamps,s0.Used].length : Int)),(72,vI s67)],[(500000,.box (c_Rect r30.1))]⟩ ?_))
 refine zD (z6 2 fun τ hτ=>?_)
 obtain rfl:=osi h
 exact zH hτ
 replace h:=iteF hb h
 refine zL 1 fun τ hτ=>?_
 refine th_exit ?_
 obtain rfl:=osi h
 exact zF hτ
 intro x
 rfl
 intro τ hτ
 refine zQ (zE hτ ⟨[],[]⟩ (z8 1 ⟨[(2,vI 0)],[]⟩ fun τ hτ=>?_))
 obtain rfl:=osi h
 exact zV hτ [(2,vI 0)]
 replace h:=iteF hb h
 exact nomatch h
 replace h:=iteF hb h
 exact nomatch h
 replace h:=iteF hb h
 exact nomatch h
 replace h:=iteF hb h
 exact nomatch h
theorem W.slices_Clone_Lapi_Rect_api_Rect'_ok {s r : (List Rect)} (h : slices_Clone_Lapi_Rect_api_Rect' s = some r) : PC G.P 134 [.sl (List.map c_Rect s)] [] (.row (.top 0) 98) [(0,.row 98 [] (List.map c_Rect r))]:=by
 replace h : app [] s = some r:=h
 refine zU G Tryz.func134 (z3 1 ⟨[(0,s_Rect s)],[]⟩ (zB ?_))
 refine z7 (zA 1 (evs_isnil (es:=List.map c_Rect s) (by kernel_rfl) (fun hn=>?_) ?_))
 obtain rfl : s = []:=List.map_eq_nil_iff.1 hn
 obtain rfl : [] = r:=Option.some.inj ((app_eq (by simp [LIM])).symm.trans h)
 refine zP fun τ hτ=>?_
 refine zE hτ ⟨[(0,s_Rect []),(4,vB true)],[]⟩ (sem_condT (by kernel_rfl) (by kernel_rfl) (z8 1 ⟨[(2,ro 2 98)],[(2,w_Rect 98 [])]⟩ fun τ hτ=>?_))
 exact th_ret (rk_ret hτ [(2,ro 0 98)] (subR_of [(2,0)] rfl rfl (by kernel_rfl)) (by kernel_rfl))
 refine zP fun τ hτ=>?_
 refine zE hτ ⟨[(0,s_Rect s),(4,vB false)],[]⟩ (sem_condF (by kernel_rfl) (by kernel_rfl) (z4 ⟨[(0,s_Rect s)],[]⟩ ?_))
 refine z7 (evs_at (at_build (es:=List.map c_Rect []) (e:=98) (d:=5) (by kernel_rfl)) (zA 1 ?_))
 refine evs_op (st_app (c:=c_Rect) (l:=[]) (l2:=s) (x:=s_Rect s) (g:=5) (e:=98) (sz:=4) (d:=7) (by kernel_rfl) (by kernel_rfl) (by kernel_rfl) (by kernel_rfl) (fun _=>rfl) rfl h) (z1 1 ⟨[(2,ro 5 98)],[(5,w_Rect 98 r)]⟩ (zN fun τ hτ=>?_))
 exact rk_ret hτ [(2,ro 0 98)] (subR_of [(5,0)] rfl rfl (by kernel_rfl)) (by kernel_rfl)
theorem W.cut_back_k_ok {l : (List Rect)} {x1 : Int} {y : Int} {r : (List Rect)} (h : cut_back_k l x1 y = some r) : PC G.P 91 [(.sl (List.map c_Rect l)),(vI x1),(vI y)] [] (.row (.top 0) 98) [(0,.row 98 [] (List.map c_Rect r))]:=by
 refine zU G Tryz.func91 (zK ⟨[(0,s_Rect l),(1,vI x1),(2,vI y)],[]⟩ (z3 1 ⟨[(0,s_Rect l),(1,vI x1),(2,vI y)],[]⟩ ?_))
 refine z7 (zA 1 ?_)
 obtain ⟨r2,hr2,h⟩:=bindS h
 refine evs_callS [] [(0,700050)] [] (by kernel_rfl) (W.slices_Clone_Lapi_Rect_api_Rect'_ok hr2) (by kernel_rfl) (by kernel_rfl) (.inl rfl) (z1 1 ⟨[(1,vI x1),(2,vI y),(7,ro 700050 98)],[(700050,w_Rect 98 r2)]⟩ (zB ?_))
 refine z7 (zA 1 (evs_op (st_len (c:=c_Rect) (l:=r2) (x:=(ro 700050 98)) (by kernel_rfl) (by kernel_rfl)) ?_))
 refine z1 1 ⟨[(1,vI x1),(2,vI y),(7,ro 700050 98),(13,vI (r2.length : Int)),(14,vI 0)],[(700050,w_Rect 98 r2)]⟩ (zC ?_)
 obtain ⟨x32,hx32,h⟩:=bindS h
 refine sem_loopS (fun (s23 : Int × (List Rect))=>⟨[(1,vI x1),(2,vI y),(7,ro 500000 98),(13,vI (r2.length : Int)),(14,vI s23.1)],[(500000,w_Rect 98 s23.2)]⟩) (fun (x32 : (List Rect))=>(.exit 0,⟨[(7,ro 500000 98)],[(500000,w_Rect 98 x32)]⟩)) (cut_back_k_l1 x1 y r2) (0,r2) x32 (by kernel_rfl) (subR_prep [] [(700050,500000)] (by kernel_rfl) rfl rfl (by kernel_rfl)) (iter_loop hx32) ?_ ?_ ?_
 intro s23 r h
 refine z3 1 ⟨[(1,vI x1),(2,vI y),(7,ro 500000 98),(13,vI (r2.length : Int)),(14,vI s23.1),(15,vB (decide (s23.1 < (r2.length : Int))))],[(500000,w_Rect 98 s23.2)]⟩ (zB (zI (decide (s23.1 < (r2.length : Int))) (fun hb=>?_) fun hb=>?_))
 replace h:=iteT hb h
 refine z4 ⟨[(1,vI x1),(2,vI y),(7,ro 500000 98),(13,vI (r2.length : Int)),(14,vI s23.1)],[(500000,w_Rect 98 s23.2)]⟩ (zB (zC ?_))
 refine z3 2 ⟨[(1,vI x1),(2,vI y),(7,ro 500000 98),(8,vI s23.1),(13,vI (r2.length : Int)),(14,vI s23.1)],[(500000,w_Rect 98 s23.2)]⟩ (z7 (zA 2 ?_))
 obtain ⟨x31,hx31,h⟩:=bindS h
 refine evs_op (st_idxO (c:=c_Rect) (l:=s23.2) (i:=s23.1) (kd:=.i64) (kk:=(.top 500000)) (e:=98) (sz:=4) (by kernel_rfl) (by kernel_rfl) hx31 rfl) (z1 1 ⟨[(1,vI x1),(2,vI y),(7,ro 500000 98),(9,.rptr (.top 500000) 98 (Int.toNat s23.1) 0),(13,vI (r2.length : Int)),(14,vI s23.1)],[(500000,w_Rect 98 s23.2)]⟩ (zB ?_))
 refine z7 (zA 3 (evs_op (st_ldO (c:=c_Rect) (l:=s23.2) (i:=(Int.toNat s23.1)) (v:=(vI x31.X)) (agg:=false) (sz:=1) (kk:=(.top 500000)) (e:=98) (off:=0) (J:=[]) (by kernel_rfl) (by kernel_rfl) (by kernel_rfl) ((idxS hx31).2) (by kernel_rfl)) ?_))
 refine zA 2 (zS (decide (x31.X < (-4194304))) (fun b0=>⟨[(1,vI x1),(2,vI y),(7,ro 500000 98),(9,.rptr (.top 500000) 98 (Int.toNat s23.1) 0),(13,vI (r2.length : Int)),(14,vI s23.1),(25,vB b0)],[(500000,w_Rect 98 s23.2)]⟩) (fun hb=>?_) fun hb=>?_)
 replace h:=iteT hb h
 exact nomatch h
 replace h:=iteF hb h
 refine zA 3 (evs_op (st_ldO (c:=c_Rect) (l:=s23.2) (i:=(Int.toNat s23.1)) (v:=(vI x31.X)) (agg:=false) (sz:=1) (kk:=(.top 500000)) (e:=98) (off:=0) (J:=[]) (by kernel_rfl) (by kernel_rfl) (by kernel_rfl) ((idxS hx31).2) (by kernel_rfl)) (zA 3 ?_))
 refine zS (decide (x31.X > 4194304)) (fun b0=>⟨[(1,vI x1),(2,vI y),(7,ro 500000 98),(9,.rptr (.top 500000) 98 (Int.toNat s23.1) 0),(13,vI (r2.length : Int)),(14,vI s23.1),(32,vB b0)],[(500000,w_Rect 98 s23.2)]⟩) (fun hb=>?_) fun hb=>?_
 replace h:=iteT hb h
 exact nomatch h
 replace h:=iteF hb h
 refine zA 3 (evs_op (st_ldO (c:=c_Rect) (l:=s23.2) (i:=(Int.toNat s23.1)) (v:=(vI x31.Y)) (agg:=false) (sz:=1) (kk:=(.top 500000)) (e:=98) (off:=1) (J:=[]) (by kernel_rfl) (by kernel_rfl) (by kernel_rfl) ((idxS hx31).2) (by kernel_rfl)) (zA 3 ?_))
 refine zS (decide (x31.Y < (-4194304))) (fun b0=>⟨[(1,vI x1),(2,vI y),(7,ro 500000 98),(9,.rptr (.top 500000) 98 (Int.toNat s23.1) 0),(13,vI (r2.length : Int)),(14,vI s23.1),(39,vB b0)],[(500000,w_Rect 98 s23.2)]⟩) (fun hb=>?_) fun hb=>?_
 replace h:=iteT hb h
 exact nomatch h
 replace h:=iteF hb h
 refine zA 3 (evs_op (st_ldO (c:=c_Rect) (l:=s23.2) (i:=(Int.toNat s23.1)) (v:=(vI x31.Y)) (agg:=false) (sz:=1) (kk:=(.top 500000)) (e:=98) (off:=1) (J:=[]) (by kernel_rfl) (by kernel_rfl) (by kernel_rfl) ((idxS hx31).2) (by kernel_rfl)) (z1 2 ⟨[(1,vI x1),(2,vI y),(7,ro 500000 98),(9,.rptr (.top 500000) 98 (Int.toNat s23.1) 0),(13,vI (r2.length : Int)),(14,vI s23.1),(45,vB (decide (x31.Y > 4194304)))],[(500000,w_Rect 98 s23.2)]⟩ ?_))
 refine zI (decide (x31.Y > 4194304)) (fun hb=>?_) fun hb=>?_
 replace h:=iteT hb h
 exact nomatch h
 replace h:=iteF hb h
 refine z4 ⟨[(1,vI x1),(2,vI y),(7,ro 500000 98),(9,.rptr (.top 500000) 98 (Int.toNat s23.1) 0),(13,vI (r2.length : Int)),(14,vI s23.1)],[(500000,w_Rect 98 s23.2)]⟩ (z7 (zA 3 ?_))
 refine evs_op (st_ldO (c:=c_Rect) (l:=s23.2) (i:=(Int.toNat s23.1)) (v:=(vI x31.X)) (agg:=false) (sz:=1) (kk:=(.top 500000)) (e:=98) (off:=0) (J:=[]) (by kernel_rfl) (by kernel_rfl) (by kernel_rfl) ((idxS hx31).2) (by kernel_rfl)) (zA 4 (evs_op (st_stO (c:=c_Rect) (l:=s23.2) (i:=(Int.toNat s23.1)) (x:=x31) (x':=(Rect.mk (isub x31.X x1) x31.Y x31.W x31.H)) (v:=(vI (isub x31.X x1))) (agg:=false) (sz:=1) (kk:=(.top 500000)) (e:=98) (off:=0) (J:=[]) (o:=w_Rect 98 (List.set s23.2 (Int.toNat s23.1) (Rect.mk (isub x31.X x1) x31.Y x31.W x31.H))) (by kernel_rfl) (by kernel_rfl) (by kernel_rfl) ((idxS hx31).2) (by kernel_rfl) (by kernel_rfl) (by kernel_rfl)) ?_))
 refine zP fun τ hτ=>?_
 refine zE hτ ⟨[(1,vI x1),(2,vI y),(7,ro 500000 98),(9,.rptr (.top 500000) 98 (Int.toNat s23.1) 0),(13,vI (r2.length : Int)),(14,vI s23.1)],[(500000,w_Rect 98 (List.set s23.2 (Int.toNat s23.1) (Rect.mk (isub x31.X x1) x31.Y x31.W x31.H)))]⟩ (zD (zA 3 ?_))
 refine evs_op (st_ldO (c:=c_Rect) (l:=(List.set s23.2 (Int.toNat s23.1) (Rect.mk (isub x31.X x1) x31.Y x31.W x31.H))) (i:=(Int.toNat s23.1)) (v:=(vI (((Rect.mk (isub x31.X x1) x31.Y x31.W x31.H)).Y))) (agg:=false) (sz:=1) (kk:=(.top 500000)) (e:=98) (off:=1) (J:=[]) (by kernel_rfl) (by kernel_rfl) (by kernel_rfl) (setget (((idxS hx31).2))) (by kernel_rfl)) (zA 4 (evs_op (st_stO (c:=c_Rect) (l:=(List.set s23.2 (Int.toNat s23.1) (Rect.mk (isub x31.X x1) x31.Y x31.W x31.H))) (i:=(Int.toNat s23.1)) (x:=(Rect.mk (isub x31.X x1) x31.Y x31.W x31.H)) (x':=(Rect.mk (((Rect.mk (isub x31.X x1) x31.Y x31.W x31.H)).X) (isub (((Rect.mk (isub x31.X x1) x31.Y x31.W x31.H)).Y) y) (((Rect.mk (isub x31.X x1) x31.Y x31.W x31.H)).W) (((Rect.mk (isub x31.X x1) x31.Y x31.W x31.H)).H))) (v:=(vI (isub (((Rect.mk (isub x31.X x1) x31.Y x31.W x31.H)).Y) y))) (agg:=false) (sz:=1) (kk:=(.top 500000)) (e:=98) (off:=1) (J:=[]) (o:=w_Rect 98 (List.set (List.set s23.2 (Int.toNat s23.1) (Rect.mk (isub x31.X x1) x31.Y x31.W x31.H)) (Int.toNat s23.1) (Rect.mk (((Rect.mk (isub x31.X x1) x31.Y x31.W x31.H)).X) (isub (((Rect.mk (isub x31.X x1) x31.Y x31.W x31.H)).Y) y) (((Rect.mk (isub x31.X x1) x31.Y x31.W x31.H)).W) (((Rect.mk (isub x31.X x1) x31.Y x31.W x31.H)).H)))) (by kernel_rfl) (by kernel_rfl) (by kernel_rfl) (setget (((idxS hx31).2))) (by kernel_rfl) (by kernel_rfl) (by kernel_rfl)) ?_))
 refine zP fun τ hτ=>?_
 refine bl_normal (zE hτ ⟨[(1,vI x1),(2,vI y),(7,ro 500000 98),(13,vI (r2.length : Int)),(14,vI s23.1)],[(500000,w_Rect 98 (List.set (List.set s23.2 (Int.toNat s23.1) (Rect.mk (isub x31.X x1) x31.Y x31.W x31.H)) (Int.toNat s23.1) (Rect.mk (((Rect.mk (isub x31.X x1) x31.Y x31.W x31.H)).X) (isub (((Rect.mk (isub x31.X x1) x31.Y x31.W x31.H)).Y) y) (((Rect.mk (isub x31.X x1) x31.Y x31.W x31.H)).W) (((Rect.mk (isub x31.X x1) x31.Y x31.W x31.H)).H))))]⟩ (zD ?_))
 refine z6 2 fun τ hτ=>?_
 obtain rfl:=osi h
 exact zH hτ
 replace h:=iteF hb h
 refine zL 0 fun τ hτ=>?_
 refine th_exit ?_
 obtain rfl:=osi h
 exact zF hτ
 intro x
 rfl
 intro τ hτ
 refine zQ (zE hτ ⟨[(7,ro 500000 98)],[(500000,w_Rect 98 x32)]⟩ (z8 2 ⟨[(6,ro 500000 98)],[(500000,w_Rect 98 x32)]⟩ fun τ hτ=>?_))
 obtain rfl:=osi h
 exact rk_ret hτ [(6,ro 0 98)] (subR_prep [] [(500000,0)] (by kernel_rfl) rfl rfl (by kernel_rfl)) (by kernel_rfl)
theorem W.nest_connected_k_ok {l : (List Rect)} {r : Bool} (h : nest_connected_k l = some r) : PC G.P 145 [(.sl (List.map c_Rect l))] [] (vB r) []:=by
 refine zU G Tryz.func145 (zK ⟨[(0,s_Rect l)],[]⟩ (z3 1 ⟨[(0,s_Rect l)],[]⟩ ?_))
 refine z7 (zA 1 (evs_op (st_len (c:=c_Rect) (l:=l) (x:=(s_Rect l)) (by kernel_rfl) (by kernel_rfl)) ?_))
 obtain ⟨l2,hl2,h⟩:=bindS h
 refine evs_op (st_mk (c:=cB) (z:=false) (n:=(l.length : Int)) (e:=4) (d:=11) (zs:=[(vB false)]) (k1:=.i64) (k2:=.i64) (by kernel_rfl) rfl hl2) (z1 1 ⟨[(0,s_Rect l),(3,ro 11 4)],[(11,wB 4 l2)]⟩ (z7 ?_))
 refine zA 1 ?_
 obtain ⟨x4,hx4,h⟩:=bindS h
 refine evs_op (st_idxO (c:=cB) (l:=l2) (i:=0) (kd:=.i64) (kk:=(.top 11)) (e:=4) (sz:=1) (by kernel_rfl) (by kernel_rfl) hx4 rfl) (evs_op (st_stO (c:=cB) (l:=l2) (i:=(Int.toNat 0)) (x:=x4) (x':=true) (v:=(vB true)) (agg:=false) (sz:=1) (kk:=(.top 11)) (e:=4) (off:=0) (J:=[]) (o:=wB 4 (List.set l2 (Int.toNat 0) true)) (by kernel_rfl) (by kernel_rfl) (by kernel_rfl) ((idxS hx4).2) (by kernel_rfl) (by kernel_rfl) (by kernel_rfl)) (zP fun τ hτ=>?_))
 refine zE hτ ⟨[(0,s_Rect l),(3,ro 11 4)],[(11,wB 4 (List.set l2 (Int.toNat 0) true))]⟩ (z7 (evs_at (at_build (e:=3) (d:=14) (es:=(List.map cI [0])) (by kernel_rfl)) ?_))
 refine evs_toTl (g:=14) (e:=3) (l:=[0]) (by kernel_rfl) (by kernel_rfl) (by kernel_rfl) (z1 1 ⟨[(0,s_Rect l),(3,ro 11 4),(4,ro 14 3)],[(11,wB 4 (List.set l2 (Int.toNat 0) true)),(14,.tl 3 [0])]⟩ (zB ?_))
 refine zC ?_
 obtain ⟨x148,hx148,h⟩:=bindS h
 refine sem_loopS (fun (s101 : (List Int))=>⟨[(0,s_Rect l),(3,ro 500000 4),(4,ro 500001 3)],[(500000,wB 4 (List.set l2 (Int.toNat 0) true)),(500001,.tl 3 s101)]⟩) (fun (x148 : Unit)=>(.exit 0,⟨[(3,ro 500000 4)],[(500000,wB 4 (List.set l2 (Int.toNat 0) true))]⟩)) (nest_connected_k_l2 l l2) [0] x148 (by kernel_rfl) (subR_prep [] [(11,500000),(14,500001)] (by kernel_rfl) rfl rfl (by kernel_rfl)) (iter_loop hx148) ?_ ?_ ?_
 intro s101 r h
 refine zB (z7 (zA 1 ?_))
 refine evs_at (at_lenT (g:=500001) (e:=3) (l:=s101) (by kernel_rfl) (by kernel_rfl)) (z1 1 ⟨[(0,s_Rect l),(3,ro 500000 4),(4,ro 500001 3),(17,vB (decide ((s101.length : Int) > 0)))],[(500000,wB 4 (List.set l2 (Int.toNat 0) true)),(500001,.tl 3 s101)]⟩ (zI (decide ((s101.length : Int) > 0)) (fun hb=>?_) fun hb=>?_))
 replace h:=iteT hb h
 refine z4 ⟨[(0,s_Rect l),(3,ro 500000 4),(4,ro 500001 3)],[(500000,wB 4 (List.set l2 (Int.toNat 0) true)),(500001,.tl 3 s101)]⟩ (zC (z7 ?_))
 refine zA 1 ?_
 obtain ⟨x126,hx126,h⟩:=bindS h
 refine evs_getT (g:=500001) (e:=3) (d1:=19) (d2:=20) (l:=s101) (i:=0) (kd:=.i64) (by kernel_rfl) (by kernel_rfl) (by kernel_rfl) hx126 (z1 1 ⟨[(0,s_Rect l),(3,ro 500000 4),(4,ro 500001 3),(5,vI x126)],[(500000,wB 4 (List.set l2 (Int.toNat 0) true)),(500001,.tl 3 s101)]⟩ (z7 ?_))
 refine zA 1 ?_
 obtain ⟨hb1,h⟩:=iteN h
 refine evs_at (at_dropT (g:=500001) (e:=3) (n:=1) (kd:=.i64) (l:=s101) (by kernel_rfl) (by kernel_rfl) (by kernel_rfl) hb1) (z1 1 ⟨[(0,s_Rect l),(3,ro 500000 4),(4,ro 500001 3),(5,vI x126)],[(500000,wB 4 (List.set l2 (Int.toNat 0) true)),(500001,.tl 3 (List.drop 1 s101))]⟩ (z7 ?_))
 refine zA 1 (evs_op (st_len (c:=c_Rect) (l:=l) (x:=(s_Rect l)) (by kernel_rfl) (by kernel_rfl)) (z1 1 ⟨[(0,s_Rect l),(3,ro 500000 4),(4,ro 500001 3),(5,vI x126),(24,vI (l.length : Int)),(25,vI 0)],[(500000,wB 4 (List.set l2 (Int.toNat 0) true)),(500001,.tl 3 (List.drop 1 s101))]⟩ ?_))
 refine zC ?_
 obtain ⟨x147,hx147,h⟩:=bindS h
 refine sem_loopS (fun (s134 : Int)=>⟨[(0,s_Rect l),(3,ro 500000 4),(4,ro 500001 3),(5,vI x126),(24,vI (l.length : Int)),(25,vI s134)],[(500000,wB 4 (List.set l2 (Int.toNat 0) true)),(500001,.tl 3 (List.drop 1 s101))]⟩) (fun (x147 : Unit)=>(.exit 2,⟨[(0,s_Rect l),(3,ro 500000 4),(4,ro 500001 3)],[(500000,wB 4 (List.set l2 (Int.toNat 0) true)),(500001,.tl 3 (List.drop 1 s101))]⟩)) (nest_connected_k_l1 l l2) 0 x147 (by kernel_rfl) (here (by kernel_rfl)) (iter_loop hx147) ?_ ?_ ?_
 intro s134 r h
 refine z3 1 ⟨[(0,s_Rect l),(3,ro 500000 4),(4,ro 500001 3),(5,vI x126),(24,vI (l.length : Int)),(25,vI s134),(26,vB (decide (s134 < (l.length : Int))))],[(500000,wB 4 (List.set l2 (Int.toNat 0) true)),(500001,.tl 3 (List.drop 1 s101))]⟩ (zB (zI (decide (s134 < (l.length : Int))) (fun hb=>?_) fun hb=>?_))
 replace h:=iteT hb h
 refine z4 ⟨[(0,s_Rect l),(3,ro 500000 4),(4,ro 500001 3),(5,vI x126),(24,vI (l.length : Int)),(25,vI s134)],[(500000,wB 4 (List.set l2 (Int.toNat 0) true)),(500001,.tl 3 (List.drop 1 s101))]⟩ (zB (zC ?_))
 refine z3 2 ⟨[(0,s_Rect l),(3,ro 500000 4),(4,ro 500001 3),(5,vI x126),(6,vI s134),(24,vI (l.length : Int)),(25,vI s134)],[(500000,wB 4 (List.set l2 (Int.toNat 0) true)),(500001,.tl 3 (List.drop 1 s101))]⟩ (zB (sem_drawN [] [] [] [] [] 14 (by kernel_rfl) (by kernel_rfl) (by kernel_rfl) ?_))
 refine evd_run 2 (by kernel_rfl) ?_
 obtain ⟨x146,hx146,h⟩:=bindS h
 refine evd_val (by kernel_rfl) (st_idxO (c:=cB) (l:=(List.set l2 (Int.toNat 0) true)) (i:=s134) (kd:=.i64) (kk:=(.top 500000)) (e:=4) (sz:=1) (by kernel_rfl) (by kernel_rfl) hx146 rfl) (by kernel_rfl) (by kernel_rfl) (evd_val (by kernel_rfl) (st_ldO (c:=cB) (l:=(List.set l2 (Int.toNat 0) true)) (i:=(Int.toNat s134)) (v:=(vB x146)) (agg:=false) (sz:=1) (kk:=(.top 500000)) (e:=4) (off:=0) (J:=[]) (by kernel_rfl) (by kernel_rfl) (by kernel_rfl) ((idxS hx146).2) (by kernel_rfl)) (by kernel_rfl) (by kernel_rfl) (evd_run 2 (by kernel_rfl) ?_))
 refine evd_split x146 (fun b0=>⟨[(33,vB (!b0)),(32,vB (!b0)),(31,vB b0),(30,.rptr (.top 500000) 4 (Int.toNat s134) 0),(29,vI s134),(28,ro 500000 4),(0,s_Rect l),(3,ro 500000 4),(4,ro 500001 3),(5,vI x126),(6,vI s134),(24,vI (l.length : Int)),(25,vI s134)],[(500000,wB 4 (List.set l2 (Int.toNat 0) true)),(500001,.tl 3 (List.drop 1 s101))]⟩) (by kernel_rfl) (fun hb=>?_) fun hb=>?_
 replace h:=iteT hb h
 refine evd_run 8 (by kernel_rfl) (evd_end (by kernel_rfl) (evo_run 2 (by kernel_rfl) ?_))
 refine zO fun τ hτ=>?_
 refine zE hτ ⟨[(0,s_Rect l),(3,ro 500000 4),(4,ro 500001 3),(5,vI x126),(6,vI s134),(24,vI (l.length : Int)),(25,vI s134),(43,vB false)],[(500000,wB 4 (List.set l2 (Int.toNat 0) true)),(500001,.tl 3 (List.drop 1 s101))]⟩ (sem_condF (by kernel_rfl) (by kernel_rfl) (zM fun τ hτ=>?_))
 refine bl_normal (zE hτ ⟨[(0,s_Rect l),(3,ro 500000 4),(4,ro 500001 3),(5,vI x126),(24,vI (l.length : Int)),(25,vI s134)],[(500000,wB 4 (List.set l2 (Int.toNat 0) true)),(500001,.tl 3 (List.drop 1 s101))]⟩ (zD ?_))
 refine z6 2 fun τ hτ=>?_
 obtain rfl:=osi h
 exact zH hτ
 replace h:=iteF hb h
 exact nomatch h
 replace h:=iteF hb h
 refine zL 2 fun τ hτ=>?_
 refine th_exit ?_
 obtain rfl:=osi h
 exact zF hτ
 intro x
 rfl
 intro τ hτ
 refine zQ (bl_normal ?_)
 obtain rfl:=osi h
 exact zH hτ
 replace h:=iteF hb h
 refine zL 0 fun τ hτ=>?_
 refine th_exit ?_
 obtain rfl:=osi h
 exact zF hτ
 intro x
 rfl
 intro τ hτ
 refine zQ (zE hτ ⟨[(3,ro 500000 4)],[(500000,wB 4 (List.set l2 (Int.toNat 0) true))]⟩ (zB ?_))
 refine z7 (zA 1 (evs_op (st_len (c:=cB) (l:=(List.set l2 (Int.toNat 0) true)) (x:=(ro 500000 4)) (by kernel_rfl) (by kernel_rfl)) ?_))
 refine z1 1 ⟨[(52,ro 500000 4),(53,vI ((List.set l2 (Int.toNat 0) true).length : Int)),(54,vI 0)],[(500000,wB 4 (List.set l2 (Int.toNat 0) true))]⟩ (zC ?_)
 obtain ⟨x178,hx178,h⟩:=bindS h
 refine sem_loopS (fun (s169 : Int)=>⟨[(52,ro 500000 4),(53,vI ((List.set l2 (Int.toNat 0) true).length : Int)),(54,vI s169)],[(500000,wB 4 (List.set l2 (Int.toNat 0) true))]⟩) (fun (x178 : Unit)=>(.exit 4,⟨[],[]⟩)) (nest_connected_k_l3 l2) 0 x178 (by kernel_rfl) (here (by kernel_rfl)) (iter_loop hx178) ?_ ?_ ?_
 intro s169 r h
 refine z3 1 ⟨[(52,ro 500000 4),(53,vI ((List.set l2 (Int.toNat 0) true).length : Int)),(54,vI s169),(55,vB (decide (s169 < ((List.set l2 (Int.toNat 0) true).length : Int))))],[(500000,wB 4 (List.set l2 (Int.toNat 0) true))]⟩ (zB (zI (decide (s169 < ((List.set l2 (Int.toNat 0) true).length : Int))) (fun hb=>?_) fun hb=>?_))
 replace h:=iteT hb h
 refine z4 ⟨[(52,ro 500000 4),(53,vI ((List.set l2 (Int.toNat 0) true).length : Int)),(54,vI s169)],[(500000,wB 4 (List.set l2 (Int.toNat 0) true))]⟩ (zB (zC ?_))
 refine z7 ?_
 obtain ⟨x177,hx177,h⟩:=bindS h
 refine evs_op (st_idxO (c:=cB) (l:=(List.set l2 (Int.toNat 0) true)) (i:=s169) (kd:=.i64) (kk:=(.top 500000)) (e:=4) (sz:=1) (by kernel_rfl) (by kernel_rfl) hx177 rfl) (evs_op (st_ldO (c:=cB) (l:=(List.set l2 (Int.toNat 0) true)) (i:=(Int.toNat s169)) (v:=(vB x177)) (agg:=false) (sz:=1) (kk:=(.top 500000)) (e:=4) (off:=0) (J:=[]) (by kernel_rfl) (by kernel_rfl) (by kernel_rfl) ((idxS hx177).2) (by kernel_rfl)) (z1 1 ⟨[(8,vB x177),(52,ro 500000 4),(53,vI ((List.set l2 (Int.toNat 0) true).length : Int)),(54,vI s169)],[(500000,wB 4 (List.set l2 (Int.toNat 0) true))]⟩ ?_))
 refine z3 2 ⟨[(52,ro 500000 4),(53,vI ((List.set l2 (Int.toNat 0) true).length : Int)),(54,vI s169),(59,vB (!x177))],[(500000,wB 4 (List.set l2 (Int.toNat 0) true))]⟩ (zI (!x177) (fun hb=>?_) fun hb=>?_)
 replace h:=iteT hb h
 exact nomatch h
 replace h:=iteF hb h
 refine zM fun τ hτ=>?_
 refine bl_normal (zE hτ ⟨[(52,ro 500000 4),(53,vI ((List.set l2 (Int.toNat 0) true).length : Int)),(54,vI s169)],[(500000,wB 4 (List.set l2 (Int.toNat 0) true))]⟩ (zD ?_))
 refine z6 2 fun τ hτ=>?_
 obtain rfl:=osi h
 exact zH hτ
 replace h:=iteF hb h
 refine zL 4 fun τ hτ=>?_
 refine th_exit ?_
 obtain rfl:=osi h
 exact zF hτ
 intro x
 rfl
 intro τ hτ
 refine zQ (zE hτ ⟨[],[]⟩ (z8 1 ⟨[(2,vB true)],[]⟩ fun τ hτ=>?_))
 obtain rfl:=osi h
 exact zV hτ [(2,vB true)]
theorem W.nest_inside_k_ok {x0 : Piece} {r : Int} (h : nest_inside_k x0 = some r) : PC G.P 146 [(.agg (c_Piece x0))] [] (vI r) []:=by
 refine zU G Tryz.func146 (zK ⟨[(0,.agg (c_Piece x0))],[]⟩ (z3 2 ⟨[(1,.ptr 1 0)],[(1,.box (c_Piece x0))]⟩ ?_))
 refine zB (sem_draw [(2,[12])] [(2,[12])] [] [(3,[12]),(4,[12])] [(0,[12]),(1,[12]),(3,[12]),(4,[12])] 5 (by kernel_rfl) (by kernel_rfl) [12] (by kernel_rfl) (by kernel_rfl) (evd_run 2 (by kernel_rfl) ?_))
 obtain ⟨l5,hl5,h⟩:=bindS h
 refine evd_new (by kernel_rfl) (st_appN (c:=c_Rect) (l2:=x0.Cuts) (x:=(s_Rect x0.Cuts)) (e:=98) (sz:=4) (d:=12) (by kernel_rfl) (by kernel_rfl) (by kernel_rfl) (fun _=>rfl) hl5) (by kernel_rfl) (by kernel_rfl) (by kernel_rfl) (by kernel_rfl) (evd_run 2 (by kernel_rfl) (evd_end (by kernel_rfl) ?_))
 obtain ⟨l6,hl6,h⟩:=bindS h
 refine evo_op (st_app (c:=c_Rect) (l:=l5) (l2:=x0.Forms) (x:=(s_Rect x0.Forms)) (g:=12) (e:=98) (sz:=4) (d:=15) (by kernel_rfl) (by kernel_rfl) (by kernel_rfl) (by kernel_rfl) (fun _=>rfl) rfl hl6) (evo_run 1 (by kernel_rfl) (zO fun τ hτ=>?_))
 refine zE hτ ⟨[(1,.ptr 1 0),(3,ro 12 98)],[(1,.box (c_Piece x0)),(12,w_Rect 98 l6)]⟩ (zB (z7 ?_))
 refine zA 1 (evs_op (st_len (c:=c_Rect) (l:=l6) (x:=(ro 12 98)) (by kernel_rfl) (by kernel_rfl)) (z1 1 ⟨[(1,.ptr 1 0),(3,ro 12 98),(16,ro 12 98),(17,vI (l6.length : Int)),(18,vI 0)],[(1,.box (c_Piece x0)),(12,w_Rect 98 l6)]⟩ ?_))
 refine zC ?_
 obtain ⟨x10,hx10,h⟩:=bindS h
 refine sem_loopS (fun (s9 : Unit)=>⟨[(1,.ptr 500000 0),(3,ro 500001 98),(16,ro 500001 98),(17,vI (l6.length : Int)),(18,vI 0)],[(500000,.box (c_Piece x0)),(500001,w_Rect 98 l6)]⟩) (fun (x10 : Unit)=>(.exit 0,⟨[(3,ro 500000 98)],[(500000,w_Rect 98 l6)]⟩)) (nest_inside_k_l1 l6) () x10 (by kernel_rfl) (subR_prep [] [(1,500000),(12,500001)] (by kernel_rfl) rfl rfl (by kernel_rfl)) (iter_loop hx10) ?_ ?_ ?_
 intro s9 r h
 refine z3 1 ⟨[(1,.ptr 500000 0),(3,ro 500001 98),(16,ro 500001 98),(17,vI (l6.length : Int)),(18,vI 0),(19,vB (decide (0 < (l6.length : Int))))],[(500000,.box (c_Piece x0)),(500001,w_Rect 98 l6)]⟩ (zB (zI (decide (0 < (l6.length : Int))) (fun hb=>?_) fun hb=>?_))
 replace h:=iteT hb h
 exact nomatch h
 replace h:=iteF hb h
 refine zL 0 fun τ hτ=>?_
 refine th_exit ?_
 obtain rfl:=osi h
 exact lk_outS hτ rfl (subR_prep [] [(500001,500000)] (by kernel_rfl) rfl rfl (by kernel_rfl))
 intro x
 rfl
 intro τ hτ
 refine zQ (zE hτ ⟨[(3,ro 500000 98)],[(500000,w_Rect 98 l6)]⟩ (zB ?_))
 refine z7 (zA 1 (evs_op (st_len (c:=c_Rect) (l:=l6) (x:=(ro 500000 98)) (by kernel_rfl) (by kernel_rfl)) ?_))
 refine z1 1 ⟨[(3,ro 500000 98),(46,ro 500000 98),(47,vI (l6.length : Int)),(48,vI 0)],[(500000,w_Rect 98 l6)]⟩ (zC ?_)
 obtain ⟨x14,hx14,h⟩:=bindS h
 refine sem_loopS (fun (s13 : Unit)=>⟨[(3,ro 500000 98),(46,ro 500000 98),(47,vI (l6.length : Int)),(48,vI 0)],[(500000,w_Rect 98 l6)]⟩) (fun (x14 : Unit)=>(.exit 2,⟨[],[]⟩)) (nest_inside_k_l2 l6) () x14 (by kernel_rfl) (here (by kernel_rfl)) (iter_loop hx14) ?_ ?_ ?_
 intro s13 r h
 refine z3 1 ⟨[(3,ro 500000 98),(46,ro 500000 98),(47,vI (l6.length : Int)),(48,vI 0),(49,vB (decide (0 < (l6.length : Int))))],[(500000,w_Rect 98 l6)]⟩ (zB (zI (decide (0 < (l6.length : Int))) (fun hb=>?_) fun hb=>?_))
 replace h:=iteT hb h
 exact nomatch h
 replace h:=iteF hb h
 refine zL 2 fun τ hτ=>?_
 refine th_exit ?_
 obtain rfl:=osi h
 exact zF hτ
 intro x
 rfl
 intro τ hτ
 refine zQ (zE hτ ⟨[],[]⟩ (z8 1 ⟨[(2,vI 0)],[]⟩ fun τ hτ=>?_))
 obtain rfl:=osi h
 exact zV hτ [(2,vI 0)]
theorem W.nest_ValidatePiece_k_ok {x0 : Piece} {r : Int} (h : nest_ValidatePiece_k x0 = some r) : PC G.P 90 [(.agg (c_Piece x0))] [] (vI r) []:=by
 refine zU G Tryz.func90 (zK ⟨[(0,.agg (c_Piece x0))],[]⟩ (z3 2 ⟨[(1,.ptr 1 0)],[(1,.box (c_Piece x0))]⟩ ?_))
 refine zB (zC (z7 ?_))
 refine zA 2 ?_
 obtain ⟨r15,hr15,h⟩:=bindS h
 refine evs_callP [] (by kernel_rfl) (W.part_ValidName_k_ok hr15) (by kernel_rfl) (.inl rfl) (by kernel_rfl) (zA 2 (zS r15 (fun b0=>⟨[(1,.ptr 1 0),(16,vB (!b0))],[(1,.box (c_Piece x0))]⟩) (fun hb=>?_) fun hb=>?_))
 replace h:=iteT hb h
 refine zA 2 ?_
 obtain ⟨r16,hr16,h⟩:=bindS h
 refine evs_callP [] (by kernel_rfl) (W.part_ValidName_k_ok hr16) (by kernel_rfl) (.inl rfl) (by kernel_rfl) (z1 3 ⟨[(1,.ptr 1 0),(11,vB (!r16))],[(1,.box (c_Piece x0))]⟩ (zI (!r16) (fun hb=>?_) fun hb=>?_))
 replace h:=iteT hb h
 exact nomatch h
 replace h:=iteF hb h
 refine z7 (zA 4 ?_)
 obtain ⟨r18,hr18,h⟩:=bindS h
 refine evs_callP [] (by kernel_rfl) (W.nest_plain_k_ok hr18) (by kernel_rfl) (.inl rfl) (by kernel_rfl) (z1 2 ⟨[(1,.ptr 1 0),(22,vB (!r18))],[(1,.box (c_Piece x0))]⟩ (zI (!r18) (fun hb=>?_) fun hb=>?_))
 replace h:=iteT hb h
 exact nomatch h
 replace h:=iteF hb h
 refine z7 (zA 2 (evs_op (st_len (c:=c_Rect) (l:=x0.Rects) (x:=(s_Rect x0.Rects)) (by kernel_rfl) (by kernel_rfl)) ?_))
 refine zA 2 (zS (decide ((x0.Rects.length : Int) > 12)) (fun b0=>⟨[(1,.ptr 1 0),(34,vB b0)],[(1,.box (c_Piece x0))]⟩) (fun hb=>?_) fun hb=>?_)
 replace h:=iteT hb h
 exact nomatch h
 replace h:=iteF hb h
 refine zA 2 (evs_op (st_len (c:=c_Rect) (l:=x0.Cuts) (x:=(s_Rect x0.Cuts)) (by kernel_rfl) (by kernel_rfl)) (zA 3 ?_))
 refine zS (decide ((x0.Cuts.length : Int) > 12)) (fun b0=>⟨[(1,.ptr 1 0),(40,vB b0)],[(1,.box (c_Piece x0))]⟩) (fun hb=>?_) fun hb=>?_
 replace h:=iteT hb h
 exact nomatch h
 replace h:=iteF hb h
 refine zA 2 (evs_op (st_len (c:=c_Rect) (l:=x0.Forms) (x:=(s_Rect x0.Forms)) (by kernel_rfl) (by kernel_rfl)) (z1 3 ⟨[(1,.ptr 1 0),(29,vB (decide ((x0.Forms.length : Int) > 12)))],[(1,.box (c_Piece x0))]⟩ ?_))
 refine zI (decide ((x0.Forms.length : Int) > 12)) (fun hb=>?_) fun hb=>?_
 replace h:=iteT hb h
 exact nomatch h
 replace h:=iteF hb h
 refine z7 (zA 2 (evs_op (st_len (c:=c_Rect) (l:=x0.Rects) (x:=(s_Rect x0.Rects)) (by kernel_rfl) (by kernel_rfl)) ?_))
 refine zA 2 (zS ((x0.Rects.length : Int) == 0) (fun b0=>⟨[(1,.ptr 1 0),(51,vB b0)],[(1,.box (c_Piece x0))]⟩) (fun hb=>?_) fun hb=>?_)
 replace h:=iteT hb h
 exact nomatch h
 replace h:=iteF hb h
 refine zA 2 ?_
 obtain ⟨r22,hr22,h⟩:=bindS h
 refine evs_callP [] (by kernel_rfl) (W.nest_valid_k_ok hr22) (by kernel_rfl) (.inl rfl) (by kernel_rfl) (zA 3 (zS r22 (fun b0=>⟨[(1,.ptr 1 0),(57,vB (!b0))],[(1,.box (c_Piece x0))]⟩) (fun hb=>?_) fun hb=>?_))
 replace h:=iteT hb h
 refine zA 2 ?_
 obtain ⟨r23,hr23,h⟩:=bindS h
 refine evs_callP [] (by kernel_rfl) (W.nest_valid_k_ok hr23) (by kernel_rfl) (.inl rfl) (by kernel_rfl) (zA 3 (zS r23 (fun b0=>⟨[(1,.ptr 1 0),(63,vB (!b0))],[(1,.box (c_Piece x0))]⟩) (fun hb=>?_) fun hb=>?_))
 replace h:=iteT hb h
 refine zA 2 ?_
 obtain ⟨r24,hr24,h⟩:=bindS h
 refine evs_callP [] (by kernel_rfl) (W.nest_valid_k_ok hr24) (by kernel_rfl) (.inl rfl) (by kernel_rfl) (z1 3 ⟨[(1,.ptr 1 0),(46,vB (!r24))],[(1,.box (c_Piece x0))]⟩ (zI (!r24) (fun hb=>?_) fun hb=>?_))
 replace h:=iteT hb h
 exact nomatch h
 replace h:=iteF hb h
 refine zM fun τ hτ=>?_
 refine bl_normal (zE hτ ⟨[(1,.ptr 1 0)],[(1,.box (c_Piece x0))]⟩ (zB ?_))
 refine sem_drawN [] [] [] [] [] 11 (by kernel_rfl) (by kernel_rfl) (by kernel_rfl) (evd_run 2 (by kernel_rfl) ?_)
 obtain ⟨x29,hx29,h⟩:=bindS h
 refine evd_val (by kernel_rfl) (st_idx (c:=c_Rect) (l:=x0.Rects) (i:=0) (kd:=.i64) (sz:=4) (by kernel_rfl) hx29 rfl) (by kernel_rfl) (by kernel_rfl) (evd_run 4 (by kernel_rfl) ?_)
 obtain ⟨x30,hx30,h⟩:=bindS h
 refine evd_val (by kernel_rfl) (st_idx (c:=c_Rect) (l:=x0.Rects) (i:=0) (kd:=.i64) (sz:=4) (by kernel_rfl) hx30 rfl) (by kernel_rfl) (by kernel_rfl) (evd_run 3 (by kernel_rfl) (evd_end (by kernel_rfl) ?_))
 refine evo_run 1 (by kernel_rfl) (zO fun τ hτ=>?_)
 refine zE hτ ⟨[(1,.ptr 1 0),(3,vI x29.X),(4,vI x30.Y)],[(1,.box (c_Piece x0))]⟩ (zB (z7 ?_))
 refine zA 2 (evs_op (st_len (c:=c_Rect) (l:=x0.Rects) (x:=(s_Rect x0.Rects)) (by kernel_rfl) (by kernel_rfl)) (z1 1 ⟨[(1,.ptr 1 0),(3,vI x29.X),(4,vI x30.Y),(80,s_Rect x0.Rects),(81,vI (x0.Rects.length : Int)),(82,vI 0)],[(1,.box (c_Piece x0))]⟩ ?_))
 refine zC ?_
 obtain ⟨x60,hx60,h⟩:=bindS h
 refine sem_loopS (fun (s51 : Int × Int × Int)=>⟨[(1,.ptr 500000 0),(3,vI s51.1),(4,vI s51.2.1),(80,s_Rect x0.Rects),(81,vI (x0.Rects.length : Int)),(82,vI s51.2.2)],[(500000,.box (c_Piece x0))]⟩) (fun (x60 : Int × Int)=>(.exit 1,⟨[(1,.ptr 500000 0),(3,vI x60.1),(4,vI x60.2)],[(500000,.box (c_Piece x0))]⟩)) (nest_ValidatePiece_k_l1 x0) (x29.X,x30.Y,0) x60 (by kernel_rfl) (subR_prep [] [(1,500000)] (by kernel_rfl) rfl rfl (by kernel_rfl)) (iter_loop hx60) ?_ ?_ ?_
 intro s51 r h
 refine z3 1 ⟨[(1,.ptr 500000 0),(3,vI s51.1),(4,vI s51.2.1),(80,s_Rect x0.Rects),(81,vI (x0.Rects.length : Int)),(82,vI s51.2.2),(83,vB (decide (s51.2.2 < (x0.Rects.length : Int))))],[(500000,.box (c_Piece x0))]⟩ (zB (zI (decide (s51.2.2 < (x0.Rects.length : Int))) (fun hb=>?_) fun hb=>?_))
 replace h:=iteT hb h
 refine z4 ⟨[(1,.ptr 500000 0),(3,vI s51.1),(4,vI s51.2.1),(80,s_Rect x0.Rects),(81,vI (x0.Rects.length : Int)),(82,vI s51.2.2)],[(500000,.box (c_Piece x0))]⟩ (zB (zC ?_))
 refine z7 ?_
 obtain ⟨x59,hx59,h⟩:=bindS h
 refine evs_op (st_idx (c:=c_Rect) (l:=x0.Rects) (i:=s51.2.2) (kd:=.i64) (sz:=4) (by kernel_rfl) hx59 rfl) (z1 3 ⟨[(1,.ptr 500000 0),(3,vI s51.1),(4,vI s51.2.1),(6,.ptr 6 0),(80,s_Rect x0.Rects),(81,vI (x0.Rects.length : Int)),(82,vI s51.2.2)],[(6,.box (c_Rect x59)),(500000,.box (c_Piece x0))]⟩ (sem_drawN [] [] [] [] [] 9 (by kernel_rfl) (by kernel_rfl) (by kernel_rfl) ?_))
 refine evd_run 9 (by kernel_rfl) (evd_end (by kernel_rfl) (evo_run 1 (by kernel_rfl) ?_))
 refine zO fun τ hτ=>?_
 refine bl_normal (zE hτ ⟨[(1,.ptr 500000 0),(3,vI (imin s51.1 x59.X)),(4,vI (imin s51.2.1 x59.Y)),(80,s_Rect x0.Rects),(81,vI (x0.Rects.length : Int)),(82,vI s51.2.2)],[(500000,.box (c_Piece x0))]⟩ (zD ?_))
 refine z6 2 fun τ hτ=>?_
 obtain rfl:=osi h
 exact zH hτ
 replace h:=iteF hb h
 refine zL 1 fun τ hτ=>?_
 refine th_exit ?_
 obtain rfl:=osi h
 exact zF hτ
 intro x
 rfl
 intro τ hτ
 refine zQ (zE hτ ⟨[(1,.ptr 500000 0),(3,vI x60.1),(4,vI x60.2)],[(500000,.box (c_Piece x0))]⟩ (zB ?_))
 refine z7 (zA 3 (zS (x60.1 != 0) (fun b0=>⟨[(1,.ptr 500000 0),(4,vI x60.2),(97,vB b0)],[(500000,.box (c_Piece x0))]⟩) (fun hb=>?_) fun hb=>?_))
 replace h:=iteT hb h
 exact nomatch h
 replace h:=iteF hb h
 refine z1 3 ⟨[(1,.ptr 500000 0),(100,vB (x60.2 != 0))],[(500000,.box (c_Piece x0))]⟩ (zI (x60.2 != 0) (fun hb=>?_) fun hb=>?_)
 replace h:=iteT hb h
 exact nomatch h
 replace h:=iteF hb h
 refine z4 ⟨[(1,.ptr 500000 0)],[(500000,.box (c_Piece x0))]⟩ (zB (z7 ?_))
 refine zA 2 (evs_op (st_len (c:=c_Rect) (l:=x0.Rects) (x:=(s_Rect x0.Rects)) (by kernel_rfl) (by kernel_rfl)) (z1 1 ⟨[(1,.ptr 500000 0),(102,s_Rect x0.Rects),(103,vI (x0.Rects.length : Int)),(104,vI 0)],[(500000,.box (c_Piece x0))]⟩ ?_))
 refine zC ?_
 obtain ⟨x138,hx138,h⟩:=bindS h
 refine sem_loopS (fun (s113 : Int)=>⟨[(1,.ptr 500000 0),(102,s_Rect x0.Rects),(103,vI (x0.Rects.length : Int)),(104,vI s113)],[(500000,.box (c_Piece x0))]⟩) (fun (x138 : Unit)=>(.exit 3,⟨[(1,.ptr 500000 0)],[(500000,.box (c_Piece x0))]⟩)) (nest_ValidatePiece_k_l3 x0) 0 x138 (by kernel_rfl) (here (by kernel_rfl)) (iter_loop hx138) ?_ ?_ ?_
 intro s113 r h
 refine z3 1 ⟨[(1,.ptr 500000 0),(102,s_Rect x0.Rects),(103,vI (x0.Rects.length : Int)),(104,vI s113),(105,vB (decide (s113 < (x0.Rects.length : Int))))],[(500000,.box (c_Piece x0))]⟩ (zB (zI (decide (s113 < (x0.Rects.length : Int))) (fun hb=>?_) fun hb=>?_))
 replace h:=iteT hb h
 refine z4 ⟨[(1,.ptr 500000 0),(102,s_Rect x0.Rects),(103,vI (x0.Rects.length : Int)),(104,vI s113)],[(500000,.box (c_Piece x0))]⟩ (zB (zC ?_))
 refine z7 (zA 1 ?_)
 obtain ⟨x133,hx133,h⟩:=bindS h
 refine evs_op (st_idx (c:=c_Rect) (l:=x0.Rects) (i:=s113) (kd:=.i64) (sz:=4) (by kernel_rfl) hx133 rfl) (z1 4 ⟨[(1,.ptr 500000 0),(7,vI s113),(8,.ptr 8 0),(102,s_Rect x0.Rects),(103,vI (x0.Rects.length : Int)),(104,vI s113)],[(8,.box (c_Rect x133)),(500000,.box (c_Piece x0))]⟩ (z7 ?_))
 refine zA 3 ?_
 obtain ⟨l135,hl135,h⟩:=bindS h
 refine evs_op (st_slH (c:=c_Rect) (l:=x0.Rects) (sz:=4) (hi:=s113) (k2:=.i64) (by kernel_rfl) hl135) (evs_op (st_len (c:=c_Rect) (l:=l135) (x:=(s_Rect l135)) (by kernel_rfl) (by kernel_rfl)) (z1 1 ⟨[(1,.ptr 500000 0),(8,.ptr 8 0),(102,s_Rect x0.Rects),(103,vI (x0.Rects.length : Int)),(104,vI s113),(112,s_Rect l135),(113,vI (l135.length : Int)),(114,vI 0)],[(8,.box (c_Rect x133)),(500000,.box (c_Piece x0))]⟩ ?_))
 refine zC ?_
 obtain ⟨x137,hx137,h⟩:=bindS h
 refine sem_loopS (fun (s136 : Unit)=>⟨[(1,.ptr 500000 0),(8,.ptr 500001 0),(102,s_Rect x0.Rects),(103,vI (x0.Rects.length : Int)),(104,vI s113),(112,s_Rect l135),(113,vI (l135.length : Int)),(114,vI 0)],[(500000,.box (c_Piece x0)),(500001,.box (c_Rect x133))]⟩) (fun (x137 : Unit)=>(.exit 5,⟨[(1,.ptr 500000 0),(102,s_Rect x0.Rects),(103,vI (x0.Rects.length : Int)),(104,vI s113)],[(500000,.box (c_Piece x0))]⟩)) (nest_ValidatePiece_k_l2 l135) () x137 (by kernel_rfl) (subR_prep [] [(8,500001),(500000,500000)] (by kernel_rfl) rfl rfl (by kernel_rfl)) (iter_loop hx137) ?_ ?_ ?_
 intro s136 r h
 refine z3 1 ⟨[(1,.ptr 500000 0),(8,.ptr 500001 0),(102,s_Rect x0.Rects),(103,vI (x0.Rects.length : Int)),(104,vI s113),(112,s_Rect l135),(113,vI (l135.length : Int)),(114,vI 0),(115,vB (decide (0 < (l135.length : Int))))],[(500000,.box (c_Piece x0)),(500001,.box (c_Rect x133))]⟩ (zB (zI (decide (0 < (l135.length : Int))) (fun hb=>?_) fun hb=>?_))
 replace h:=iteT hb h
 exact nomatch h
 replace h:=iteF hb h
 refine zL 5 fun τ hτ=>?_
 refine th_exit ?_
 obtain rfl:=osi h
 exact zF hτ
 intro x
 rfl
 intro τ hτ
 refine zQ (bl_normal (zE hτ ⟨[(1,.ptr 500000 0),(102,s_Rect x0.Rects),(103,vI (x0.Rects.length : Int)),(104,vI s113)],[(500000,.box (c_Piece x0))]⟩ ?_))
 refine zD (z6 2 fun τ hτ=>?_)
 obtain rfl:=osi h
 exact zH hτ
 replace h:=iteF hb h
 refine zL 3 fun τ hτ=>?_
 refine th_exit ?_
 obtain rfl:=osi h
 exact zF hτ
 intro x
 rfl
 intro τ hτ
 refine zQ (zE hτ ⟨[(1,.ptr 500000 0)],[(500000,.box (c_Piece x0))]⟩ (zB ?_))
 refine z7 (zA 2 ?_)
 obtain ⟨r142,hr142,h⟩:=bindS h
 refine evs_callP [] (by kernel_rfl) (W.nest_connected_k_ok hr142) (by kernel_rfl) (.inl rfl) (by kernel_rfl) (z1 1 ⟨[(1,.ptr 500000 0),(126,vB (!r142))],[(500000,.box (c_Piece x0))]⟩ (zI (!r142) (fun hb=>?_) fun hb=>?_))
 replace h:=iteT hb h
 exact nomatch h
 replace h:=iteF hb h
 refine z4 ⟨[(1,.ptr 500000 0)],[(500000,.box (c_Piece x0))]⟩ (z7 (zA 1 ?_))
 obtain ⟨r144,hr144,h⟩:=bindS h
 refine evs_callP [] (by kernel_rfl) (W.nest_inside_k_ok hr144) (by kernel_rfl) (.inl rfl) (by kernel_rfl) (z1 1 ⟨[(2,vI r144)],[]⟩ (zN fun τ hτ=>?_))
 obtain rfl:=osi h
 exact zV hτ [(2,vI r144)]
 replace h:=iteF hb h
 exact nomatch h
 replace h:=iteF hb h
 exact nomatch h
 replace h:=iteF hb h
 exact nomatch h
theorem W.cut_pieceError_k_ok {x0 : Piece} {r : Int} (h : cut_pieceError_k x0 = some r) : PC G.P 41 [(.agg (c_Piece x0))] [] (vI r) []:=by
 refine zU G Tryz.func41 (zK ⟨[(0,.agg (c_Piece x0))],[]⟩ (z3 2 ⟨[(1,.ptr 1 0)],[(1,.box (c_Piece x0))]⟩ ?_))
 refine zB (z7 (zA 2 ?_))
 refine evs_op (st_len (c:=c_Rect) (l:=x0.Rects) (x:=(s_Rect x0.Rects)) (by kernel_rfl) (by kernel_rfl)) (z1 1 ⟨[(1,.ptr 1 0),(10,s_Rect x0.Rects),(11,vI (x0.Rects.length : Int)),(12,vI 0)],[(1,.box (c_Piece x0))]⟩ (zC ?_))
 obtain ⟨x54,hx54,h⟩:=bindS h
 refine sem_loopS (fun (s37 : Int)=>⟨[(1,.ptr 500000 0),(10,s_Rect x0.Rects),(11,vI (x0.Rects.length : Int)),(12,vI s37)],[(500000,.box (c_Piece x0))]⟩) (fun (x54 : Unit)=>(.exit 0,⟨[(1,.ptr 500000 0)],[(500000,.box (c_Piece x0))]⟩)) (cut_pieceError_k_l1 x0) 0 x54 (by kernel_rfl) (subR_prep [] [(1,500000)] (by kernel_rfl) rfl rfl (by kernel_rfl)) (iter_loop hx54) ?_ ?_ ?_
 intro s37 r h
 refine z3 1 ⟨[(1,.ptr 500000 0),(10,s_Rect x0.Rects),(11,vI (x0.Rects.length : Int)),(12,vI s37),(13,vB (decide (s37 < (x0.Rects.length : Int))))],[(500000,.box (c_Piece x0))]⟩ (zB (zI (decide (s37 < (x0.Rects.length : Int))) (fun hb=>?_) fun hb=>?_))
 replace h:=iteT hb h
 refine z4 ⟨[(1,.ptr 500000 0),(10,s_Rect x0.Rects),(11,vI (x0.Rects.length : Int)),(12,vI s37)],[(500000,.box (c_Piece x0))]⟩ (zB (zC ?_))
 refine z7 ?_
 obtain ⟨x51,hx51,h⟩:=bindS h
 refine evs_op (st_idx (c:=c_Rect) (l:=x0.Rects) (i:=s37) (kd:=.i64) (sz:=4) (by kernel_rfl) hx51 rfl) (z1 3 ⟨[(1,.ptr 500000 0),(4,.ptr 4 0),(10,s_Rect x0.Rects),(11,vI (x0.Rects.length : Int)),(12,vI s37)],[(4,.box (c_Rect x51)),(500000,.box (c_Piece x0))]⟩ (z7 ?_))
 refine zA 1 ?_
 obtain ⟨r53,hr53,h⟩:=bindS h
 refine evs_callP [] (by kernel_rfl) (W.geom_ValidRect_k_ok hr53) (by kernel_rfl) (.inl rfl) (by kernel_rfl) (z1 1 ⟨[(1,.ptr 500000 0),(10,s_Rect x0.Rects),(11,vI (x0.Rects.length : Int)),(12,vI s37),(18,vB (!r53))],[(500000,.box (c_Piece x0))]⟩ (zI (!r53) (fun hb=>?_) fun hb=>?_))
 replace h:=iteT hb h
 exact nomatch h
 replace h:=iteF hb h
 refine zM fun τ hτ=>?_
 refine bl_normal (zE hτ ⟨[(1,.ptr 500000 0),(10,s_Rect x0.Rects),(11,vI (x0.Rects.length : Int)),(12,vI s37)],[(500000,.box (c_Piece x0))]⟩ (zD ?_))
 refine z6 2 fun τ hτ=>?_
 obtain rfl:=osi h
 exact zH hτ
 replace h:=iteF hb h
 refine zL 0 fun τ hτ=>?_
 refine th_exit ?_
 obtain rfl:=osi h
 exact zF hτ
 intro x
 rfl
 intro τ hτ
 refine zQ (zE hτ ⟨[(1,.ptr 500000 0)],[(500000,.box (c_Piece x0))]⟩ (zB ?_))
 refine z7 (zA 2 (evs_op (st_len (c:=c_Rect) (l:=x0.Rects) (x:=(s_Rect x0.Rects)) (by kernel_rfl) (by kernel_rfl)) ?_))
 refine z1 1 ⟨[(1,.ptr 500000 0),(23,vB ((x0.Rects.length : Int) == 0))],[(500000,.box (c_Piece x0))]⟩ (zI ((x0.Rects.length : Int) == 0) (fun hb=>?_) fun hb=>?_)
 replace h:=iteT hb h
 exact nomatch h
 replace h:=iteF hb h
 refine z4 ⟨[(1,.ptr 500000 0)],[(500000,.box (c_Piece x0))]⟩ (zB (sem_drawN [] [] [] [] [] 11 (by kernel_rfl) (by kernel_rfl) (by kernel_rfl) ?_))
 refine evd_run 2 (by kernel_rfl) ?_
 obtain ⟨x59,hx59,h⟩:=bindS h
 refine evd_val (by kernel_rfl) (st_idx (c:=c_Rect) (l:=x0.Rects) (i:=0) (kd:=.i64) (sz:=4) (by kernel_rfl) hx59 rfl) (by kernel_rfl) (by kernel_rfl) (evd_run 4 (by kernel_rfl) ?_)
 obtain ⟨x60,hx60,h⟩:=bindS h
 refine evd_val (by kernel_rfl) (st_idx (c:=c_Rect) (l:=x0.Rects) (i:=0) (kd:=.i64) (sz:=4) (by kernel_rfl) hx60 rfl) (by kernel_rfl) (by kernel_rfl) (evd_run 3 (by kernel_rfl) (evd_end (by kernel_rfl) ?_))
 refine evo_run 1 (by kernel_rfl) (zO fun τ hτ=>?_)
 refine zE hτ ⟨[(1,.ptr 500000 0),(5,vI x59.X),(6,vI x60.Y)],[(500000,.box (c_Piece x0))]⟩ (zB (z7 ?_))
 refine zA 2 (evs_op (st_len (c:=c_Rect) (l:=x0.Rects) (x:=(s_Rect x0.Rects)) (by kernel_rfl) (by kernel_rfl)) (z1 1 ⟨[(1,.ptr 500000 0),(5,vI x59.X),(6,vI x60.Y),(37,s_Rect x0.Rects),(38,vI (x0.Rects.length : Int)),(39,vI 0)],[(500000,.box (c_Piece x0))]⟩ ?_))
 refine zC ?_
 obtain ⟨x90,hx90,h⟩:=bindS h
 refine sem_loopS (fun (s81 : Int × Int × Int)=>⟨[(1,.ptr 500000 0),(5,vI s81.1),(6,vI s81.2.1),(37,s_Rect x0.Rects),(38,vI (x0.Rects.length : Int)),(39,vI s81.2.2)],[(500000,.box (c_Piece x0))]⟩) (fun (x90 : Int × Int)=>(.exit 2,⟨[(1,.ptr 500000 0),(5,vI x90.1),(6,vI x90.2)],[(500000,.box (c_Piece x0))]⟩)) (cut_pieceError_k_l2 x0) (x59.X,x60.Y,0) x90 (by kernel_rfl) (here (by kernel_rfl)) (iter_loop hx90) ?_ ?_ ?_
 intro s81 r h
 refine z3 1 ⟨[(1,.ptr 500000 0),(5,vI s81.1),(6,vI s81.2.1),(37,s_Rect x0.Rects),(38,vI (x0.Rects.length : Int)),(39,vI s81.2.2),(40,vB (decide (s81.2.2 < (x0.Rects.length : Int))))],[(500000,.box (c_Piece x0))]⟩ (zB (zI (decide (s81.2.2 < (x0.Rects.length : Int))) (fun hb=>?_) fun hb=>?_))
 replace h:=iteT hb h
 refine z4 ⟨[(1,.ptr 500000 0),(5,vI s81.1),(6,vI s81.2.1),(37,s_Rect x0.Rects),(38,vI (x0.Rects.length : Int)),(39,vI s81.2.2)],[(500000,.box (c_Piece x0))]⟩ (zB (zC ?_))
 refine z7 ?_
 obtain ⟨x89,hx89,h⟩:=bindS h
 refine evs_op (st_idx (c:=c_Rect) (l:=x0.Rects) (i:=s81.2.2) (kd:=.i64) (sz:=4) (by kernel_rfl) hx89 rfl) (z1 3 ⟨[(1,.ptr 500000 0),(5,vI s81.1),(6,vI s81.2.1),(8,.ptr 8 0),(37,s_Rect x0.Rects),(38,vI (x0.Rects.length : Int)),(39,vI s81.2.2)],[(8,.box (c_Rect x89)),(500000,.box (c_Piece x0))]⟩ (sem_drawN [] [] [] [] [] 9 (by kernel_rfl) (by kernel_rfl) (by kernel_rfl) ?_))
 refine evd_run 9 (by kernel_rfl) (evd_end (by kernel_rfl) (evo_run 1 (by kernel_rfl) ?_))
 refine zO fun τ hτ=>?_
 refine bl_normal (zE hτ ⟨[(1,.ptr 500000 0),(5,vI (imin s81.1 x89.X)),(6,vI (imin s81.2.1 x89.Y)),(37,s_Rect x0.Rects),(38,vI (x0.Rects.length : Int)),(39,vI s81.2.2)],[(500000,.box (c_Piece x0))]⟩ (zD ?_))
 refine z6 2 fun τ hτ=>?_
 obtain rfl:=osi h
 exact zH hτ
 replace h:=iteF hb h
 refine zL 2 fun τ hτ=>?_
 refine th_exit ?_
 obtain rfl:=osi h
 exact zF hτ
 intro x
 rfl
 intro τ hτ
 refine zQ (zE hτ ⟨[(1,.ptr 500000 0),(5,vI x90.1),(6,vI x90.2)],[(500000,.box (c_Piece x0))]⟩ (zB ?_))
 refine sem_draw [(4,[700200]),(9,[700450]),(14,[700700])] [(4,[700200]),(9,[700450]),(14,[700700])] [] [(5,[700200]),(6,[700200]),(7,[700200]),(8,[700200]),(10,[700200,700450]),(11,[700200,700450]),(12,[700200,700450]),(13,[700200,700450]),(15,[700450,700700])] [(0,[700200,700450,700700]),(1,[700200,700450,700700]),(2,[700200,700450,700700]),(3,[700200,700450,700700]),(4,[700450,700700]),(5,[700200,700450,700700]),(6,[700200,700450,700700]),(7,[700200,700450,700700]),(8,[700200,700450,700700]),(9,[700700]),(10,[700200,700450,700700]),(11,[700200,700450,700700]),(12,[700200,700450,700700]),(13,[700200,700450,700700]),(15,[700450,700700])] 16 (by kernel_rfl) (by kernel_rfl) [700200,700450,700700] (by kernel_rfl) (by kernel_rfl) (evd_run 4 (by kernel_rfl) ?_)
 obtain ⟨r97,hr97,h⟩:=bindS h
 refine evd_callS [(0,700200)] [] (by kernel_rfl) (by kernel_rfl) (W.cut_back_k_ok hr97) (by kernel_rfl) (.inl rfl) (by kernel_rfl) (by kernel_rfl) (evd_run 4 (by kernel_rfl) ?_)
 obtain ⟨r98,hr98,h⟩:=bindS h
 refine evd_callS [(0,700450)] [] (by kernel_rfl) (by kernel_rfl) (W.cut_back_k_ok hr98) (by kernel_rfl) (.inl rfl) (by kernel_rfl) (by kernel_rfl) (evd_run 4 (by kernel_rfl) ?_)
 obtain ⟨r99,hr99,h⟩:=bindS h
 refine evd_callS [(0,700700)] [] (by kernel_rfl) (by kernel_rfl) (W.cut_back_k_ok hr99) (by kernel_rfl) (.inl rfl) (by kernel_rfl) (by kernel_rfl) (evd_run 1 (by kernel_rfl) (evd_end (by kernel_rfl) ?_))
 refine evo_run 5 (by kernel_rfl) (zO fun τ hτ=>?_)
 refine zE hτ ⟨[(1,.ptr 500000 0)],[(500000,.box [(vS x0.Name),(vS x0.Material),(vI x0.Gauge),(vI x0.Grain),(ro 700200 98),(ro 700450 98),(ro 700700 98)]),(700200,w_Rect 98 r97),(700450,w_Rect 98 r98),(700700,w_Rect 98 r99)]⟩ (z7 (zA 1 ?_))
 obtain ⟨r101,hr101,h⟩:=bindS h
 refine evs_callP [700200,700450,700700] (by kernel_rfl) (W.nest_ValidatePiece_k_ok hr101) (by kernel_rfl) (.inr rfl) (by kernel_rfl) (z1 1 ⟨[(2,vI r101)],[]⟩ (zN fun τ hτ=>?_))
 obtain rfl:=osi h
 exact zV hτ [(2,vI r101)]
end Go.Proofs.YtgfjbgoehhnaeaaGreat
