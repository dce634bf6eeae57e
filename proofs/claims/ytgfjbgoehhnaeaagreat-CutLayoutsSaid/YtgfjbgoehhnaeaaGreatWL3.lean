/- Each Go function does what its model says; written by a program out of the translation. -/
import Derived.Test.YtgfjbgoehhnaeaaGreatWL2
import Derived.Test.YtgfjbgoehhnaeaaGreatCzML
set_option linter.unusedVariables false
set_option linter.unusedSimpArgs false
set_option linter.unusedSectionVars false
namespace Go.Proofs.YtgfjbgoehhnaeaaGreat
open Go Go.VI Go.SM Go.Proofs
set_option maxRecDepth 100000
set_option maxHeartbeats 4000000
theorem W.nest_put_ok {x0 : Piece} {at1 : Placement} {r : Piece×Int×ByteArray×ByteArray×Int×Int} (h : nest_put x0 at1=some r) : PC G.P 135 [(.agg (c_Piece x0)),(.agg (c_Placement at1))] [] (.tup [(.agg [(vS r.1.Name),(vS r.1.Material),(vI r.1.Gauge),(vI r.1.Grain),(.row (.top 1) 98),(.row (.top 2) 98),(.row (.top 3) 98)]),(vI r.2.1)]) [(0,.box [(vS r.2.2.1),(vS r.2.2.2.1),(vI r.2.2.2.2.1),(vI r.2.2.2.2.2),(.row (.top 1) 98),(.row (.top 2) 98),(.row (.top 3) 98)]),(1,.row 98 [] (List.map c_Rect r.1.Rects)),(2,.row 98 [] (List.map c_Rect r.1.Cuts)),(3,.row 98 [] (List.map c_Rect r.1.Forms))]:=by
 refine zU G Tryz.func135 (yK [0,1] [] (y3 4 [2,3,4] [2,3,4] (z7 (zA 9 ?_))))
 obtain ⟨r2,hr2,h⟩:=bindS h
 refine evs_callS [] [(0,700450),(1,700451),(2,700452),(3,700453),(4,700454)] [] (by kernel_rfl) (W.flat_Quarter_ok hr2) (by kernel_rfl) (by kernel_rfl) (.inl rfl) (y1 6 [2,3,4,6,7] [2,3,4,6,700451,700452,700453,700454] (zB (y3 2 [2,3,4,6,23] [2,3,4,6,700451,700452,700453,700454] (zI (r2.2 != 0) (fun hb=>?_) fun hb=>?_))))
 replace h:=iteT hb h
 refine z8 3 ⟨[(4,.ptr 4 0),(5,vI 4)],[(4,.box [(vS ByteArray.empty),(vS ByteArray.empty),(vI 0),(vI 0),.nl,.nl,.nl])]⟩ fun τ hτ=>?_
 refine th_ret ?_
 obtain rfl:=osi h
 exact rk_ret hτ [(4,.ptr 0 0),(5,vI 4)] (subR_prep [.row (.box 4 4) 800000 98 [],.row (.box 4 5) 800001 98 [],.row (.box 4 6) 800002 98 []] [(4,0),(800000,1),(800001,2),(800002,3)] (by kernel_rfl) rfl rfl (by kernel_rfl)) (by kernel_rfl)
 replace h:=iteF hb h
 refine y4 [2,3,4,6] [2,3,4,6,700451,700452,700453,700454] (y3 3 [3,4,6,8] [3,4,6,8,700451,700452,700453,700454] (zB (sem_draw [(6,[700300]),(13,[700650]),(20,[701000])] [(6,[700300]),(13,[700650]),(20,[701000])] [(6,[700451]),(13,[700452]),(20,[700453])] [(7,[700300]),(8,[700300]),(9,[700300]),(10,[700300]),(11,[700300]),(12,[700300]),(14,[700300,700650]),(15,[700300,700650]),(16,[700300,700650]),(17,[700300,700650]),(18,[700300,700650]),(19,[700300,700650]),(21,[700650,701000])] [(0,[700300,700650,701000]),(1,[700300,700650,701000]),(2,[700300,700650,701000]),(3,[700300,700650,701000]),(4,[700300,700650,701000]),(5,[700300,700650,701000]),(6,[700650,701000]),(7,[700300,700650,701000]),(8,[700300,700650,701000]),(9,[700300,700650,701000]),(10,[700300,700650,701000]),(11,[700300,700650,701000]),(12,[700300,700650,701000]),(13,[701000]),(14,[700300,700650,701000]),(15,[700300,700650,701000]),(16,[700300,700650,701000]),(17,[700300,700650,701000]),(18,[700300,700650,701000]),(19,[700300,700650,701000]),(21,[700650,701000])] 22 (by kernel_rfl) (by kernel_rfl) [700300,700650,701000] (by kernel_rfl) (by kernel_rfl) (evd_run 6 (by kernel_rfl) ?_))))
 obtain ⟨r9,hr9,h⟩:=bindS h
 refine evd_callS [(0,700300)] [700451] (by kernel_rfl) (by kernel_rfl) (W.nest_moved_ok hr9) (by kernel_rfl) (.inr ⟨rfl,fun _ _=>ind_cons (ind_row fun _=>rfl) (fun _ _=>ind_nil)⟩) (by kernel_rfl) (by kernel_rfl) (evd_run 6 (by kernel_rfl) ?_)
 obtain ⟨r10,hr10,h⟩:=bindS h
 refine evd_callS [(0,700650)] [700452] (by kernel_rfl) (by kernel_rfl) (W.nest_moved_ok hr10) (by kernel_rfl) (.inr ⟨rfl,fun _ _=>ind_cons (ind_row fun _=>rfl) (fun _ _=>ind_nil)⟩) (by kernel_rfl) (by kernel_rfl) (evd_run 6 (by kernel_rfl) ?_)
 obtain ⟨r11,hr11,h⟩:=bindS h
 refine evd_callS [(0,701000)] [700453] (by kernel_rfl) (by kernel_rfl) (W.nest_moved_ok hr11) (by kernel_rfl) (.inr ⟨rfl,fun _ _=>ind_cons (ind_row fun _=>rfl) (fun _ _=>ind_nil)⟩) (by kernel_rfl) (by kernel_rfl) (evd_run 1 (by kernel_rfl) (evd_end (by kernel_rfl) (evo_run 5 (by kernel_rfl) (zO fun τ hτ=>?_))))
 refine yE hτ [4,8] [4,8,700300,700650,701000] (zB (zB ?_))
 obtain ⟨j22,hj22,h⟩:=bindS h
 refine zT ⟨[(4,.ptr 500000 0),(8,.ptr 500001 0),(65,vB j22)],[(500000,.box [(vS ByteArray.empty),(vS ByteArray.empty),(vI 0),(vI 0),.nl,.nl,.nl]),(500001,.box [(vS x0.Name),(vS x0.Material),(vI x0.Gauge),(vI x0.Grain),(ro 500002 98),(ro 500003 98),(ro 500004 98)]),(500002,w_Rect 98 r9),(500003,w_Rect 98 r10),(500004,w_Rect 98 r11)]⟩ ?_ fun τ hτ=>?_
 replace h:=hj22
 refine zA 2 ?_
 obtain ⟨r23,hr23,h⟩:=bindS h
 refine evs_callP [700300] (by kernel_rfl) (W.nest_valid_ok hr23) (by kernel_rfl) (.inr rfl) (by kernel_rfl) (zA 2 (zS r23 (fun b0=>⟨[(4,.ptr 4 0),(8,.ptr 8 0),(54,vB (!b0))],[(4,.box [(vS ByteArray.empty),(vS ByteArray.empty),(vI 0),(vI 0),.nl,.nl,.nl]),(8,.box [(vS x0.Name),(vS x0.Material),(vI x0.Gauge),(vI x0.Grain),(ro 700300 98),(ro 700650 98),(ro 701000 98)]),(700300,w_Rect 98 r9),(700650,w_Rect 98 r10),(701000,w_Rect 98 r11)]⟩) (fun hb=>?_) fun hb=>?_))
 replace h:=iteT hb h
 refine zA 2 ?_
 obtain ⟨r24,hr24,h⟩:=bindS h
 refine evs_callP [700650] (by kernel_rfl) (W.nest_valid_ok hr24) (by kernel_rfl) (.inr rfl) (by kernel_rfl) (zA 3 (zS r24 (fun b0=>⟨[(4,.ptr 4 0),(8,.ptr 8 0),(60,vB (!b0))],[(4,.box [(vS ByteArray.empty),(vS ByteArray.empty),(vI 0),(vI 0),.nl,.nl,.nl]),(8,.box [(vS x0.Name),(vS x0.Material),(vI x0.Gauge),(vI x0.Grain),(ro 700300 98),(ro 700650 98),(ro 701000 98)]),(700300,w_Rect 98 r9),(700650,w_Rect 98 r10),(701000,w_Rect 98 r11)]⟩) (fun hb=>?_) fun hb=>?_))
 replace h:=iteT hb h
 refine zA 2 ?_
 obtain ⟨r25,hr25,h⟩:=bindS h
 refine evs_callP [701000] (by kernel_rfl) (W.nest_valid_ok hr25) (by kernel_rfl) (.inr rfl) (by kernel_rfl) (z6 2 fun τ hτ=>?_)
 obtain rfl:=osi h
 exact leafC hτ (subR_prep [] [(4,500000),(8,500001),(700300,500002),(700650,500003),(701000,500004)] (by kernel_rfl) rfl rfl (by kernel_rfl))
 replace h:=iteF hb h
 refine z6 5 fun τ hτ=>?_
 obtain rfl:=osi h
 exact leafC hτ (subR_prep [] [(4,500000),(8,500001),(700300,500002),(700650,500003),(701000,500004)] (by kernel_rfl) rfl rfl (by kernel_rfl))
 replace h:=iteF hb h
 refine z6 11 fun τ hτ=>?_
 obtain rfl:=osi h
 exact leafC hτ (subR_prep [] [(4,500000),(8,500001),(700300,500002),(700650,500003),(701000,500004)] (by kernel_rfl) rfl rfl (by kernel_rfl))
 refine yE hτ [4,8,65] [500000,500001,500002,500003,500004] (zI j22 (fun hb=>?_) fun hb=>?_)
 replace h:=iteT hb h
 refine z8 3 ⟨[(4,.ptr 500000 0),(5,vI 4)],[(500000,.box [(vS ByteArray.empty),(vS ByteArray.empty),(vI 0),(vI 0),.nl,.nl,.nl])]⟩ fun τ hτ=>?_
 refine th_ret ?_
 obtain rfl:=osi h
 exact rk_ret hτ [(4,.ptr 0 0),(5,vI 4)] (subR_prep [.row (.box 500000 4) 800000 98 [],.row (.box 500000 5) 800001 98 [],.row (.box 500000 6) 800002 98 []] [(500000,0),(800000,1),(800001,2),(800002,3)] (by kernel_rfl) rfl rfl (by kernel_rfl)) (by kernel_rfl)
 replace h:=iteF hb h
 refine y4 [4,8] [500000,500001,500002,500003,500004] (z8 3 ⟨[(4,.ptr 500000 0),(5,vI 0)],[(500000,.box [(vS x0.Name),(vS x0.Material),(vI x0.Gauge),(vI x0.Grain),(ro 500002 98),(ro 500003 98),(ro 500004 98)]),(500002,w_Rect 98 r9),(500003,w_Rect 98 r10),(500004,w_Rect 98 r11)]⟩ fun τ hτ=>?_)
 obtain rfl:=osi h
 exact rk_ret hτ [(4,.ptr 0 0),(5,vI 0)] (subR_prep [] [(500000,0),(500002,1),(500003,2),(500004,3)] (by kernel_rfl) rfl rfl (by kernel_rfl)) (by kernel_rfl)
theorem W.nest_Put_ok {x0 : Piece} {at1 : Placement} {r : Piece×Int×ByteArray×ByteArray×Int×Int} (h : nest_Put x0 at1=some r) : PC G.P 79 [(.agg (c_Piece x0)),(.agg (c_Placement at1))] [] (.tup [(.agg [(vS r.1.Name),(vS r.1.Material),(vI r.1.Gauge),(vI r.1.Grain),(.row (.top 1) 98),(.row (.top 2) 98),(.row (.top 3) 98)]),(vI r.2.1)]) [(0,.box [(vS r.2.2.1),(vS r.2.2.2.1),(vI r.2.2.2.2.1),(vI r.2.2.2.2.2),(.row (.top 1) 98),(.row (.top 2) 98),(.row (.top 3) 98)]),(1,.row 98 [] (List.map c_Rect r.1.Rects)),(2,.row 98 [] (List.map c_Rect r.1.Cuts)),(3,.row 98 [] (List.map c_Rect r.1.Forms))]:=by
 refine zU G Tryz.func79 (yK [0,1] [] (y3 4 [2,3,4] [2,3,4] (zB (z7 (zA 1 ?_)))))
 obtain ⟨r4,hr4,h⟩:=bindS h
 refine evs_callP [] (by kernel_rfl) (W.nest_ValidatePiece_ok hr4) (by kernel_rfl) (.inl rfl) (by kernel_rfl) (y1 1 [2,3,4,6] [2,3,4] (y3 2 [2,3,4,6,10] [2,3,4] (zI (r4 != 0) (fun hb=>?_) fun hb=>?_)))
 replace h:=iteT hb h
 refine z8 4 ⟨[(4,.ptr 4 0),(5,vI r4)],[(4,.box [(vS ByteArray.empty),(vS ByteArray.empty),(vI 0),(vI 0),.nl,.nl,.nl])]⟩ fun τ hτ=>?_
 refine th_ret ?_
 obtain rfl:=osi h
 exact rk_ret hτ [(4,.ptr 0 0),(5,vI r4)] (subR_prep [.row (.box 4 4) 800000 98 [],.row (.box 4 5) 800001 98 [],.row (.box 4 6) 800002 98 []] [(4,0),(800000,1),(800001,2),(800002,3)] (by kernel_rfl) rfl rfl (by kernel_rfl)) (by kernel_rfl)
 replace h:=iteF hb h
 refine y4 [2,3,4] [2,3,4] (zB (z7 (zA 2 ?_)))
 obtain ⟨r8,hr8,h⟩:=bindS h
 refine evs_callP [] (by kernel_rfl) (W.nest_from_ok hr8) (by kernel_rfl) (.inl rfl) (by kernel_rfl) (y1 1 [2,3,4,16] [2,3,4] (zI (!r8) (fun hb=>?_) fun hb=>?_))
 replace h:=iteT hb h
 refine z8 3 ⟨[(4,.ptr 4 0),(5,vI 1)],[(4,.box [(vS ByteArray.empty),(vS ByteArray.empty),(vI 0),(vI 0),.nl,.nl,.nl])]⟩ fun τ hτ=>?_
 refine th_ret ?_
 obtain rfl:=osi h
 exact rk_ret hτ [(4,.ptr 0 0),(5,vI 1)] (subR_prep [.row (.box 4 4) 800000 98 [],.row (.box 4 5) 800001 98 [],.row (.box 4 6) 800002 98 []] [(4,0),(800000,1),(800001,2),(800002,3)] (by kernel_rfl) rfl rfl (by kernel_rfl)) (by kernel_rfl)
 replace h:=iteF hb h
 refine y4 [2,3,4] [2,3,4] (zB (zB ?_))
 obtain ⟨j16,hj16,h⟩:=bindS h
 refine zT ⟨[(2,.ptr 500000 0),(3,.ptr 500001 0),(4,.ptr 500002 0),(27,vB j16)],[(500000,.box (c_Piece x0)),(500001,.box (c_Placement at1)),(500002,.box [(vS ByteArray.empty),(vS ByteArray.empty),(vI 0),(vI 0),.nl,.nl,.nl])]⟩ ?_ fun τ hτ=>?_
 replace h:=hj16
 refine zA 2 ?_
 obtain ⟨r17,hr17,h⟩:=bindS h
 refine evs_callP [] (by kernel_rfl) (W.nest_from_ok hr17) (by kernel_rfl) (.inl rfl) (by kernel_rfl) (zA 2 (zS r17 (fun b0=>⟨[(2,.ptr 2 0),(3,.ptr 3 0),(4,.ptr 4 0),(22,vB (!b0))],[(2,.box (c_Piece x0)),(3,.box (c_Placement at1)),(4,.box [(vS ByteArray.empty),(vS ByteArray.empty),(vI 0),(vI 0),.nl,.nl,.nl])]⟩) (fun hb=>?_) fun hb=>?_))
 replace h:=iteT hb h
 refine zA 2 ?_
 obtain ⟨r18,hr18,h⟩:=bindS h
 refine evs_callP [] (by kernel_rfl) (W.nest_from_ok hr18) (by kernel_rfl) (.inl rfl) (by kernel_rfl) (z6 2 fun τ hτ=>?_)
 obtain rfl:=osi h
 exact leafC hτ (subR_prep [] [(2,500000),(3,500001),(4,500002)] (by kernel_rfl) rfl rfl (by kernel_rfl))
 replace h:=iteF hb h
 refine z6 5 fun τ hτ=>?_
 obtain rfl:=osi h
 exact leafC hτ (subR_prep [] [(2,500000),(3,500001),(4,500002)] (by kernel_rfl) rfl rfl (by kernel_rfl))
 refine yE hτ [2,3,4,27] [500000,500001,500002] (zI j16 (fun hb=>?_) fun hb=>?_)
 replace h:=iteT hb h
 refine z8 3 ⟨[(4,.ptr 500002 0),(5,vI 4)],[(500002,.box [(vS ByteArray.empty),(vS ByteArray.empty),(vI 0),(vI 0),.nl,.nl,.nl])]⟩ fun τ hτ=>?_
 refine th_ret ?_
 obtain rfl:=osi h
 exact rk_ret hτ [(4,.ptr 0 0),(5,vI 4)] (subR_prep [.row (.box 500002 4) 800000 98 [],.row (.box 500002 5) 800001 98 [],.row (.box 500002 6) 800002 98 []] [(500002,0),(800000,1),(800001,2),(800002,3)] (by kernel_rfl) rfl rfl (by kernel_rfl)) (by kernel_rfl)
 replace h:=iteF hb h
 refine y4 [2,3,4] [500000,500001,500002] (z7 (zA 2 ?_))
 obtain ⟨r20,hr20,h⟩:=bindS h
 refine evs_callS [] [(0,700100),(1,700101),(2,700102),(3,700103)] [] (by kernel_rfl) (W.nest_put_ok hr20) (by kernel_rfl) (by kernel_rfl) (.inl rfl) (y1 4 [4,5] [500002,700101,700102,700103] (zN fun τ hτ=>?_))
 obtain rfl:=osi h
 exact rk_ret hτ [(4,.ptr 0 0),(5,vI r20.2.1)] (subR_prep [] [(500002,0),(700101,1),(700102,2),(700103,3)] (by kernel_rfl) rfl rfl (by kernel_rfl)) (by kernel_rfl)
theorem W.nest_Allowed_ok {x0 : Piece} {s1 : Sheet} {turn : Int} {r : Bool} (h : nest_Allowed x0 s1 turn=some r) : PC G.P 166 [(.agg (c_Piece x0)),(.agg (c_Sheet s1)),(vI turn)] [] (vB r) []:=by
 refine zU G Tryz.func166 (yK [0,1,2] [] (y3 3 [2,3,4] [3,4] (zB (zB ?_))))
 obtain ⟨j5,hj5,h⟩:=bindS h
 refine zT ⟨[(2,vI turn),(3,.ptr 500000 0),(4,.ptr 500001 0),(23,vB j5)],[(500000,.box (c_Piece x0)),(500001,.box (c_Sheet s1))]⟩ ?_ fun τ hτ=>?_
 replace h:=hj5
 refine zA 6 (zS (x0.Material.toList==s1.Material.toList) (fun b0=>⟨[(2,vI turn),(3,.ptr 3 0),(4,.ptr 4 0),(12,vB (!b0))],[(3,.box (c_Piece x0)),(4,.box (c_Sheet s1))]⟩) (fun hb=>?_) fun hb=>?_)
 replace h:=iteT hb h
 refine zA 7 (zS (x0.Gauge != s1.Gauge) (fun b0=>⟨[(2,vI turn),(3,.ptr 3 0),(4,.ptr 4 0),(19,vB b0)],[(3,.box (c_Piece x0)),(4,.box (c_Sheet s1))]⟩) (fun hb=>?_) fun hb=>?_)
 replace h:=iteT hb h
 refine z6 4 fun τ hτ=>?_
 obtain rfl:=osi h
 exact leafC hτ (subR_prep [] [(3,500000),(4,500001)] (by kernel_rfl) rfl rfl (by kernel_rfl))
 replace h:=iteF hb h
 refine zA 1 ?_
 obtain ⟨r6,hr6,h⟩:=bindS h
 refine evs_callP [] (by kernel_rfl) (W.nest_from_ok hr6) (by kernel_rfl) (.inl rfl) (by kernel_rfl) (z6 2 fun τ hτ=>?_)
 obtain rfl:=osi h
 exact leafC hτ (subR_prep [] [(3,500000),(4,500001)] (by kernel_rfl) rfl rfl (by kernel_rfl))
 replace h:=iteF hb h
 refine z6 11 fun τ hτ=>?_
 obtain rfl:=osi h
 exact leafC hτ (subR_prep [] [(3,500000),(4,500001)] (by kernel_rfl) rfl rfl (by kernel_rfl))
 refine yE hτ [2,3,4,23] [500000,500001] (zI j5 (fun hb=>?_) fun hb=>?_)
 replace h:=iteT hb h
 refine z8 1 ⟨[(6,vB false)],[]⟩ fun τ hτ=>?_
 refine th_ret ?_
 obtain rfl:=osi h
 exact zV hτ [(6,vB false)]
 replace h:=iteF hb h
 refine y4 [2,3,4] [500000,500001] (zB ?_)
 obtain ⟨j7,hj7,h⟩:=bindS h
 refine zT ⟨[(6,vB j7)],[]⟩ ?_ fun τ hτ=>?_
 replace h:=hj7
 refine zA 4 (zS (x0.Grain==0) (fun b0=>⟨[(2,vI turn),(3,.ptr 500000 0),(4,.ptr 500001 0),(27,vB b0)],[(500000,.box (c_Piece x0)),(500001,.box (c_Sheet s1))]⟩) (fun hb=>?_) fun hb=>?_)
 replace h:=iteT hb h
 refine z6 16 fun τ hτ=>?_
 obtain rfl:=osi h
 exact zG hτ
 replace h:=iteF hb h
 refine zA 5 (zS (s1.Grain==0) (fun b0=>⟨[(2,vI turn),(3,.ptr 500000 0),(4,.ptr 500001 0),(32,vB b0)],[(500000,.box (c_Piece x0)),(500001,.box (c_Sheet s1))]⟩) (fun hb=>?_) fun hb=>?_)
 replace h:=iteT hb h
 refine z6 11 fun τ hτ=>?_
 obtain rfl:=osi h
 exact zG hτ
 replace h:=iteF hb h
 refine z6 11 fun τ hτ=>?_
 obtain rfl:=osi h
 exact zG hτ
 refine yE hτ [6] [] (zN fun τ hτ=>?_)
 obtain rfl:=osi h
 exact zV hτ [(6,vB j7)]
theorem W.nest_overlaps_ok {a : (List Rect)} {b : (List Rect)} {r : Bool} (h : nest_overlaps a b=some r) : PC G.P 76 [(.sl (List.map c_Rect a)),(.sl (List.map c_Rect b))] [] (vB r) []:=by
 refine zU G Tryz.func76 (yK [0,1] [] (y3 1 [0,1] [] (zB (z7 (zA 1 (evs_op (st_len (c:=c_Rect) (l:=a) (x:=(s_Rect a)) (by kernel_rfl) (by kernel_rfl)) ?_))))))
 refine y1 1 [1,9,10,11] [] (zC ?_)
 obtain ⟨x380,hx380,h⟩:=bindS h
 refine sem_loopS (fun (s255 : Int)=>⟨[(1,s_Rect b),(9,s_Rect a),(10,vI (a.length : Int)),(11,vI s255)],[]⟩) (fun (x380 : Unit ⊕ Unit)=>match x380 with | .inl j381=>(.ret,⟨[(4,vB true)],[]⟩) | .inr j382=>(.exit 0,⟨[],[]⟩)) (nest_overlaps_l2 a b) 0 x380 (by kernel_rfl) (here (by kernel_rfl)) hx380 ?_ ?_ ?_
 intro s255 r h
 refine y3 1 [1,9,10,11,12] [] (zB (zI (decide (s255 < (a.length : Int))) (fun hb=>?_) fun hb=>?_))
 replace h:=iteT hb h
 refine y4 [1,9,10,11] [] (zB (zC (z7 ?_)))
 obtain ⟨x350,hx350,h⟩:=bindS h
 refine evs_op (st_idx (c:=c_Rect) (l:=a) (i:=s255) (kd:=.i64) (sz:=4) (by kernel_rfl) hx350 rfl) (y1 3 [1,6,9,10,11] [6] (z7 (zA 1 (evs_op (st_len (c:=c_Rect) (l:=b) (x:=(s_Rect b)) (by kernel_rfl) (by kernel_rfl)) (y1 1 [1,6,9,10,11,15,16,17] [6] (zC ?_))))))
 obtain ⟨x377,hx377,h⟩:=bindS h
 refine sem_loopS (fun (s360 : Int)=>⟨[(1,s_Rect b),(6,.ptr 500000 0),(9,s_Rect a),(10,vI (a.length : Int)),(11,vI s255),(15,s_Rect b),(16,vI (b.length : Int)),(17,vI s360)],[(500000,.box (c_Rect x350))]⟩) (fun (x377 : Unit ⊕ Unit)=>match x377 with | .inl j378=>(.ret,⟨[(4,vB true)],[]⟩) | .inr j379=>(.exit 2,⟨[(1,s_Rect b),(9,s_Rect a),(10,vI (a.length : Int)),(11,vI s255)],[]⟩)) (nest_overlaps_l1 b x350) 0 x377 (by kernel_rfl) (subR_prep [] [(6,500000)] (by kernel_rfl) rfl rfl (by kernel_rfl)) hx377 ?_ ?_ ?_
 intro s360 r h
 refine y3 1 [1,6,9,10,11,15,16,17,18] [500000] (zB (zI (decide (s360 < (b.length : Int))) (fun hb=>?_) fun hb=>?_))
 replace h:=iteT hb h
 refine y4 [1,6,9,10,11,15,16,17] [500000] (zB (zC (z7 ?_)))
 obtain ⟨x374,hx374,h⟩:=bindS h
 refine evs_op (st_idx (c:=c_Rect) (l:=b) (i:=s360) (kd:=.i64) (sz:=4) (by kernel_rfl) hx374 rfl) (y1 3 [1,6,8,9,10,11,15,16,17] [8,500000] (z7 (zA 2 ?_)))
 obtain ⟨r376,hr376,h⟩:=bindS h
 refine evs_callP [] (by kernel_rfl) (W.geom_Overlap_ok hr376) (by kernel_rfl) (.inl rfl) (by kernel_rfl) (zP fun τ hτ=>?_)
 refine yE hτ [1,6,9,10,11,15,16,17,23] [500000] (zI r376 (fun hb=>?_) fun hb=>?_)
 replace h:=iteT hb h
 refine z8 1 ⟨[(4,vB true)],[]⟩ fun τ hτ=>?_
 refine bl_ret (th_ret ?_)
 obtain rfl:=osi h
 exact zF hτ
 replace h:=iteF hb h
 refine zM fun τ hτ=>?_
 refine bl_normal (yE hτ [1,6,9,10,11,15,16,17] [500000] (zD (z6 2 fun τ hτ=>?_)))
 obtain rfl:=osi h
 exact zH hτ
 replace h:=iteF hb h
 refine zL 2 fun τ hτ=>?_
 refine th_exit ?_
 obtain rfl:=osi h
 exact zF hτ
 intro x
 rcases x with _ | _ <;> rfl
 intro τ hτ
 rcases x377 with j378 | j379
 refine bl_ret (bl_ret (th_ret ?_))
 obtain rfl:=osi h
 exact zF hτ
 refine zQ (bl_normal (yE hτ [1,9,10,11] [] (zD (z6 2 fun τ hτ=>?_))))
 obtain rfl:=osi h
 exact zH hτ
 replace h:=iteF hb h
 refine zL 0 fun τ hτ=>?_
 refine th_exit ?_
 obtain rfl:=osi h
 exact zF hτ
 intro x
 rcases x with _ | _ <;> rfl
 intro τ hτ
 rcases x380 with j381 | j382
 refine bl_ret (th_ret ?_)
 obtain rfl:=osi h
 exact zV hτ [(4,vB true)]
 refine zQ (yE hτ [] [] (z8 1 ⟨[(4,vB false)],[]⟩ fun τ hτ=>?_))
 obtain rfl:=osi h
 exact zV hτ [(4,vB false)]
theorem W.nest_liesWell_ok {x0 : Piece} {s1 : Sheet} {set2 : Settings} {turn : Int} {r : Bool} (h : nest_liesWell x0 s1 set2 turn=some r) : PC G.P 132 [(.agg (c_Piece x0)),(.agg (c_Sheet s1)),(.agg (c_Settings set2)),(vI turn)] [] (vB r) []:=by
 refine zU G Tryz.func132 (yK [0,1,2,3] [] (y3 4 [3,4,5,6] [4,5,6] (z7 (zA 3 ?_))))
 obtain ⟨r2,hr2,h⟩:=bindS h
 refine evs_callS [] [(0,700150)] [] (by kernel_rfl) (W.nest_inner_ok hr2) (by kernel_rfl) (by kernel_rfl) (.inl rfl) (y1 6 [3,4,5,9,10] [4,5,9] (zB (zB ?_)))
 obtain ⟨j7,hj7,h⟩:=bindS h
 refine zT ⟨[(4,.ptr 500000 0),(5,.ptr 500001 0),(9,.ptr 500002 0),(28,vB j7)],[(500000,.box (c_Piece x0)),(500001,.box (c_Sheet s1)),(500002,.box (c_Rect r2.1))]⟩ ?_ fun τ hτ=>?_
 replace h:=hj7
 refine zA 3 (zS r2.2 (fun b0=>⟨[(3,vI turn),(4,.ptr 4 0),(5,.ptr 5 0),(9,.ptr 9 0),(22,vB (!b0))],[(4,.box (c_Piece x0)),(5,.box (c_Sheet s1)),(9,.box (c_Rect r2.1))]⟩) (fun hb=>?_) fun hb=>?_)
 replace h:=iteT hb h
 refine zA 3 ?_
 obtain ⟨r8,hr8,h⟩:=bindS h
 refine evs_callP [] (by kernel_rfl) (W.nest_Allowed_ok hr8) (by kernel_rfl) (.inl rfl) (by kernel_rfl) (z6 2 fun τ hτ=>?_)
 obtain rfl:=osi h
 exact leafC hτ (subR_prep [] [(4,500000),(5,500001),(9,500002)] (by kernel_rfl) rfl rfl (by kernel_rfl))
 replace h:=iteF hb h
 refine z6 6 fun τ hτ=>?_
 obtain rfl:=osi h
 exact leafC hτ (subR_prep [] [(4,500000),(5,500001),(9,500002)] (by kernel_rfl) rfl rfl (by kernel_rfl))
 refine yE hτ [4,5,9,28] [500000,500001,500002] (zI j7 (fun hb=>?_) fun hb=>?_)
 replace h:=iteT hb h
 refine z8 1 ⟨[(8,vB false)],[]⟩ fun τ hτ=>?_
 refine th_ret ?_
 obtain rfl:=osi h
 exact zV hτ [(8,vB false)]
 replace h:=iteF hb h
 refine y4 [4,5,9] [500000,500001,500002] (zB (z7 (zA 2 (evs_op (st_len (c:=c_Rect) (l:=x0.Rects) (x:=(s_Rect x0.Rects)) (by kernel_rfl) (by kernel_rfl)) (y1 1 [4,5,9,30,31,32] [500000,500001,500002] (zC ?_))))))
 obtain ⟨x64,hx64,h⟩:=bindS h
 refine sem_loopS (fun (s47 : Int)=>⟨[(4,.ptr 500000 0),(5,.ptr 500001 0),(9,.ptr 500002 0),(30,s_Rect x0.Rects),(31,vI (x0.Rects.length : Int)),(32,vI s47)],[(500000,.box (c_Piece x0)),(500001,.box (c_Sheet s1)),(500002,.box (c_Rect r2.1))]⟩) (fun (x64 : Unit ⊕ Unit)=>match x64 with | .inl j65=>(.ret,⟨[(8,vB false)],[]⟩) | .inr j66=>(.exit 0,⟨[(4,.ptr 500000 0),(5,.ptr 500001 0)],[(500000,.box (c_Piece x0)),(500001,.box (c_Sheet s1))]⟩)) (nest_liesWell_l1 x0 r2) 0 x64 (by kernel_rfl) (here (by kernel_rfl)) hx64 ?_ ?_ ?_
 intro s47 r h
 refine y3 1 [4,5,9,30,31,32,33] [500000,500001,500002] (zB (zI (decide (s47 < (x0.Rects.length : Int))) (fun hb=>?_) fun hb=>?_))
 replace h:=iteT hb h
 refine y4 [4,5,9,30,31,32] [500000,500001,500002] (zB (zC (z7 ?_)))
 obtain ⟨x61,hx61,h⟩:=bindS h
 refine evs_op (st_idx (c:=c_Rect) (l:=x0.Rects) (i:=s47) (kd:=.i64) (sz:=4) (by kernel_rfl) hx61 rfl) (y1 3 [4,5,9,12,30,31,32] [12,500000,500001,500002] (z7 (zA 2 ?_)))
 obtain ⟨r63,hr63,h⟩:=bindS h
 refine evs_callP [] (by kernel_rfl) (W.geom_Inside_ok hr63) (by kernel_rfl) (.inl rfl) (by kernel_rfl) (y1 1 [4,5,9,30,31,32,39] [500000,500001,500002] (zI (!r63) (fun hb=>?_) fun hb=>?_))
 replace h:=iteT hb h
 refine z8 1 ⟨[(8,vB false)],[]⟩ fun τ hτ=>?_
 refine bl_ret (th_ret ?_)
 obtain rfl:=osi h
 exact zF hτ
 replace h:=iteF hb h
 refine zM fun τ hτ=>?_
 refine bl_normal (yE hτ [4,5,9,30,31,32] [500000,500001,500002] (zD (z6 2 fun τ hτ=>?_)))
 obtain rfl:=osi h
 exact zH hτ
 replace h:=iteF hb h
 refine zL 0 fun τ hτ=>?_
 refine th_exit ?_
 obtain rfl:=osi h
 exact zF hτ
 intro x
 rcases x with _ | _ <;> rfl
 intro τ hτ
 rcases x64 with j65 | j66
 refine bl_ret (th_ret ?_)
 obtain rfl:=osi h
 exact zV hτ [(8,vB false)]
 refine zQ (yE hτ [4,5] [500000,500001] (zB ?_))
 obtain ⟨j69,hj69,h⟩:=bindS h
 refine zT ⟨[(8,vB j69)],[]⟩ ?_ fun τ hτ=>?_
 replace h:=hj69
 refine zA 4 ?_
 obtain ⟨r70,hr70,h⟩:=bindS h
 refine evs_callP [] (by kernel_rfl) (W.nest_overlaps_ok hr70) (by kernel_rfl) (.inl rfl) (by kernel_rfl) (zA 2 (zS r70 (fun b0=>⟨[(4,.ptr 500000 0),(5,.ptr 500001 0),(47,vB (!b0))],[(500000,.box (c_Piece x0)),(500001,.box (c_Sheet s1))]⟩) (fun hb=>?_) fun hb=>?_))
 replace h:=iteT hb h
 refine z6 8 fun τ hτ=>?_
 obtain rfl:=osi h
 exact zG hτ
 replace h:=iteF hb h
 refine zA 4 ?_
 obtain ⟨r71,hr71,h⟩:=bindS h
 refine evs_callP [] (by kernel_rfl) (W.nest_overlaps_ok hr71) (by kernel_rfl) (.inl rfl) (by kernel_rfl) (z6 3 fun τ hτ=>?_)
 obtain rfl:=osi h
 exact zG hτ
 refine yE hτ [8] [] (zN fun τ hτ=>?_)
 obtain rfl:=osi h
 exact zV hτ [(8,vB j69)]
theorem W.nest_Clear_ok {a : (List Rect)} {b : (List Rect)} {set2 : Settings} {r : Bool} (h : nest_Clear a b set2=some r) : PC G.P 133 [(.sl (List.map c_Rect a)),(.sl (List.map c_Rect b)),(.agg (c_Settings set2))] [] (vB r) []:=by
 refine zU G Tryz.func133 (yK [0,1,2] [] (y3 2 [0,1,5] [5] (zB (z7 (zA 1 (evs_op (st_len (c:=c_Rect) (l:=a) (x:=(s_Rect a)) (by kernel_rfl) (by kernel_rfl)) ?_))))))
 refine y1 1 [1,5,12,13,14] [5] (zC ?_)
 obtain ⟨x596,hx596,h⟩:=bindS h
 refine sem_loopS (fun (s399 : Int×Bool)=>⟨[(1,s_Rect b),(5,.ptr 500000 0),(12,s_Rect a),(13,vI (a.length : Int)),(14,vI s399.1)],[(500000,.box [(vI set2.Gap),(vI set2.Margin),(vB s399.2)])]⟩) (fun (x596 : Unit ⊕ Unit)=>match x596 with | .inl j597=>(.ret,⟨[(6,vB false)],[]⟩) | .inr j598=>(.exit 0,⟨[],[]⟩)) (nest_Clear_l2 a b set2) (0,set2.Common) x596 (by kernel_rfl) (subR_prep [] [(5,500000)] (by kernel_rfl) rfl rfl (by kernel_rfl)) hx596 ?_ ?_ ?_
 intro s399 r h
 refine y3 1 [1,5,12,13,14,15] [500000] (zB (zI (decide (s399.1 < (a.length : Int))) (fun hb=>?_) fun hb=>?_))
 replace h:=iteT hb h
 refine y4 [1,5,12,13,14] [500000] (zB (zC (z7 ?_)))
 obtain ⟨x548,hx548,h⟩:=bindS h
 refine evs_op (st_idx (c:=c_Rect) (l:=a) (i:=s399.1) (kd:=.i64) (sz:=4) (by kernel_rfl) hx548 rfl) (y1 3 [1,5,8,12,13,14] [8,500000] (z7 (zA 1 (evs_op (st_len (c:=c_Rect) (l:=b) (x:=(s_Rect b)) (by kernel_rfl) (by kernel_rfl)) (y1 1 [1,5,8,12,13,14,18,19,20] [8,500000] (zC ?_))))))
 obtain ⟨x593,hx593,h⟩:=bindS h
 refine sem_loopS (fun (s564 : Int×Bool)=>⟨[(1,s_Rect b),(5,.ptr 500000 0),(8,.ptr 500001 0),(12,s_Rect a),(13,vI (a.length : Int)),(14,vI s399.1),(18,s_Rect b),(19,vI (b.length : Int)),(20,vI s564.1)],[(500000,.box [(vI set2.Gap),(vI set2.Margin),(vB s564.2)]),(500001,.box (c_Rect x548))]⟩) (fun (x593 : Unit ⊕ Bool)=>match x593 with | .inl j594=>(.ret,⟨[(6,vB false)],[]⟩) | .inr j595=>(.exit 2,⟨[(1,s_Rect b),(5,.ptr 500000 0),(12,s_Rect a),(13,vI (a.length : Int)),(14,vI s399.1)],[(500000,.box [(vI set2.Gap),(vI set2.Margin),(vB j595)])]⟩)) (nest_Clear_l1 b set2 x548) (0,s399.2) x593 (by kernel_rfl) (subR_prep [] [(8,500001),(500000,500000)] (by kernel_rfl) rfl rfl (by kernel_rfl)) hx593 ?_ ?_ ?_
 intro s564 r h
 refine y3 1 [1,5,8,12,13,14,18,19,20,21] [500000,500001] (zB (zI (decide (s564.1 < (b.length : Int))) (fun hb=>?_) fun hb=>?_))
 replace h:=iteT hb h
 refine y4 [1,5,8,12,13,14,18,19,20] [500000,500001] (zB (zC (z7 ?_)))
 obtain ⟨x587,hx587,h⟩:=bindS h
 refine evs_op (st_idx (c:=c_Rect) (l:=b) (i:=s564.1) (kd:=.i64) (sz:=4) (by kernel_rfl) hx587 rfl) (y1 3 [1,5,8,10,12,13,14,18,19,20] [10,500000,500001] (z7 (zA 2 ?_)))
 obtain ⟨r589,hr589,h⟩:=bindS h
 refine evs_callP [] (by kernel_rfl) (W.geom_Distance_ok hr589) (by kernel_rfl) (.inl rfl) (by kernel_rfl) (y1 1 [1,5,8,10,11,12,13,14,18,19,20] [10,500000,500001] (zB ?_))
 obtain ⟨j591,hj591,h⟩:=bindS h
 refine zT ⟨[(1,s_Rect b),(5,.ptr 500000 0),(8,.ptr 500001 0),(12,s_Rect a),(13,vI (a.length : Int)),(14,vI s399.1),(18,s_Rect b),(19,vI (b.length : Int)),(20,vI s564.1),(44,vB j591.1)],[(500000,.box [(vI set2.Gap),(vI set2.Margin),(vB j591.2)]),(500001,.box (c_Rect x548))]⟩ ?_ fun τ hτ=>?_
 replace h:=hj591
 refine zA 2 ?_
 obtain ⟨r592,hr592,h⟩:=bindS h
 refine evs_callP [] (by kernel_rfl) (W.geom_Overlap_ok hr592) (by kernel_rfl) (.inl rfl) (by kernel_rfl) (zA 1 (zS r592 (fun b0=>⟨[(1,s_Rect b),(5,.ptr 500000 0),(8,.ptr 500001 0),(11,vI r589),(12,s_Rect a),(13,vI (a.length : Int)),(14,vI s399.1),(18,s_Rect b),(19,vI (b.length : Int)),(20,vI s564.1),(30,vB b0)],[(500000,.box [(vI set2.Gap),(vI set2.Margin),(vB s564.2)]),(500001,.box (c_Rect x548))]⟩) (fun hb=>?_) fun hb=>?_))
 replace h:=iteT hb h
 refine z6 14 fun τ hτ=>?_
 obtain rfl:=osi h
 exact zG hτ
 replace h:=iteF hb h
 refine zA 5 (zS (decide (r589 < set2.Gap)) (fun b0=>⟨[(1,s_Rect b),(5,.ptr 500000 0),(8,.ptr 500001 0),(11,vI r589),(12,s_Rect a),(13,vI (a.length : Int)),(14,vI s399.1),(18,s_Rect b),(19,vI (b.length : Int)),(20,vI s564.1),(30,vB false),(35,vB b0)],[(500000,.box [(vI set2.Gap),(vI set2.Margin),(vB s564.2)]),(500001,.box (c_Rect x548))]⟩) (fun hb=>?_) fun hb=>?_)
 replace h:=iteT hb h
 refine zA 3 (zS s564.2 (fun b0=>⟨[(1,s_Rect b),(5,.ptr 500000 0),(8,.ptr 500001 0),(11,vI r589),(12,s_Rect a),(13,vI (a.length : Int)),(14,vI s399.1),(18,s_Rect b),(19,vI (b.length : Int)),(20,vI s564.1),(30,vB false),(35,vB true),(38,vB b0)],[(500000,.box [(vI set2.Gap),(vI set2.Margin),(vB b0)]),(500001,.box (c_Rect x548))]⟩) (fun hb=>?_) fun hb=>?_)
 replace h:=iteT hb h
 refine z6 6 fun τ hτ=>?_
 obtain rfl:=osi h
 exact zG hτ
 replace h:=iteF hb h
 refine z6 6 fun τ hτ=>?_
 obtain rfl:=osi h
 exact zG hτ
 replace h:=iteF hb h
 refine z6 9 fun τ hτ=>?_
 obtain rfl:=osi h
 exact zG hτ
 refine yE hτ [1,5,8,12,13,14,18,19,20,44] [500000,500001] (zI j591.1 (fun hb=>?_) fun hb=>?_)
 replace h:=iteT hb h
 refine z8 1 ⟨[(6,vB false)],[]⟩ fun τ hτ=>?_
 refine bl_ret (th_ret ?_)
 obtain rfl:=osi h
 exact zF hτ
 replace h:=iteF hb h
 refine zM fun τ hτ=>?_
 refine bl_normal (yE hτ [1,5,8,12,13,14,18,19,20] [500000,500001] (zD (z6 2 fun τ hτ=>?_)))
 obtain rfl:=osi h
 exact zH hτ
 replace h:=iteF hb h
 refine zL 2 fun τ hτ=>?_
 refine th_exit ?_
 obtain rfl:=osi h
 exact zF hτ
 intro x
 rcases x with _ | _ <;> rfl
 intro τ hτ
 rcases x593 with j594 | j595
 refine bl_ret (bl_ret (th_ret ?_))
 obtain rfl:=osi h
 exact zF hτ
 refine zQ (bl_normal (yE hτ [1,5,12,13,14] [500000] (zD (z6 2 fun τ hτ=>?_))))
 obtain rfl:=osi h
 exact zH hτ
 replace h:=iteF hb h
 refine zL 0 fun τ hτ=>?_
 refine th_exit ?_
 obtain rfl:=osi h
 exact zF hτ
 intro x
 rcases x with _ | _ <;> rfl
 intro τ hτ
 rcases x596 with j597 | j598
 refine bl_ret (th_ret ?_)
 obtain rfl:=osi h
 exact zV hτ [(6,vB false)]
 refine zQ (yE hτ [] [] (z8 1 ⟨[(6,vB true)],[]⟩ fun τ hτ=>?_))
 obtain rfl:=osi h
 exact zV hτ [(6,vB true)]
theorem W.nest_Check_ok {sheets : (List Sheet)} {pieces : (List Piece)} {set2 : Settings} {l : (List Placement)} {r : Int×Int} (h : nest_Check sheets pieces set2 l=some r) : PC G.P 77 [(.sl (List.map c_Sheet sheets)),(.sl (List.map c_Piece pieces)),(.agg (c_Settings set2)),(.sl (List.map c_Placement l))] [] (.tup [(vI r.1),(vI r.2)]) []:=by
 refine zU G Tryz.func77 (yK [0,1,2,3] [] (y3 3 [0,1,3,6] [6] (zB (z7 (zA 2 ?_)))))
 obtain ⟨r4,hr4,h⟩:=bindS h
 refine evs_callP [] (by kernel_rfl) (W.nest_lists_ok hr4) (by kernel_rfl) (.inl rfl) (by kernel_rfl) (y1 1 [0,1,3,6,10] [6] (y3 2 [0,1,3,6,10,24] [6] (zI (r4 != 0) (fun hb=>?_) fun hb=>?_)))
 replace h:=iteT hb h
 refine z8 3 ⟨[(8,vI 0),(9,vI r4)],[]⟩ fun τ hτ=>?_
 refine th_ret ?_
 obtain rfl:=osi h
 exact zV hτ [(8,vI 0),(9,vI r4)]
 replace h:=iteF hb h
 refine y4 [0,1,3,6] [6] (zB (z7 (zA 1 ?_)))
 obtain ⟨r8,hr8,h⟩:=bindS h
 refine evs_callP [] (by kernel_rfl) (W.nest_ValidSettings_ok hr8) (by kernel_rfl) (.inl rfl) (by kernel_rfl) (y1 1 [0,1,3,6,28] [6] (zI (!r8) (fun hb=>?_) fun hb=>?_))
 replace h:=iteT hb h
 refine z8 2 ⟨[(8,vI 0),(9,vI 1)],[]⟩ fun τ hτ=>?_
 refine th_ret ?_
 obtain rfl:=osi h
 exact zV hτ [(8,vI 0),(9,vI 1)]
 replace h:=iteF hb h
 refine y4 [0,1,3,6] [6] (y3 1 [0,1,3,6,11] [6,11] (zB (z7 (zA 1 (evs_op (st_len (c:=c_Placement) (l:=l) (x:=(s_Placement l)) (by kernel_rfl) (by kernel_rfl)) (y1 1 [0,1,3,6,11,29,30,31] [6,11] ?_))))))
 refine zC ?_
 obtain ⟨x2320,hx2320,h⟩:=bindS h
 refine sem_loopS (fun (s1551 : Int×(List Piece))=>⟨[(0,s_Sheet sheets),(1,s_Piece pieces),(3,s_Placement l),(6,.ptr 500000 0),(11,ro 500001 78),(29,s_Placement l),(30,vI (l.length : Int)),(31,vI s1551.1)],[(500000,.box (c_Settings set2)),(500001,w_Piece 78 s1551.2)]⟩) (fun (x2320 : (Int×Int) ⊕ Unit)=>match x2320 with | .inl j2321=>(.ret,⟨[(8,vI j2321.1),(9,vI j2321.2)],[]⟩) | .inr j2322=>(.exit 0,⟨[],[]⟩)) (nest_Check_l3 sheets pieces set2 l) (0,[]) x2320 (by kernel_rfl) (subR_prep [] [(6,500000),(11,500001)] (by kernel_rfl) rfl rfl (by kernel_rfl)) hx2320 ?_ ?_ ?_
 intro s1551 r h
 refine y3 1 [0,1,3,6,11,29,30,31,32] [500000,500001] (zB (zI (decide (s1551.1 < (l.length : Int))) (fun hb=>?_) fun hb=>?_))
 replace h:=iteT hb h
 refine y4 [0,1,3,6,11,29,30,31] [500000,500001] (zB (zC (z7 (zA 1 ?_))))
 obtain ⟨x2129,hx2129,h⟩:=bindS h
 refine evs_op (st_idx (c:=c_Placement) (l:=l) (i:=s1551.1) (kd:=.i64) (sz:=5) (by kernel_rfl) hx2129 rfl) (y1 4 [0,1,3,6,11,12,13,29,30,31] [13,500000,500001] (zB (zB ?_)))
 obtain ⟨j2137,hj2137,h⟩:=bindS h
 refine zT ⟨[(0,s_Sheet sheets),(1,s_Piece pieces),(3,s_Placement l),(6,.ptr 500000 0),(11,ro 500001 78),(12,vI s1551.1),(13,.ptr 500002 0),(29,s_Placement l),(30,vI (l.length : Int)),(31,vI s1551.1),(51,vB j2137)],[(500000,.box (c_Settings set2)),(500001,w_Piece 78 s1551.2),(500002,.box (c_Placement x2129))]⟩ ?_ fun τ hτ=>?_
 replace h:=hj2137
 refine zA 3 (evs_op (st_len (c:=c_Piece) (l:=pieces) (x:=(s_Piece pieces)) (by kernel_rfl) (by kernel_rfl)) (zA 1 ?_))
 obtain ⟨r2138,hr2138,h⟩:=bindS h
 refine evs_callP [] (by kernel_rfl) (W.nest_from_ok hr2138) (by kernel_rfl) (.inl rfl) (by kernel_rfl) (zA 2 (zS r2138 (fun b0=>⟨[(0,s_Sheet sheets),(1,s_Piece pieces),(3,s_Placement l),(6,.ptr 500000 0),(11,ro 500001 78),(12,vI s1551.1),(13,.ptr 13 0),(29,s_Placement l),(30,vI (l.length : Int)),(31,vI s1551.1),(43,vB (!b0))],[(13,.box (c_Placement x2129)),(500000,.box (c_Settings set2)),(500001,w_Piece 78 s1551.2)]⟩) (fun hb=>?_) fun hb=>?_))
 replace h:=iteT hb h
 refine zA 3 (evs_op (st_len (c:=c_Sheet) (l:=sheets) (x:=(s_Sheet sheets)) (by kernel_rfl) (by kernel_rfl)) (zA 1 ?_))
 obtain ⟨r2139,hr2139,h⟩:=bindS h
 refine evs_callP [] (by kernel_rfl) (W.nest_from_ok hr2139) (by kernel_rfl) (.inl rfl) (by kernel_rfl) (z6 2 fun τ hτ=>?_)
 obtain rfl:=osi h
 exact leafC hτ (subR_prep [] [(13,500002),(500000,500000),(500001,500001)] (by kernel_rfl) rfl rfl (by kernel_rfl))
 replace h:=iteF hb h
 refine z6 8 fun τ hτ=>?_
 obtain rfl:=osi h
 exact leafC hτ (subR_prep [] [(13,500002),(500000,500000),(500001,500001)] (by kernel_rfl) rfl rfl (by kernel_rfl))
 refine yE hτ [0,1,3,6,11,12,13,29,30,31,51] [500000,500001,500002] (zI j2137 (fun hb=>?_) fun hb=>?_)
 replace h:=iteT hb h
 refine z8 3 ⟨[(8,vI s1551.1),(9,vI 1)],[]⟩ fun τ hτ=>?_
 refine th_ret (bl_ret (th_ret ?_))
 obtain rfl:=osi h
 exact zF hτ
 replace h:=iteF hb h
 refine y4 [0,1,3,6,11,12,13,29,30,31] [500000,500001,500002] (zB (sem_draw [(6,[700300,700301,700302,700303]),(10,[14]),(11,[14])] [(6,[700300,700301,700302,700303]),(10,[14])] [] [(0,[14]),(1,[14]),(2,[14]),(3,[14]),(4,[14]),(5,[14]),(6,[14]),(7,[14]),(8,[14]),(9,[14]),(10,[700300,700301,700302,700303])] [(0,[700300,700301,700302,700303,14]),(1,[700300,700301,700302,700303,14]),(2,[700300,700301,700302,700303,14]),(3,[700300,700301,700302,700303,14]),(4,[700300,700301,700302,700303,14]),(5,[700300,700301,700302,700303,14]),(6,[14]),(7,[14]),(8,[14]),(9,[14]),(10,[700300,700301,700302,700303])] 12 (by kernel_rfl) (by kernel_rfl) [700300,700301,700302,700303,14] (by kernel_rfl) (by kernel_rfl) (evd_run 3 (by kernel_rfl) ?_)))
 obtain ⟨x2144,hx2144,h⟩:=bindS h
 refine evd_val (by kernel_rfl) (st_idx (c:=c_Piece) (l:=pieces) (i:=x2129.Piece) (kd:=.i64) (sz:=7) (by kernel_rfl) hx2144 rfl) (by kernel_rfl) (by kernel_rfl) (evd_run 2 (by kernel_rfl) ?_)
 obtain ⟨r2145,hr2145,h⟩:=bindS h
 refine evd_callS [(0,700300),(1,700301),(2,700302),(3,700303)] [] (by kernel_rfl) (by kernel_rfl) (W.nest_Put_ok hr2145) (by kernel_rfl) (.inl rfl) (by kernel_rfl) (by kernel_rfl) (evd_run 3 (by kernel_rfl) (evd_new (g:=14) (ob:=.box [(vS ByteArray.empty),(vS ByteArray.empty),(vI 0),(vI 0),.nl,.nl,.nl]) (v:=(.ptr 14 0)) (by kernel_rfl) (by kernel_rfl) (by kernel_rfl) (by kernel_rfl) (by kernel_rfl) (by kernel_rfl) (evd_set (g:=14) (ob:=.box [(vS r2145.1.Name),(vS r2145.1.Material),(vI r2145.1.Gauge),(vI r2145.1.Grain),(ro 700301 98),(ro 700302 98),(ro 700303 98)]) (v:=vU) (by kernel_rfl) (by kernel_rfl) (by kernel_rfl) (by kernel_rfl) (by kernel_rfl) (evd_end (by kernel_rfl) (evo_run 1 (by kernel_rfl) (zO fun τ hτ=>?_))))))
 refine yE hτ [0,1,3,6,11,12,13,14,15,29,30,31] [14,500000,500001,500002,700301,700302,700303] (zB (y3 2 [0,1,3,6,11,12,13,14,29,30,31,64] [14,500000,500001,500002,700301,700302,700303] (zI (r2145.2.1 != 0) (fun hb=>?_) fun hb=>?_)))
 replace h:=iteT hb h
 refine z8 3 ⟨[(8,vI s1551.1),(9,vI 1)],[]⟩ fun τ hτ=>?_
 refine th_ret (bl_ret (th_ret ?_))
 obtain rfl:=osi h
 exact zF hτ
 replace h:=iteF hb h
 refine y4 [0,1,3,6,11,12,13,14,29,30,31] [14,500000,500001,500002,700301,700302,700303] (zB (z7 (zA 2 ?_)))
 obtain ⟨l2166,hl2166,h⟩:=bindS h
 refine evs_op (st_slH (c:=c_Placement) (l:=l) (sz:=5) (hi:=s1551.1) (k2:=.i64) (by kernel_rfl) hl2166) (evs_op (st_len (c:=c_Placement) (l:=l2166) (x:=(s_Placement l2166)) (by kernel_rfl) (by kernel_rfl)) (y1 1 [0,1,3,6,11,12,13,14,29,30,31,68,69,70] [14,500000,500001,500002,700301,700302,700303] (zC ?_)))
 obtain ⟨x2181,hx2181,h⟩:=bindS h
 refine sem_loopS (fun (s2172 : Int)=>⟨[(0,s_Sheet sheets),(1,s_Piece pieces),(3,s_Placement l),(6,.ptr 500000 0),(11,ro 500001 78),(12,vI s1551.1),(13,.ptr 500002 0),(14,.ptr 500003 0),(29,s_Placement l),(30,vI (l.length : Int)),(31,vI s1551.1),(68,s_Placement l2166),(69,vI (l2166.length : Int)),(70,vI s2172)],[(500000,.box (c_Settings set2)),(500001,w_Piece 78 s1551.2),(500002,.box (c_Placement x2129)),(500003,.box [(vS r2145.1.Name),(vS r2145.1.Material),(vI r2145.1.Gauge),(vI r2145.1.Grain),(ro 500004 98),(ro 500005 98),(ro 500006 98)]),(500004,w_Rect 98 r2145.1.Rects),(500005,w_Rect 98 r2145.1.Cuts),(500006,w_Rect 98 r2145.1.Forms)]⟩) (fun (x2181 : Unit ⊕ Unit)=>match x2181 with | .inl j2182=>(.ret,⟨[(8,vI s1551.1),(9,vI 12)],[]⟩) | .inr j2183=>(.exit 2,⟨[(0,s_Sheet sheets),(1,s_Piece pieces),(3,s_Placement l),(6,.ptr 500000 0),(11,ro 500001 78),(12,vI s1551.1),(13,.ptr 500002 0),(14,.ptr 500003 0),(29,s_Placement l),(30,vI (l.length : Int)),(31,vI s1551.1)],[(500000,.box (c_Settings set2)),(500001,w_Piece 78 s1551.2),(500002,.box (c_Placement x2129)),(500003,.box [(vS r2145.1.Name),(vS r2145.1.Material),(vI r2145.1.Gauge),(vI r2145.1.Grain),(ro 500004 98),(ro 500005 98),(ro 500006 98)]),(500004,w_Rect 98 r2145.1.Rects),(500005,w_Rect 98 r2145.1.Cuts),(500006,w_Rect 98 r2145.1.Forms)]⟩)) (nest_Check_l1 x2129 l2166) 0 x2181 (by kernel_rfl) (subR_prep [] [(14,500003),(500000,500000),(500001,500001),(500002,500002),(700301,500004),(700302,500005),(700303,500006)] (by kernel_rfl) rfl rfl (by kernel_rfl)) hx2181 ?_ ?_ ?_
 intro s2172 r h
 refine y3 1 [0,1,3,6,11,12,13,14,29,30,31,68,69,70,71] [500000,500001,500002,500003,500004,500005,500006] (zB (zI (decide (s2172 < (l2166.length : Int))) (fun hb=>?_) fun hb=>?_))
 replace h:=iteT hb h
 refine y4 [0,1,3,6,11,12,13,14,29,30,31,68,69,70] [500000,500001,500002,500003,500004,500005,500006] (zB (zC (z7 ?_)))
 obtain ⟨x2180,hx2180,h⟩:=bindS h
 refine evs_op (st_idx (c:=c_Placement) (l:=l2166) (i:=s2172) (kd:=.i64) (sz:=5) (by kernel_rfl) hx2180 rfl) (y1 3 [0,1,3,6,11,12,13,14,17,29,30,31,68,69,70] [17,500000,500001,500002,500003,500004,500005,500006] (y3 5 [0,1,3,6,11,12,13,14,29,30,31,68,69,70,78] [500000,500001,500002,500003,500004,500005,500006] (zI (x2180.Piece==x2129.Piece) (fun hb=>?_) fun hb=>?_)))
 replace h:=iteT hb h
 refine z8 3 ⟨[(8,vI s1551.1),(9,vI 12)],[]⟩ fun τ hτ=>?_
 refine bl_ret (th_ret ?_)
 obtain rfl:=osi h
 exact zF hτ
 replace h:=iteF hb h
 refine zM fun τ hτ=>?_
 refine bl_normal (yE hτ [0,1,3,6,11,12,13,14,29,30,31,68,69,70] [500000,500001,500002,500003,500004,500005,500006] (zD (z6 2 fun τ hτ=>?_)))
 obtain rfl:=osi h
 exact zH hτ
 replace h:=iteF hb h
 refine zL 2 fun τ hτ=>?_
 refine th_exit ?_
 obtain rfl:=osi h
 exact zF hτ
 intro x
 rcases x with _ | _ <;> rfl
 intro τ hτ
 rcases x2181 with j2182 | j2183
 refine bl_ret (th_ret (bl_ret (th_ret ?_)))
 obtain rfl:=osi h
 exact zF hτ
 refine zQ (yE hτ [0,1,3,6,11,12,13,14,29,30,31] [500000,500001,500002,500003,500004,500005,500006] (zB (zB (sem_drawN [] [] [] [] [] 9 (by kernel_rfl) (by kernel_rfl) (by kernel_rfl) (evd_run 4 (by kernel_rfl) ?_)))))
 obtain ⟨x2194,hx2194,h⟩:=bindS h
 refine evd_val (by kernel_rfl) (st_idx (c:=c_Sheet) (l:=sheets) (i:=x2129.Sheet) (kd:=.i64) (sz:=8) (by kernel_rfl) hx2194 rfl) (by kernel_rfl) (by kernel_rfl) (evd_run 4 (by kernel_rfl) (evd_end (by kernel_rfl) ?_))
 obtain ⟨r2195,hr2195,h⟩:=bindS h
 refine evo_callP [500004,500005,500006] (by kernel_rfl) (W.nest_liesWell_ok hr2195) (by kernel_rfl) (.inr rfl) (by kernel_rfl) (evo_run 1 (by kernel_rfl) (zO fun τ hτ=>?_))
 refine yE hτ [0,1,3,6,11,12,13,14,29,30,31,91] [500000,500001,500002,500003,500004,500005,500006] (zI (!r2195) (fun hb=>?_) fun hb=>?_)
 replace h:=iteT hb h
 refine z8 3 ⟨[(8,vI s1551.1),(9,vI 13)],[]⟩ fun τ hτ=>?_
 refine th_ret (bl_ret (th_ret ?_))
 obtain rfl:=osi h
 exact zF hτ
 replace h:=iteF hb h
 refine y4 [0,1,3,6,11,12,13,14,29,30,31] [500000,500001,500002,500003,500004,500005,500006] (zB (z7 (zA 2 ?_)))
 obtain ⟨l2258,hl2258,h⟩:=bindS h
 refine evs_op (st_slH (c:=c_Placement) (l:=l) (sz:=5) (hi:=s1551.1) (k2:=.i64) (by kernel_rfl) hl2258) (evs_op (st_len (c:=c_Placement) (l:=l2258) (x:=(s_Placement l2258)) (by kernel_rfl) (by kernel_rfl)) (y1 1 [0,1,3,6,11,12,13,14,29,30,31,95,96,97] [500000,500001,500002,500003,500004,500005,500006] (zC ?_)))
 obtain ⟨x2315,hx2315,h⟩:=bindS h
 refine sem_loopS (fun (s2278 : Int)=>⟨[(0,s_Sheet sheets),(1,s_Piece pieces),(3,s_Placement l),(6,.ptr 500000 0),(11,ro 500001 78),(12,vI s1551.1),(13,.ptr 500002 0),(14,.ptr 500003 0),(29,s_Placement l),(30,vI (l.length : Int)),(31,vI s1551.1),(95,s_Placement l2258),(96,vI (l2258.length : Int)),(97,vI s2278)],[(500000,.box (c_Settings set2)),(500001,w_Piece 78 s1551.2),(500002,.box (c_Placement x2129)),(500003,.box [(vS r2145.1.Name),(vS r2145.1.Material),(vI r2145.1.Gauge),(vI r2145.1.Grain),(ro 500004 98),(ro 500005 98),(ro 500006 98)]),(500004,w_Rect 98 r2145.1.Rects),(500005,w_Rect 98 r2145.1.Cuts),(500006,w_Rect 98 r2145.1.Forms)]⟩) (fun (x2315 : Unit ⊕ Unit)=>match x2315 with | .inl j2316=>(.ret,⟨[(8,vI s1551.1),(9,vI 7)],[]⟩) | .inr j2317=>(.exit 4,⟨[(0,s_Sheet sheets),(1,s_Piece pieces),(3,s_Placement l),(6,.ptr 500000 0),(11,ro 500001 78),(14,.ptr 500002 0),(29,s_Placement l),(30,vI (l.length : Int)),(31,vI s1551.1)],[(500000,.box (c_Settings set2)),(500001,w_Piece 78 s1551.2),(500002,.box [(vS r2145.1.Name),(vS r2145.1.Material),(vI r2145.1.Gauge),(vI r2145.1.Grain),(ro 500003 98),(ro 500004 98),(ro 500005 98)]),(500003,w_Rect 98 r2145.1.Rects),(500004,w_Rect 98 r2145.1.Cuts),(500005,w_Rect 98 r2145.1.Forms)]⟩)) (nest_Check_l2 set2 s1551 x2129 r2145 l2258) 0 x2315 (by kernel_rfl) (here (by kernel_rfl)) hx2315 ?_ ?_ ?_
 intro s2278 r h
 refine y3 1 [0,1,3,6,11,12,13,14,29,30,31,95,96,97,98] [500000,500001,500002,500003,500004,500005,500006] (zB (zI (decide (s2278 < (l2258.length : Int))) (fun hb=>?_) fun hb=>?_))
 replace h:=iteT hb h
 refine y4 [0,1,3,6,11,12,13,14,29,30,31,95,96,97] [500000,500001,500002,500003,500004,500005,500006] (zB (zC (z7 (zA 1 ?_))))
 obtain ⟨x2307,hx2307,h⟩:=bindS h
 refine evs_op (st_idx (c:=c_Placement) (l:=l2258) (i:=s2278) (kd:=.i64) (sz:=5) (by kernel_rfl) hx2307 rfl) (y1 4 [0,1,3,6,11,12,13,14,18,19,29,30,31,95,96,97] [19,500000,500001,500002,500003,500004,500005,500006] (zB ?_))
 obtain ⟨j2312,hj2312,h⟩:=bindS h
 refine sem_drawP ⟨[(0,s_Sheet sheets),(1,s_Piece pieces),(3,s_Placement l),(6,.ptr 500000 0),(11,ro 500001 78),(12,vI s1551.1),(13,.ptr 500002 0),(14,.ptr 500003 0),(29,s_Placement l),(30,vI (l.length : Int)),(31,vI s1551.1),(95,s_Placement l2258),(96,vI (l2258.length : Int)),(97,vI s2278),(118,vB j2312)],[(500000,.box (c_Settings set2)),(500001,w_Piece 78 s1551.2),(500002,.box (c_Placement x2129)),(500003,.box [(vS r2145.1.Name),(vS r2145.1.Material),(vI r2145.1.Gauge),(vI r2145.1.Grain),(ro 500004 98),(ro 500005 98),(ro 500006 98)]),(500004,w_Rect 98 r2145.1.Rects),(500005,w_Rect 98 r2145.1.Cuts),(500006,w_Rect 98 r2145.1.Forms)]⟩ [] [] [] [] [] 14 (by kernel_rfl) (by kernel_rfl) (by kernel_rfl) ?_ fun τ hτ=>?_
 replace h:=hj2312
 refine evd_run 6 (by kernel_rfl) (evd_split (x2307.Sheet==x2129.Sheet) (fun b0=>⟨[(107,vB b0),(106,vB b0),(105,vI x2129.Sheet),(104,.ptr 500002 1),(103,vI x2307.Sheet),(102,.ptr 19 1),(0,s_Sheet sheets),(1,s_Piece pieces),(3,s_Placement l),(6,.ptr 500000 0),(11,ro 500001 78),(12,vI s1551.1),(13,.ptr 500002 0),(14,.ptr 500003 0),(18,vI s2278),(19,.ptr 19 0),(29,s_Placement l),(30,vI (l.length : Int)),(31,vI s1551.1),(95,s_Placement l2258),(96,vI (l2258.length : Int)),(97,vI s2278)],[(19,.box (c_Placement x2307)),(500000,.box (c_Settings set2)),(500001,w_Piece 78 s1551.2),(500002,.box (c_Placement x2129)),(500003,.box [(vS r2145.1.Name),(vS r2145.1.Material),(vI r2145.1.Gauge),(vI r2145.1.Grain),(ro 500004 98),(ro 500005 98),(ro 500006 98)]),(500004,w_Rect 98 r2145.1.Rects),(500005,w_Rect 98 r2145.1.Cuts),(500006,w_Rect 98 r2145.1.Forms)]⟩) (by kernel_rfl) (fun hb=>?_) fun hb=>?_)
 replace h:=iteT hb h
 refine evd_run 4 (by kernel_rfl) ?_
 obtain ⟨x2313,hx2313,h⟩:=bindS h
 refine evd_val (by kernel_rfl) (st_idxO (c:=c_Piece) (l:=s1551.2) (i:=s2278) (kd:=.i64) (kk:=(.top 500001)) (e:=78) (sz:=7) (by kernel_rfl) (by kernel_rfl) hx2313 rfl) (by kernel_rfl) (by kernel_rfl) (evd_run 1 (by kernel_rfl) (evd_val (by kernel_rfl) (st_ldO (c:=c_Piece) (l:=s1551.2) (i:=(Int.toNat s2278)) (v:=(s_Rect x2313.Rects)) (agg:=false) (sz:=1) (kk:=(.top 500001)) (e:=78) (off:=4) (J:=[]) (by kernel_rfl) (by kernel_rfl) (by kernel_rfl) ((idxS hx2313).2) (by kernel_rfl)) (by kernel_rfl) (by kernel_rfl) (evd_run 1 (by kernel_rfl) (evd_end (by kernel_rfl) ?_))))
 obtain ⟨r2314,hr2314,h⟩:=bindS h
 refine evo_callP [500004] (by kernel_rfl) (W.nest_Clear_ok hr2314) (by kernel_rfl) (.inr rfl) (by kernel_rfl) (evo_run 2 (by kernel_rfl) (zO fun τ hτ=>?_))
 obtain rfl:=osi h
 exact zG hτ
 replace h:=iteF hb h
 refine evd_run 8 (by kernel_rfl) (evd_end (by kernel_rfl) (evo_run 3 (by kernel_rfl) (zO fun τ hτ=>?_)))
 obtain rfl:=osi h
 exact zG hτ
 refine yE hτ [0,1,3,6,11,12,13,14,29,30,31,95,96,97,118] [500000,500001,500002,500003,500004,500005,500006] (zI j2312 (fun hb=>?_) fun hb=>?_)
 replace h:=iteT hb h
 refine z8 3 ⟨[(8,vI s1551.1),(9,vI 7)],[]⟩ fun τ hτ=>?_
 refine bl_ret (th_ret ?_)
 obtain rfl:=osi h
 exact zF hτ
 replace h:=iteF hb h
 refine zM fun τ hτ=>?_
 refine bl_normal (yE hτ [0,1,3,6,11,12,13,14,29,30,31,95,96,97] [500000,500001,500002,500003,500004,500005,500006] (zD (z6 2 fun τ hτ=>?_)))
 obtain rfl:=osi h
 exact zH hτ
 replace h:=iteF hb h
 refine zL 4 fun τ hτ=>?_
 refine th_exit ?_
 obtain rfl:=osi h
 exact lk_outS hτ rfl (subR_prep [] [(500000,500000),(500001,500001),(500003,500002),(500004,500003),(500005,500004),(500006,500005)] (by kernel_rfl) rfl rfl (by kernel_rfl))
 intro x
 rcases x with _ | _ <;> rfl
 intro τ hτ
 rcases x2315 with j2316 | j2317
 refine bl_ret (th_ret (bl_ret (th_ret ?_)))
 obtain rfl:=osi h
 exact zF hτ
 refine zQ (yE hτ [0,1,3,6,11,14,29,30,31] [500000,500001,500002,500003,500004,500005] (zD (zA 2 (evs_prep [.frz 500003,.frz 500004,.frz 500005] (by kernel_rfl) (zA 1 ?_)))))
 obtain ⟨l2319,hl2319,h⟩:=bindS h
 refine evs_op (st_app (c:=c_Piece) (l:=s1551.2) (l2:=[(Piece.mk r2145.1.Name r2145.1.Material r2145.1.Gauge r2145.1.Grain r2145.1.Rects r2145.1.Cuts r2145.1.Forms)]) (x:=(s_Piece [(Piece.mk r2145.1.Name r2145.1.Material r2145.1.Gauge r2145.1.Grain r2145.1.Rects r2145.1.Cuts r2145.1.Forms)])) (g:=500001) (e:=78) (sz:=7) (d:=124) (by kernel_rfl) (by kernel_rfl) (by kernel_rfl) (by kernel_rfl) (fun _=>rfl) rfl hl2319) (z6 1 fun τ hτ=>?_)
 refine bl_normal (yE hτ [0,1,3,6,11,29,30,31] [500000,500001] (zD (z6 2 fun τ hτ=>?_)))
 obtain rfl:=osi h
 exact zH hτ
 replace h:=iteF hb h
 refine zL 0 fun τ hτ=>?_
 refine th_exit ?_
 obtain rfl:=osi h
 exact zF hτ
 intro x
 rcases x with _ | _ <;> rfl
 intro τ hτ
 rcases x2320 with j2321 | j2322
 refine bl_ret (th_ret ?_)
 obtain rfl:=osi h
 exact zV hτ [(8,vI j2321.1),(9,vI j2321.2)]
 refine zQ (yE hτ [] [] (z8 2 ⟨[(8,vI 0),(9,vI 0)],[]⟩ fun τ hτ=>?_))
 obtain rfl:=osi h
 exact zV hτ [(8,vI 0),(9,vI 0)]
theorem W.cut_copySheet_ok {s0 : Sheet} {r : Sheet} (h : cut_copySheet s0=some r) : PC G.P 78 [(.agg (c_Sheet s0))] [] (.agg [(vS r.Name),(vS r.Material),(vI r.Gauge),(vI r.Grain),(vI r.Width),(vI r.Height),(.row (.top 1) 98),(.row (.top 2) 98)]) [(0,.box [(vS s0.Name),(vS s0.Material),(vI s0.Gauge),(vI s0.Grain),(vI s0.Width),(vI s0.Height),(.row (.top 1) 98),(.row (.top 2) 98)]),(1,.row 98 [] (List.map c_Rect r.Clamps)),(2,.row 98 [] (List.map c_Rect r.Used))]:=by
 refine zU G Tryz.func78 (yK [0] [] (y3 2 [1,2] [1,2] (zB (sem_draw [(2,[700100]),(5,[700250])] [(2,[700100]),(5,[700250])] [] [(3,[700100]),(4,[700100]),(6,[700250])] [(0,[700100,700250]),(1,[700100,700250]),(2,[700250]),(3,[700100,700250]),(4,[700100,700250]),(6,[700250])] 7 (by kernel_rfl) (by kernel_rfl) [700100,700250] (by kernel_rfl) (by kernel_rfl) (evd_run 2 (by kernel_rfl) ?_)))))
 obtain ⟨r5,hr5,h⟩:=bindS h
 refine evd_callS [(0,700100)] [] (by kernel_rfl) (by kernel_rfl) (W.slices_Clone_Lapi_Rect_api_Rect_ok hr5) (by kernel_rfl) (.inl rfl) (by kernel_rfl) (by kernel_rfl) (evd_run 2 (by kernel_rfl) ?_)
 obtain ⟨r6,hr6,h⟩:=bindS h
 refine evd_callS [(0,700250)] [] (by kernel_rfl) (by kernel_rfl) (W.slices_Clone_Lapi_Rect_api_Rect_ok hr6) (by kernel_rfl) (.inl rfl) (by kernel_rfl) (by kernel_rfl) (evd_run 1 (by kernel_rfl) (evd_end (by kernel_rfl) (evo_run 3 (by kernel_rfl) (zO fun τ hτ=>?_))))
 refine yE hτ [1,2] [1,2,700100,700250] (z8 2 ⟨[(2,.ptr 2 0)],[(2,.box [(vS s0.Name),(vS s0.Material),(vI s0.Gauge),(vI s0.Grain),(vI s0.Width),(vI s0.Height),(ro 700100 98),(ro 700250 98)]),(700100,w_Rect 98 r5),(700250,w_Rect 98 r6)]⟩ fun τ hτ=>?_)
 obtain rfl:=osi h
 exact rk_ret hτ [(2,.ptr 0 0)] (subR_prep [] [(2,0),(700100,1),(700250,2)] (by kernel_rfl) rfl rfl (by kernel_rfl)) (by kernel_rfl)
theorem W.cut_LayoutOf_ok {sheets : (List Sheet)} {pieces : (List Piece)} {set2 : Settings} {l : (List Placement)} {sheet : Int} {r : LayoutT×Int×ByteArray×ByteArray×Int×Int×Int×Int} (h : cut_LayoutOf sheets pieces set2 l sheet=some r) : PC G.P 37 [(.sl (List.map c_Sheet sheets)),(.sl (List.map c_Piece pieces)),(.agg (c_Settings set2)),(.sl (List.map c_Placement l)),(vI sheet)] [] (.tup [(.agg [(vS r.1.Sheet.Name),(vS r.1.Sheet.Material),(vI r.1.Sheet.Gauge),(vI r.1.Sheet.Grain),(vI r.1.Sheet.Width),(vI r.1.Sheet.Height),(.row (.top 1) 98),(.row (.top 2) 98),(.row (.top 3) 78)]),(vI r.2.1)]) [(0,.box [(vS r.2.2.1),(vS r.2.2.2.1),(vI r.2.2.2.2.1),(vI r.2.2.2.2.2.1),(vI r.2.2.2.2.2.2.1),(vI r.2.2.2.2.2.2.2),(.row (.top 1) 98),(.row (.top 2) 98),(.row (.top 3) 78)]),(1,.row 98 [] (List.map c_Rect r.1.Sheet.Clamps)),(2,.row 98 [] (List.map c_Rect r.1.Sheet.Used)),(3,.row 78 [] (List.map c_Piece r.1.Pieces))]:=by
 refine zU G Tryz.func37 (yK [0,1,2,3,4] [] (y3 3 [0,1,3,4,7,10] [7,10] (zB (z7 (zA 4 ?_)))))
 obtain ⟨r4,hr4,h⟩:=bindS h
 refine evs_callP [] (by kernel_rfl) (W.nest_Check_ok hr4) (by kernel_rfl) (.inl rfl) (by kernel_rfl) (y1 5 [0,1,3,4,10,13] [10] (y3 2 [0,1,3,4,10,13,28] [10] (zI (r4.2 != 0) (fun hb=>?_) fun hb=>?_)))
 replace h:=iteT hb h
 refine z8 4 ⟨[(10,.ptr 10 0),(11,vI r4.2)],[(10,.box [(vS ByteArray.empty),(vS ByteArray.empty),(vI 0),(vI 0),(vI 0),(vI 0),.nl,.nl,.nl])]⟩ fun τ hτ=>?_
 refine th_ret ?_
 obtain rfl:=osi h
 exact rk_ret hτ [(10,.ptr 0 0),(11,vI r4.2)] (subR_prep [.row (.box 10 6) 800000 98 [],.row (.box 10 7) 800001 98 [],.row (.box 10 8) 800002 78 []] [(10,0),(800000,1),(800001,2),(800002,3)] (by kernel_rfl) rfl rfl (by kernel_rfl)) (by kernel_rfl)
 replace h:=iteF hb h
 refine y4 [0,1,3,4,10] [10] (zB (zB ?_))
 obtain ⟨j6,hj6,h⟩:=bindS h
 refine zT ⟨[(0,s_Sheet sheets),(1,s_Piece pieces),(3,s_Placement l),(4,vI sheet),(10,.ptr 500000 0),(38,vB j6)],[(500000,.box [(vS ByteArray.empty),(vS ByteArray.empty),(vI 0),(vI 0),(vI 0),(vI 0),.nl,.nl,.nl])]⟩ ?_ fun τ hτ=>?_
 replace h:=hj6
 refine zA 3 (zS (decide (sheet < 0)) (fun b0=>⟨[(0,s_Sheet sheets),(1,s_Piece pieces),(3,s_Placement l),(4,vI sheet),(10,.ptr 10 0),(33,vB b0)],[(10,.box [(vS ByteArray.empty),(vS ByteArray.empty),(vI 0),(vI 0),(vI 0),(vI 0),.nl,.nl,.nl])]⟩) (fun hb=>?_) fun hb=>?_)
 replace h:=iteT hb h
 refine z6 5 fun τ hτ=>?_
 obtain rfl:=osi h
 exact leafC hτ (subR_prep [] [(10,500000)] (by kernel_rfl) rfl rfl (by kernel_rfl))
 replace h:=iteF hb h
 refine zA 2 (evs_op (st_len (c:=c_Sheet) (l:=sheets) (x:=(s_Sheet sheets)) (by kernel_rfl) (by kernel_rfl)) (z6 2 fun τ hτ=>?_))
 obtain rfl:=osi h
 exact leafC hτ (subR_prep [] [(10,500000)] (by kernel_rfl) rfl rfl (by kernel_rfl))
 refine yE hτ [0,1,3,4,10,38] [500000] (zI j6 (fun hb=>?_) fun hb=>?_)
 replace h:=iteT hb h
 refine z8 3 ⟨[(10,.ptr 500000 0),(11,vI 5)],[(500000,.box [(vS ByteArray.empty),(vS ByteArray.empty),(vI 0),(vI 0),(vI 0),(vI 0),.nl,.nl,.nl])]⟩ fun τ hτ=>?_
 refine th_ret ?_
 obtain rfl:=osi h
 exact rk_ret hτ [(10,.ptr 0 0),(11,vI 5)] (subR_prep [.row (.box 500000 6) 800000 98 [],.row (.box 500000 7) 800001 98 [],.row (.box 500000 8) 800002 78 []] [(500000,0),(800000,1),(800001,2),(800002,3)] (by kernel_rfl) rfl rfl (by kernel_rfl)) (by kernel_rfl)
 replace h:=iteF hb h
 refine y4 [0,1,3,4,10] [500000] (z7 (zA 2 ?_))
 obtain ⟨x9,hx9,h⟩:=bindS h
 refine evs_op (st_idx (c:=c_Sheet) (l:=sheets) (i:=sheet) (kd:=.i64) (sz:=8) (by kernel_rfl) hx9 rfl) (zA 1 ?_)
 obtain ⟨r10,hr10,h⟩:=bindS h
 refine evs_callS [] [(0,700200),(1,700201),(2,700202)] [] (by kernel_rfl) (W.cut_copySheet_ok hr10) (by kernel_rfl) (by kernel_rfl) (.inl rfl) (y1 3 [1,3,4,10,14] [14,500000,700201,700202] (zB (z7 (zA 1 (evs_op (st_len (c:=c_Placement) (l:=l) (x:=(s_Placement l)) (by kernel_rfl) (by kernel_rfl)) (y1 1 [1,4,10,14,46,47,48] [14,500000,700201,700202] ?_))))))
 refine zC ?_
 obtain ⟨x144,hx144,h⟩:=bindS h
 refine sem_loopS (fun (s101 : Int×(List Piece))=>⟨[(1,s_Piece pieces),(4,vI sheet),(10,.ptr 500000 0),(14,.ptr 500001 0),(46,s_Placement l),(47,vI (l.length : Int)),(48,vI s101.1)],[(500000,.box [(vS ByteArray.empty),(vS ByteArray.empty),(vI 0),(vI 0),(vI 0),(vI 0),.nl,.nl,.nl]),(500001,.box [(vS r10.Name),(vS r10.Material),(vI r10.Gauge),(vI r10.Grain),(vI r10.Width),(vI r10.Height),(ro 500002 98),(ro 500003 98),(ro 500004 78)]),(500002,w_Rect 98 r10.Clamps),(500003,w_Rect 98 r10.Used),(500004,w_Piece 78 s101.2)]⟩) (fun (x144 : Int ⊕ (List Piece))=>match x144 with | .inl j145=>(.ret,⟨[(10,.ptr 500000 0),(11,vI j145)],[(500000,.box [(vS ByteArray.empty),(vS ByteArray.empty),(vI 0),(vI 0),(vI 0),(vI 0),.nl,.nl,.nl])]⟩) | .inr j146=>(.exit 0,⟨[(10,.ptr 500000 0),(14,.ptr 500001 0)],[(500000,.box [(vS ByteArray.empty),(vS ByteArray.empty),(vI 0),(vI 0),(vI 0),(vI 0),.nl,.nl,.nl]),(500001,.box [(vS r10.Name),(vS r10.Material),(vI r10.Gauge),(vI r10.Grain),(vI r10.Width),(vI r10.Height),(ro 500002 98),(ro 500003 98),(ro 500004 78)]),(500002,w_Rect 98 r10.Clamps),(500003,w_Rect 98 r10.Used),(500004,w_Piece 78 j146)]⟩)) (cut_LayoutOf_l2 pieces l sheet) (0,[]) x144 (by kernel_rfl) (subR_prep [.row (.box 14 8) 800000 78 []] [(14,500001),(500000,500000),(700201,500002),(700202,500003),(800000,500004)] (by kernel_rfl) rfl rfl (by kernel_rfl)) hx144 ?_ ?_ ?_
 intro s101 r h
 refine y3 1 [1,4,10,14,46,47,48,49] [500000,500001,500002,500003,500004] (zB (zI (decide (s101.1 < (l.length : Int))) (fun hb=>?_) fun hb=>?_))
 replace h:=iteT hb h
 refine y4 [1,4,10,14,46,47,48] [500000,500001,500002,500003,500004] (sem_seqJ (fun (j133 : (List Piece))=>⟨[(1,s_Piece pieces),(4,vI sheet),(10,.ptr 500000 0),(14,.ptr 500001 0),(46,s_Placement l),(47,vI (l.length : Int)),(48,vI s101.1)],[(500000,.box [(vS ByteArray.empty),(vS ByteArray.empty),(vI 0),(vI 0),(vI 0),(vI 0),.nl,.nl,.nl]),(500001,.box [(vS r10.Name),(vS r10.Material),(vI r10.Gauge),(vI r10.Grain),(vI r10.Width),(vI r10.Height),(ro 500002 98),(ro 500003 98),(ro 500004 78)]),(500002,w_Rect 98 r10.Clamps),(500003,w_Rect 98 r10.Used),(500004,w_Piece 78 j133)]⟩) (cut_LayoutOf_k1 s101) r (by kernel_rfl) (fun j133 h=>?_) ?_)
 refine zD (z6 2 fun τ hτ=>?_)
 obtain rfl:=osi h
 exact zH hτ
 refine zC (z7 ?_)
 obtain ⟨x135,hx135,h⟩:=bindS h
 refine evs_op (st_idx (c:=c_Placement) (l:=l) (i:=s101.1) (kd:=.i64) (sz:=5) (by kernel_rfl) hx135 rfl) (y1 3 [1,4,10,14,16,46,47,48] [16,500000,500001,500002,500003,500004] (y3 4 [1,4,10,14,16,46,47,48,55] [16,500000,500001,500002,500003,500004] (zI (x135.Sheet==sheet) (fun hb=>?_) fun hb=>?_)))
 replace h:=iteT hb h
 refine zB (sem_draw [(6,[700300,700301,700302,700303]),(10,[17]),(11,[17])] [(6,[700300,700301,700302,700303]),(10,[17])] [] [(0,[17]),(1,[17]),(2,[17]),(3,[17]),(4,[17]),(5,[17]),(6,[17]),(7,[17]),(8,[17]),(9,[17]),(10,[700300,700301,700302,700303])] [(0,[700300,700301,700302,700303,17]),(1,[700300,700301,700302,700303,17]),(2,[700300,700301,700302,700303,17]),(3,[700300,700301,700302,700303,17]),(4,[700300,700301,700302,700303,17]),(5,[700300,700301,700302,700303,17]),(6,[17]),(7,[17]),(8,[17]),(9,[17]),(10,[700300,700301,700302,700303])] 12 (by kernel_rfl) (by kernel_rfl) [700300,700301,700302,700303,17] (by kernel_rfl) (by kernel_rfl) (evd_run 3 (by kernel_rfl) ?_))
 obtain ⟨x140,hx140,h⟩:=bindS h
 refine evd_val (by kernel_rfl) (st_idx (c:=c_Piece) (l:=pieces) (i:=x135.Piece) (kd:=.i64) (sz:=7) (by kernel_rfl) hx140 rfl) (by kernel_rfl) (by kernel_rfl) (evd_run 2 (by kernel_rfl) ?_)
 obtain ⟨r141,hr141,h⟩:=bindS h
 refine evd_callS [(0,700300),(1,700301),(2,700302),(3,700303)] [] (by kernel_rfl) (by kernel_rfl) (W.nest_Put_ok hr141) (by kernel_rfl) (.inl rfl) (by kernel_rfl) (by kernel_rfl) (evd_run 3 (by kernel_rfl) (evd_new (g:=17) (ob:=.box [(vS ByteArray.empty),(vS ByteArray.empty),(vI 0),(vI 0),.nl,.nl,.nl]) (v:=(.ptr 17 0)) (by kernel_rfl) (by kernel_rfl) (by kernel_rfl) (by kernel_rfl) (by kernel_rfl) (by kernel_rfl) (evd_set (g:=17) (ob:=.box [(vS r141.1.Name),(vS r141.1.Material),(vI r141.1.Gauge),(vI r141.1.Grain),(ro 700301 98),(ro 700302 98),(ro 700303 98)]) (v:=vU) (by kernel_rfl) (by kernel_rfl) (by kernel_rfl) (by kernel_rfl) (by kernel_rfl) (evd_end (by kernel_rfl) (evo_run 1 (by kernel_rfl) (zO fun τ hτ=>?_))))))
 refine yE hτ [1,4,10,14,17,18,46,47,48] [17,500000,500001,500002,500003,500004,700301,700302,700303] (zB (y3 2 [1,4,10,14,17,18,46,47,48,67] [17,500000,500001,500002,500003,500004,700301,700302,700303] (zI (r141.2.1 != 0) (fun hb=>?_) fun hb=>?_)))
 replace h:=iteT hb h
 refine z8 4 ⟨[(10,.ptr 500000 0),(11,vI r141.2.1)],[(500000,.box [(vS ByteArray.empty),(vS ByteArray.empty),(vI 0),(vI 0),(vI 0),(vI 0),.nl,.nl,.nl])]⟩ fun τ hτ=>?_
 refine th_ret (bl_ret (jk_ret ?_))
 obtain rfl:=osi h
 exact zF hτ
 replace h:=iteF hb h
 refine y4 [1,4,10,14,17,46,47,48] [17,500000,500001,500002,500003,500004,700301,700302,700303] (zD (zA 3 (evs_prep [.frz 700301,.frz 700302,.frz 700303] (by kernel_rfl) (zA 1 ?_))))
 obtain ⟨l143,hl143,h⟩:=bindS h
 refine evs_op (st_app (c:=c_Piece) (l:=s101.2) (l2:=[(Piece.mk r141.1.Name r141.1.Material r141.1.Gauge r141.1.Grain r141.1.Rects r141.1.Cuts r141.1.Forms)]) (x:=(s_Piece [(Piece.mk r141.1.Name r141.1.Material r141.1.Gauge r141.1.Grain r141.1.Rects r141.1.Cuts r141.1.Forms)])) (g:=500004) (e:=78) (sz:=7) (d:=74) (by kernel_rfl) (by kernel_rfl) (by kernel_rfl) (by kernel_rfl) (fun _=>rfl) rfl hl143) (z6 2 fun τ hτ=>?_)
 exact bl_normal (jk_normal l143 h hτ (here (by kernel_rfl)))
 replace h:=iteF hb h
 refine zM fun τ hτ=>?_
 exact bl_normal (jk_normal s101.2 h hτ (here (by kernel_rfl)))
 replace h:=iteF hb h
 refine zL 0 fun τ hτ=>?_
 refine th_exit ?_
 obtain rfl:=osi h
 exact zF hτ
 intro x
 rcases x with _ | _ <;> rfl
 intro τ hτ
 rcases x144 with j145 | j146
 refine bl_ret (th_ret ?_)
 obtain rfl:=osi h
 exact rk_ret hτ [(10,.ptr 0 0),(11,vI j145)] (subR_prep [.row (.box 500000 6) 800000 98 [],.row (.box 500000 7) 800001 98 [],.row (.box 500000 8) 800002 78 []] [(500000,0),(800000,1),(800001,2),(800002,3)] (by kernel_rfl) rfl rfl (by kernel_rfl)) (by kernel_rfl)
 refine zQ (yE hτ [10,14] [500000,500001,500002,500003,500004] (z8 3 ⟨[(10,.ptr 500000 0),(11,vI 0)],[(500000,.box [(vS r10.Name),(vS r10.Material),(vI r10.Gauge),(vI r10.Grain),(vI r10.Width),(vI r10.Height),(ro 500002 98),(ro 500003 98),(ro 500004 78)]),(500002,w_Rect 98 r10.Clamps),(500003,w_Rect 98 r10.Used),(500004,w_Piece 78 j146)]⟩ fun τ hτ=>?_))
 obtain rfl:=osi h
 exact rk_ret hτ [(10,.ptr 0 0),(11,vI 0)] (subR_prep [] [(500000,0),(500002,1),(500003,2),(500004,3)] (by kernel_rfl) rfl rfl (by kernel_rfl)) (by kernel_rfl)
theorem W.sheetmetalref06_given_ok {sheets : (List Sheet)} {pieces : (List Piece)} {r : Int} (h : sheetmetalref06_given sheets pieces=some r) : PC G.P 136 [(.sl (List.map c_Sheet sheets)),(.sl (List.map c_Piece pieces))] [] (vI r) []:=by
 refine zU G Tryz.func136 (yK [0,1] [] (y3 1 [0,1] [] (zB (zB ?_))))
 obtain ⟨j2,hj2,h⟩:=bindS h
 refine zT ⟨[(0,s_Sheet sheets),(1,s_Piece pieces),(16,vB j2)],[]⟩ ?_ fun τ hτ=>?_
 replace h:=hj2
 refine zA 1 (evs_op (st_len (c:=c_Sheet) (l:=sheets) (x:=(s_Sheet sheets)) (by kernel_rfl) (by kernel_rfl)) (zA 2 (zS (decide ((sheets.length : Int) > 4)) (fun b0=>⟨[(0,s_Sheet sheets),(1,s_Piece pieces),(12,vB b0)],[]⟩) (fun hb=>?_) fun hb=>?_)))
 replace h:=iteT hb h
 refine z6 4 fun τ hτ=>?_
 obtain rfl:=osi h
 exact zG hτ
 replace h:=iteF hb h
 refine zA 1 (evs_op (st_len (c:=c_Piece) (l:=pieces) (x:=(s_Piece pieces)) (by kernel_rfl) (by kernel_rfl)) (z6 2 fun τ hτ=>?_))
 obtain rfl:=osi h
 exact zG hτ
 refine yE hτ [0,1,16] [] (zI j2 (fun hb=>?_) fun hb=>?_)
 replace h:=iteT hb h
 refine z8 1 ⟨[(4,vI 4)],[]⟩ fun τ hτ=>?_
 refine th_ret ?_
 obtain rfl:=osi h
 exact zV hτ [(4,vI 4)]
 replace h:=iteF hb h
 refine y4 [0,1] [] (zB (y3 1 [0,1,5] [] (zC ?_)))
 obtain ⟨x58,hx58,h⟩:=bindS h
 refine sem_loopS (fun (s41 : Int)=>⟨[(0,s_Sheet sheets),(1,s_Piece pieces),(5,vI s41)],[]⟩) (fun (x58 : Int ⊕ Unit)=>match x58 with | .inl j59=>(.ret,⟨[(4,vI j59)],[]⟩) | .inr j60=>(.exit 0,⟨[(1,s_Piece pieces)],[]⟩)) (sheetmetalref06_given_l1 sheets) 0 x58 (by kernel_rfl) (here (by kernel_rfl)) hx58 ?_ ?_ ?_
 intro s41 r h
 refine zB (z7 (zA 2 (evs_op (st_len (c:=c_Sheet) (l:=sheets) (x:=(s_Sheet sheets)) (by kernel_rfl) (by kernel_rfl)) (y1 1 [0,1,5,20] [] (zI (decide (s41 < (sheets.length : Int))) (fun hb=>?_) fun hb=>?_)))))
 replace h:=iteT hb h
 refine y4 [0,1,5] [] (zB (zC (z7 (zA 2 ?_))))
 obtain ⟨x56,hx56,h⟩:=bindS h
 refine evs_op (st_idx (c:=c_Sheet) (l:=sheets) (i:=s41) (kd:=.i64) (sz:=8) (by kernel_rfl) hx56 rfl) (zA 1 ?_)
 obtain ⟨r57,hr57,h⟩:=bindS h
 refine evs_callP [] (by kernel_rfl) (W.sheetmetalref06_ValidateSheet_ok hr57) (by kernel_rfl) (.inl rfl) (by kernel_rfl) (y1 1 [0,1,5,6] [] (y3 2 [0,1,5,6,29] [] (zI (r57 != 0) (fun hb=>?_) fun hb=>?_)))
 replace h:=iteT hb h
 refine z8 2 ⟨[(4,vI r57)],[]⟩ fun τ hτ=>?_
 refine bl_ret (th_ret ?_)
 obtain rfl:=osi h
 exact zF hτ
 replace h:=iteF hb h
 refine zM fun τ hτ=>?_
 refine bl_normal (yE hτ [0,1,5] [] (zD (z6 3 fun τ hτ=>?_)))
 obtain rfl:=osi h
 exact zH hτ
 replace h:=iteF hb h
 refine zL 0 fun τ hτ=>?_
 refine th_exit ?_
 obtain rfl:=osi h
 exact zF hτ
 intro x
 rcases x with _ | _ <;> rfl
 intro τ hτ
 rcases x58 with j59 | j60
 refine bl_ret (th_ret ?_)
 obtain rfl:=osi h
 exact zV hτ [(4,vI j59)]
 refine zQ (yE hτ [1] [] (zB (y3 1 [1,7] [] (zC ?_))))
 obtain ⟨x116,hx116,h⟩:=bindS h
 refine sem_loopS (fun (s99 : Int)=>⟨[(1,s_Piece pieces),(7,vI s99)],[]⟩) (fun (x116 : Int ⊕ Unit)=>match x116 with | .inl j117=>(.ret,⟨[(4,vI j117)],[]⟩) | .inr j118=>(.exit 2,⟨[],[]⟩)) (sheetmetalref06_given_l2 pieces) 0 x116 (by kernel_rfl) (here (by kernel_rfl)) hx116 ?_ ?_ ?_
 intro s99 r h
 refine zB (z7 (zA 2 (evs_op (st_len (c:=c_Piece) (l:=pieces) (x:=(s_Piece pieces)) (by kernel_rfl) (by kernel_rfl)) (y1 1 [1,7,34] [] (zI (decide (s99 < (pieces.length : Int))) (fun hb=>?_) fun hb=>?_)))))
 replace h:=iteT hb h
 refine y4 [1,7] [] (zB (zC (z7 (zA 2 ?_))))
 obtain ⟨x114,hx114,h⟩:=bindS h
 refine evs_op (st_idx (c:=c_Piece) (l:=pieces) (i:=s99) (kd:=.i64) (sz:=7) (by kernel_rfl) hx114 rfl) (zA 1 ?_)
 obtain ⟨r115,hr115,h⟩:=bindS h
 refine evs_callP [] (by kernel_rfl) (W.sheetmetalref06_ValidatePiece_ok hr115) (by kernel_rfl) (.inl rfl) (by kernel_rfl) (y1 1 [1,7,8] [] (y3 2 [1,7,8,43] [] (zI (r115 != 0) (fun hb=>?_) fun hb=>?_)))
 replace h:=iteT hb h
 refine z8 2 ⟨[(4,vI r115)],[]⟩ fun τ hτ=>?_
 refine bl_ret (th_ret ?_)
 obtain rfl:=osi h
 exact zF hτ
 replace h:=iteF hb h
 refine zM fun τ hτ=>?_
 refine bl_normal (yE hτ [1,7] [] (zD (z6 3 fun τ hτ=>?_)))
 obtain rfl:=osi h
 exact zH hτ
 replace h:=iteF hb h
 refine zL 2 fun τ hτ=>?_
 refine th_exit ?_
 obtain rfl:=osi h
 exact zF hτ
 intro x
 rcases x with _ | _ <;> rfl
 intro τ hτ
 rcases x116 with j117 | j118
 refine bl_ret (th_ret ?_)
 obtain rfl:=osi h
 exact zV hτ [(4,vI j117)]
 refine zQ (yE hτ [] [] (z8 1 ⟨[(4,vI 0)],[]⟩ fun τ hτ=>?_))
 obtain rfl:=osi h
 exact zV hτ [(4,vI 0)]
theorem W.sheetmetalref06_ValidSettings_ok {set0 : Settings} {r : Bool} (h : sheetmetalref06_ValidSettings set0=some r) : PC G.P 137 [(.agg (c_Settings set0))] [] (vB r) []:=by
 refine zU G Tryz.func137 (yK [0] [] (y3 2 [1] [1] (y3 1 [1,3] [1] (zB ?_))))
 obtain ⟨j1,hj1,h⟩:=bindS h
 refine zT ⟨[(2,vB j1)],[]⟩ ?_ fun τ hτ=>?_
 replace h:=hj1
 refine zA 4 (zS (decide (set0.Gap ≥ 0)) (fun b0=>⟨[(1,.ptr 1 0),(3,vI 14400),(7,vB b0)],[(1,.box (c_Settings set0))]⟩) (fun hb=>?_) fun hb=>?_)
 replace h:=iteT hb h
 refine zA 6 (zS (decide (set0.Gap≤14400)) (fun b0=>⟨[(1,.ptr 1 0),(3,vI 14400),(13,vB b0)],[(1,.box (c_Settings set0))]⟩) (fun hb=>?_) fun hb=>?_)
 replace h:=iteT hb h
 refine zA 5 (zS (decide (set0.Margin ≥ 0)) (fun b0=>⟨[(1,.ptr 1 0),(3,vI 14400),(18,vB b0)],[(1,.box (c_Settings set0))]⟩) (fun hb=>?_) fun hb=>?_)
 replace h:=iteT hb h
 refine z6 6 fun τ hτ=>?_
 obtain rfl:=osi h
 exact zG hτ
 replace h:=iteF hb h
 refine z6 6 fun τ hτ=>?_
 obtain rfl:=osi h
 exact zG hτ
 replace h:=iteF hb h
 refine z6 11 fun τ hτ=>?_
 obtain rfl:=osi h
 exact zG hτ
 replace h:=iteF hb h
 refine z6 17 fun τ hτ=>?_
 obtain rfl:=osi h
 exact zG hτ
 refine yE hτ [2] [] (zN fun τ hτ=>?_)
 obtain rfl:=osi h
 exact zV hτ [(2,vB j1)]
theorem W.sheetmetalref06_quarter_ok {l : (List Rect)} {r : (List Rect)} (h : sheetmetalref06_quarter l=some r) : PC G.P 173 [(.sl (List.map c_Rect l))] [] (.row (.top 0) 98) [(0,.row 98 [] (List.map c_Rect r))]:=by
 refine zU G Tryz.func173 (yK [0] [] (y3 1 [0] [] (y3 1 [0,3] [3] (zB (y3 1 [0,3,4] [3] (zC ?_))))))
 obtain ⟨x54,hx54,h⟩:=bindS h
 refine sem_loopS (fun (s37 : Int×(List Rect))=>⟨[(0,s_Rect l),(3,ro 500000 98),(4,vI s37.1)],[(500000,w_Rect 98 s37.2)]⟩) (fun (x54 : (List Rect))=>(.exit 0,⟨[(3,ro 500000 98)],[(500000,w_Rect 98 x54)]⟩)) (sheetmetalref06_quarter_l1 l) (0,[]) x54 (by kernel_rfl) (subR_prep [] [(3,500000)] (by kernel_rfl) rfl rfl (by kernel_rfl)) hx54 ?_ ?_ ?_
 intro s37 r h
 refine zB (z7 (zA 2 (evs_op (st_len (c:=c_Rect) (l:=l) (x:=(s_Rect l)) (by kernel_rfl) (by kernel_rfl)) (y1 1 [0,3,4,9] [500000] (zI (decide (s37.1 < (l.length : Int))) (fun hb=>?_) fun hb=>?_)))))
 replace h:=iteT hb h
 refine y4 [0,3,4] [500000] (zB (zC (z7 (zA 2 ?_))))
 obtain ⟨x51,hx51,h⟩:=bindS h
 refine evs_op (st_idx (c:=c_Rect) (l:=l) (i:=s37.1) (kd:=.i64) (sz:=4) (by kernel_rfl) hx51 rfl) (y1 3 [0,3,4,5] [5,500000] (zD (zA 15 ?_)))
 obtain ⟨l53,hl53,h⟩:=bindS h
 refine evs_op (st_app (c:=c_Rect) (l:=s37.2) (l2:=[(Rect.mk (ineg (iadd x51.Y x51.H)) x51.X x51.H x51.W)]) (x:=(s_Rect [(Rect.mk (ineg (iadd x51.Y x51.H)) x51.X x51.H x51.W)])) (g:=500000) (e:=98) (sz:=4) (d:=31) (by kernel_rfl) (by kernel_rfl) (by kernel_rfl) (by kernel_rfl) (fun _=>rfl) rfl hl53) (z6 1 fun τ hτ=>?_)
 refine bl_normal (yE hτ [0,3,4] [500000] (zD (z6 3 fun τ hτ=>?_)))
 obtain rfl:=osi h
 exact zH hτ
 replace h:=iteF hb h
 refine zL 0 fun τ hτ=>?_
 refine th_exit ?_
 obtain rfl:=osi h
 exact zF hτ
 intro x
 rfl
 intro τ hτ
 refine zQ (yE hτ [3] [500000] (z8 2 ⟨[(2,ro 500000 98)],[(500000,w_Rect 98 x54)]⟩ fun τ hτ=>?_))
 obtain rfl:=osi h
 exact rk_ret hτ [(2,ro 0 98)] (subR_prep [] [(500000,0)] (by kernel_rfl) rfl rfl (by kernel_rfl)) (by kernel_rfl)
theorem W.sheetmetalref06_Turned_ok {x0 : Piece} {turn : Int} {r : Piece×ByteArray×ByteArray×Int×Int} (h : sheetmetalref06_Turned x0 turn=some r) : PC G.P 140 [(.agg (c_Piece x0)),(vI turn)] [] (.agg [(vS r.1.Name),(vS r.1.Material),(vI r.1.Gauge),(vI r.1.Grain),(.row (.top 1) 98),(.row (.top 2) 98),(.row (.top 3) 98)]) [(0,.box [(vS r.2.1),(vS r.2.2.1),(vI r.2.2.2.1),(vI r.2.2.2.2),(.row (.top 1) 98),(.row (.top 2) 98),(.row (.top 3) 98)]),(1,.row 98 [] (List.map c_Rect r.1.Rects)),(2,.row 98 [] (List.map c_Rect r.1.Cuts)),(3,.row 98 [] (List.map c_Rect r.1.Forms))]:=by
 refine zU G Tryz.func140 (yK [0,1] [] (y3 2 [1,2,4] [2,4] (z7 (zA 1 ?_))))
 obtain ⟨r2,hr2,h⟩:=bindS h
 refine evs_callS [] [(0,700050),(1,700051),(2,700052),(3,700053)] [] (by kernel_rfl) (W.sheetmetalref06_Move_ok hr2) (by kernel_rfl) (by kernel_rfl) (.inl rfl) (y1 1 [1,2,4] [2,4,700051,700052,700053] (zB (y3 1 [1,2,4,5] [2,4,700051,700052,700053] (zC ?_))))
 obtain ⟨x80,hx80,h⟩:=bindS h
 refine sem_loopS (fun (s55 : Int×(List Rect)×(List Rect)×(List Rect))=>⟨[(1,vI turn),(2,.ptr 500000 0),(4,.ptr 500004 0),(5,vI s55.1)],[(500000,.box [(vS r2.Name),(vS r2.Material),(vI r2.Gauge),(vI r2.Grain),(ro 500001 98),(ro 500002 98),(ro 500003 98)]),(500001,w_Rect 98 s55.2.1),(500002,w_Rect 98 s55.2.2.1),(500003,w_Rect 98 s55.2.2.2),(500004,.box [(vS ByteArray.empty),(vS ByteArray.empty),(vI 0),(vI 0),.nl,.nl,.nl])]⟩) (fun (x80 : (List Rect)×(List Rect)×(List Rect))=>(.exit 0,⟨[(2,.ptr 500000 0),(4,.ptr 500004 0)],[(500000,.box [(vS r2.Name),(vS r2.Material),(vI r2.Gauge),(vI r2.Grain),(ro 500001 98),(ro 500002 98),(ro 500003 98)]),(500001,w_Rect 98 x80.1),(500002,w_Rect 98 x80.2.1),(500003,w_Rect 98 x80.2.2),(500004,.box [(vS ByteArray.empty),(vS ByteArray.empty),(vI 0),(vI 0),.nl,.nl,.nl])]⟩)) (sheetmetalref06_Turned_l1 turn) (0,r2.Rects,r2.Cuts,r2.Forms) x80 (by kernel_rfl) (subR_prep [] [(2,500000),(4,500004),(700051,500001),(700052,500002),(700053,500003)] (by kernel_rfl) rfl rfl (by kernel_rfl)) hx80 ?_ ?_ ?_
 intro s55 r h
 refine zB (y3 3 [1,2,4,5,12] [500000,500001,500002,500003,500004] (zI (decide (s55.1 < turn)) (fun hb=>?_) fun hb=>?_))
 replace h:=iteT hb h
 refine y4 [1,2,4,5] [500000,500001,500002,500003,500004] (zB (zC (z7 (zA 2 ?_))))
 obtain ⟨r75,hr75,h⟩:=bindS h
 refine evs_callS [] [(0,700100)] [500001] (by kernel_rfl) (W.sheetmetalref06_quarter_ok hr75) (by kernel_rfl) (by kernel_rfl) (.inr ⟨rfl,fun _ _=>ind_cons (ind_row fun _=>rfl) (fun _ _=>ind_nil)⟩) (y1 2 [1,2,4,5] [500000,500002,500003,500004,700100] (z7 (zA 2 ?_)))
 obtain ⟨r77,hr77,h⟩:=bindS h
 refine evs_callS [] [(0,700101)] [500002] (by kernel_rfl) (W.sheetmetalref06_quarter_ok hr77) (by kernel_rfl) (by kernel_rfl) (.inr ⟨rfl,fun _ _=>ind_cons (ind_row fun _=>rfl) (fun _ _=>ind_nil)⟩) (y1 2 [1,2,4,5] [500000,500003,500004,700100,700101] (zD (zA 2 ?_)))
 obtain ⟨r79,hr79,h⟩:=bindS h
 refine evs_callS [] [(0,700102)] [500003] (by kernel_rfl) (W.sheetmetalref06_quarter_ok hr79) (by kernel_rfl) (by kernel_rfl) (.inr ⟨rfl,fun _ _=>ind_cons (ind_row fun _=>rfl) (fun _ _=>ind_nil)⟩) (z6 2 fun τ hτ=>?_)
 refine bl_normal (yE hτ [1,2,4,5] [500000,500004,700100,700101,700102] (zD (z6 3 fun τ hτ=>?_)))
 obtain rfl:=osi h
 exact lk_nextS hτ (subR_prep [] [(500000,500000),(500004,500004),(700100,500001),(700101,500002),(700102,500003)] (by kernel_rfl) rfl rfl (by kernel_rfl))
 replace h:=iteF hb h
 refine zL 0 fun τ hτ=>?_
 refine th_exit ?_
 obtain rfl:=osi h
 exact zF hτ
 intro x
 rfl
 intro τ hτ
 refine zQ (yE hτ [2,4] [500000,500001,500002,500003,500004] (z7 (zA 2 ?_)))
 obtain ⟨r82,hr82,h⟩:=bindS h
 refine evs_callP [500001] (by kernel_rfl) (W.sheetmetalref06_least_ok hr82) (by kernel_rfl) (.inr rfl) (by kernel_rfl) (y1 5 [2,4,6,7] [500000,500001,500002,500003,500004] (z7 (zA 5 ?_)))
 obtain ⟨r84,hr84,h⟩:=bindS h
 refine evs_callS [] [(0,700250),(1,700251),(2,700252),(3,700253)] [500001,500002,500003] (by kernel_rfl) (W.sheetmetalref06_Move_ok hr84) (by kernel_rfl) (by kernel_rfl) (.inr ⟨rfl,fun _ _=>ind_cons rfl (fun _ _=>ind_cons (ind_row fun _=>rfl) (fun _ _=>ind_cons (ind_row fun _=>rfl) (fun _ _=>ind_cons (ind_row fun _=>rfl) (fun _ _=>ind_nil))))⟩) (y1 1 [4] [500004,700251,700252,700253] (zN fun τ hτ=>?_))
 obtain rfl:=osi h
 exact rk_ret hτ [(4,.ptr 0 0)] (subR_prep [] [(500004,0),(700251,1),(700252,2),(700253,3)] (by kernel_rfl) rfl rfl (by kernel_rfl)) (by kernel_rfl)
theorem W.sheetmetalref06_Put_ok {x0 : Piece} {at1 : Placement} {r : Piece×Int×ByteArray×ByteArray×Int×Int} (h : sheetmetalref06_Put x0 at1=some r) : PC G.P 81 [(.agg (c_Piece x0)),(.agg (c_Placement at1))] [] (.tup [(.agg [(vS r.1.Name),(vS r.1.Material),(vI r.1.Gauge),(vI r.1.Grain),(.row (.top 1) 98),(.row (.top 2) 98),(.row (.top 3) 98)]),(vI r.2.1)]) [(0,.box [(vS r.2.2.1),(vS r.2.2.2.1),(vI r.2.2.2.2.1),(vI r.2.2.2.2.2),(.row (.top 1) 98),(.row (.top 2) 98),(.row (.top 3) 98)]),(1,.row 98 [] (List.map c_Rect r.1.Rects)),(2,.row 98 [] (List.map c_Rect r.1.Cuts)),(3,.row 98 [] (List.map c_Rect r.1.Forms))]:=by
 refine zU G Tryz.func81 (yK [0,1] [] (y3 4 [2,3,4] [2,3,4] (z7 (zA 1 ?_))))
 obtain ⟨r2,hr2,h⟩:=bindS h
 refine evs_callP [] (by kernel_rfl) (W.sheetmetalref06_ValidatePiece_ok hr2) (by kernel_rfl) (.inl rfl) (by kernel_rfl) (y1 1 [2,3,4,6] [2,3,4] (zB (y3 2 [2,3,4,6,11] [2,3,4] (zI (r2 != 0) (fun hb=>?_) fun hb=>?_))))
 replace h:=iteT hb h
 refine z8 4 ⟨[(4,.ptr 4 0),(5,vI r2)],[(4,.box [(vS ByteArray.empty),(vS ByteArray.empty),(vI 0),(vI 0),.nl,.nl,.nl])]⟩ fun τ hτ=>?_
 refine th_ret ?_
 obtain rfl:=osi h
 exact rk_ret hτ [(4,.ptr 0 0),(5,vI r2)] (subR_prep [.row (.box 4 4) 800000 98 [],.row (.box 4 5) 800001 98 [],.row (.box 4 6) 800002 98 []] [(4,0),(800000,1),(800001,2),(800002,3)] (by kernel_rfl) rfl rfl (by kernel_rfl)) (by kernel_rfl)
 replace h:=iteF hb h
 refine y4 [2,3,4] [2,3,4] (zB (zB ?_))
 obtain ⟨j4,hj4,h⟩:=bindS h
 refine zT ⟨[(2,.ptr 500000 0),(3,.ptr 500001 0),(4,.ptr 500002 0),(21,vB j4)],[(500000,.box (c_Piece x0)),(500001,.box (c_Placement at1)),(500002,.box [(vS ByteArray.empty),(vS ByteArray.empty),(vI 0),(vI 0),.nl,.nl,.nl])]⟩ ?_ fun τ hτ=>?_
 replace h:=hj4
 refine zA 4 (zS (decide (at1.Turn < 0)) (fun b0=>⟨[(2,.ptr 2 0),(3,.ptr 3 0),(4,.ptr 4 0),(17,vB b0)],[(2,.box (c_Piece x0)),(3,.box (c_Placement at1)),(4,.box [(vS ByteArray.empty),(vS ByteArray.empty),(vI 0),(vI 0),.nl,.nl,.nl])]⟩) (fun hb=>?_) fun hb=>?_)
 replace h:=iteT hb h
 refine z6 4 fun τ hτ=>?_
 obtain rfl:=osi h
 exact leafC hτ (subR_prep [] [(2,500000),(3,500001),(4,500002)] (by kernel_rfl) rfl rfl (by kernel_rfl))
 replace h:=iteF hb h
 refine z6 4 fun τ hτ=>?_
 obtain rfl:=osi h
 exact leafC hτ (subR_prep [] [(2,500000),(3,500001),(4,500002)] (by kernel_rfl) rfl rfl (by kernel_rfl))
 refine yE hτ [2,3,4,21] [500000,500001,500002] (zI j4 (fun hb=>?_) fun hb=>?_)
 replace h:=iteT hb h
 refine z8 3 ⟨[(4,.ptr 500002 0),(5,vI 1)],[(500002,.box [(vS ByteArray.empty),(vS ByteArray.empty),(vI 0),(vI 0),.nl,.nl,.nl])]⟩ fun τ hτ=>?_
 refine th_ret ?_
 obtain rfl:=osi h
 exact rk_ret hτ [(4,.ptr 0 0),(5,vI 1)] (subR_prep [.row (.box 500002 4) 800000 98 [],.row (.box 500002 5) 800001 98 [],.row (.box 500002 6) 800002 98 []] [(500002,0),(800000,1),(800001,2),(800002,3)] (by kernel_rfl) rfl rfl (by kernel_rfl)) (by kernel_rfl)
 replace h:=iteF hb h
 refine y4 [2,3,4] [500000,500001,500002] (zB (zB ?_))
 obtain ⟨j12,hj12,h⟩:=bindS h
 refine zT ⟨[(2,.ptr 500000 0),(3,.ptr 500001 0),(4,.ptr 500002 0),(32,vB j12)],[(500000,.box (c_Piece x0)),(500001,.box (c_Placement at1)),(500002,.box [(vS ByteArray.empty),(vS ByteArray.empty),(vI 0),(vI 0),.nl,.nl,.nl])]⟩ ?_ fun τ hτ=>?_
 replace h:=hj12
 refine zA 2 ?_
 obtain ⟨r13,hr13,h⟩:=bindS h
 refine evs_callP [] (by kernel_rfl) (W.sheetmetalref06_near_ok hr13) (by kernel_rfl) (.inl rfl) (by kernel_rfl) (zA 2 (zS r13 (fun b0=>⟨[(2,.ptr 500000 0),(3,.ptr 500001 0),(4,.ptr 500002 0),(27,vB (!b0))],[(500000,.box (c_Piece x0)),(500001,.box (c_Placement at1)),(500002,.box [(vS ByteArray.empty),(vS ByteArray.empty),(vI 0),(vI 0),.nl,.nl,.nl])]⟩) (fun hb=>?_) fun hb=>?_))
 replace h:=iteT hb h
 refine zA 2 ?_
 obtain ⟨r14,hr14,h⟩:=bindS h
 refine evs_callP [] (by kernel_rfl) (W.sheetmetalref06_near_ok hr14) (by kernel_rfl) (.inl rfl) (by kernel_rfl) (z6 2 fun τ hτ=>?_)
 obtain rfl:=osi h
 exact zG hτ
 replace h:=iteF hb h
 refine z6 5 fun τ hτ=>?_
 obtain rfl:=osi h
 exact zG hτ
 refine yE hτ [2,3,4,32] [500000,500001,500002] (zI j12 (fun hb=>?_) fun hb=>?_)
 replace h:=iteT hb h
 refine z8 3 ⟨[(4,.ptr 500002 0),(5,vI 4)],[(500002,.box [(vS ByteArray.empty),(vS ByteArray.empty),(vI 0),(vI 0),.nl,.nl,.nl])]⟩ fun τ hτ=>?_
 refine th_ret ?_
 obtain rfl:=osi h
 exact rk_ret hτ [(4,.ptr 0 0),(5,vI 4)] (subR_prep [.row (.box 500002 4) 800000 98 [],.row (.box 500002 5) 800001 98 [],.row (.box 500002 6) 800002 98 []] [(500002,0),(800000,1),(800001,2),(800002,3)] (by kernel_rfl) rfl rfl (by kernel_rfl)) (by kernel_rfl)
 replace h:=iteF hb h
 refine y4 [2,3,4] [500000,500001,500002] (zB (sem_draw [(3,[700150,700151,700152,700153]),(8,[700400,700401,700402,700403]),(9,[7])] [(3,[700150,700151,700152,700153]),(8,[700400,700401,700402,700403]),(9,[7])] [(8,[700151,700152,700153])] [(0,[7]),(1,[7]),(2,[7]),(3,[7]),(4,[700150,700151,700152,700153,7]),(5,[700150,700151,700152,700153,7]),(6,[700150,700151,700152,700153,7]),(7,[700150,700151,700152,700153,7]),(8,[7]),(9,[700150,700151,700152,700153,700400,700401,700402,700403])] [(0,[700150,700151,700152,700153,700400,700401,700402,700403,7]),(1,[700150,700151,700152,700153,700400,700401,700402,700403,7]),(2,[700150,700151,700152,700153,700400,700401,700402,700403,7]),(3,[700400,700401,700402,700403,7]),(4,[700150,700151,700152,700153,700400,700401,700402,700403,7]),(5,[700150,700151,700152,700153,700400,700401,700402,700403,7]),(6,[700150,700151,700152,700153,700400,700401,700402,700403,7]),(7,[700150,700151,700152,700153,700400,700401,700402,700403,7]),(8,[7]),(9,[700150,700151,700152,700153,700400,700401,700402,700403])] 10 (by kernel_rfl) (by kernel_rfl) [700150,700151,700152,700153,700400,700401,700402,700403,7] (by kernel_rfl) (by kernel_rfl) (evd_run 3 (by kernel_rfl) ?_)))
 obtain ⟨r19,hr19,h⟩:=bindS h
 refine evd_callS [(0,700150),(1,700151),(2,700152),(3,700153)] [] (by kernel_rfl) (by kernel_rfl) (W.sheetmetalref06_Turned_ok hr19) (by kernel_rfl) (.inl rfl) (by kernel_rfl) (by kernel_rfl) (evd_run 4 (by kernel_rfl) ?_)
 obtain ⟨r20,hr20,h⟩:=bindS h
 refine evd_callS [(0,700400),(1,700401),(2,700402),(3,700403)] [700151,700152,700153] (by kernel_rfl) (by kernel_rfl) (W.sheetmetalref06_Move_ok hr20) (by kernel_rfl) (.inr ⟨rfl,fun _ _=>ind_cons rfl (fun _ _=>ind_cons (ind_row fun _=>rfl) (fun _ _=>ind_cons (ind_row fun _=>rfl) (fun _ _=>ind_cons (ind_row fun _=>rfl) (fun _ _=>ind_nil))))⟩) (by kernel_rfl) (by kernel_rfl) (evd_new (g:=7) (ob:=.box [(vS ByteArray.empty),(vS ByteArray.empty),(vI 0),(vI 0),.nl,.nl,.nl]) (v:=(.ptr 7 0)) (by kernel_rfl) (by kernel_rfl) (by kernel_rfl) (by kernel_rfl) (by kernel_rfl) (by kernel_rfl) (evd_end (by kernel_rfl) (evo_run 1 (by kernel_rfl) (zO fun τ hτ=>?_))))
 refine yE hτ [4,7] [7,500002,700401,700402,700403] (zB (zB ?_))
 obtain ⟨j31,hj31,h⟩:=bindS h
 refine zT ⟨[(4,.ptr 500000 0),(7,.ptr 500001 0),(58,vB j31)],[(500000,.box [(vS ByteArray.empty),(vS ByteArray.empty),(vI 0),(vI 0),.nl,.nl,.nl]),(500001,.box [(vS r20.Name),(vS r20.Material),(vI r20.Gauge),(vI r20.Grain),(ro 500002 98),(ro 500003 98),(ro 500004 98)]),(500002,w_Rect 98 r20.Rects),(500003,w_Rect 98 r20.Cuts),(500004,w_Rect 98 r20.Forms)]⟩ ?_ fun τ hτ=>?_
 replace h:=hj31
 refine zA 2 ?_
 obtain ⟨r32,hr32,h⟩:=bindS h
 refine evs_callP [700401] (by kernel_rfl) (W.sheetmetalref06_Rights_ok hr32) (by kernel_rfl) (.inr rfl) (by kernel_rfl) (zA 2 (zS r32 (fun b0=>⟨[(4,.ptr 500002 0),(7,.ptr 7 0),(47,vB (!b0))],[(7,.box [(vS r20.Name),(vS r20.Material),(vI r20.Gauge),(vI r20.Grain),(ro 700401 98),(ro 700402 98),(ro 700403 98)]),(500002,.box [(vS ByteArray.empty),(vS ByteArray.empty),(vI 0),(vI 0),.nl,.nl,.nl]),(700401,w_Rect 98 r20.Rects),(700402,w_Rect 98 r20.Cuts),(700403,w_Rect 98 r20.Forms)]⟩) (fun hb=>?_) fun hb=>?_))
 replace h:=iteT hb h
 refine zA 2 ?_
 obtain ⟨r33,hr33,h⟩:=bindS h
 refine evs_callP [700402] (by kernel_rfl) (W.sheetmetalref06_Rights_ok hr33) (by kernel_rfl) (.inr rfl) (by kernel_rfl) (zA 3 (zS r33 (fun b0=>⟨[(4,.ptr 500002 0),(7,.ptr 7 0),(53,vB (!b0))],[(7,.box [(vS r20.Name),(vS r20.Material),(vI r20.Gauge),(vI r20.Grain),(ro 700401 98),(ro 700402 98),(ro 700403 98)]),(500002,.box [(vS ByteArray.empty),(vS ByteArray.empty),(vI 0),(vI 0),.nl,.nl,.nl]),(700401,w_Rect 98 r20.Rects),(700402,w_Rect 98 r20.Cuts),(700403,w_Rect 98 r20.Forms)]⟩) (fun hb=>?_) fun hb=>?_))
 replace h:=iteT hb h
 refine zA 2 ?_
 obtain ⟨r34,hr34,h⟩:=bindS h
 refine evs_callP [700403] (by kernel_rfl) (W.sheetmetalref06_Rights_ok hr34) (by kernel_rfl) (.inr rfl) (by kernel_rfl) (z6 2 fun τ hτ=>?_)
 obtain rfl:=osi h
 exact leafC hτ (subR_prep [] [(7,500001),(500002,500000),(700401,500002),(700402,500003),(700403,500004)] (by kernel_rfl) rfl rfl (by kernel_rfl))
 replace h:=iteF hb h
 refine z6 5 fun τ hτ=>?_
 obtain rfl:=osi h
 exact leafC hτ (subR_prep [] [(7,500001),(500002,500000),(700401,500002),(700402,500003),(700403,500004)] (by kernel_rfl) rfl rfl (by kernel_rfl))
 replace h:=iteF hb h
 refine z6 11 fun τ hτ=>?_
 obtain rfl:=osi h
 exact leafC hτ (subR_prep [] [(7,500001),(500002,500000),(700401,500002),(700402,500003),(700403,500004)] (by kernel_rfl) rfl rfl (by kernel_rfl))
 refine yE hτ [4,7,58] [500000,500001,500002,500003,500004] (zI j31 (fun hb=>?_) fun hb=>?_)
 replace h:=iteT hb h
 refine z8 3 ⟨[(4,.ptr 500000 0),(5,vI 4)],[(500000,.box [(vS ByteArray.empty),(vS ByteArray.empty),(vI 0),(vI 0),.nl,.nl,.nl])]⟩ fun τ hτ=>?_
 refine th_ret ?_
 obtain rfl:=osi h
 exact rk_ret hτ [(4,.ptr 0 0),(5,vI 4)] (subR_prep [.row (.box 500000 4) 800000 98 [],.row (.box 500000 5) 800001 98 [],.row (.box 500000 6) 800002 98 []] [(500000,0),(800000,1),(800001,2),(800002,3)] (by kernel_rfl) rfl rfl (by kernel_rfl)) (by kernel_rfl)
 replace h:=iteF hb h
 refine y4 [4,7] [500000,500001,500002,500003,500004] (z8 3 ⟨[(4,.ptr 500000 0),(5,vI 0)],[(500000,.box [(vS r20.Name),(vS r20.Material),(vI r20.Gauge),(vI r20.Grain),(ro 500002 98),(ro 500003 98),(ro 500004 98)]),(500002,w_Rect 98 r20.Rects),(500003,w_Rect 98 r20.Cuts),(500004,w_Rect 98 r20.Forms)]⟩ fun τ hτ=>?_)
 obtain rfl:=osi h
 exact rk_ret hτ [(4,.ptr 0 0),(5,vI 0)] (subR_prep [] [(500000,0),(500002,1),(500003,2),(500004,3)] (by kernel_rfl) rfl rfl (by kernel_rfl)) (by kernel_rfl)
theorem W.sheetmetalref06_Allowed_ok {x0 : Piece} {s1 : Sheet} {turn : Int} {r : Bool} (h : sheetmetalref06_Allowed x0 s1 turn=some r) : PC G.P 170 [(.agg (c_Piece x0)),(.agg (c_Sheet s1)),(vI turn)] [] (vB r) []:=by
 refine zU G Tryz.func170 (yK [0,1,2] [] (y3 3 [2,3,4] [3,4] (zB (zB ?_))))
 obtain ⟨j2,hj2,h⟩:=bindS h
 refine zT ⟨[(2,vI turn),(3,.ptr 500000 0),(4,.ptr 500001 0),(26,vB j2)],[(500000,.box (c_Piece x0)),(500001,.box (c_Sheet s1))]⟩ ?_ fun τ hτ=>?_
 replace h:=hj2
 refine zA 6 (zS (x0.Material.toList==s1.Material.toList) (fun b0=>⟨[(2,vI turn),(3,.ptr 3 0),(4,.ptr 4 0),(12,vB (!b0))],[(3,.box (c_Piece x0)),(4,.box (c_Sheet s1))]⟩) (fun hb=>?_) fun hb=>?_)
 replace h:=iteT hb h
 refine zA 7 (zS (x0.Gauge != s1.Gauge) (fun b0=>⟨[(2,vI turn),(3,.ptr 3 0),(4,.ptr 4 0),(19,vB b0)],[(3,.box (c_Piece x0)),(4,.box (c_Sheet s1))]⟩) (fun hb=>?_) fun hb=>?_)
 replace h:=iteT hb h
 refine z6 7 fun τ hτ=>?_
 obtain rfl:=osi h
 exact leafC hτ (subR_prep [] [(3,500000),(4,500001)] (by kernel_rfl) rfl rfl (by kernel_rfl))
 replace h:=iteF hb h
 refine zA 4 (zS (decide (turn < 0)) (fun b0=>⟨[(2,vI turn),(3,.ptr 3 0),(4,.ptr 4 0),(23,vB b0)],[(3,.box (c_Piece x0)),(4,.box (c_Sheet s1))]⟩) (fun hb=>?_) fun hb=>?_)
 replace h:=iteT hb h
 refine z6 3 fun τ hτ=>?_
 obtain rfl:=osi h
 exact leafC hτ (subR_prep [] [(3,500000),(4,500001)] (by kernel_rfl) rfl rfl (by kernel_rfl))
 replace h:=iteF hb h
 refine z6 3 fun τ hτ=>?_
 obtain rfl:=osi h
 exact leafC hτ (subR_prep [] [(3,500000),(4,500001)] (by kernel_rfl) rfl rfl (by kernel_rfl))
 replace h:=iteF hb h
 refine z6 14 fun τ hτ=>?_
 obtain rfl:=osi h
 exact leafC hτ (subR_prep [] [(3,500000),(4,500001)] (by kernel_rfl) rfl rfl (by kernel_rfl))
 refine yE hτ [2,3,4,26] [500000,500001] (zI j2 (fun hb=>?_) fun hb=>?_)
 replace h:=iteT hb h
 refine z8 1 ⟨[(6,vB false)],[]⟩ fun τ hτ=>?_
 refine th_ret ?_
 obtain rfl:=osi h
 exact zV hτ [(6,vB false)]
 replace h:=iteF hb h
 refine y4 [2,3,4] [500000,500001] (zB (zB ?_))
 obtain ⟨j4,hj4,h⟩:=bindS h
 refine zT ⟨[(2,vI turn),(3,.ptr 500000 0),(4,.ptr 500001 0),(34,vB j4)],[(500000,.box (c_Piece x0)),(500001,.box (c_Sheet s1))]⟩ ?_ fun τ hτ=>?_
 replace h:=hj4
 refine zA 4 (zS (x0.Grain==0) (fun b0=>⟨[(2,vI turn),(3,.ptr 500000 0),(4,.ptr 500001 0),(30,vB b0)],[(500000,.box (c_Piece x0)),(500001,.box (c_Sheet s1))]⟩) (fun hb=>?_) fun hb=>?_)
 replace h:=iteT hb h
 refine z6 4 fun τ hτ=>?_
 obtain rfl:=osi h
 exact zG hτ
 replace h:=iteF hb h
 refine z6 4 fun τ hτ=>?_
 obtain rfl:=osi h
 exact zG hτ
 refine yE hτ [2,3,4,34] [500000,500001] (zI j4 (fun hb=>?_) fun hb=>?_)
 replace h:=iteT hb h
 refine z8 1 ⟨[(6,vB true)],[]⟩ fun τ hτ=>?_
 refine th_ret ?_
 obtain rfl:=osi h
 exact zV hτ [(6,vB true)]
 replace h:=iteF hb h
 refine y4 [2,3,4] [500000,500001] (zB ?_)
 obtain ⟨j5,hj5,h⟩:=bindS h
 refine zT ⟨[(6,vB j5)],[]⟩ ?_ fun τ hτ=>?_
 replace h:=hj5
 refine zA 4 (zS ((Int.tmod turn 2)==0) (fun b0=>⟨[(2,vI turn),(3,.ptr 500000 0),(4,.ptr 500001 0),(38,vB b0)],[(500000,.box (c_Piece x0)),(500001,.box (c_Sheet s1))]⟩) (fun hb=>?_) fun hb=>?_)
 replace h:=iteT hb h
 refine zA 7 (zS (x0.Grain==s1.Grain) (fun b0=>⟨[(2,vI turn),(3,.ptr 500000 0),(4,.ptr 500001 0),(45,vB b0)],[(500000,.box (c_Piece x0)),(500001,.box (c_Sheet s1))]⟩) (fun hb=>?_) fun hb=>?_)
 replace h:=iteT hb h
 refine z6 12 fun τ hτ=>?_
 obtain rfl:=osi h
 exact zG hτ
 replace h:=iteF hb h
 refine zA 4 (zS ((Int.tmod turn 2)==1) (fun b0=>⟨[(3,.ptr 500000 0),(4,.ptr 500001 0),(45,vB false),(49,vB b0)],[(500000,.box (c_Piece x0)),(500001,.box (c_Sheet s1))]⟩) (fun hb=>?_) fun hb=>?_)
 replace h:=iteT hb h
 refine z6 8 fun τ hτ=>?_
 obtain rfl:=osi h
 exact zG hτ
 replace h:=iteF hb h
 refine z6 8 fun τ hτ=>?_
 obtain rfl:=osi h
 exact zG hτ
 replace h:=iteF hb h
 refine zA 11 (zS ((Int.tmod turn 2)==1) (fun b0=>⟨[(3,.ptr 500000 0),(4,.ptr 500001 0),(45,vB false),(49,vB b0)],[(500000,.box (c_Piece x0)),(500001,.box (c_Sheet s1))]⟩) (fun hb=>?_) fun hb=>?_)
 replace h:=iteT hb h
 refine z6 8 fun τ hτ=>?_
 obtain rfl:=osi h
 exact zG hτ
 replace h:=iteF hb h
 refine z6 8 fun τ hτ=>?_
 obtain rfl:=osi h
 exact zG hτ
 refine yE hτ [6] [] (zN fun τ hτ=>?_)
 obtain rfl:=osi h
 exact zV hτ [(6,vB j5)]
theorem W.sheetmetalref06_well_ok {l : (List Rect)} {s1 : Sheet} {set2 : Settings} {r : Bool} (h : sheetmetalref06_well l s1 set2=some r) : PC G.P 171 [(.sl (List.map c_Rect l)),(.agg (c_Sheet s1)),(.agg (c_Settings set2))] [] (vB r) []:=by
 refine zU G Tryz.func171 (yK [0,1,2] [] (y3 3 [0,4,5] [4,5] (y3 19 [0,4,7] [4,7] (zB (y3 1 [0,4,7,8] [4,7] (zC ?_))))))
 obtain ⟨x236,hx236,h⟩:=bindS h
 refine sem_loopS (fun (s159 : Int)=>⟨[(0,s_Rect l),(4,.ptr 500000 0),(7,.ptr 500001 0),(8,vI s159)],[(500000,.box (c_Sheet s1)),(500001,.box [(vI set2.Margin),(vI set2.Margin),(vI (isub s1.Width (imul 2 set2.Margin))),(vI (isub s1.Height (imul 2 set2.Margin)))])]⟩) (fun (x236 : Unit ⊕ Unit)=>match x236 with | .inl j237=>(.ret,⟨[(6,vB false)],[]⟩) | .inr j238=>(.exit 0,⟨[],[]⟩)) (sheetmetalref06_well_l1 l s1 set2) 0 x236 (by kernel_rfl) (subR_prep [] [(4,500000),(7,500001)] (by kernel_rfl) rfl rfl (by kernel_rfl)) hx236 ?_ ?_ ?_
 intro s159 r h
 refine zB (z7 (zA 2 (evs_op (st_len (c:=c_Rect) (l:=l) (x:=(s_Rect l)) (by kernel_rfl) (by kernel_rfl)) (y1 1 [0,4,7,8,29] [500000,500001] (zI (decide (s159 < (l.length : Int))) (fun hb=>?_) fun hb=>?_)))))
 replace h:=iteT hb h
 refine y4 [0,4,7,8] [500000,500001] (zB (zC (zB ?_)))
 obtain ⟨j229,hj229,h⟩:=bindS h
 refine sem_drawP ⟨[(0,s_Rect l),(4,.ptr 500000 0),(7,.ptr 500001 0),(8,vI s159),(56,vB j229)],[(500000,.box (c_Sheet s1)),(500001,.box [(vI set2.Margin),(vI set2.Margin),(vI (isub s1.Width (imul 2 set2.Margin))),(vI (isub s1.Height (imul 2 set2.Margin)))])]⟩ [] [] [] [] [] 23 (by kernel_rfl) (by kernel_rfl) (by kernel_rfl) ?_ fun τ hτ=>?_
 replace h:=hj229
 refine evd_run 2 (by kernel_rfl) ?_
 obtain ⟨x230,hx230,h⟩:=bindS h
 refine evd_val (by kernel_rfl) (st_idx (c:=c_Rect) (l:=l) (i:=s159) (kd:=.i64) (sz:=4) (by kernel_rfl) hx230 rfl) (by kernel_rfl) (by kernel_rfl) (evd_run 2 (by kernel_rfl) ?_)
 obtain ⟨r231,hr231,h⟩:=bindS h
 refine evd_callS [] [] (by kernel_rfl) (by kernel_rfl) (W.sheetmetalref06_Within_ok hr231) (by kernel_rfl) (.inl rfl) (by kernel_rfl) (by kernel_rfl) (evd_run 2 (by kernel_rfl) (evd_split r231 (fun b0=>⟨[(39,vB (!b0)),(38,vB (!b0)),(37,vB b0),(36,.agg [(vI set2.Margin),(vI set2.Margin),(vI (isub s1.Width (imul 2 set2.Margin))),(vI (isub s1.Height (imul 2 set2.Margin)))]),(35,.agg (c_Rect x230)),(34,.vptr (c_Rect x230) 0),(33,vI s159),(32,s_Rect l),(0,s_Rect l),(4,.ptr 500000 0),(7,.ptr 500001 0),(8,vI s159)],[(500000,.box (c_Sheet s1)),(500001,.box [(vI set2.Margin),(vI set2.Margin),(vI (isub s1.Width (imul 2 set2.Margin))),(vI (isub s1.Height (imul 2 set2.Margin)))])]⟩) (by kernel_rfl) (fun hb=>?_) fun hb=>?_))
 replace h:=iteT hb h
 refine evd_run 2 (by kernel_rfl) ?_
 obtain ⟨x232,hx232,h⟩:=bindS h
 refine evd_val (by kernel_rfl) (st_idx (c:=c_Rect) (l:=l) (i:=s159) (kd:=.i64) (sz:=4) (by kernel_rfl) hx232 rfl) (by kernel_rfl) (by kernel_rfl) (evd_run 3 (by kernel_rfl) ?_)
 obtain ⟨r233,hr233,h⟩:=bindS h
 refine evd_callS [] [] (by kernel_rfl) (by kernel_rfl) (W.sheetmetalref06_Meets_ok hr233) (by kernel_rfl) (.inl rfl) (by kernel_rfl) (by kernel_rfl) (evd_run 2 (by kernel_rfl) (evd_split r233 (fun b0=>⟨[(48,vB b0),(47,vB b0),(46,vB b0),(45,s_Rect s1.Clamps),(44,.ptr 500000 6),(43,.agg (c_Rect x232)),(42,.vptr (c_Rect x232) 0),(41,vI s159),(40,s_Rect l),(39,vB false),(38,vB false),(37,vB true),(36,.agg [(vI set2.Margin),(vI set2.Margin),(vI (isub s1.Width (imul 2 set2.Margin))),(vI (isub s1.Height (imul 2 set2.Margin)))]),(35,.agg (c_Rect x230)),(34,.vptr (c_Rect x230) 0),(33,vI s159),(32,s_Rect l),(0,s_Rect l),(4,.ptr 500000 0),(7,.ptr 500001 0),(8,vI s159)],[(500000,.box (c_Sheet s1)),(500001,.box [(vI set2.Margin),(vI set2.Margin),(vI (isub s1.Width (imul 2 set2.Margin))),(vI (isub s1.Height (imul 2 set2.Margin)))])]⟩) (by kernel_rfl) (fun hb=>?_) fun hb=>?_))
 replace h:=iteT hb h
 refine evd_run 6 (by kernel_rfl) (evd_end (by kernel_rfl) (evo_run 2 (by kernel_rfl) (zO fun τ hτ=>?_)))
 obtain rfl:=osi h
 exact zG hτ
 replace h:=iteF hb h
 refine evd_run 2 (by kernel_rfl) ?_
 obtain ⟨x234,hx234,h⟩:=bindS h
 refine evd_val (by kernel_rfl) (st_idx (c:=c_Rect) (l:=l) (i:=s159) (kd:=.i64) (sz:=4) (by kernel_rfl) hx234 rfl) (by kernel_rfl) (by kernel_rfl) (evd_run 3 (by kernel_rfl) (evd_end (by kernel_rfl) ?_))
 obtain ⟨r235,hr235,h⟩:=bindS h
 refine evo_callP [] (by kernel_rfl) (W.sheetmetalref06_Meets_ok hr235) (by kernel_rfl) (.inl rfl) (by kernel_rfl) (evo_run 1 (by kernel_rfl) (zO fun τ hτ=>?_))
 obtain rfl:=osi h
 exact zG hτ
 replace h:=iteF hb h
 refine evd_run 15 (by kernel_rfl) (evd_end (by kernel_rfl) (evo_run 2 (by kernel_rfl) (zO fun τ hτ=>?_)))
 obtain rfl:=osi h
 exact zG hτ
 refine yE hτ [0,4,7,8,56] [500000,500001] (zI j229 (fun hb=>?_) fun hb=>?_)
 replace h:=iteT hb h
 refine z8 1 ⟨[(6,vB false)],[]⟩ fun τ hτ=>?_
 refine bl_ret (th_ret ?_)
 obtain rfl:=osi h
 exact zF hτ
 replace h:=iteF hb h
 refine zM fun τ hτ=>?_
 refine bl_normal (yE hτ [0,4,7,8] [500000,500001] (zD (z6 3 fun τ hτ=>?_)))
 obtain rfl:=osi h
 exact zH hτ
 replace h:=iteF hb h
 refine zL 0 fun τ hτ=>?_
 refine th_exit ?_
 obtain rfl:=osi h
 exact zF hτ
 intro x
 rcases x with _ | _ <;> rfl
 intro τ hτ
 rcases x236 with j237 | j238
 refine bl_ret (th_ret ?_)
 obtain rfl:=osi h
 exact zV hτ [(6,vB false)]
 refine zQ (yE hτ [] [] (z8 1 ⟨[(6,vB true)],[]⟩ fun τ hτ=>?_))
 obtain rfl:=osi h
 exact zV hτ [(6,vB true)]
theorem W.sheetmetalref06_Clear_ok {a : (List Rect)} {b : (List Rect)} {set2 : Settings} {r : Bool} (h : sheetmetalref06_Clear a b set2=some r) : PC G.P 172 [(.sl (List.map c_Rect a)),(.sl (List.map c_Rect b)),(.agg (c_Settings set2))] [] (vB r) []:=by
 refine zU G Tryz.func172 (yK [0,1,2] [] (y3 2 [0,1,5] [5] (zB (y3 1 [0,1,5,7] [5] (zC ?_)))))
 obtain ⟨x1436,hx1436,h⟩:=bindS h
 refine sem_loopS (fun (s959 : Int×Bool)=>⟨[(0,s_Rect a),(1,s_Rect b),(5,.ptr 500000 0),(7,vI s959.1)],[(500000,.box [(vI set2.Gap),(vI set2.Margin),(vB s959.2)])]⟩) (fun (x1436 : Unit ⊕ Unit)=>match x1436 with | .inl j1437=>(.ret,⟨[(6,vB false)],[]⟩) | .inr j1438=>(.exit 0,⟨[],[]⟩)) (sheetmetalref06_Clear_l2 a b set2) (0,set2.Common) x1436 (by kernel_rfl) (subR_prep [] [(5,500000)] (by kernel_rfl) rfl rfl (by kernel_rfl)) hx1436 ?_ ?_ ?_
 intro s959 r h
 refine zB (z7 (zA 2 (evs_op (st_len (c:=c_Rect) (l:=a) (x:=(s_Rect a)) (by kernel_rfl) (by kernel_rfl)) (y1 1 [0,1,5,7,13] [500000] (zI (decide (s959.1 < (a.length : Int))) (fun hb=>?_) fun hb=>?_)))))
 replace h:=iteT hb h
 refine y4 [0,1,5,7] [500000] (zB (zC (y3 1 [0,1,5,7,8] [500000] (zC ?_))))
 obtain ⟨x1433,hx1433,h⟩:=bindS h
 refine sem_loopS (fun (s1356 : Int×Bool)=>⟨[(0,s_Rect a),(1,s_Rect b),(5,.ptr 500000 0),(7,vI s959.1),(8,vI s1356.1)],[(500000,.box [(vI set2.Gap),(vI set2.Margin),(vB s1356.2)])]⟩) (fun (x1433 : Unit ⊕ Bool)=>match x1433 with | .inl j1434=>(.ret,⟨[(6,vB false)],[]⟩) | .inr j1435=>(.exit 2,⟨[(0,s_Rect a),(1,s_Rect b),(5,.ptr 500000 0),(7,vI s959.1)],[(500000,.box [(vI set2.Gap),(vI set2.Margin),(vB j1435)])]⟩)) (sheetmetalref06_Clear_l1 a b set2 s959) (0,s959.2) x1433 (by kernel_rfl) (here (by kernel_rfl)) hx1433 ?_ ?_ ?_
 intro s1356 r h
 refine zB (z7 (zA 2 (evs_op (st_len (c:=c_Rect) (l:=b) (x:=(s_Rect b)) (by kernel_rfl) (by kernel_rfl)) (y1 1 [0,1,5,7,8,19] [500000] (zI (decide (s1356.1 < (b.length : Int))) (fun hb=>?_) fun hb=>?_)))))
 replace h:=iteT hb h
 refine y4 [0,1,5,7,8] [500000] (zB (zC (zB (sem_drawN [] [] [] [] [] 8 (by kernel_rfl) (by kernel_rfl) (by kernel_rfl) (evd_run 2 (by kernel_rfl) ?_)))))
 obtain ⟨x1420,hx1420,h⟩:=bindS h
 refine evd_val (by kernel_rfl) (st_idx (c:=c_Rect) (l:=a) (i:=s959.1) (kd:=.i64) (sz:=4) (by kernel_rfl) hx1420 rfl) (by kernel_rfl) (by kernel_rfl) (evd_run 3 (by kernel_rfl) ?_)
 obtain ⟨x1421,hx1421,h⟩:=bindS h
 refine evd_val (by kernel_rfl) (st_idx (c:=c_Rect) (l:=b) (i:=s1356.1) (kd:=.i64) (sz:=4) (by kernel_rfl) hx1421 rfl) (by kernel_rfl) (by kernel_rfl) (evd_run 1 (by kernel_rfl) (evd_end (by kernel_rfl) ?_))
 obtain ⟨r1422,hr1422,h⟩:=bindS h
 refine evo_callP [] (by kernel_rfl) (W.sheetmetalref06_Apart_ok hr1422) (by kernel_rfl) (.inl rfl) (by kernel_rfl) (evo_run 1 (by kernel_rfl) (zO fun τ hτ=>?_))
 refine yE hτ [0,1,5,7,8,9] [500000] (zB ?_)
 obtain ⟨j1429,hj1429,h⟩:=bindS h
 refine sem_drawP ⟨[(0,s_Rect a),(1,s_Rect b),(5,.ptr 500000 0),(7,vI s959.1),(8,vI s1356.1),(54,vB j1429.1)],[(500000,.box [(vI set2.Gap),(vI set2.Margin),(vB j1429.2)])]⟩ [] [] [] [] [] 13 (by kernel_rfl) (by kernel_rfl) (by kernel_rfl) ?_ fun τ hτ=>?_
 replace h:=hj1429
 refine evd_run 2 (by kernel_rfl) ?_
 obtain ⟨x1430,hx1430,h⟩:=bindS h
 refine evd_val (by kernel_rfl) (st_idx (c:=c_Rect) (l:=a) (i:=s959.1) (kd:=.i64) (sz:=4) (by kernel_rfl) hx1430 rfl) (by kernel_rfl) (by kernel_rfl) (evd_run 3 (by kernel_rfl) ?_)
 obtain ⟨x1431,hx1431,h⟩:=bindS h
 refine evd_val (by kernel_rfl) (st_idx (c:=c_Rect) (l:=b) (i:=s1356.1) (kd:=.i64) (sz:=4) (by kernel_rfl) hx1431 rfl) (by kernel_rfl) (by kernel_rfl) (evd_run 1 (by kernel_rfl) ?_)
 obtain ⟨r1432,hr1432,h⟩:=bindS h
 refine evd_callS [] [] (by kernel_rfl) (by kernel_rfl) (W.sheetmetalref06_Overlaps_ok hr1432) (by kernel_rfl) (.inl rfl) (by kernel_rfl) (by kernel_rfl) (evd_run 1 (by kernel_rfl) (evd_split r1432 (fun b0=>⟨[(40,vB b0),(39,vB b0),(38,.agg (c_Rect x1431)),(37,.vptr (c_Rect x1431) 0),(36,vI s1356.1),(35,s_Rect b),(34,.agg (c_Rect x1430)),(33,.vptr (c_Rect x1430) 0),(32,vI s959.1),(31,s_Rect a),(0,s_Rect a),(1,s_Rect b),(5,.ptr 500000 0),(7,vI s959.1),(8,vI s1356.1),(9,vI r1422)],[(500000,.box [(vI set2.Gap),(vI set2.Margin),(vB s1356.2)])]⟩) (by kernel_rfl) (fun hb=>?_) fun hb=>?_))
 replace h:=iteT hb h
 refine evd_run 3 (by kernel_rfl) (evd_end (by kernel_rfl) (evo_run 11 (by kernel_rfl) (zO fun τ hτ=>?_)))
 obtain rfl:=osi h
 exact zG hτ
 replace h:=iteF hb h
 refine evd_run 3 (by kernel_rfl) (evd_end (by kernel_rfl) (evo_run 2 (by kernel_rfl) (evo_split (decide (r1422 < set2.Gap)) (fun b0=>⟨[(0,s_Rect a),(1,s_Rect b),(5,.ptr 500000 0),(7,vI s959.1),(8,vI s1356.1),(9,vI r1422),(40,vB false),(45,vB b0)],[(500000,.box [(vI set2.Gap),(vI set2.Margin),(vB s1356.2)])]⟩) (by kernel_rfl) (fun hb=>?_) fun hb=>?_)))
 replace h:=iteT hb h
 refine evo_run 3 (by kernel_rfl) (evo_split s1356.2 (fun b0=>⟨[(0,s_Rect a),(1,s_Rect b),(5,.ptr 500000 0),(7,vI s959.1),(8,vI s1356.1),(9,vI r1422),(40,vB false),(45,vB true),(48,vB b0)],[(500000,.box [(vI set2.Gap),(vI set2.Margin),(vB b0)])]⟩) (by kernel_rfl) (fun hb=>?_) fun hb=>?_)
 replace h:=iteT hb h
 refine evo_run 6 (by kernel_rfl) (zO fun τ hτ=>?_)
 obtain rfl:=osi h
 exact zG hτ
 replace h:=iteF hb h
 refine evo_run 6 (by kernel_rfl) (zO fun τ hτ=>?_)
 obtain rfl:=osi h
 exact zG hτ
 replace h:=iteF hb h
 refine evo_run 9 (by kernel_rfl) (zO fun τ hτ=>?_)
 obtain rfl:=osi h
 exact zG hτ
 refine yE hτ [0,1,5,7,8,54] [500000] (zI j1429.1 (fun hb=>?_) fun hb=>?_)
 replace h:=iteT hb h
 refine z8 1 ⟨[(6,vB false)],[]⟩ fun τ hτ=>?_
 refine bl_ret (th_ret ?_)
 obtain rfl:=osi h
 exact zF hτ
 replace h:=iteF hb h
 refine zM fun τ hτ=>?_
 refine bl_normal (yE hτ [0,1,5,7,8] [500000] (zD (z6 3 fun τ hτ=>?_)))
 obtain rfl:=osi h
 exact zH hτ
 replace h:=iteF hb h
 refine zL 2 fun τ hτ=>?_
 refine th_exit ?_
 obtain rfl:=osi h
 exact zF hτ
 intro x
 rcases x with _ | _ <;> rfl
 intro τ hτ
 rcases x1433 with j1434 | j1435
 refine bl_ret (bl_ret (th_ret ?_))
 obtain rfl:=osi h
 exact zF hτ
 refine zQ (bl_normal (yE hτ [0,1,5,7] [500000] (zD (z6 3 fun τ hτ=>?_))))
 obtain rfl:=osi h
 exact zH hτ
 replace h:=iteF hb h
 refine zL 0 fun τ hτ=>?_
 refine th_exit ?_
 obtain rfl:=osi h
 exact zF hτ
 intro x
 rcases x with _ | _ <;> rfl
 intro τ hτ
 rcases x1436 with j1437 | j1438
 refine bl_ret (th_ret ?_)
 obtain rfl:=osi h
 exact zV hτ [(6,vB false)]
 refine zQ (yE hτ [] [] (z8 1 ⟨[(6,vB true)],[]⟩ fun τ hτ=>?_))
 obtain rfl:=osi h
 exact zV hτ [(6,vB true)]
theorem W.sheetmetalref06_one_ok {sheets : (List Sheet)} {pieces : (List Piece)} {set2 : Settings} {l : (List Placement)} {at4 : Placement} {r : Int} (h : sheetmetalref06_one sheets pieces set2 l at4=some r) : PC G.P 138 [(.sl (List.map c_Sheet sheets)),(.sl (List.map c_Piece pieces)),(.agg (c_Settings set2)),(.sl (List.map c_Placement l)),(.agg (c_Placement at4))] [] (vI r) []:=by
 refine zU G Tryz.func138 (yK [0,1,2,3,4] [] (y3 3 [0,1,3,7,9] [7,9] (zB (zB ?_))))
 obtain ⟨j2,hj2,h⟩:=bindS h
 refine zT ⟨[(0,s_Sheet sheets),(1,s_Piece pieces),(3,s_Placement l),(7,.ptr 500000 0),(9,.ptr 500001 0),(39,vB j2)],[(500000,.box (c_Settings set2)),(500001,.box (c_Placement at4))]⟩ ?_ fun τ hτ=>?_
 replace h:=hj2
 refine zA 4 (zS (decide (at4.Piece < 0)) (fun b0=>⟨[(0,s_Sheet sheets),(1,s_Piece pieces),(3,s_Placement l),(7,.ptr 7 0),(9,.ptr 9 0),(21,vB b0)],[(7,.box (c_Settings set2)),(9,.box (c_Placement at4))]⟩) (fun hb=>?_) fun hb=>?_)
 replace h:=iteT hb h
 refine z6 18 fun τ hτ=>?_
 obtain rfl:=osi h
 exact leafC hτ (subR_prep [] [(7,500000),(9,500001)] (by kernel_rfl) rfl rfl (by kernel_rfl))
 replace h:=iteF hb h
 refine zA 3 (evs_op (st_len (c:=c_Piece) (l:=pieces) (x:=(s_Piece pieces)) (by kernel_rfl) (by kernel_rfl)) (zA 3 (zS (decide (at4.Piece ≥ (pieces.length : Int))) (fun b0=>⟨[(0,s_Sheet sheets),(1,s_Piece pieces),(3,s_Placement l),(7,.ptr 7 0),(9,.ptr 9 0),(28,vB b0)],[(7,.box (c_Settings set2)),(9,.box (c_Placement at4))]⟩) (fun hb=>?_) fun hb=>?_)))
 replace h:=iteT hb h
 refine z6 11 fun τ hτ=>?_
 obtain rfl:=osi h
 exact leafC hτ (subR_prep [] [(7,500000),(9,500001)] (by kernel_rfl) rfl rfl (by kernel_rfl))
 replace h:=iteF hb h
 refine zA 5 (zS (decide (at4.Sheet < 0)) (fun b0=>⟨[(0,s_Sheet sheets),(1,s_Piece pieces),(3,s_Placement l),(7,.ptr 7 0),(9,.ptr 9 0),(33,vB b0)],[(7,.box (c_Settings set2)),(9,.box (c_Placement at4))]⟩) (fun hb=>?_) fun hb=>?_)
 replace h:=iteT hb h
 refine z6 6 fun τ hτ=>?_
 obtain rfl:=osi h
 exact leafC hτ (subR_prep [] [(7,500000),(9,500001)] (by kernel_rfl) rfl rfl (by kernel_rfl))
 replace h:=iteF hb h
 refine zA 3 (evs_op (st_len (c:=c_Sheet) (l:=sheets) (x:=(s_Sheet sheets)) (by kernel_rfl) (by kernel_rfl)) (z6 2 fun τ hτ=>?_))
 obtain rfl:=osi h
 exact leafC hτ (subR_prep [] [(7,500000),(9,500001)] (by kernel_rfl) rfl rfl (by kernel_rfl))
 refine yE hτ [0,1,3,7,9,39] [500000,500001] (zI j2 (fun hb=>?_) fun hb=>?_)
 replace h:=iteT hb h
 refine z8 1 ⟨[(10,vI 1)],[]⟩ fun τ hτ=>?_
 refine th_ret ?_
 obtain rfl:=osi h
 exact zV hτ [(10,vI 1)]
 replace h:=iteF hb h
 refine y4 [0,1,3,7,9] [500000,500001] (zB (sem_draw [(6,[700300,700301,700302,700303]),(10,[11]),(11,[11])] [(6,[700300,700301,700302,700303]),(10,[11])] [] [(0,[11]),(1,[11]),(2,[11]),(3,[11]),(4,[11]),(5,[11]),(6,[11]),(7,[11]),(8,[11]),(9,[11]),(10,[700300,700301,700302,700303])] [(0,[700300,700301,700302,700303,11]),(1,[700300,700301,700302,700303,11]),(2,[700300,700301,700302,700303,11]),(3,[700300,700301,700302,700303,11]),(4,[700300,700301,700302,700303,11]),(5,[700300,700301,700302,700303,11]),(6,[11]),(7,[11]),(8,[11]),(9,[11]),(10,[700300,700301,700302,700303])] 12 (by kernel_rfl) (by kernel_rfl) [700300,700301,700302,700303,11] (by kernel_rfl) (by kernel_rfl) (evd_run 3 (by kernel_rfl) ?_)))
 obtain ⟨x7,hx7,h⟩:=bindS h
 refine evd_val (by kernel_rfl) (st_idx (c:=c_Piece) (l:=pieces) (i:=at4.Piece) (kd:=.i64) (sz:=7) (by kernel_rfl) hx7 rfl) (by kernel_rfl) (by kernel_rfl) (evd_run 2 (by kernel_rfl) ?_)
 obtain ⟨r8,hr8,h⟩:=bindS h
 refine evd_callS [(0,700300),(1,700301),(2,700302),(3,700303)] [] (by kernel_rfl) (by kernel_rfl) (W.sheetmetalref06_Put_ok hr8) (by kernel_rfl) (.inl rfl) (by kernel_rfl) (by kernel_rfl) (evd_run 3 (by kernel_rfl) (evd_new (g:=11) (ob:=.box [(vS ByteArray.empty),(vS ByteArray.empty),(vI 0),(vI 0),.nl,.nl,.nl]) (v:=(.ptr 11 0)) (by kernel_rfl) (by kernel_rfl) (by kernel_rfl) (by kernel_rfl) (by kernel_rfl) (by kernel_rfl) (evd_set (g:=11) (ob:=.box [(vS r8.1.Name),(vS r8.1.Material),(vI r8.1.Gauge),(vI r8.1.Grain),(ro 700301 98),(ro 700302 98),(ro 700303 98)]) (v:=vU) (by kernel_rfl) (by kernel_rfl) (by kernel_rfl) (by kernel_rfl) (by kernel_rfl) (evd_end (by kernel_rfl) (evo_run 1 (by kernel_rfl) (zO fun τ hτ=>?_))))))
 refine yE hτ [0,1,3,7,9,11,12] [11,500000,500001,700301,700302,700303] (zB (y3 2 [0,1,3,7,9,11,51] [11,500000,500001,700301,700302,700303] (zI (r8.2.1 != 0) (fun hb=>?_) fun hb=>?_)))
 replace h:=iteT hb h
 refine z8 1 ⟨[(10,vI 1)],[]⟩ fun τ hτ=>?_
 refine th_ret ?_
 obtain rfl:=osi h
 exact zV hτ [(10,vI 1)]
 replace h:=iteF hb h
 refine y4 [0,1,3,7,9,11] [11,500000,500001,700301,700302,700303] (zB (y3 1 [0,1,3,7,9,11,13] [11,500000,500001,700301,700302,700303] (zC ?_)))
 obtain ⟨x52,hx52,h⟩:=bindS h
 refine sem_loopS (fun (s39 : Int)=>⟨[(0,s_Sheet sheets),(1,s_Piece pieces),(3,s_Placement l),(7,.ptr 500000 0),(9,.ptr 500001 0),(11,.ptr 500002 0),(13,vI s39)],[(500000,.box (c_Settings set2)),(500001,.box (c_Placement at4)),(500002,.box [(vS r8.1.Name),(vS r8.1.Material),(vI r8.1.Gauge),(vI r8.1.Grain),(ro 500003 98),(ro 500004 98),(ro 500005 98)]),(500003,w_Rect 98 r8.1.Rects),(500004,w_Rect 98 r8.1.Cuts),(500005,w_Rect 98 r8.1.Forms)]⟩) (fun (x52 : Unit ⊕ Unit)=>match x52 with | .inl j53=>(.ret,⟨[(10,vI 12)],[]⟩) | .inr j54=>(.exit 0,⟨[(0,s_Sheet sheets),(1,s_Piece pieces),(3,s_Placement l),(7,.ptr 500000 0),(9,.ptr 500001 0),(11,.ptr 500002 0)],[(500000,.box (c_Settings set2)),(500001,.box (c_Placement at4)),(500002,.box [(vS r8.1.Name),(vS r8.1.Material),(vI r8.1.Gauge),(vI r8.1.Grain),(ro 500003 98),(ro 500004 98),(ro 500005 98)]),(500003,w_Rect 98 r8.1.Rects),(500004,w_Rect 98 r8.1.Cuts),(500005,w_Rect 98 r8.1.Forms)]⟩)) (sheetmetalref06_one_l1 l at4) 0 x52 (by kernel_rfl) (subR_prep [] [(11,500002),(500000,500000),(500001,500001),(700301,500003),(700302,500004),(700303,500005)] (by kernel_rfl) rfl rfl (by kernel_rfl)) hx52 ?_ ?_ ?_
 intro s39 r h
 refine zB (z7 (zA 2 (evs_op (st_len (c:=c_Placement) (l:=l) (x:=(s_Placement l)) (by kernel_rfl) (by kernel_rfl)) (y1 1 [0,1,3,7,9,11,13,55] [500000,500001,500002,500003,500004,500005] (zI (decide (s39 < (l.length : Int))) (fun hb=>?_) fun hb=>?_)))))
 replace h:=iteT hb h
 refine y4 [0,1,3,7,9,11,13] [500000,500001,500002,500003,500004,500005] (zB (zC (zB (sem_drawN [] [] [] [] [] 7 (by kernel_rfl) (by kernel_rfl) (by kernel_rfl) (evd_run 2 (by kernel_rfl) ?_)))))
 obtain ⟨x51,hx51,h⟩:=bindS h
 refine evd_val (by kernel_rfl) (st_idx (c:=c_Placement) (l:=l) (i:=s39) (kd:=.i64) (sz:=5) (by kernel_rfl) hx51 rfl) (by kernel_rfl) (by kernel_rfl) (evd_run 4 (by kernel_rfl) (evd_end (by kernel_rfl) (evo_run 1 (by kernel_rfl) (zO fun τ hτ=>?_))))
 refine yE hτ [0,1,3,7,9,11,13,65] [500000,500001,500002,500003,500004,500005] (zI (x51.Piece==at4.Piece) (fun hb=>?_) fun hb=>?_)
 replace h:=iteT hb h
 refine z8 1 ⟨[(10,vI 12)],[]⟩ fun τ hτ=>?_
 refine bl_ret (th_ret ?_)
 obtain rfl:=osi h
 exact zF hτ
 replace h:=iteF hb h
 refine zM fun τ hτ=>?_
 refine bl_normal (yE hτ [0,1,3,7,9,11,13] [500000,500001,500002,500003,500004,500005] (zD (z6 3 fun τ hτ=>?_)))
 obtain rfl:=osi h
 exact zH hτ
 replace h:=iteF hb h
 refine zL 0 fun τ hτ=>?_
 refine th_exit ?_
 obtain rfl:=osi h
 exact zF hτ
 intro x
 rcases x with _ | _ <;> rfl
 intro τ hτ
 rcases x52 with j53 | j54
 refine bl_ret (th_ret ?_)
 obtain rfl:=osi h
 exact zV hτ [(10,vI 12)]
 refine zQ (yE hτ [0,1,3,7,9,11] [500000,500001,500002,500003,500004,500005] (z7 (zA 3 ?_)))
 obtain ⟨x56,hx56,h⟩:=bindS h
 refine evs_op (st_idx (c:=c_Sheet) (l:=sheets) (i:=at4.Sheet) (kd:=.i64) (sz:=8) (by kernel_rfl) hx56 rfl) (y1 3 [1,3,7,9,11,14] [14,500000,500001,500002,500003,500004,500005] (zB (zB ?_)))
 obtain ⟨j64,hj64,h⟩:=bindS h
 refine zT ⟨[(1,s_Piece pieces),(3,s_Placement l),(7,.ptr 500000 0),(9,.ptr 500001 0),(11,.ptr 500002 0),(84,vB j64)],[(500000,.box (c_Settings set2)),(500001,.box (c_Placement at4)),(500002,.box [(vS r8.1.Name),(vS r8.1.Material),(vI r8.1.Gauge),(vI r8.1.Grain),(ro 500003 98),(ro 500004 98),(ro 500005 98)]),(500003,w_Rect 98 r8.1.Rects),(500004,w_Rect 98 r8.1.Cuts),(500005,w_Rect 98 r8.1.Forms)]⟩ ?_ fun τ hτ=>?_
 replace h:=hj64
 refine zA 4 ?_
 obtain ⟨r65,hr65,h⟩:=bindS h
 refine evs_callP [500003,500004,500005] (by kernel_rfl) (W.sheetmetalref06_Allowed_ok hr65) (by kernel_rfl) (.inr rfl) (by kernel_rfl) (zA 2 (zS r65 (fun b0=>⟨[(1,s_Piece pieces),(3,s_Placement l),(7,.ptr 500000 0),(9,.ptr 500001 0),(11,.ptr 500002 0),(14,.ptr 14 0),(77,vB (!b0))],[(14,.box (c_Sheet x56)),(500000,.box (c_Settings set2)),(500001,.box (c_Placement at4)),(500002,.box [(vS r8.1.Name),(vS r8.1.Material),(vI r8.1.Gauge),(vI r8.1.Grain),(ro 500003 98),(ro 500004 98),(ro 500005 98)]),(500003,w_Rect 98 r8.1.Rects),(500004,w_Rect 98 r8.1.Cuts),(500005,w_Rect 98 r8.1.Forms)]⟩) (fun hb=>?_) fun hb=>?_))
 replace h:=iteT hb h
 refine zA 4 ?_
 obtain ⟨r66,hr66,h⟩:=bindS h
 refine evs_callP [500003] (by kernel_rfl) (W.sheetmetalref06_well_ok hr66) (by kernel_rfl) (.inr rfl) (by kernel_rfl) (z6 2 fun τ hτ=>?_)
 obtain rfl:=osi h
 exact zG hτ
 replace h:=iteF hb h
 refine z6 7 fun τ hτ=>?_
 obtain rfl:=osi h
 exact zG hτ
 refine yE hτ [1,3,7,9,11,84] [500000,500001,500002,500003,500004,500005] (zI j64 (fun hb=>?_) fun hb=>?_)
 replace h:=iteT hb h
 refine z8 1 ⟨[(10,vI 13)],[]⟩ fun τ hτ=>?_
 refine th_ret ?_
 obtain rfl:=osi h
 exact zV hτ [(10,vI 13)]
 replace h:=iteF hb h
 refine y4 [1,3,7,9,11] [500000,500001,500002,500003,500004,500005] (zB (y3 1 [1,3,7,9,11,15] [500000,500001,500002,500003,500004,500005] (zC ?_)))
 obtain ⟨x302,hx302,h⟩:=bindS h
 refine sem_loopS (fun (s225 : Int)=>⟨[(1,s_Piece pieces),(3,s_Placement l),(7,.ptr 500000 0),(9,.ptr 500001 0),(11,.ptr 500002 0),(15,vI s225)],[(500000,.box (c_Settings set2)),(500001,.box (c_Placement at4)),(500002,.box [(vS r8.1.Name),(vS r8.1.Material),(vI r8.1.Gauge),(vI r8.1.Grain),(ro 500003 98),(ro 500004 98),(ro 500005 98)]),(500003,w_Rect 98 r8.1.Rects),(500004,w_Rect 98 r8.1.Cuts),(500005,w_Rect 98 r8.1.Forms)]⟩) (fun (x302 : Unit ⊕ Unit)=>match x302 with | .inl j303=>(.ret,⟨[(10,vI 7)],[]⟩) | .inr j304=>(.exit 2,⟨[],[]⟩)) (sheetmetalref06_one_l2 pieces set2 l at4 r8) 0 x302 (by kernel_rfl) (here (by kernel_rfl)) hx302 ?_ ?_ ?_
 intro s225 r h
 refine zB (z7 (zA 2 (evs_op (st_len (c:=c_Placement) (l:=l) (x:=(s_Placement l)) (by kernel_rfl) (by kernel_rfl)) (y1 1 [1,3,7,9,11,15,88] [500000,500001,500002,500003,500004,500005] (zI (decide (s225 < (l.length : Int))) (fun hb=>?_) fun hb=>?_)))))
 replace h:=iteT hb h
 refine y4 [1,3,7,9,11,15] [500000,500001,500002,500003,500004,500005] (zB (zC (zB (sem_draw [(12,[700600,700601,700602,700603]),(16,[16]),(17,[16])] [(12,[700600,700601,700602,700603]),(16,[16])] [] [(0,[16]),(1,[16]),(2,[16]),(3,[16]),(4,[16]),(5,[16]),(6,[16]),(7,[16]),(8,[16]),(9,[16]),(10,[16]),(11,[16]),(12,[16]),(13,[16]),(14,[16]),(15,[16]),(16,[700600,700601,700602,700603])] [(0,[700600,700601,700602,700603,16]),(1,[700600,700601,700602,700603,16]),(2,[700600,700601,700602,700603,16]),(3,[700600,700601,700602,700603,16]),(4,[700600,700601,700602,700603,16]),(5,[700600,700601,700602,700603,16]),(6,[700600,700601,700602,700603,16]),(7,[700600,700601,700602,700603,16]),(8,[700600,700601,700602,700603,16]),(9,[700600,700601,700602,700603,16]),(10,[700600,700601,700602,700603,16]),(11,[700600,700601,700602,700603,16]),(12,[16]),(13,[16]),(14,[16]),(15,[16]),(16,[700600,700601,700602,700603])] 18 (by kernel_rfl) (by kernel_rfl) [700600,700601,700602,700603,16] (by kernel_rfl) (by kernel_rfl) (evd_run 3 (by kernel_rfl) ?_)))))
 obtain ⟨x291,hx291,h⟩:=bindS h
 refine evd_val (by kernel_rfl) (st_idx (c:=c_Placement) (l:=l) (i:=s225) (kd:=.i64) (sz:=5) (by kernel_rfl) hx291 rfl) (by kernel_rfl) (by kernel_rfl) (evd_run 2 (by kernel_rfl) ?_)
 obtain ⟨x292,hx292,h⟩:=bindS h
 refine evd_val (by kernel_rfl) (st_idx (c:=c_Piece) (l:=pieces) (i:=x291.Piece) (kd:=.i64) (sz:=7) (by kernel_rfl) hx292 rfl) (by kernel_rfl) (by kernel_rfl) (evd_run 3 (by kernel_rfl) ?_)
 obtain ⟨x293,hx293,h⟩:=bindS h
 refine evd_val (by kernel_rfl) (st_idx (c:=c_Placement) (l:=l) (i:=s225) (kd:=.i64) (sz:=5) (by kernel_rfl) hx293 rfl) (by kernel_rfl) (by kernel_rfl) (evd_run 1 (by kernel_rfl) ?_)
 obtain ⟨r294,hr294,h⟩:=bindS h
 refine evd_callS [(0,700600),(1,700601),(2,700602),(3,700603)] [] (by kernel_rfl) (by kernel_rfl) (W.sheetmetalref06_Put_ok hr294) (by kernel_rfl) (.inl rfl) (by kernel_rfl) (by kernel_rfl) (evd_run 3 (by kernel_rfl) (evd_new (g:=16) (ob:=.box [(vS ByteArray.empty),(vS ByteArray.empty),(vI 0),(vI 0),.nl,.nl,.nl]) (v:=(.ptr 16 0)) (by kernel_rfl) (by kernel_rfl) (by kernel_rfl) (by kernel_rfl) (by kernel_rfl) (by kernel_rfl) (evd_set (g:=16) (ob:=.box [(vS r294.1.Name),(vS r294.1.Material),(vI r294.1.Gauge),(vI r294.1.Grain),(ro 700601 98),(ro 700602 98),(ro 700603 98)]) (v:=vU) (by kernel_rfl) (by kernel_rfl) (by kernel_rfl) (by kernel_rfl) (by kernel_rfl) (evd_end (by kernel_rfl) (evo_run 1 (by kernel_rfl) (zO fun τ hτ=>?_))))))
 refine yE hτ [1,3,7,9,11,15,16] [16,500000,500001,500002,500003,500004,500005,700601,700602,700603] (zB ?_)
 obtain ⟨j299,hj299,h⟩:=bindS h
 refine sem_drawP ⟨[(1,s_Piece pieces),(3,s_Placement l),(7,.ptr 500000 0),(9,.ptr 500001 0),(11,.ptr 500002 0),(15,vI s225),(123,vB j299)],[(500000,.box (c_Settings set2)),(500001,.box (c_Placement at4)),(500002,.box [(vS r8.1.Name),(vS r8.1.Material),(vI r8.1.Gauge),(vI r8.1.Grain),(ro 500003 98),(ro 500004 98),(ro 500005 98)]),(500003,w_Rect 98 r8.1.Rects),(500004,w_Rect 98 r8.1.Cuts),(500005,w_Rect 98 r8.1.Forms)]⟩ [] [] [] [] [] 14 (by kernel_rfl) (by kernel_rfl) (by kernel_rfl) ?_ fun τ hτ=>?_
 replace h:=hj299
 refine evd_run 2 (by kernel_rfl) ?_
 obtain ⟨x300,hx300,h⟩:=bindS h
 refine evd_val (by kernel_rfl) (st_idx (c:=c_Placement) (l:=l) (i:=s225) (kd:=.i64) (sz:=5) (by kernel_rfl) hx300 rfl) (by kernel_rfl) (by kernel_rfl) (evd_run 6 (by kernel_rfl) (evd_split (x300.Sheet==at4.Sheet) (fun b0=>⟨[(115,vB b0),(114,vB b0),(113,vI at4.Sheet),(112,.ptr 500001 1),(111,vI x300.Sheet),(110,.vptr (c_Placement x300) 1),(109,.vptr (c_Placement x300) 0),(108,vI s225),(107,s_Placement l),(1,s_Piece pieces),(3,s_Placement l),(7,.ptr 500000 0),(9,.ptr 500001 0),(11,.ptr 500002 0),(15,vI s225),(16,.ptr 16 0)],[(16,.box [(vS r294.1.Name),(vS r294.1.Material),(vI r294.1.Gauge),(vI r294.1.Grain),(ro 700601 98),(ro 700602 98),(ro 700603 98)]),(500000,.box (c_Settings set2)),(500001,.box (c_Placement at4)),(500002,.box [(vS r8.1.Name),(vS r8.1.Material),(vI r8.1.Gauge),(vI r8.1.Grain),(ro 500003 98),(ro 500004 98),(ro 500005 98)]),(500003,w_Rect 98 r8.1.Rects),(500004,w_Rect 98 r8.1.Cuts),(500005,w_Rect 98 r8.1.Forms),(700601,w_Rect 98 r294.1.Rects),(700602,w_Rect 98 r294.1.Cuts),(700603,w_Rect 98 r294.1.Forms)]⟩) (by kernel_rfl) (fun hb=>?_) fun hb=>?_))
 replace h:=iteT hb h
 refine evd_run 5 (by kernel_rfl) (evd_end (by kernel_rfl) ?_)
 obtain ⟨r301,hr301,h⟩:=bindS h
 refine evo_callP [500003,700601] (by kernel_rfl) (W.sheetmetalref06_Clear_ok hr301) (by kernel_rfl) (.inr rfl) (by kernel_rfl) (evo_run 2 (by kernel_rfl) (zO fun τ hτ=>?_))
 obtain rfl:=osi h
 exact zG hτ
 replace h:=iteF hb h
 refine evd_run 5 (by kernel_rfl) (evd_end (by kernel_rfl) (evo_run 3 (by kernel_rfl) (zO fun τ hτ=>?_)))
 obtain rfl:=osi h
 exact zG hτ
 refine yE hτ [1,3,7,9,11,15,123] [500000,500001,500002,500003,500004,500005] (zI j299 (fun hb=>?_) fun hb=>?_)
 replace h:=iteT hb h
 refine z8 1 ⟨[(10,vI 7)],[]⟩ fun τ hτ=>?_
 refine bl_ret (th_ret ?_)
 obtain rfl:=osi h
 exact zF hτ
 replace h:=iteF hb h
 refine zM fun τ hτ=>?_
 refine bl_normal (yE hτ [1,3,7,9,11,15] [500000,500001,500002,500003,500004,500005] (zD (z6 3 fun τ hτ=>?_)))
 obtain rfl:=osi h
 exact zH hτ
 replace h:=iteF hb h
 refine zL 2 fun τ hτ=>?_
 refine th_exit ?_
 obtain rfl:=osi h
 exact zF hτ
 intro x
 rcases x with _ | _ <;> rfl
 intro τ hτ
 rcases x302 with j303 | j304
 refine bl_ret (th_ret ?_)
 obtain rfl:=osi h
 exact zV hτ [(10,vI 7)]
 refine zQ (yE hτ [] [] (z8 1 ⟨[(10,vI 0)],[]⟩ fun τ hτ=>?_))
 obtain rfl:=osi h
 exact zV hτ [(10,vI 0)]
theorem W.sheetmetalref06_Check_ok {sheets : (List Sheet)} {pieces : (List Piece)} {set2 : Settings} {l : (List Placement)} {r : Int×Int} (h : sheetmetalref06_Check sheets pieces set2 l=some r) : PC G.P 80 [(.sl (List.map c_Sheet sheets)),(.sl (List.map c_Piece pieces)),(.agg (c_Settings set2)),(.sl (List.map c_Placement l))] [] (.tup [(vI r.1),(vI r.2)]) []:=by
 refine zU G Tryz.func80 (yK [0,1,2,3] [] (y3 3 [0,1,3,6] [6] (z7 (zA 2 ?_))))
 obtain ⟨r2,hr2,h⟩:=bindS h
 refine evs_callP [] (by kernel_rfl) (W.sheetmetalref06_given_ok hr2) (by kernel_rfl) (.inl rfl) (by kernel_rfl) (y1 1 [0,1,3,6,10] [6] (zB (y3 2 [0,1,3,6,10,16] [6] (zI (r2 != 0) (fun hb=>?_) fun hb=>?_))))
 replace h:=iteT hb h
 refine z8 3 ⟨[(8,vI 0),(9,vI r2)],[]⟩ fun τ hτ=>?_
 refine th_ret ?_
 obtain rfl:=osi h
 exact zV hτ [(8,vI 0),(9,vI r2)]
 replace h:=iteF hb h
 refine y4 [0,1,3,6] [6] (zB (z7 (zA 1 ?_)))
 obtain ⟨r6,hr6,h⟩:=bindS h
 refine evs_callP [] (by kernel_rfl) (W.sheetmetalref06_ValidSettings_ok hr6) (by kernel_rfl) (.inl rfl) (by kernel_rfl) (y1 1 [0,1,3,6,20] [6] (zI (!r6) (fun hb=>?_) fun hb=>?_))
 replace h:=iteT hb h
 refine z8 2 ⟨[(8,vI 0),(9,vI 1)],[]⟩ fun τ hτ=>?_
 refine th_ret ?_
 obtain rfl:=osi h
 exact zV hτ [(8,vI 0),(9,vI 1)]
 replace h:=iteF hb h
 refine y4 [0,1,3,6] [6] (zB (y3 1 [0,1,3,6,11] [6] (zC ?_)))
 obtain ⟨x122,hx122,h⟩:=bindS h
 refine sem_loopS (fun (s85 : Int)=>⟨[(0,s_Sheet sheets),(1,s_Piece pieces),(3,s_Placement l),(6,.ptr 500000 0),(11,vI s85)],[(500000,.box (c_Settings set2))]⟩) (fun (x122 : (Int×Int) ⊕ Unit)=>match x122 with | .inl j123=>(.ret,⟨[(8,vI j123.1),(9,vI j123.2)],[]⟩) | .inr j124=>(.exit 0,⟨[],[]⟩)) (sheetmetalref06_Check_l1 sheets pieces set2 l) 0 x122 (by kernel_rfl) (subR_prep [] [(6,500000)] (by kernel_rfl) rfl rfl (by kernel_rfl)) hx122 ?_ ?_ ?_
 intro s85 r h
 refine zB (z7 (zA 2 (evs_op (st_len (c:=c_Placement) (l:=l) (x:=(s_Placement l)) (by kernel_rfl) (by kernel_rfl)) (y1 1 [0,1,3,6,11,24] [500000] (zI (decide (s85 < (l.length : Int))) (fun hb=>?_) fun hb=>?_)))))
 replace h:=iteT hb h
 refine y4 [0,1,3,6,11] [500000] (zB (zC (zB (sem_drawN [] [] [] [] [] 10 (by kernel_rfl) (by kernel_rfl) (by kernel_rfl) (evd_run 5 (by kernel_rfl) ?_)))))
 obtain ⟨l119,hl119,h⟩:=bindS h
 refine evd_val (by kernel_rfl) (st_slH (c:=c_Placement) (l:=l) (sz:=5) (hi:=s85) (k2:=.i64) (by kernel_rfl) hl119) (by kernel_rfl) (by kernel_rfl) (evd_run 2 (by kernel_rfl) ?_)
 obtain ⟨x120,hx120,h⟩:=bindS h
 refine evd_val (by kernel_rfl) (st_idx (c:=c_Placement) (l:=l) (i:=s85) (kd:=.i64) (sz:=5) (by kernel_rfl) hx120 rfl) (by kernel_rfl) (by kernel_rfl) (evd_run 1 (by kernel_rfl) (evd_end (by kernel_rfl) ?_))
 obtain ⟨r121,hr121,h⟩:=bindS h
 refine evo_callP [] (by kernel_rfl) (W.sheetmetalref06_one_ok hr121) (by kernel_rfl) (.inl rfl) (by kernel_rfl) (evo_run 1 (by kernel_rfl) (zO fun τ hτ=>?_))
 refine yE hτ [0,1,3,6,10,11] [500000] (y3 2 [0,1,3,6,10,11,39] [500000] (zI (r121 != 0) (fun hb=>?_) fun hb=>?_))
 replace h:=iteT hb h
 refine z8 4 ⟨[(8,vI s85),(9,vI r121)],[]⟩ fun τ hτ=>?_
 refine bl_ret (th_ret ?_)
 obtain rfl:=osi h
 exact zF hτ
 replace h:=iteF hb h
 refine zM fun τ hτ=>?_
 refine bl_normal (yE hτ [0,1,3,6,11] [500000] (zD (z6 3 fun τ hτ=>?_)))
 obtain rfl:=osi h
 exact zH hτ
 replace h:=iteF hb h
 refine zL 0 fun τ hτ=>?_
 refine th_exit ?_
 obtain rfl:=osi h
 exact zF hτ
 intro x
 rcases x with _ | _ <;> rfl
 intro τ hτ
 rcases x122 with j123 | j124
 refine bl_ret (th_ret ?_)
 obtain rfl:=osi h
 exact zV hτ [(8,vI j123.1),(9,vI j123.2)]
 refine zQ (yE hτ [] [] (z8 2 ⟨[(8,vI 0),(9,vI 0)],[]⟩ fun τ hτ=>?_))
 obtain rfl:=osi h
 exact zV hτ [(8,vI 0),(9,vI 0)]
theorem W.sheetmetalref07_LayoutOf_ok {sheets : (List Sheet)} {pieces : (List Piece)} {set2 : Settings} {l : (List Placement)} {sheet : Int} {r : LayoutT×Int×ByteArray×ByteArray×Int×Int×Int×Int×(List Rect)×(List Rect)} (h : sheetmetalref07_LayoutOf sheets pieces set2 l sheet=some r) : PC G.P 38 [(.sl (List.map c_Sheet sheets)),(.sl (List.map c_Piece pieces)),(.agg (c_Settings set2)),(.sl (List.map c_Placement l)),(vI sheet)] [] (.tup [(.agg [(vS r.1.Sheet.Name),(vS r.1.Sheet.Material),(vI r.1.Sheet.Gauge),(vI r.1.Sheet.Grain),(vI r.1.Sheet.Width),(vI r.1.Sheet.Height),(.sl (List.map c_Rect r.1.Sheet.Clamps)),(.sl (List.map c_Rect r.1.Sheet.Used)),(.row (.top 1) 78)]),(vI r.2.1)]) [(0,.box [(vS r.2.2.1),(vS r.2.2.2.1),(vI r.2.2.2.2.1),(vI r.2.2.2.2.2.1),(vI r.2.2.2.2.2.2.1),(vI r.2.2.2.2.2.2.2.1),(.sl (List.map c_Rect r.2.2.2.2.2.2.2.2.1)),(.sl (List.map c_Rect r.2.2.2.2.2.2.2.2.2)),(.row (.top 1) 78)]),(1,.row 78 [] (List.map c_Piece r.1.Pieces))]:=by
 refine zU G Tryz.func38 (yK [0,1,2,3,4] [] (y3 3 [0,1,3,4,7,10] [7,10] (z7 (zA 4 ?_))))
 obtain ⟨r2,hr2,h⟩:=bindS h
 refine evs_callP [] (by kernel_rfl) (W.sheetmetalref06_Check_ok hr2) (by kernel_rfl) (.inl rfl) (by kernel_rfl) (y1 5 [0,1,3,4,10,13] [10] (zB (y3 2 [0,1,3,4,10,13,27] [10] (zI (r2.2 != 0) (fun hb=>?_) fun hb=>?_))))
 replace h:=iteT hb h
 refine z8 4 ⟨[(10,.ptr 10 0),(11,vI r2.2)],[(10,.box [(vS ByteArray.empty),(vS ByteArray.empty),(vI 0),(vI 0),(vI 0),(vI 0),.nl,.nl,.nl])]⟩ fun τ hτ=>?_
 refine th_ret ?_
 obtain rfl:=osi h
 exact rk_ret hτ [(10,.ptr 0 0),(11,vI r2.2)] (subR_prep [.row (.box 10 8) 800000 78 [],.soft (.box 10 6),.soft (.box 10 7)] [(10,0),(800000,1)] (by kernel_rfl) rfl rfl (by kernel_rfl)) (by kernel_rfl)
 replace h:=iteF hb h
 refine y4 [0,1,3,4,10] [10] (zB (zB ?_))
 obtain ⟨j4,hj4,h⟩:=bindS h
 refine zT ⟨[(0,s_Sheet sheets),(1,s_Piece pieces),(3,s_Placement l),(4,vI sheet),(10,.ptr 500000 0),(37,vB j4)],[(500000,.box [(vS ByteArray.empty),(vS ByteArray.empty),(vI 0),(vI 0),(vI 0),(vI 0),.nl,.nl,.nl])]⟩ ?_ fun τ hτ=>?_
 replace h:=hj4
 refine zA 3 (zS (decide (sheet < 0)) (fun b0=>⟨[(0,s_Sheet sheets),(1,s_Piece pieces),(3,s_Placement l),(4,vI sheet),(10,.ptr 10 0),(32,vB b0)],[(10,.box [(vS ByteArray.empty),(vS ByteArray.empty),(vI 0),(vI 0),(vI 0),(vI 0),.nl,.nl,.nl])]⟩) (fun hb=>?_) fun hb=>?_)
 replace h:=iteT hb h
 refine z6 5 fun τ hτ=>?_
 obtain rfl:=osi h
 exact leafC hτ (subR_prep [] [(10,500000)] (by kernel_rfl) rfl rfl (by kernel_rfl))
 replace h:=iteF hb h
 refine zA 2 (evs_op (st_len (c:=c_Sheet) (l:=sheets) (x:=(s_Sheet sheets)) (by kernel_rfl) (by kernel_rfl)) (z6 2 fun τ hτ=>?_))
 obtain rfl:=osi h
 exact leafC hτ (subR_prep [] [(10,500000)] (by kernel_rfl) rfl rfl (by kernel_rfl))
 refine yE hτ [0,1,3,4,10,37] [500000] (zI j4 (fun hb=>?_) fun hb=>?_)
 replace h:=iteT hb h
 refine z8 3 ⟨[(10,.ptr 500000 0),(11,vI 5)],[(500000,.box [(vS ByteArray.empty),(vS ByteArray.empty),(vI 0),(vI 0),(vI 0),(vI 0),.nl,.nl,.nl])]⟩ fun τ hτ=>?_
 refine th_ret ?_
 obtain rfl:=osi h
 exact rk_ret hτ [(10,.ptr 0 0),(11,vI 5)] (subR_prep [.row (.box 500000 8) 800000 78 [],.soft (.box 500000 6),.soft (.box 500000 7)] [(500000,0),(800000,1)] (by kernel_rfl) rfl rfl (by kernel_rfl)) (by kernel_rfl)
 replace h:=iteF hb h
 refine y4 [0,1,3,4,10] [500000] (z7 (zA 2 ?_))
 obtain ⟨x6,hx6,h⟩:=bindS h
 refine evs_op (st_idx (c:=c_Sheet) (l:=sheets) (i:=sheet) (kd:=.i64) (sz:=8) (by kernel_rfl) hx6 rfl) (y1 4 [1,3,4,10,14] [14,500000] (zB (y3 1 [1,3,4,10,14,15] [14,500000] (zC ?_))))
 obtain ⟨x210,hx210,h⟩:=bindS h
 refine sem_loopS (fun (s143 : Int×(List Piece))=>⟨[(1,s_Piece pieces),(3,s_Placement l),(4,vI sheet),(10,.ptr 500000 0),(14,.ptr 500001 0),(15,vI s143.1)],[(500000,.box [(vS ByteArray.empty),(vS ByteArray.empty),(vI 0),(vI 0),(vI 0),(vI 0),.nl,.nl,.nl]),(500001,.box [(vS x6.Name),(vS x6.Material),(vI x6.Gauge),(vI x6.Grain),(vI x6.Width),(vI x6.Height),(s_Rect x6.Clamps),(s_Rect x6.Used),(ro 500002 78)]),(500002,w_Piece 78 s143.2)]⟩) (fun (x210 : (List Piece))=>(.exit 0,⟨[(10,.ptr 500000 0),(14,.ptr 500001 0)],[(500000,.box [(vS ByteArray.empty),(vS ByteArray.empty),(vI 0),(vI 0),(vI 0),(vI 0),.nl,.nl,.nl]),(500001,.box [(vS x6.Name),(vS x6.Material),(vI x6.Gauge),(vI x6.Grain),(vI x6.Width),(vI x6.Height),(s_Rect x6.Clamps),(s_Rect x6.Used),(ro 500002 78)]),(500002,w_Piece 78 x210)]⟩)) (sheetmetalref07_LayoutOf_l2 pieces l sheet) (0,[]) x210 (by kernel_rfl) (subR_prep [.row (.box 14 8) 800000 78 []] [(14,500001),(500000,500000),(800000,500002)] (by kernel_rfl) rfl rfl (by kernel_rfl)) hx210 ?_ ?_ ?_
 intro s143 r h
 refine zB (z7 (zA 2 (evs_op (st_len (c:=c_Placement) (l:=l) (x:=(s_Placement l)) (by kernel_rfl) (by kernel_rfl)) (y1 1 [1,3,4,10,14,15,47] [500000,500001,500002] (zI (decide (s143.1 < (l.length : Int))) (fun hb=>?_) fun hb=>?_)))))
 replace h:=iteT hb h
 refine y4 [1,3,4,10,14,15] [500000,500001,500002] (sem_seqJ (fun (j193 : (List Piece))=>⟨[(1,s_Piece pieces),(3,s_Placement l),(4,vI sheet),(10,.ptr 500000 0),(14,.ptr 500001 0),(15,vI s143.1)],[(500000,.box [(vS ByteArray.empty),(vS ByteArray.empty),(vI 0),(vI 0),(vI 0),(vI 0),.nl,.nl,.nl]),(500001,.box [(vS x6.Name),(vS x6.Material),(vI x6.Gauge),(vI x6.Grain),(vI x6.Width),(vI x6.Height),(s_Rect x6.Clamps),(s_Rect x6.Used),(ro 500002 78)]),(500002,w_Piece 78 j193)]⟩) (sheetmetalref07_LayoutOf_k1 s143) r (by kernel_rfl) (fun j193 h=>?_) ?_)
 refine zD (z6 3 fun τ hτ=>?_)
 obtain rfl:=osi h
 exact zH hτ
 refine zC (z7 (zA 2 ?_))
 obtain ⟨x195,hx195,h⟩:=bindS h
 refine evs_op (st_idx (c:=c_Placement) (l:=l) (i:=s143.1) (kd:=.i64) (sz:=5) (by kernel_rfl) hx195 rfl) (y1 4 [1,3,4,10,14,15,56] [500000,500001,500002] (zI (x195.Sheet==sheet) (fun hb=>?_) fun hb=>?_))
 replace h:=iteT hb h
 refine zB (sem_draw [(12,[700600,700601,700602,700603]),(16,[16]),(17,[16])] [(12,[700600,700601,700602,700603]),(16,[16])] [] [(0,[16]),(1,[16]),(2,[16]),(3,[16]),(4,[16]),(5,[16]),(6,[16]),(7,[16]),(8,[16]),(9,[16]),(10,[16]),(11,[16]),(12,[16]),(13,[16]),(14,[16]),(15,[16]),(16,[700600,700601,700602,700603])] [(0,[700600,700601,700602,700603,16]),(1,[700600,700601,700602,700603,16]),(2,[700600,700601,700602,700603,16]),(3,[700600,700601,700602,700603,16]),(4,[700600,700601,700602,700603,16]),(5,[700600,700601,700602,700603,16]),(6,[700600,700601,700602,700603,16]),(7,[700600,700601,700602,700603,16]),(8,[700600,700601,700602,700603,16]),(9,[700600,700601,700602,700603,16]),(10,[700600,700601,700602,700603,16]),(11,[700600,700601,700602,700603,16]),(12,[16]),(13,[16]),(14,[16]),(15,[16]),(16,[700600,700601,700602,700603])] 18 (by kernel_rfl) (by kernel_rfl) [700600,700601,700602,700603,16] (by kernel_rfl) (by kernel_rfl) (evd_run 3 (by kernel_rfl) ?_))
 obtain ⟨x204,hx204,h⟩:=bindS h
 refine evd_val (by kernel_rfl) (st_idx (c:=c_Placement) (l:=l) (i:=s143.1) (kd:=.i64) (sz:=5) (by kernel_rfl) hx204 rfl) (by kernel_rfl) (by kernel_rfl) (evd_run 2 (by kernel_rfl) ?_)
 obtain ⟨x205,hx205,h⟩:=bindS h
 refine evd_val (by kernel_rfl) (st_idx (c:=c_Piece) (l:=pieces) (i:=x204.Piece) (kd:=.i64) (sz:=7) (by kernel_rfl) hx205 rfl) (by kernel_rfl) (by kernel_rfl) (evd_run 3 (by kernel_rfl) ?_)
 obtain ⟨x206,hx206,h⟩:=bindS h
 refine evd_val (by kernel_rfl) (st_idx (c:=c_Placement) (l:=l) (i:=s143.1) (kd:=.i64) (sz:=5) (by kernel_rfl) hx206 rfl) (by kernel_rfl) (by kernel_rfl) (evd_run 1 (by kernel_rfl) ?_)
 obtain ⟨r207,hr207,h⟩:=bindS h
 refine evd_callS [(0,700600),(1,700601),(2,700602),(3,700603)] [] (by kernel_rfl) (by kernel_rfl) (W.sheetmetalref06_Put_ok hr207) (by kernel_rfl) (.inl rfl) (by kernel_rfl) (by kernel_rfl) (evd_run 3 (by kernel_rfl) (evd_new (g:=16) (ob:=.box [(vS ByteArray.empty),(vS ByteArray.empty),(vI 0),(vI 0),.nl,.nl,.nl]) (v:=(.ptr 16 0)) (by kernel_rfl) (by kernel_rfl) (by kernel_rfl) (by kernel_rfl) (by kernel_rfl) (by kernel_rfl) (evd_set (g:=16) (ob:=.box [(vS r207.1.Name),(vS r207.1.Material),(vI r207.1.Gauge),(vI r207.1.Grain),(ro 700601 98),(ro 700602 98),(ro 700603 98)]) (v:=vU) (by kernel_rfl) (by kernel_rfl) (by kernel_rfl) (by kernel_rfl) (by kernel_rfl) (evd_end (by kernel_rfl) (evo_run 1 (by kernel_rfl) (zO fun τ hτ=>?_))))))
 refine yE hτ [1,3,4,10,14,15,16] [16,500000,500001,500002,700601,700602,700603] (zD (zA 3 (evs_prep [.frz 700601,.frz 700602,.frz 700603] (by kernel_rfl) (zA 1 ?_))))
 obtain ⟨l209,hl209,h⟩:=bindS h
 refine evs_op (st_app (c:=c_Piece) (l:=s143.2) (l2:=[(Piece.mk r207.1.Name r207.1.Material r207.1.Gauge r207.1.Grain r207.1.Rects r207.1.Cuts r207.1.Forms)]) (x:=(s_Piece [(Piece.mk r207.1.Name r207.1.Material r207.1.Gauge r207.1.Grain r207.1.Rects r207.1.Cuts r207.1.Forms)])) (g:=500002) (e:=78) (sz:=7) (d:=77) (by kernel_rfl) (by kernel_rfl) (by kernel_rfl) (by kernel_rfl) (fun _=>rfl) rfl hl209) (z6 2 fun τ hτ=>?_)
 exact bl_normal (jk_normal l209 h hτ (here (by kernel_rfl)))
 replace h:=iteF hb h
 refine zM fun τ hτ=>?_
 exact bl_normal (jk_normal s143.2 h hτ (here (by kernel_rfl)))
 replace h:=iteF hb h
 refine zL 0 fun τ hτ=>?_
 refine th_exit ?_
 obtain rfl:=osi h
 exact zF hτ
 intro x
 rfl
 intro τ hτ
 refine zQ (yE hτ [10,14] [500000,500001,500002] (z8 3 ⟨[(10,.ptr 500000 0),(11,vI 0)],[(500000,.box [(vS x6.Name),(vS x6.Material),(vI x6.Gauge),(vI x6.Grain),(vI x6.Width),(vI x6.Height),(s_Rect x6.Clamps),(s_Rect x6.Used),(ro 500002 78)]),(500002,w_Piece 78 x210)]⟩ fun τ hτ=>?_))
 obtain rfl:=osi h
 exact rk_ret hτ [(10,.ptr 0 0),(11,vI 0)] (subR_prep [] [(500000,0),(500002,1)] (by kernel_rfl) rfl rfl (by kernel_rfl)) (by kernel_rfl)
theorem W.sheetmetalref06_SameRects_ok {a : (List Rect)} {b : (List Rect)} {r : Bool} (h : sheetmetalref06_SameRects a b=some r) : PC G.P 141 [(.sl (List.map c_Rect a)),(.sl (List.map c_Rect b))] [] (vB r) []:=by
 refine zU G Tryz.func141 (yK [0,1] [] (y3 1 [0,1] [] (zB (z7 (zA 1 (evs_op (st_len (c:=c_Rect) (l:=a) (x:=(s_Rect a)) (by kernel_rfl) (by kernel_rfl)) ?_))))))
 refine zA 1 (evs_op (st_len (c:=c_Rect) (l:=b) (x:=(s_Rect b)) (by kernel_rfl) (by kernel_rfl)) (y1 1 [0,1,10] [] (zI ((a.length : Int) != (b.length : Int)) (fun hb=>?_) fun hb=>?_)))
 replace h:=iteT hb h
 refine z8 1 ⟨[(4,vB false)],[]⟩ fun τ hτ=>?_
 refine th_ret ?_
 obtain rfl:=osi h
 exact zV hτ [(4,vB false)]
 replace h:=iteF hb h
 refine y4 [0,1] [] (zB (y3 1 [0,1,5] [] (zC ?_)))
 obtain ⟨x80,hx80,h⟩:=bindS h
 refine sem_loopS (fun (s55 : Int)=>⟨[(0,s_Rect a),(1,s_Rect b),(5,vI s55)],[]⟩) (fun (x80 : Unit ⊕ Unit)=>match x80 with | .inl j81=>(.ret,⟨[(4,vB false)],[]⟩) | .inr j82=>(.exit 0,⟨[],[]⟩)) (sheetmetalref06_SameRects_l1 a b) 0 x80 (by kernel_rfl) (here (by kernel_rfl)) hx80 ?_ ?_ ?_
 intro s55 r h
 refine zB (z7 (zA 2 (evs_op (st_len (c:=c_Rect) (l:=a) (x:=(s_Rect a)) (by kernel_rfl) (by kernel_rfl)) (y1 1 [0,1,5,14] [] (zI (decide (s55 < (a.length : Int))) (fun hb=>?_) fun hb=>?_)))))
 replace h:=iteT hb h
 refine y4 [0,1,5] [] (zB (zC (zB (sem_drawN [] [] [] [] [] 8 (by kernel_rfl) (by kernel_rfl) (by kernel_rfl) (evd_run 2 (by kernel_rfl) ?_)))))
 obtain ⟨x78,hx78,h⟩:=bindS h
 refine evd_val (by kernel_rfl) (st_idx (c:=c_Rect) (l:=a) (i:=s55) (kd:=.i64) (sz:=4) (by kernel_rfl) hx78 rfl) (by kernel_rfl) (by kernel_rfl) (evd_run 3 (by kernel_rfl) ?_)
 obtain ⟨x79,hx79,h⟩:=bindS h
 refine evd_val (by kernel_rfl) (st_idx (c:=c_Rect) (l:=b) (i:=s55) (kd:=.i64) (sz:=4) (by kernel_rfl) hx79 rfl) (by kernel_rfl) (by kernel_rfl) (evd_run 1 (by kernel_rfl) (evd_end (by kernel_rfl) (evo_run 1 (by kernel_rfl) (zO fun τ hτ=>?_))))
 refine yE hτ [0,1,5,25] [] (zI (!((x78.X==x79.X)&&((x78.Y==x79.Y)&&((x78.W==x79.W)&&((x78.H==x79.H)&&true))))) (fun hb=>?_) fun hb=>?_)
 replace h:=iteT hb h
 refine z8 1 ⟨[(4,vB false)],[]⟩ fun τ hτ=>?_
 refine bl_ret (th_ret ?_)
 obtain rfl:=osi h
 exact zF hτ
 replace h:=iteF hb h
 refine zM fun τ hτ=>?_
 refine bl_normal (yE hτ [0,1,5] [] (zD (z6 3 fun τ hτ=>?_)))
 obtain rfl:=osi h
 exact zH hτ
 replace h:=iteF hb h
 refine zL 0 fun τ hτ=>?_
 refine th_exit ?_
 obtain rfl:=osi h
 exact zF hτ
 intro x
 rcases x with _ | _ <;> rfl
 intro τ hτ
 rcases x80 with j81 | j82
 refine bl_ret (th_ret ?_)
 obtain rfl:=osi h
 exact zV hτ [(4,vB false)]
 refine zQ (yE hτ [] [] (z8 1 ⟨[(4,vB true)],[]⟩ fun τ hτ=>?_))
 obtain rfl:=osi h
 exact zV hτ [(4,vB true)]
theorem W.sheetmetalref06_SameSheet_ok {a : Sheet} {b : Sheet} {r : Bool} (h : sheetmetalref06_SameSheet a b=some r) : PC G.P 82 [(.agg (c_Sheet a)),(.agg (c_Sheet b))] [] (vB r) []:=by
 refine zU G Tryz.func82 (yK [0,1] [] (y3 3 [2,3] [2,3] (zB ?_)))
 obtain ⟨j3,hj3,h⟩:=bindS h
 refine zT ⟨[(4,vB j3)],[]⟩ ?_ fun τ hτ=>?_
 replace h:=hj3
 refine zA 6 (zS (a.Name.toList==b.Name.toList) (fun b0=>⟨[(2,.ptr 2 0),(3,.ptr 3 0),(10,vB b0)],[(2,.box (c_Sheet a)),(3,.box (c_Sheet b))]⟩) (fun hb=>?_) fun hb=>?_)
 replace h:=iteT hb h
 refine zA 7 (zS (a.Material.toList==b.Material.toList) (fun b0=>⟨[(2,.ptr 2 0),(3,.ptr 3 0),(17,vB b0)],[(2,.box (c_Sheet a)),(3,.box (c_Sheet b))]⟩) (fun hb=>?_) fun hb=>?_)
 replace h:=iteT hb h
 refine zA 7 (zS (a.Gauge==b.Gauge) (fun b0=>⟨[(2,.ptr 2 0),(3,.ptr 3 0),(24,vB b0)],[(2,.box (c_Sheet a)),(3,.box (c_Sheet b))]⟩) (fun hb=>?_) fun hb=>?_)
 replace h:=iteT hb h
 refine zA 7 (zS (a.Grain==b.Grain) (fun b0=>⟨[(2,.ptr 2 0),(3,.ptr 3 0),(31,vB b0)],[(2,.box (c_Sheet a)),(3,.box (c_Sheet b))]⟩) (fun hb=>?_) fun hb=>?_)
 replace h:=iteT hb h
 refine zA 7 (zS (a.Width==b.Width) (fun b0=>⟨[(2,.ptr 2 0),(3,.ptr 3 0),(38,vB b0)],[(2,.box (c_Sheet a)),(3,.box (c_Sheet b))]⟩) (fun hb=>?_) fun hb=>?_)
 replace h:=iteT hb h
 refine zA 7 (zS (a.Height==b.Height) (fun b0=>⟨[(2,.ptr 2 0),(3,.ptr 3 0),(45,vB b0)],[(2,.box (c_Sheet a)),(3,.box (c_Sheet b))]⟩) (fun hb=>?_) fun hb=>?_)
 replace h:=iteT hb h
 refine zA 4 ?_
 obtain ⟨r4,hr4,h⟩:=bindS h
 refine evs_callP [] (by kernel_rfl) (W.sheetmetalref06_SameRects_ok hr4) (by kernel_rfl) (.inl rfl) (by kernel_rfl) (zA 2 (zS r4 (fun b0=>⟨[(2,.ptr 2 0),(3,.ptr 3 0),(52,vB b0)],[(2,.box (c_Sheet a)),(3,.box (c_Sheet b))]⟩) (fun hb=>?_) fun hb=>?_))
 replace h:=iteT hb h
 refine zA 4 ?_
 obtain ⟨r5,hr5,h⟩:=bindS h
 refine evs_callP [] (by kernel_rfl) (W.sheetmetalref06_SameRects_ok hr5) (by kernel_rfl) (.inl rfl) (by kernel_rfl) (z6 2 fun τ hτ=>?_)
 obtain rfl:=osi h
 exact zG hτ
 replace h:=iteF hb h
 refine z6 7 fun τ hτ=>?_
 obtain rfl:=osi h
 exact zG hτ
 replace h:=iteF hb h
 refine z6 14 fun τ hτ=>?_
 obtain rfl:=osi h
 exact zG hτ
 replace h:=iteF hb h
 refine z6 21 fun τ hτ=>?_
 obtain rfl:=osi h
 exact zG hτ
 replace h:=iteF hb h
 refine z6 28 fun τ hτ=>?_
 obtain rfl:=osi h
 exact zG hτ
 replace h:=iteF hb h
 refine z6 35 fun τ hτ=>?_
 obtain rfl:=osi h
 exact zG hτ
 replace h:=iteF hb h
 refine z6 42 fun τ hτ=>?_
 obtain rfl:=osi h
 exact zG hτ
 replace h:=iteF hb h
 refine z6 49 fun τ hτ=>?_
 obtain rfl:=osi h
 exact zG hτ
 refine yE hτ [4] [] (zN fun τ hτ=>?_)
 obtain rfl:=osi h
 exact zV hτ [(4,vB j3)]
theorem W.sheetmetalref06_SamePiece_ok {a : Piece} {b : Piece} {r : Bool} (h : sheetmetalref06_SamePiece a b=some r) : PC G.P 83 [(.agg (c_Piece a)),(.agg (c_Piece b))] [] (vB r) []:=by
 refine zU G Tryz.func83 (yK [0,1] [] (y3 3 [2,3] [2,3] (zB ?_)))
 obtain ⟨j4,hj4,h⟩:=bindS h
 refine zT ⟨[(4,vB j4)],[]⟩ ?_ fun τ hτ=>?_
 replace h:=hj4
 refine zA 6 (zS (a.Name.toList==b.Name.toList) (fun b0=>⟨[(2,.ptr 2 0),(3,.ptr 3 0),(10,vB b0)],[(2,.box (c_Piece a)),(3,.box (c_Piece b))]⟩) (fun hb=>?_) fun hb=>?_)
 replace h:=iteT hb h
 refine zA 7 (zS (a.Material.toList==b.Material.toList) (fun b0=>⟨[(2,.ptr 2 0),(3,.ptr 3 0),(17,vB b0)],[(2,.box (c_Piece a)),(3,.box (c_Piece b))]⟩) (fun hb=>?_) fun hb=>?_)
 replace h:=iteT hb h
 refine zA 7 (zS (a.Gauge==b.Gauge) (fun b0=>⟨[(2,.ptr 2 0),(3,.ptr 3 0),(24,vB b0)],[(2,.box (c_Piece a)),(3,.box (c_Piece b))]⟩) (fun hb=>?_) fun hb=>?_)
 replace h:=iteT hb h
 refine zA 7 (zS (a.Grain==b.Grain) (fun b0=>⟨[(2,.ptr 2 0),(3,.ptr 3 0),(31,vB b0)],[(2,.box (c_Piece a)),(3,.box (c_Piece b))]⟩) (fun hb=>?_) fun hb=>?_)
 replace h:=iteT hb h
 refine zA 4 ?_
 obtain ⟨r5,hr5,h⟩:=bindS h
 refine evs_callP [] (by kernel_rfl) (W.sheetmetalref06_SameRects_ok hr5) (by kernel_rfl) (.inl rfl) (by kernel_rfl) (zA 2 (zS r5 (fun b0=>⟨[(2,.ptr 2 0),(3,.ptr 3 0),(38,vB b0)],[(2,.box (c_Piece a)),(3,.box (c_Piece b))]⟩) (fun hb=>?_) fun hb=>?_))
 replace h:=iteT hb h
 refine zA 4 ?_
 obtain ⟨r6,hr6,h⟩:=bindS h
 refine evs_callP [] (by kernel_rfl) (W.sheetmetalref06_SameRects_ok hr6) (by kernel_rfl) (.inl rfl) (by kernel_rfl) (zA 2 (zS r6 (fun b0=>⟨[(2,.ptr 2 0),(3,.ptr 3 0),(45,vB b0)],[(2,.box (c_Piece a)),(3,.box (c_Piece b))]⟩) (fun hb=>?_) fun hb=>?_))
 replace h:=iteT hb h
 refine zA 4 ?_
 obtain ⟨r7,hr7,h⟩:=bindS h
 refine evs_callP [] (by kernel_rfl) (W.sheetmetalref06_SameRects_ok hr7) (by kernel_rfl) (.inl rfl) (by kernel_rfl) (z6 2 fun τ hτ=>?_)
 obtain rfl:=osi h
 exact zG hτ
 replace h:=iteF hb h
 refine z6 7 fun τ hτ=>?_
 obtain rfl:=osi h
 exact zG hτ
 replace h:=iteF hb h
 refine z6 14 fun τ hτ=>?_
 obtain rfl:=osi h
 exact zG hτ
 replace h:=iteF hb h
 refine z6 21 fun τ hτ=>?_
 obtain rfl:=osi h
 exact zG hτ
 replace h:=iteF hb h
 refine z6 28 fun τ hτ=>?_
 obtain rfl:=osi h
 exact zG hτ
 replace h:=iteF hb h
 refine z6 35 fun τ hτ=>?_
 obtain rfl:=osi h
 exact zG hτ
 replace h:=iteF hb h
 refine z6 42 fun τ hτ=>?_
 obtain rfl:=osi h
 exact zG hτ
 refine yE hτ [4] [] (zN fun τ hτ=>?_)
 obtain rfl:=osi h
 exact zV hτ [(4,vB j4)]
theorem W.sheetmetalref07_SameLayout_ok {a : LayoutT} {b : LayoutT} {r : Bool} (h : sheetmetalref07_SameLayout a b=some r) : PC G.P 39 [(.agg (c_LayoutT a)),(.agg (c_LayoutT b))] [] (vB r) []:=by
 refine zU G Tryz.func39 (yK [0,1] [] (y3 3 [2,3] [2,3] (zB (zB ?_))))
 obtain ⟨j5,hj5,h⟩:=bindS h
 refine zT ⟨[(2,.ptr 500000 0),(3,.ptr 500001 0),(20,vB j5)],[(500000,.box (c_LayoutT a)),(500001,.box (c_LayoutT b))]⟩ ?_ fun τ hτ=>?_
 replace h:=hj5
 refine zA 4 ?_
 obtain ⟨r6,hr6,h⟩:=bindS h
 refine evs_callP [] (by kernel_rfl) (W.sheetmetalref06_SameSheet_ok hr6) (by kernel_rfl) (.inl rfl) (by kernel_rfl) (zA 2 (zS r6 (fun b0=>⟨[(2,.ptr 2 0),(3,.ptr 3 0),(12,vB (!b0))],[(2,.box (c_LayoutT a)),(3,.box (c_LayoutT b))]⟩) (fun hb=>?_) fun hb=>?_))
 replace h:=iteT hb h
 refine zA 2 (evs_op (st_len (c:=c_Piece) (l:=a.Pieces) (x:=(s_Piece a.Pieces)) (by kernel_rfl) (by kernel_rfl)) (zA 2 (evs_op (st_len (c:=c_Piece) (l:=b.Pieces) (x:=(s_Piece b.Pieces)) (by kernel_rfl) (by kernel_rfl)) (z6 2 fun τ hτ=>?_))))
 obtain rfl:=osi h
 exact leafC hτ (subR_prep [] [(2,500000),(3,500001)] (by kernel_rfl) rfl rfl (by kernel_rfl))
 replace h:=iteF hb h
 refine z6 8 fun τ hτ=>?_
 obtain rfl:=osi h
 exact leafC hτ (subR_prep [] [(2,500000),(3,500001)] (by kernel_rfl) rfl rfl (by kernel_rfl))
 refine yE hτ [2,3,20] [500000,500001] (zI j5 (fun hb=>?_) fun hb=>?_)
 replace h:=iteT hb h
 refine z8 1 ⟨[(4,vB false)],[]⟩ fun τ hτ=>?_
 refine th_ret ?_
 obtain rfl:=osi h
 exact zV hτ [(4,vB false)]
 replace h:=iteF hb h
 refine y4 [2,3] [500000,500001] (zB (y3 1 [2,3,5] [500000,500001] (zC ?_)))
 obtain ⟨x122,hx122,h⟩:=bindS h
 refine sem_loopS (fun (s85 : Int)=>⟨[(2,.ptr 500000 0),(3,.ptr 500001 0),(5,vI s85)],[(500000,.box (c_LayoutT a)),(500001,.box (c_LayoutT b))]⟩) (fun (x122 : Unit ⊕ Unit)=>match x122 with | .inl j123=>(.ret,⟨[(4,vB false)],[]⟩) | .inr j124=>(.exit 0,⟨[],[]⟩)) (sheetmetalref07_SameLayout_l1 a b) 0 x122 (by kernel_rfl) (here (by kernel_rfl)) hx122 ?_ ?_ ?_
 intro s85 r h
 refine zB (z7 (zA 3 (evs_op (st_len (c:=c_Piece) (l:=a.Pieces) (x:=(s_Piece a.Pieces)) (by kernel_rfl) (by kernel_rfl)) (y1 1 [2,3,5,25] [500000,500001] (zI (decide (s85 < (a.Pieces.length : Int))) (fun hb=>?_) fun hb=>?_)))))
 replace h:=iteT hb h
 refine y4 [2,3,5] [500000,500001] (zB (zC (zB (sem_drawN [] [] [] [] [] 10 (by kernel_rfl) (by kernel_rfl) (by kernel_rfl) (evd_run 3 (by kernel_rfl) ?_)))))
 obtain ⟨x119,hx119,h⟩:=bindS h
 refine evd_val (by kernel_rfl) (st_idx (c:=c_Piece) (l:=a.Pieces) (i:=s85) (kd:=.i64) (sz:=7) (by kernel_rfl) hx119 rfl) (by kernel_rfl) (by kernel_rfl) (evd_run 4 (by kernel_rfl) ?_)
 obtain ⟨x120,hx120,h⟩:=bindS h
 refine evd_val (by kernel_rfl) (st_idx (c:=c_Piece) (l:=b.Pieces) (i:=s85) (kd:=.i64) (sz:=7) (by kernel_rfl) hx120 rfl) (by kernel_rfl) (by kernel_rfl) (evd_run 1 (by kernel_rfl) (evd_end (by kernel_rfl) ?_))
 obtain ⟨r121,hr121,h⟩:=bindS h
 refine evo_callP [] (by kernel_rfl) (W.sheetmetalref06_SamePiece_ok hr121) (by kernel_rfl) (.inl rfl) (by kernel_rfl) (evo_run 1 (by kernel_rfl) (zO fun τ hτ=>?_))
 refine yE hτ [2,3,5,39] [500000,500001] (zI (!r121) (fun hb=>?_) fun hb=>?_)
 replace h:=iteT hb h
 refine z8 1 ⟨[(4,vB false)],[]⟩ fun τ hτ=>?_
 refine bl_ret (th_ret ?_)
 obtain rfl:=osi h
 exact zF hτ
 replace h:=iteF hb h
 refine zM fun τ hτ=>?_
 refine bl_normal (yE hτ [2,3,5] [500000,500001] (zD (z6 3 fun τ hτ=>?_)))
 obtain rfl:=osi h
 exact zH hτ
 replace h:=iteF hb h
 refine zL 0 fun τ hτ=>?_
 refine th_exit ?_
 obtain rfl:=osi h
 exact zF hτ
 intro x
 rcases x with _ | _ <;> rfl
 intro τ hτ
 rcases x122 with j123 | j124
 refine bl_ret (th_ret ?_)
 obtain rfl:=osi h
 exact zV hτ [(4,vB false)]
 refine zQ (yE hτ [] [] (z8 1 ⟨[(4,vB true)],[]⟩ fun τ hτ=>?_))
 obtain rfl:=osi h
 exact zV hτ [(4,vB true)]
theorem W.sheetmetallaw07_CutLayouts_ok {j0 : sheetmetallaw06_Job} {p : sheetmetallaw07_Placed} {r : Bool} (h : sheetmetallaw07_CutLayouts j0 p=some r) : PC G.P 10 [(.agg (c_sheetmetallaw06_Job j0)),(.agg [(.sl (List.map c_Placement p.L)),(vI p.Sheet)])] [] (vB r) []:=by
 refine zU G Tryz.func10 (yK [0,1] [] (y3 3 [2,3] [2,3] (zB (z7 (zA 2 (evs_op (st_len (c:=c_Placement) (l:=p.L) (x:=(s_Placement p.L)) (by kernel_rfl) (by kernel_rfl)) ?_))))))
 refine y1 1 [2,3,12] [2,3] (zI (decide ((p.L.length : Int) > 40)) (fun hb=>?_) fun hb=>?_)
 replace h:=iteT hb h
 refine z7 ?_
 obtain ⟨r4,hr4,h⟩:=bindS h
 refine evs_callP [] (by kernel_rfl) (W.sheetmetallaw07_known_k_ok hr4) (by kernel_rfl) (.inl rfl) (by kernel_rfl) (y1 1 [4] [] (zN fun τ hτ=>?_))
 refine th_ret ?_
 obtain rfl:=osi h
 exact zV hτ [(4,vB r4)]
 replace h:=iteF hb h
 refine y4 [2,3] [2,3] (z7 (zA 10 ?_))
 obtain ⟨r6,hr6,h⟩:=bindS h
 refine evs_callS [] [(0,700500),(1,700501),(2,700502),(3,700503)] [] (by kernel_rfl) (W.cut_LayoutOf_ok hr6) (by kernel_rfl) (by kernel_rfl) (.inl rfl) (y1 6 [2,3,5,6] [2,3,5,700501,700502,700503] (z7 (zA 10 ?_)))
 obtain ⟨r8,hr8,h⟩:=bindS h
 refine evs_callS [] [(0,700500),(1,700504)] [] (by kernel_rfl) (W.sheetmetalref07_LayoutOf_ok hr8) (by kernel_rfl) (by kernel_rfl) (.inl rfl) (y1 6 [5,6,7,8] [5,7,700501,700502,700503,700504] (zB ?_))
 obtain ⟨j13,hj13,h⟩:=bindS h
 refine zT ⟨[(4,vB j13)],[]⟩ ?_ fun τ hτ=>?_
 replace h:=hj13
 refine zA 4 (zS (r6.2.1==r8.2.1) (fun b0=>⟨[(5,.ptr 5 0),(6,vI r6.2.1),(7,.ptr 7 0),(45,vB b0)],[(5,.box [(vS r6.1.Sheet.Name),(vS r6.1.Sheet.Material),(vI r6.1.Sheet.Gauge),(vI r6.1.Sheet.Grain),(vI r6.1.Sheet.Width),(vI r6.1.Sheet.Height),(ro 700501 98),(ro 700502 98),(ro 700503 78)]),(7,.box [(vS r8.1.Sheet.Name),(vS r8.1.Sheet.Material),(vI r8.1.Sheet.Gauge),(vI r8.1.Sheet.Grain),(vI r8.1.Sheet.Width),(vI r8.1.Sheet.Height),(s_Rect r8.1.Sheet.Clamps),(s_Rect r8.1.Sheet.Used),(ro 700504 78)]),(700501,w_Rect 98 r6.1.Sheet.Clamps),(700502,w_Rect 98 r6.1.Sheet.Used),(700503,w_Piece 78 r6.1.Pieces),(700504,w_Piece 78 r8.1.Pieces)]⟩) (fun hb=>?_) fun hb=>?_)
 replace h:=iteT hb h
 refine zA 2 ?_
 obtain ⟨r14,hr14,h⟩:=bindS h
 refine evs_callP [700501,700502,700503,700504] (by kernel_rfl) (W.sheetmetalref07_SameLayout_ok hr14) (by kernel_rfl) (.inr rfl) (by kernel_rfl) (zA 2 (zS r14 (fun b0=>⟨[(5,.ptr 5 0),(6,vI r6.2.1),(50,vB b0)],[(5,.box [(vS r6.1.Sheet.Name),(vS r6.1.Sheet.Material),(vI r6.1.Sheet.Gauge),(vI r6.1.Sheet.Grain),(vI r6.1.Sheet.Width),(vI r6.1.Sheet.Height),(ro 700501 98),(ro 700502 98),(ro 700503 78)]),(700501,w_Rect 98 r6.1.Sheet.Clamps),(700502,w_Rect 98 r6.1.Sheet.Used),(700503,w_Piece 78 r6.1.Pieces)]⟩) (fun hb=>?_) fun hb=>?_))
 replace h:=iteT hb h
 refine zA 3 (zS (r6.2.1 != 0) (fun b0=>⟨[(5,.ptr 5 0),(50,vB true),(53,vB b0)],[(5,.box [(vS r6.1.Sheet.Name),(vS r6.1.Sheet.Material),(vI r6.1.Sheet.Gauge),(vI r6.1.Sheet.Grain),(vI r6.1.Sheet.Width),(vI r6.1.Sheet.Height),(ro 700501 98),(ro 700502 98),(ro 700503 78)]),(700501,w_Rect 98 r6.1.Sheet.Clamps),(700502,w_Rect 98 r6.1.Sheet.Used),(700503,w_Piece 78 r6.1.Pieces)]⟩) (fun hb=>?_) fun hb=>?_)
 replace h:=iteT hb h
 refine zA 6 ?_
 obtain ⟨r15,hr15,h⟩:=bindS h
 refine evs_callP [] (by kernel_rfl) (W.sheetmetallaw07_known_k_ok hr15) (by kernel_rfl) (.inl rfl) (by kernel_rfl) (z6 2 fun τ hτ=>?_)
 obtain rfl:=osi h
 exact zG hτ
 replace h:=iteF hb h
 refine zA 1 ?_
 obtain ⟨r16,hr16,h⟩:=bindS h
 refine evs_callP [700501,700502,700503] (by kernel_rfl) (W.cut_Validate_ok hr16) (by kernel_rfl) (.inr rfl) (by kernel_rfl) (zA 4 (zS (r16==0) (fun b0=>⟨[(59,vB b0)],[]⟩) (fun hb=>?_) fun hb=>?_))
 replace h:=iteT hb h
 obtain ⟨r17,hr17,h⟩:=bindS h
 refine evs_callP [] (by kernel_rfl) (W.sheetmetallaw07_known_k_ok hr17) (by kernel_rfl) (.inl rfl) (by kernel_rfl) (z6 2 fun τ hτ=>?_)
 obtain rfl:=osi h
 exact zG hτ
 replace h:=iteF hb h
 refine z6 3 fun τ hτ=>?_
 obtain rfl:=osi h
 exact zG hτ
 replace h:=iteF hb h
 refine z6 12 fun τ hτ=>?_
 obtain rfl:=osi h
 exact zG hτ
 replace h:=iteF hb h
 refine z6 17 fun τ hτ=>?_
 obtain rfl:=osi h
 exact zG hτ
 refine yE hτ [4] [] (zN fun τ hτ=>?_)
 obtain rfl:=osi h
 exact zV hτ [(4,vB j13)]
end Go.Proofs.YtgfjbgoehhnaeaaGreat
