/- Each Go function does what its model says; written by a program out of the translation. -/
import Derived.Test.YtgfjbgoehhnaeaaGreatWL1
import Derived.Test.YtgfjbgoehhnaeaaGreatCzML
set_option linter.unusedVariables false
set_option linter.unusedSimpArgs false
set_option linter.unusedSectionVars false
namespace Go.Proofs.YtgfjbgoehhnaeaaGreat
open Go Go.VI Go.SM Go.Proofs
set_option maxRecDepth 100000
set_option maxHeartbeats 4000000
theorem W.cut_edges_k_ok {l : LayoutT} {r : (List EdgeT)} (h : cut_edges_k l=some r) : PC G.P 49 [(.agg (c_LayoutT l))] [] (.row (.top 0) 74) [(0,.row 74 [] (List.map c_EdgeT r))]:=by
 refine zU G Tryz.func49 (yK [0] [] (y3 2 [1] [1] (y3 2 [1,3,4] [1,3,4] (zB (z7 (zA 2 ?_))))))
 refine evs_op (st_len (c:=c_Piece) (l:=l.Pieces) (x:=(s_Piece l.Pieces)) (by kernel_rfl) (by kernel_rfl)) (y1 1 [1,3,4,15,16,17] [1,3,4] (zC ?_))
 obtain ⟨x498,hx498,h⟩:=bindS h
 refine sem_loopS (fun (s333 : Int×(List Int)×(List Int))=>⟨[(1,.ptr 500000 0),(3,ro 500001 3),(4,ro 500002 3),(15,s_Piece l.Pieces),(16,vI (l.Pieces.length : Int)),(17,vI s333.1)],[(500000,.box (c_LayoutT l)),(500001,wI 3 s333.2.1),(500002,wI 3 s333.2.2)]⟩) (fun (x498 : (List Int)×(List Int))=>(.exit 0,⟨[(1,.ptr 500000 0),(3,ro 500001 3),(4,ro 500002 3)],[(500000,.box (c_LayoutT l)),(500001,wI 3 x498.1),(500002,wI 3 x498.2)]⟩)) (cut_edges_k_l2 l) (0,[],[]) x498 (by kernel_rfl) (subR_prep [] [(1,500000),(3,500001),(4,500002)] (by kernel_rfl) rfl rfl (by kernel_rfl)) (iter_loop hx498) ?_ ?_ ?_
 intro s333 r h
 refine y3 1 [1,3,4,15,16,17,18] [500000,500001,500002] (zB (zI (decide (s333.1 < (l.Pieces.length : Int))) (fun hb=>?_) fun hb=>?_))
 replace h:=iteT hb h
 refine y4 [1,3,4,15,16,17] [500000,500001,500002] (zB (zC (z7 ?_)))
 obtain ⟨x458,hx458,h⟩:=bindS h
 refine evs_op (st_idx (c:=c_Piece) (l:=l.Pieces) (i:=s333.1) (kd:=.i64) (sz:=7) (by kernel_rfl) hx458 rfl) (y1 3 [1,3,4,6,15,16,17] [6,500000,500001,500002] (z7 (zA 2 (evs_op (st_len (c:=c_Rect) (l:=x458.Rects) (x:=(s_Rect x458.Rects)) (by kernel_rfl) (by kernel_rfl)) (y1 1 [1,3,4,15,16,17,22,23,24] [500000,500001,500002] (zC ?_))))))
 obtain ⟨x497,hx497,h⟩:=bindS h
 refine sem_loopS (fun (s472 : Int×(List Int)×(List Int))=>⟨[(1,.ptr 500000 0),(3,ro 500001 3),(4,ro 500002 3),(15,s_Piece l.Pieces),(16,vI (l.Pieces.length : Int)),(17,vI s333.1),(22,s_Rect x458.Rects),(23,vI (x458.Rects.length : Int)),(24,vI s472.1)],[(500000,.box (c_LayoutT l)),(500001,wI 3 s472.2.1),(500002,wI 3 s472.2.2)]⟩) (fun (x497 : (List Int)×(List Int))=>(.exit 2,⟨[(1,.ptr 500000 0),(3,ro 500001 3),(4,ro 500002 3),(15,s_Piece l.Pieces),(16,vI (l.Pieces.length : Int)),(17,vI s333.1)],[(500000,.box (c_LayoutT l)),(500001,wI 3 x497.1),(500002,wI 3 x497.2)]⟩)) (cut_edges_k_l1 x458) (0,s333.2.1,s333.2.2) x497 (by kernel_rfl) (here (by kernel_rfl)) (iter_loop hx497) ?_ ?_ ?_
 intro s472 r h
 refine y3 1 [1,3,4,15,16,17,22,23,24,25] [500000,500001,500002] (zB (zI (decide (s472.1 < (x458.Rects.length : Int))) (fun hb=>?_) fun hb=>?_))
 replace h:=iteT hb h
 refine y4 [1,3,4,15,16,17,22,23,24] [500000,500001,500002] (zB (zC (z7 ?_)))
 obtain ⟨x492,hx492,h⟩:=bindS h
 refine evs_op (st_idx (c:=c_Rect) (l:=x458.Rects) (i:=s472.1) (kd:=.i64) (sz:=4) (by kernel_rfl) hx492 rfl) (y1 3 [1,3,4,8,15,16,17,22,23,24] [8,500000,500001,500002] (z7 (zA 9 ?_)))
 obtain ⟨l494,hl494,h⟩:=bindS h
 refine evs_op (st_app (c:=cI) (l:=s472.2.1) (l2:=[x492.X,(iadd x492.X x492.W)]) (x:=(sI [x492.X,(iadd x492.X x492.W)])) (g:=500001) (e:=3) (sz:=1) (d:=37) (by kernel_rfl) (by kernel_rfl) (by kernel_rfl) (by kernel_rfl) (fun _=>rfl) rfl hl494) (y1 1 [1,3,4,8,15,16,17,22,23,24] [8,500000,500001,500002] (zD (zA 9 ?_)))
 obtain ⟨l496,hl496,h⟩:=bindS h
 refine evs_op (st_app (c:=cI) (l:=s472.2.2) (l2:=[x492.Y,(iadd x492.Y x492.H)]) (x:=(sI [x492.Y,(iadd x492.Y x492.H)])) (g:=500002) (e:=3) (sz:=1) (d:=47) (by kernel_rfl) (by kernel_rfl) (by kernel_rfl) (by kernel_rfl) (fun _=>rfl) rfl hl496) (z6 1 fun τ hτ=>?_)
 refine bl_normal (yE hτ [1,3,4,15,16,17,22,23,24] [500000,500001,500002] (zD (z6 2 fun τ hτ=>?_)))
 obtain rfl:=osi h
 exact zH hτ
 replace h:=iteF hb h
 refine zL 2 fun τ hτ=>?_
 refine th_exit ?_
 obtain rfl:=osi h
 exact zF hτ
 intro x
 rfl
 intro τ hτ
 refine zQ (bl_normal (yE hτ [1,3,4,15,16,17] [500000,500001,500002] (zD (z6 2 fun τ hτ=>?_))))
 obtain rfl:=osi h
 exact zH hτ
 replace h:=iteF hb h
 refine zL 0 fun τ hτ=>?_
 refine th_exit ?_
 obtain rfl:=osi h
 exact zF hτ
 intro x
 rfl
 intro τ hτ
 refine zQ (yE hτ [1,3,4] [500000,500001,500002] (z7 (zA 1 ?_)))
 obtain ⟨r501,hr501,h⟩:=bindS h
 refine evs_callS [(300000,500001)] [(0,700050)] [] (by kernel_rfl) (W.cut_set_k_ok hr501) (by kernel_rfl) (by kernel_rfl) (.inl rfl) (zA 1 ?_)
 obtain ⟨r502,hr502,h⟩:=bindS h
 refine evs_callS [(300000,500002)] [(0,700150)] [] (by kernel_rfl) (W.cut_set_k_ok hr502) (by kernel_rfl) (by kernel_rfl) (.inl rfl) (y1 2 [1,3,4] [500000,700050,700150] (y3 1 [1,3,4,9] [9,500000,700050,700150] (zB (z7 (zA 1 (evs_op (st_len (c:=cI) (l:=r502) (x:=(ro 700150 3)) (by kernel_rfl) (by kernel_rfl)) ?_))))))
 refine y1 1 [1,3,4,9,54,55,56] [9,500000,700050,700150] (zC ?_)
 obtain ⟨x580,hx580,h⟩:=bindS h
 refine sem_loopS (fun (s555 : Int×(List EdgeT))=>⟨[(1,.ptr 500000 0),(3,ro 500001 3),(4,ro 500002 3),(9,ro 500003 74),(54,ro 500002 3),(55,vI (r502.length : Int)),(56,vI s555.1)],[(500000,.box (c_LayoutT l)),(500001,wI 3 r501),(500002,wI 3 r502),(500003,w_EdgeT 74 s555.2)]⟩) (fun (x580 : (List EdgeT))=>(.exit 4,⟨[(1,.ptr 500000 0),(3,ro 500001 3),(4,ro 500002 3),(9,ro 500003 74)],[(500000,.box (c_LayoutT l)),(500001,wI 3 r501),(500002,wI 3 r502),(500003,w_EdgeT 74 x580)]⟩)) (cut_edges_k_l3 l r501 r502) (0,[]) x580 (by kernel_rfl) (subR_prep [] [(9,500003),(500000,500000),(700050,500001),(700150,500002)] (by kernel_rfl) rfl rfl (by kernel_rfl)) (iter_loop hx580) ?_ ?_ ?_
 intro s555 r h
 refine y3 1 [1,3,4,9,54,55,56,57] [500000,500001,500002,500003] (zB (zI (decide (s555.1 < (r502.length : Int))) (fun hb=>?_) fun hb=>?_))
 replace h:=iteT hb h
 refine y4 [1,3,4,9,54,55,56] [500000,500001,500002,500003] (zB (zC (z7 ?_)))
 obtain ⟨x575,hx575,h⟩:=bindS h
 refine evs_op (st_idxO (c:=cI) (l:=r502) (i:=s555.1) (kd:=.i64) (kk:=(.top 500002)) (e:=3) (sz:=1) (by kernel_rfl) (by kernel_rfl) hx575 rfl) (evs_op (st_ldO (c:=cI) (l:=r502) (i:=(Int.toNat s555.1)) (v:=(vI x575)) (agg:=false) (sz:=1) (kk:=(.top 500002)) (e:=3) (off:=0) (J:=[]) (by kernel_rfl) (by kernel_rfl) (by kernel_rfl) ((idxS hx575).2) (by kernel_rfl)) (y1 2 [1,3,4,9,11,54,55,56] [11,500000,500001,500002,500003] (zD (zA 4 ?_))))
 obtain ⟨r578,hr578,h⟩:=bindS h
 refine evs_callS [] [(0,700200)] [500001,500000,11] (by kernel_rfl) (W.cut_along__cut_edges_1__cut_edges_2_k_ok hr578) (by kernel_rfl) (by kernel_rfl) (.inr ⟨rfl,fun _ _=>ind_cons (ind_row fun _=>rfl) (fun _ _=>ind_nil)⟩) ?_
 obtain ⟨l579,hl579,h⟩:=bindS h
 refine evs_op (st_app (c:=c_EdgeT) (l:=s555.2) (l2:=r578) (x:=(ro 700200 74)) (g:=500003) (e:=74) (sz:=6) (d:=65) (by kernel_rfl) (by kernel_rfl) (by kernel_rfl) (by kernel_rfl) (fun _=>rfl) rfl hl579) (z6 1 fun τ hτ=>?_)
 refine bl_normal (yE hτ [1,3,4,9,54,55,56] [500000,500001,500002,500003] (zD (z6 2 fun τ hτ=>?_)))
 obtain rfl:=osi h
 exact zH hτ
 replace h:=iteF hb h
 refine zL 4 fun τ hτ=>?_
 refine th_exit ?_
 obtain rfl:=osi h
 exact zF hτ
 intro x
 rfl
 intro τ hτ
 refine zQ (yE hτ [1,3,4,9] [500000,500001,500002,500003] (zB (z7 (zA 1 (evs_op (st_len (c:=cI) (l:=r501) (x:=(ro 500001 3)) (by kernel_rfl) (by kernel_rfl)) (y1 1 [1,4,9,67,68,69] [500000,500001,500002,500003] ?_))))))
 refine zC ?_
 obtain ⟨x658,hx658,h⟩:=bindS h
 refine sem_loopS (fun (s633 : Int×(List EdgeT))=>⟨[(1,.ptr 500000 0),(4,ro 500001 3),(9,ro 500002 74),(67,ro 500003 3),(68,vI (r501.length : Int)),(69,vI s633.1)],[(500000,.box (c_LayoutT l)),(500001,wI 3 r502),(500002,w_EdgeT 74 s633.2),(500003,wI 3 r501)]⟩) (fun (x658 : (List EdgeT))=>(.exit 6,⟨[(9,ro 500000 74)],[(500000,w_EdgeT 74 x658)]⟩)) (cut_edges_k_l4 l r501 r502) (0,x580) x658 (by kernel_rfl) (subR_prep [] [(500000,500000),(500001,500003),(500002,500001),(500003,500002)] (by kernel_rfl) rfl rfl (by kernel_rfl)) (iter_loop hx658) ?_ ?_ ?_
 intro s633 r h
 refine y3 1 [1,4,9,67,68,69,70] [500000,500001,500002,500003] (zB (zI (decide (s633.1 < (r501.length : Int))) (fun hb=>?_) fun hb=>?_))
 replace h:=iteT hb h
 refine y4 [1,4,9,67,68,69] [500000,500001,500002,500003] (zB (zC (z7 ?_)))
 obtain ⟨x653,hx653,h⟩:=bindS h
 refine evs_op (st_idxO (c:=cI) (l:=r501) (i:=s633.1) (kd:=.i64) (kk:=(.top 500003)) (e:=3) (sz:=1) (by kernel_rfl) (by kernel_rfl) hx653 rfl) (evs_op (st_ldO (c:=cI) (l:=r501) (i:=(Int.toNat s633.1)) (v:=(vI x653)) (agg:=false) (sz:=1) (kk:=(.top 500003)) (e:=3) (off:=0) (J:=[]) (by kernel_rfl) (by kernel_rfl) (by kernel_rfl) ((idxS hx653).2) (by kernel_rfl)) (y1 2 [1,4,9,13,67,68,69] [13,500000,500001,500002,500003] (zD (zA 4 ?_))))
 obtain ⟨r656,hr656,h⟩:=bindS h
 refine evs_callS [] [(0,700200)] [500001,500000,13] (by kernel_rfl) (W.cut_along__cut_edges_3__cut_edges_4_k_ok hr656) (by kernel_rfl) (by kernel_rfl) (.inr ⟨rfl,fun _ _=>ind_cons (ind_row fun _=>rfl) (fun _ _=>ind_nil)⟩) ?_
 obtain ⟨l657,hl657,h⟩:=bindS h
 refine evs_op (st_app (c:=c_EdgeT) (l:=s633.2) (l2:=r656) (x:=(ro 700200 74)) (g:=500002) (e:=74) (sz:=6) (d:=78) (by kernel_rfl) (by kernel_rfl) (by kernel_rfl) (by kernel_rfl) (fun _=>rfl) rfl hl657) (z6 1 fun τ hτ=>?_)
 refine bl_normal (yE hτ [1,4,9,67,68,69] [500000,500001,500002,500003] (zD (z6 2 fun τ hτ=>?_)))
 obtain rfl:=osi h
 exact zH hτ
 replace h:=iteF hb h
 refine zL 6 fun τ hτ=>?_
 refine th_exit ?_
 obtain rfl:=osi h
 exact lk_outS hτ rfl (subR_prep [] [(500002,500000)] (by kernel_rfl) rfl rfl (by kernel_rfl))
 intro x
 rfl
 intro τ hτ
 refine zQ (yE hτ [9] [500000] (z8 2 ⟨[(2,ro 500000 74)],[(500000,w_EdgeT 74 x658)]⟩ fun τ hτ=>?_))
 obtain rfl:=osi h
 exact rk_ret hτ [(2,ro 0 74)] (subR_prep [] [(500000,0)] (by kernel_rfl) rfl rfl (by kernel_rfl)) (by kernel_rfl)
theorem W.cut_Edges_k_ok {l : LayoutT} {r : (List EdgeT)×Int} (h : cut_Edges_k l=some r) : PC G.P 14 [(.agg (c_LayoutT l))] [] (.tup [(.row (.top 0) 74),(vI r.2)]) [(0,.row 74 [] (List.map c_EdgeT r.1))]:=by
 refine zU G Tryz.func14 (yK [0] [] (y3 3 [1] [1] (zB (z7 (zA 1 ?_)))))
 obtain ⟨r4,hr4,h⟩:=bindS h
 refine evs_callP [] (by kernel_rfl) (W.cut_Validate_k_ok hr4) (by kernel_rfl) (.inl rfl) (by kernel_rfl) (y1 1 [1,4] [1] (y3 2 [1,4,8] [1] (zI (r4 != 0) (fun hb=>?_) fun hb=>?_)))
 replace h:=iteT hb h
 exact nomatch h
 replace h:=iteF hb h
 refine y4 [1] [1] (z7 (zA 1 ?_))
 obtain ⟨r6,hr6,h⟩:=bindS h
 refine evs_callS [] [(0,700050)] [] (by kernel_rfl) (W.cut_edges_k_ok hr6) (by kernel_rfl) (by kernel_rfl) (.inl rfl) (y1 2 [2,3] [700050] (zN fun τ hτ=>?_))
 obtain rfl:=osi h
 exact rk_ret hτ [(2,ro 0 74),(3,vI 0)] (subR_prep [] [(700050,0)] (by kernel_rfl) rfl rfl (by kernel_rfl)) (by kernel_rfl)
theorem W.cut_start_k_ok {l : LayoutT} {edges : Int} {r : cut_State} (h : cut_start_k l edges=some r) : PC G.P 51 [(.agg (c_LayoutT l)),(vI edges)] [] (.agg [(.row (.top 1) 4),(.row (.top 2) 36),(.row (.top 3) 4),(.row (.top 4) 3),(.row (.top 5) 4)]) [(0,.box [(.row (.top 1) 4),(.row (.top 2) 36),(.row (.top 3) 4),(.row (.top 4) 3),(.row (.top 5) 4)]),(1,.row 4 [] (List.map cB r.Cut)),(2,.row 36 [] (List.map (cS cB) r.Holes)),(3,.row 4 [] (List.map cB r.Done)),(4,.row 3 [] (List.map cI r.Joints)),(5,.row 4 [] (List.map cB r.Fallen))]:=by
 refine zU G Tryz.func51 (yK [0,1] [] (y3 2 [1,2,4] [2,4] (z7 (zA 2 (evs_op (st_len (c:=c_Piece) (l:=l.Pieces) (x:=(s_Piece l.Pieces)) (by kernel_rfl) (by kernel_rfl)) (y1 1 [1,2,4,5] [2,4] ?_))))))
 refine zB (sem_draw [(1,[13]),(3,[15]),(5,[17]),(7,[19]),(9,[6])] [(1,[13]),(3,[15]),(5,[17]),(7,[19]),(9,[6])] [] [(0,[15,17,19,6]),(1,[15,17,19,6]),(2,[13,17,19,6]),(3,[13,17,19,6]),(4,[13,15,19,6]),(5,[13,15,19,6]),(6,[13,15,17,6]),(7,[13,15,17,6]),(8,[6]),(9,[13,15,17,19])] [(0,[13,15,17,19,6]),(1,[15,17,19,6]),(2,[13,15,17,19,6]),(3,[13,17,19,6]),(4,[13,15,17,19,6]),(5,[13,15,19,6]),(6,[13,15,17,19,6]),(7,[13,15,17,6]),(8,[6]),(9,[13,15,17,19])] 10 (by kernel_rfl) (by kernel_rfl) [6,19,17,15,13] (by kernel_rfl) (by kernel_rfl) (evd_run 1 (by kernel_rfl) ?_))
 obtain ⟨l9,hl9,h⟩:=bindS h
 refine evd_new (by kernel_rfl) (st_mk (c:=cB) (z:=false) (n:=edges) (e:=4) (d:=13) (zs:=[(vB false)]) (k1:=.i64) (k2:=.i64) (by kernel_rfl) rfl hl9) (by kernel_rfl) (by kernel_rfl) (by kernel_rfl) (by kernel_rfl) (evd_run 1 (by kernel_rfl) ?_)
 obtain ⟨l10,hl10,h⟩:=bindS h
 refine evd_new (by kernel_rfl) (st_mk (c:=cB) (z:=false) (n:=(l.Pieces.length : Int)) (e:=4) (d:=15) (zs:=[(vB false)]) (k1:=.i64) (k2:=.i64) (by kernel_rfl) rfl hl10) (by kernel_rfl) (by kernel_rfl) (by kernel_rfl) (by kernel_rfl) (evd_run 1 (by kernel_rfl) ?_)
 obtain ⟨l11,hl11,h⟩:=bindS h
 refine evd_new (by kernel_rfl) (st_mk (c:=cI) (z:=0) (n:=(l.Pieces.length : Int)) (e:=3) (d:=17) (zs:=[(vI 0)]) (k1:=.i64) (k2:=.i64) (by kernel_rfl) rfl hl11) (by kernel_rfl) (by kernel_rfl) (by kernel_rfl) (by kernel_rfl) (evd_run 1 (by kernel_rfl) ?_)
 obtain ⟨l12,hl12,h⟩:=bindS h
 refine evd_new (by kernel_rfl) (st_mk (c:=cB) (z:=false) (n:=(l.Pieces.length : Int)) (e:=4) (d:=19) (zs:=[(vB false)]) (k1:=.i64) (k2:=.i64) (by kernel_rfl) rfl hl12) (by kernel_rfl) (by kernel_rfl) (by kernel_rfl) (by kernel_rfl) (evd_run 1 (by kernel_rfl) (evd_new (g:=6) (ob:=.box [.nl,.nl,.nl,.nl,.nl]) (v:=(.ptr 6 0)) (by kernel_rfl) (by kernel_rfl) (by kernel_rfl) (by kernel_rfl) (by kernel_rfl) (by kernel_rfl) (evd_end (by kernel_rfl) (evo_run 1 (by kernel_rfl) (zO fun τ hτ=>?_)))))
 refine yE hτ [2,4,6] [2,4,6,13,15,17,19] (zB (z7 (zA 2 (evs_op (st_len (c:=c_Piece) (l:=l.Pieces) (x:=(s_Piece l.Pieces)) (by kernel_rfl) (by kernel_rfl)) (y1 1 [4,6,22,23,24] [4,6,13,15,17,19] (zC ?_))))))
 obtain ⟨x114,hx114,h⟩:=bindS h
 refine sem_loopS (fun (s81 : Int×(List (List Bool)))=>⟨[(4,.ptr 500000 0),(6,.ptr 500001 0),(22,s_Piece l.Pieces),(23,vI (l.Pieces.length : Int)),(24,vI s81.1)],[(500000,.box [.nl,.nl,.nl,.nl,.nl]),(500001,.box [(ro 500002 4),(ro 500003 36),(ro 500004 4),(ro 500005 3),(ro 500006 4)]),(500002,wB 4 l9),(500003,.row 36 [] (List.map (cS cB) s81.2)),(500004,wB 4 l10),(500005,wI 3 l11),(500006,wB 4 l12)]⟩) (fun (x114 : (List (List Bool)))=>(.exit 0,⟨[(4,.ptr 500000 0),(6,.ptr 500001 0)],[(500000,.box [.nl,.nl,.nl,.nl,.nl]),(500001,.box [(ro 500002 4),(ro 500003 36),(ro 500004 4),(ro 500005 3),(ro 500006 4)]),(500002,wB 4 l9),(500003,.row 36 [] (List.map (cS cB) x114)),(500004,wB 4 l10),(500005,wI 3 l11),(500006,wB 4 l12)]⟩)) (cut_start_k_l1 l) (0,[]) x114 (by kernel_rfl) (subR_prep [.row (.box 6 1) 800000 36 []] [(4,500000),(6,500001),(13,500002),(15,500004),(17,500005),(19,500006),(800000,500003)] (by kernel_rfl) rfl rfl (by kernel_rfl)) (iter_loop hx114) ?_ ?_ ?_
 intro s81 r h
 refine y3 1 [4,6,22,23,24,25] [500000,500001,500002,500003,500004,500005,500006] (zB (zI (decide (s81.1 < (l.Pieces.length : Int))) (fun hb=>?_) fun hb=>?_))
 replace h:=iteT hb h
 refine y4 [4,6,22,23,24] [500000,500001,500002,500003,500004,500005,500006] (zB (zC (z7 ?_)))
 obtain ⟨x107,hx107,h⟩:=bindS h
 refine evs_op (st_idx (c:=c_Piece) (l:=l.Pieces) (i:=s81.1) (kd:=.i64) (sz:=7) (by kernel_rfl) hx107 rfl) (y1 3 [4,6,8,22,23,24] [8,500000,500001,500002,500003,500004,500005,500006] (sem_draw [] [(5,[33])] [] [] [(0,[33]),(1,[33]),(2,[33]),(3,[33]),(4,[33])] 7 (by kernel_rfl) (by kernel_rfl) [33] (by kernel_rfl) (by kernel_rfl) (evd_run 4 (by kernel_rfl) (evd_val (by kernel_rfl) (st_len (c:=c_Rect) (l:=x107.Cuts) (x:=(s_Rect x107.Cuts)) (by kernel_rfl) (by kernel_rfl)) (by kernel_rfl) (by kernel_rfl) ?_))))
 obtain ⟨l112,hl112,h⟩:=bindS h
 refine evd_mkF (d:=33) (e:=4) (es:=(List.map cB l112)) (by kernel_rfl) (st_mk (c:=cB) (z:=false) (n:=(x107.Cuts.length : Int)) (e:=4) (d:=33) (zs:=[(vB false)]) (k1:=.i64) (k2:=.i64) (by kernel_rfl) rfl hl112) (by kernel_rfl) (by kernel_rfl) (by kernel_rfl) (by kernel_rfl) (evd_run 1 (by kernel_rfl) (evd_end (by kernel_rfl) ?_))
 obtain ⟨l113,hl113,h⟩:=bindS h
 refine evo_op (st_app (c:=(cS cB)) (l:=s81.2) (l2:=[l112]) (x:=(.sl (List.map (cS cB) [l112]))) (g:=500003) (e:=36) (sz:=1) (d:=35) (by kernel_rfl) (by kernel_rfl) (by kernel_rfl) (by kernel_rfl) (fun _=>rfl) rfl hl113) (evo_run 2 (by kernel_rfl) (zO fun τ hτ=>?_))
 refine bl_normal (yE hτ [4,6,22,23,24] [500000,500001,500002,500003,500004,500005,500006] (zD (z6 2 fun τ hτ=>?_)))
 obtain rfl:=osi h
 exact zH hτ
 replace h:=iteF hb h
 refine zL 0 fun τ hτ=>?_
 refine th_exit ?_
 obtain rfl:=osi h
 exact zF hτ
 intro x
 rfl
 intro τ hτ
 refine zQ (yE hτ [4,6] [500000,500001,500002,500003,500004,500005,500006] (z8 2 ⟨[(4,.ptr 500000 0)],[(500000,.box [(ro 500002 4),(ro 500003 36),(ro 500004 4),(ro 500005 3),(ro 500006 4)]),(500002,wB 4 l9),(500003,.row 36 [] (List.map (cS cB) x114)),(500004,wB 4 l10),(500005,wI 3 l11),(500006,wB 4 l12)]⟩ fun τ hτ=>?_))
 obtain rfl:=osi h
 exact rk_ret hτ [(4,.ptr 0 0)] (subR_prep [] [(500000,0),(500002,1),(500003,2),(500004,3),(500005,4),(500006,5)] (by kernel_rfl) rfl rfl (by kernel_rfl)) (by kernel_rfl)
theorem W.cut_State_fits_k_ok {st : cut_State} {l : LayoutT} {edges : Int} {r : Bool} (h : cut_State_fits_k st l edges=some r) : PC G.P 114 [(.agg (c_cut_State st)),(.agg (c_LayoutT l)),(vI edges)] [] (vB r) []:=by
 refine zU G Tryz.func114 (yK [0,1,2] [] (y3 3 [2,3,4] [3,4] (z7 (zA 2 (evs_op (st_len (c:=c_Piece) (l:=l.Pieces) (x:=(s_Piece l.Pieces)) (by kernel_rfl) (by kernel_rfl)) (y1 1 [2,3,4,7] [3,4] ?_))))))
 refine zB (z7 (zA 2 (evs_op (st_len (c:=cB) (l:=st.Cut) (x:=(sB st.Cut)) (by kernel_rfl) (by kernel_rfl)) (zA 3 (zS ((st.Cut.length : Int) != edges) (fun b0=>⟨[(3,.ptr 3 0),(4,.ptr 4 0),(7,vI (l.Pieces.length : Int)),(18,vB b0)],[(3,.box (c_cut_State st)),(4,.box (c_LayoutT l))]⟩) (fun hb=>?_) fun hb=>?_)))))
 replace h:=iteT hb h
 exact nomatch h
 replace h:=iteF hb h
 refine zA 2 (evs_op (st_len (c:=(cS cB)) (l:=st.Holes) (x:=(.sl (List.map (cS cB) st.Holes))) (by kernel_rfl) (by kernel_rfl)) (zA 4 (zS ((st.Holes.length : Int) != (l.Pieces.length : Int)) (fun b0=>⟨[(3,.ptr 3 0),(4,.ptr 4 0),(7,vI (l.Pieces.length : Int)),(25,vB b0)],[(3,.box (c_cut_State st)),(4,.box (c_LayoutT l))]⟩) (fun hb=>?_) fun hb=>?_)))
 replace h:=iteT hb h
 exact nomatch h
 replace h:=iteF hb h
 refine zA 2 (evs_op (st_len (c:=cB) (l:=st.Done) (x:=(sB st.Done)) (by kernel_rfl) (by kernel_rfl)) (zA 4 (zS ((st.Done.length : Int) != (l.Pieces.length : Int)) (fun b0=>⟨[(3,.ptr 3 0),(4,.ptr 4 0),(7,vI (l.Pieces.length : Int)),(32,vB b0)],[(3,.box (c_cut_State st)),(4,.box (c_LayoutT l))]⟩) (fun hb=>?_) fun hb=>?_)))
 replace h:=iteT hb h
 exact nomatch h
 replace h:=iteF hb h
 refine zA 2 (evs_op (st_len (c:=cI) (l:=st.Joints) (x:=(sI st.Joints)) (by kernel_rfl) (by kernel_rfl)) (zA 4 (zS ((st.Joints.length : Int) != (l.Pieces.length : Int)) (fun b0=>⟨[(3,.ptr 3 0),(4,.ptr 4 0),(7,vI (l.Pieces.length : Int)),(39,vB b0)],[(3,.box (c_cut_State st)),(4,.box (c_LayoutT l))]⟩) (fun hb=>?_) fun hb=>?_)))
 replace h:=iteT hb h
 exact nomatch h
 replace h:=iteF hb h
 refine zA 2 (evs_op (st_len (c:=cB) (l:=st.Fallen) (x:=(sB st.Fallen)) (by kernel_rfl) (by kernel_rfl)) (y1 3 [3,4,45] [3,4] (zI ((st.Fallen.length : Int) != (l.Pieces.length : Int)) (fun hb=>?_) fun hb=>?_)))
 replace h:=iteT hb h
 exact nomatch h
 replace h:=iteF hb h
 refine y4 [3,4] [3,4] (zB (z7 (zA 2 (evs_op (st_len (c:=c_Piece) (l:=l.Pieces) (x:=(s_Piece l.Pieces)) (by kernel_rfl) (by kernel_rfl)) (y1 1 [3,47,48,49] [3] (zC ?_))))))
 obtain ⟨x66,hx66,h⟩:=bindS h
 refine sem_loopS (fun (s45 : Int)=>⟨[(3,.ptr 500000 0),(47,s_Piece l.Pieces),(48,vI (l.Pieces.length : Int)),(49,vI s45)],[(500000,.box (c_cut_State st))]⟩) (fun (x66 : Unit)=>(.exit 0,⟨[],[]⟩)) (cut_State_fits_k_l1 st l) 0 x66 (by kernel_rfl) (subR_prep [] [(3,500000)] (by kernel_rfl) rfl rfl (by kernel_rfl)) (iter_loop hx66) ?_ ?_ ?_
 intro s45 r h
 refine y3 1 [3,47,48,49,50] [500000] (zB (zI (decide (s45 < (l.Pieces.length : Int))) (fun hb=>?_) fun hb=>?_))
 replace h:=iteT hb h
 refine y4 [3,47,48,49] [500000] (zB (zC (z7 (zA 1 ?_))))
 obtain ⟨x62,hx62,h⟩:=bindS h
 refine evs_op (st_idx (c:=c_Piece) (l:=l.Pieces) (i:=s45) (kd:=.i64) (sz:=7) (by kernel_rfl) hx62 rfl) (y1 4 [3,8,9,47,48,49] [9,500000] (zB (sem_drawN [] [] [] [] [] 9 (by kernel_rfl) (by kernel_rfl) (by kernel_rfl) (evd_run 3 (by kernel_rfl) ?_))))
 obtain ⟨x65,hx65,h⟩:=bindS h
 refine evd_val (by kernel_rfl) (st_idx (c:=(cS cB)) (l:=st.Holes) (i:=s45) (kd:=.i64) (sz:=1) (by kernel_rfl) hx65 rfl) (by kernel_rfl) (by kernel_rfl) (evd_run 1 (by kernel_rfl) (evd_val (by kernel_rfl) (st_len (c:=cB) (l:=x65) (x:=(sB x65)) (by kernel_rfl) (by kernel_rfl)) (by kernel_rfl) (by kernel_rfl) (evd_run 2 (by kernel_rfl) (evd_val (by kernel_rfl) (st_len (c:=c_Rect) (l:=x62.Cuts) (x:=(s_Rect x62.Cuts)) (by kernel_rfl) (by kernel_rfl)) (by kernel_rfl) (by kernel_rfl) (evd_end (by kernel_rfl) (evo_run 1 (by kernel_rfl) ?_))))))
 refine zO fun τ hτ=>?_
 refine yE hτ [3,47,48,49,63] [500000] (zI ((x65.length : Int) != (x62.Cuts.length : Int)) (fun hb=>?_) fun hb=>?_)
 replace h:=iteT hb h
 exact nomatch h
 replace h:=iteF hb h
 refine zM fun τ hτ=>?_
 refine bl_normal (yE hτ [3,47,48,49] [500000] (zD (z6 2 fun τ hτ=>?_)))
 obtain rfl:=osi h
 exact zH hτ
 replace h:=iteF hb h
 refine zL 0 fun τ hτ=>?_
 refine th_exit ?_
 obtain rfl:=osi h
 exact zF hτ
 intro x
 rfl
 intro τ hτ
 refine zQ (yE hτ [] [] (z8 1 ⟨[(6,vB true)],[]⟩ fun τ hτ=>?_))
 obtain rfl:=osi h
 exact zV hτ [(6,vB true)]
theorem W.slices_Index_Lbool_bool_k_ok {s0 : (List Bool)} {v : Bool} {r : Int} (h : slices_Index_Lbool_bool_k s0 v=some r) : PC G.P 124 [(.sl (List.map cB s0)),(vB v)] [] (vI r) []:=by
 refine zU G Tryz.func124 (yK [0,1] [] (y3 1 [0,1] [] (zB (z7 (zA 1 (evs_op (st_len (c:=cB) (l:=s0) (x:=(sB s0)) (by kernel_rfl) (by kernel_rfl)) ?_))))))
 refine y1 1 [0,1,7,8] [] (zC ?_)
 obtain ⟨x4,hx4,h⟩:=bindS h
 refine sem_loopS (fun (s3 : Unit)=>⟨[(0,sB s0),(1,vB v),(7,vI (s0.length : Int)),(8,vI 0)],[]⟩) (fun (x4 : Unit)=>(.exit 0,⟨[],[]⟩)) (slices_Index_Lbool_bool_k_l1 s0) () x4 (by kernel_rfl) (here (by kernel_rfl)) (iter_loop hx4) ?_ ?_ ?_
 intro s3 r h
 refine y3 1 [0,1,7,8,9] [] (zB (zI (decide (0 < (s0.length : Int))) (fun hb=>?_) fun hb=>?_))
 replace h:=iteT hb h
 exact nomatch h
 replace h:=iteF hb h
 refine zL 0 fun τ hτ=>?_
 refine th_exit ?_
 obtain rfl:=osi h
 exact zF hτ
 intro x
 rfl
 intro τ hτ
 refine zQ (yE hτ [] [] (z8 1 ⟨[(4,vI (-1))],[]⟩ fun τ hτ=>?_))
 obtain rfl:=osi h
 exact zV hτ [(4,vI (-1))]
theorem W.slices_Contains_Lbool_bool_k_ok {s0 : (List Bool)} {v : Bool} {r : Bool} (h : slices_Contains_Lbool_bool_k s0 v=some r) : PC G.P 60 [(.sl (List.map cB s0)),(vB v)] [] (vB r) []:=by
 refine zU G Tryz.func60 (yK [0,1] [] (y3 1 [0,1] [] (z7 (zA 2 ?_))))
 obtain ⟨r2,hr2,h⟩:=bindS h
 refine evs_callP [] (by kernel_rfl) (W.slices_Index_Lbool_bool_k_ok hr2) (by kernel_rfl) (.inl rfl) (by kernel_rfl) (y1 2 [4] [] (zN fun τ hτ=>?_))
 obtain rfl:=osi h
 exact zV hτ [(4,vB (decide (r2 ≥ 0)))]
theorem W.cut_of_k_ok {e : EdgeT} {piece : Int} {r : Bool} (h : cut_of_k e piece=some r) : PC G.P 66 [(.agg (c_EdgeT e)),(vI piece)] [] (vB r) []:=by
 refine zU G Tryz.func66 (yK [0,1] [] (y3 2 [1,2] [2] (zB ?_)))
 obtain ⟨j1,hj1,h⟩:=bindS h
 refine zT ⟨[(4,vB j1)],[]⟩ ?_ fun τ hτ=>?_
 replace h:=hj1
 refine zA 5 (zS (e.A==piece) (fun b0=>⟨[(1,vI piece),(2,.ptr 2 0),(9,vB b0)],[(2,.box (c_EdgeT e))]⟩) (fun hb=>?_) fun hb=>?_)
 replace h:=iteT hb h
 refine z6 6 fun τ hτ=>?_
 obtain rfl:=osi h
 exact zG hτ
 replace h:=iteF hb h
 refine z6 6 fun τ hτ=>?_
 obtain rfl:=osi h
 exact zG hτ
 refine yE hτ [4] [] (zN fun τ hτ=>?_)
 obtain rfl:=osi h
 exact zV hτ [(4,vB j1)]
theorem W.cut_State_free_k_ok {st : cut_State} {all : (List EdgeT)} {piece : Int} {r : Bool} (h : cut_State_free_k st all piece=some r) : PC G.P 118 [(.agg (c_cut_State st)),(.sl (List.map c_EdgeT all)),(vI piece)] [] (vB r) []:=by
 refine zU G Tryz.func118 (yK [0,1,2] [] (y3 2 [1,2,3] [3] (zB (z7 (zA 1 (evs_op (st_len (c:=c_EdgeT) (l:=all) (x:=(s_EdgeT all)) (by kernel_rfl) (by kernel_rfl)) ?_))))))
 refine y1 1 [2,3,9,10,11] [3] (zC ?_)
 obtain ⟨x92,hx92,h⟩:=bindS h
 refine sem_loopS (fun (s63 : Int)=>⟨[(2,vI piece),(3,.ptr 500000 0),(9,s_EdgeT all),(10,vI (all.length : Int)),(11,vI s63)],[(500000,.box (c_cut_State st))]⟩) (fun (x92 : Unit ⊕ Unit)=>match x92 with | .inl j93=>(.ret,⟨[(6,vB false)],[]⟩) | .inr j94=>(.exit 0,⟨[],[]⟩)) (cut_State_free_k_l1 st all piece) 0 x92 (by kernel_rfl) (subR_prep [] [(3,500000)] (by kernel_rfl) rfl rfl (by kernel_rfl)) (iter_loop hx92) ?_ ?_ ?_
 intro s63 r h
 refine y3 1 [2,3,9,10,11,12] [500000] (zB (zI (decide (s63 < (all.length : Int))) (fun hb=>?_) fun hb=>?_))
 replace h:=iteT hb h
 refine y4 [2,3,9,10,11] [500000] (zB (zC (z7 (zA 1 ?_))))
 obtain ⟨x86,hx86,h⟩:=bindS h
 refine evs_op (st_idx (c:=c_EdgeT) (l:=all) (i:=s63) (kd:=.i64) (sz:=6) (by kernel_rfl) hx86 rfl) (y1 4 [2,3,7,8,9,10,11] [8,500000] (zB ?_))
 obtain ⟨j89,hj89,h⟩:=bindS h
 refine zT ⟨[(2,vI piece),(3,.ptr 500000 0),(9,s_EdgeT all),(10,vI (all.length : Int)),(11,vI s63),(26,vB j89)],[(500000,.box (c_cut_State st))]⟩ ?_ fun τ hτ=>?_
 replace h:=hj89
 refine zA 2 ?_
 obtain ⟨r90,hr90,h⟩:=bindS h
 refine evs_callP [] (by kernel_rfl) (W.cut_of_k_ok hr90) (by kernel_rfl) (.inl rfl) (by kernel_rfl) (zA 1 (zS r90 (fun b0=>⟨[(2,vI piece),(3,.ptr 500000 0),(7,vI s63),(9,s_EdgeT all),(10,vI (all.length : Int)),(11,vI s63),(19,vB b0)],[(500000,.box (c_cut_State st))]⟩) (fun hb=>?_) fun hb=>?_))
 replace h:=iteT hb h
 refine zA 3 ?_
 obtain ⟨x91,hx91,h⟩:=bindS h
 refine evs_op (st_idx (c:=cB) (l:=st.Cut) (i:=s63) (kd:=.i64) (sz:=1) (by kernel_rfl) hx91 rfl) (z6 3 fun τ hτ=>?_)
 obtain rfl:=osi h
 exact zG hτ
 replace h:=iteF hb h
 refine z6 7 fun τ hτ=>?_
 obtain rfl:=osi h
 exact zG hτ
 refine yE hτ [2,3,9,10,11,26] [500000] (zI j89 (fun hb=>?_) fun hb=>?_)
 replace h:=iteT hb h
 refine z8 1 ⟨[(6,vB false)],[]⟩ fun τ hτ=>?_
 refine bl_ret (th_ret ?_)
 obtain rfl:=osi h
 exact zF hτ
 replace h:=iteF hb h
 refine zM fun τ hτ=>?_
 refine bl_normal (yE hτ [2,3,9,10,11] [500000] (zD (z6 2 fun τ hτ=>?_)))
 obtain rfl:=osi h
 exact zH hτ
 replace h:=iteF hb h
 refine zL 0 fun τ hτ=>?_
 refine th_exit ?_
 obtain rfl:=osi h
 exact zF hτ
 intro x
 rcases x with _ | _ <;> rfl
 intro τ hτ
 rcases x92 with j93 | j94
 refine bl_ret (th_ret ?_)
 obtain rfl:=osi h
 exact zV hτ [(6,vB false)]
 refine zQ (yE hτ [] [] (z8 1 ⟨[(6,vB true)],[]⟩ fun τ hτ=>?_))
 obtain rfl:=osi h
 exact zV hτ [(6,vB true)]
theorem W.cut_State_order_k_ok {st : cut_State} {all : (List EdgeT)} {x2 : ItemT} {r : Bool} (h : cut_State_order_k st all x2=some r) : PC G.P 115 [(.agg (c_cut_State st)),(.sl (List.map c_EdgeT all)),(.agg (c_ItemT x2))] [] (vB r) []:=by
 refine zU G Tryz.func115 (yK [0,1,2] [] (y3 3 [1,3,5] [3,5] (zB (zC (z7 (zA 4 ?_))))))
 obtain ⟨x4,hx4,h⟩:=bindS h
 refine evs_op (st_idx (c:=cB) (l:=st.Fallen) (i:=x2.Piece) (kd:=.i64) (sz:=1) (by kernel_rfl) hx4 rfl) (y1 2 [1,3,5,7] [3,5] (zI x4 (fun hb=>?_) fun hb=>?_))
 replace h:=iteT hb h
 exact nomatch h
 replace h:=iteF hb h
 refine y3 4 [1,3,5,14] [3,5] (zI (decide (x2.Hole ≥ 0)) (fun hb=>?_) fun hb=>?_)
 replace h:=iteT hb h
 exact nomatch h
 replace h:=iteF hb h
 refine zM fun τ hτ=>?_
 refine bl_normal (yE hτ [1,3,5] [3,5] (z7 (zA 4 ?_)))
 obtain ⟨x9,hx9,h⟩:=bindS h
 refine evs_op (st_idx (c:=cB) (l:=st.Done) (i:=x2.Piece) (kd:=.i64) (sz:=1) (by kernel_rfl) hx9 rfl) (zA 3 (zS x9 (fun b0=>⟨[(1,s_EdgeT all),(3,.ptr 3 0),(5,.ptr 5 0),(36,vB (!b0))],[(3,.box (c_cut_State st)),(5,.box (c_ItemT x2))]⟩) (fun hb=>?_) fun hb=>?_))
 replace h:=iteT hb h
 exact nomatch h
 replace h:=iteF hb h
 refine zA 4 ?_
 obtain ⟨x10,hx10,h⟩:=bindS h
 refine evs_op (st_idx (c:=(cS cB)) (l:=st.Holes) (i:=x2.Piece) (kd:=.i64) (sz:=1) (by kernel_rfl) hx10 rfl) (zA 1 ?_)
 obtain ⟨r11,hr11,h⟩:=bindS h
 refine evs_callP [] (by kernel_rfl) (W.slices_Contains_Lbool_bool_k_ok hr11) (by kernel_rfl) (.inl rfl) (by kernel_rfl) (zA 3 (zS r11 (fun b0=>⟨[(1,s_EdgeT all),(3,.ptr 3 0),(5,.ptr 5 0),(46,vB (!b0))],[(3,.box (c_cut_State st)),(5,.box (c_ItemT x2))]⟩) (fun hb=>?_) fun hb=>?_))
 replace h:=iteT hb h
 exact nomatch h
 replace h:=iteF hb h
 refine zA 4 ?_
 obtain ⟨r12,hr12,h⟩:=bindS h
 refine evs_callP [] (by kernel_rfl) (W.cut_State_free_k_ok hr12) (by kernel_rfl) (.inl rfl) (by kernel_rfl) (y1 3 [6] [] (zN fun τ hτ=>?_))
 obtain rfl:=osi h
 exact zV hτ [(6,vB (!r12))]
theorem W.cut_Small_k_ok {x0 : Piece} {r : Bool} (h : cut_Small_k x0=some r) : PC G.P 65 [(.agg (c_Piece x0))] [] (vB r) []:=by
 refine zU G Tryz.func65 (yK [0] [] (y3 2 [1] [1] (y3 1 [1,3] [1,3] (zB (z7 (zA 2 ?_))))))
 refine evs_op (st_len (c:=c_Rect) (l:=x0.Rects) (x:=(s_Rect x0.Rects)) (by kernel_rfl) (by kernel_rfl)) (y1 1 [3,9,10,11] [3] (zC ?_))
 obtain ⟨x54,hx54,h⟩:=bindS h
 refine sem_loopS (fun (s37 : Int×Int×Int×Int×Int)=>⟨[(3,.ptr 500000 0),(9,s_Rect x0.Rects),(10,vI (x0.Rects.length : Int)),(11,vI s37.1)],[(500000,.box [(vI s37.2.1),(vI s37.2.2.1),(vI s37.2.2.2.1),(vI s37.2.2.2.2)])]⟩) (fun (x54 : Int×Int×Int×Int)=>(.exit 0,⟨[(3,.ptr 500000 0)],[(500000,.box [(vI x54.1),(vI x54.2.1),(vI x54.2.2.1),(vI x54.2.2.2)])]⟩)) (cut_Small_k_l1 x0) (0,0,0,0,0) x54 (by kernel_rfl) (subR_prep [] [(3,500000)] (by kernel_rfl) rfl rfl (by kernel_rfl)) (iter_loop hx54) ?_ ?_ ?_
 intro s37 r h
 refine y3 1 [3,9,10,11,12] [500000] (zB (zI (decide (s37.1 < (x0.Rects.length : Int))) (fun hb=>?_) fun hb=>?_))
 replace h:=iteT hb h
 refine y4 [3,9,10,11] [500000] (zB (zC (z7 ?_)))
 obtain ⟨x51,hx51,h⟩:=bindS h
 refine evs_op (st_idx (c:=c_Rect) (l:=x0.Rects) (i:=s37.1) (kd:=.i64) (sz:=4) (by kernel_rfl) hx51 rfl) (y1 3 [3,5,9,10,11] [5,500000] (zC (z7 (zA 1 ?_))))
 obtain ⟨r53,hr53,h⟩:=bindS h
 refine evs_callP [] (by kernel_rfl) (W.geom_ValidRect_k_ok hr53) (by kernel_rfl) (.inl rfl) (by kernel_rfl) (y1 2 [3,5,9,10,11,57] [5,500000] (zI (!r53) (fun hb=>?_) fun hb=>?_))
 replace h:=iteT hb h
 exact nomatch h
 replace h:=iteF hb h
 refine y3 4 [3,5,9,10,11,61] [5,500000] (zI (s37.2.2.2.1==0) (fun hb=>?_) fun hb=>?_)
 replace h:=iteT hb h
 refine zD (z6 2 fun τ hτ=>?_)
 refine bl_normal (bl_normal (yE hτ [3,9,10,11] [500000] (zD (z6 2 fun τ hτ=>?_))))
 obtain rfl:=osi h
 exact zH hτ
 replace h:=iteF hb h
 exact nomatch h
 replace h:=iteF hb h
 refine zL 0 fun τ hτ=>?_
 refine th_exit ?_
 obtain rfl:=osi h
 exact zF hτ
 intro x
 rfl
 intro τ hτ
 refine zQ (yE hτ [3] [500000] (z8 7 ⟨[(2,vB (decide ((imin x54.2.2.1 x54.2.2.2) < 7200)))],[]⟩ fun τ hτ=>?_))
 obtain rfl:=osi h
 exact zV hτ [(2,vB (decide ((imin x54.2.2.1 x54.2.2.2) < 7200)))]
theorem W.cut_InRegion_1_k_ok {r0 : Rect} {a_0 : Int} {a_1 : Int} {a_2 : Int} {a_3 : Int} {r : Bool} (h : cut_InRegion_1_k r0 a_0 a_1 a_2 a_3=some r) : PC G.P 184 [(.agg (c_Rect r0)),(.vptr [(vI a_0),(vI a_1),(vI a_2),(vI a_3)] 0)] [] (vB r) []:=by
 refine zU G Tryz.func184 (yK [0,1] [] (y3 2 [1,2] [2] (z7 (zA 2 ?_))))
 obtain ⟨r2,hr2,h⟩:=bindS h
 refine evs_callP [] (by kernel_rfl) (W.geom_Inside_k_ok hr2) (by kernel_rfl) (.inl rfl) (by kernel_rfl) (y1 1 [3] [] (zN fun τ hτ=>?_))
 obtain rfl:=osi h
 exact zV hτ [(3,vB r2)]
theorem W.slices_IndexFunc_Lapi_Rect_api_Rect__cut_InRegion_1_k_ok {s0 : (List Rect)} {f_0_0 : Int} {f_0_1 : Int} {f_0_2 : Int} {f_0_3 : Int} {r : Int} (h : slices_IndexFunc_Lapi_Rect_api_Rect__cut_InRegion_1_k s0 f_0_0 f_0_1 f_0_2 f_0_3=some r) : PC G.P 147 [(.sl (List.map c_Rect s0)),(.fn 184 [(.vptr [(vI f_0_0),(vI f_0_1),(vI f_0_2),(vI f_0_3)] 0)])] [] (vI r) []:=by
 refine zU G Tryz.func147 (yK [0,1] [] (y3 1 [0,1] [] (zB (z7 (zA 1 (evs_op (st_len (c:=c_Rect) (l:=s0) (x:=(s_Rect s0)) (by kernel_rfl) (by kernel_rfl)) ?_))))))
 refine y1 1 [0,1,7,8] [] (zC ?_)
 obtain ⟨x54,hx54,h⟩:=bindS h
 refine sem_loopS (fun (s37 : Int)=>⟨[(0,s_Rect s0),(1,.fn 184 [(.vptr [(vI f_0_0),(vI f_0_1),(vI f_0_2),(vI f_0_3)] 0)]),(7,vI (s0.length : Int)),(8,vI s37)],[]⟩) (fun (x54 : Unit)=>(.exit 0,⟨[],[]⟩)) (slices_IndexFunc_Lapi_Rect_api_Rect__cut_InRegion_1_k_l1 s0 f_0_0 f_0_1 f_0_2 f_0_3) 0 x54 (by kernel_rfl) (here (by kernel_rfl)) (iter_loop hx54) ?_ ?_ ?_
 intro s37 r h
 refine y3 1 [0,1,7,8,9] [] (zB (zI (decide (s37 < (s0.length : Int))) (fun hb=>?_) fun hb=>?_))
 replace h:=iteT hb h
 refine y4 [0,1,7,8] [] (zB (zC (y3 2 [0,1,5,7,8] [] (z7 (zA 3 ?_)))))
 obtain ⟨x52,hx52,h⟩:=bindS h
 refine evs_op (st_idx (c:=c_Rect) (l:=s0) (i:=s37) (kd:=.i64) (sz:=4) (by kernel_rfl) hx52 rfl) (zA 1 ?_)
 obtain ⟨r53,hr53,h⟩:=bindS h
 refine evs_callP [] (by kernel_rfl) (W.cut_InRegion_1_k_ok hr53) (by kernel_rfl) (.inl rfl) (by kernel_rfl) (zP fun τ hτ=>?_)
 refine yE hτ [0,1,5,7,8,16] [] (zI r53 (fun hb=>?_) fun hb=>?_)
 replace h:=iteT hb h
 exact nomatch h
 replace h:=iteF hb h
 refine zM fun τ hτ=>?_
 refine bl_normal (yE hτ [0,1,7,8] [] (zD (z6 2 fun τ hτ=>?_)))
 obtain rfl:=osi h
 exact zH hτ
 replace h:=iteF hb h
 refine zL 0 fun τ hτ=>?_
 refine th_exit ?_
 obtain rfl:=osi h
 exact zF hτ
 intro x
 rfl
 intro τ hτ
 refine zQ (yE hτ [] [] (z8 1 ⟨[(4,vI (-1))],[]⟩ fun τ hτ=>?_))
 obtain rfl:=osi h
 exact zV hτ [(4,vI (-1))]
theorem W.slices_ContainsFunc_Lapi_Rect_api_Rect__cut_InRegion_1_k_ok {s0 : (List Rect)} {f_0_0 : Int} {f_0_1 : Int} {f_0_2 : Int} {f_0_3 : Int} {r : Bool} (h : slices_ContainsFunc_Lapi_Rect_api_Rect__cut_InRegion_1_k s0 f_0_0 f_0_1 f_0_2 f_0_3=some r) : PC G.P 92 [(.sl (List.map c_Rect s0)),(.fn 184 [(.vptr [(vI f_0_0),(vI f_0_1),(vI f_0_2),(vI f_0_3)] 0)])] [] (vB r) []:=by
 refine zU G Tryz.func92 (yK [0,1] [] (y3 1 [0,1] [] (z7 (zA 2 ?_))))
 obtain ⟨r2,hr2,h⟩:=bindS h
 refine evs_callP [] (by kernel_rfl) (W.slices_IndexFunc_Lapi_Rect_api_Rect__cut_InRegion_1_k_ok hr2) (by kernel_rfl) (.inl rfl) (by kernel_rfl) (y1 2 [4] [] (zN fun τ hτ=>?_))
 obtain rfl:=osi h
 exact zV hτ [(4,vB (decide (r2 ≥ 0)))]
theorem W.cut_InRegion_k_ok {l : (List Rect)} {s1 : Spot} {r : Bool} (h : cut_InRegion_k l s1=some r) : PC G.P 158 [(.sl (List.map c_Rect l)),(.agg [(vI s1.X),(vI s1.Y)])] [] (vB r) []:=by
 refine zU G Tryz.func158 (yK [0,1] [] (y3 2 [0,3] [3] (zB (z7 (zA 4 (zS (decide (s1.X < (-4194304))) (fun b0=>⟨[(0,s_Rect l),(3,.ptr 3 0),(10,vB b0)],[(3,.box [(vI s1.X),(vI s1.Y)])]⟩) (fun hb=>?_) fun hb=>?_))))))
 replace h:=iteT hb h
 exact nomatch h
 replace h:=iteF hb h
 refine zA 5 (zS (decide (s1.X > 4194304)) (fun b0=>⟨[(0,s_Rect l),(3,.ptr 3 0),(15,vB b0)],[(3,.box [(vI s1.X),(vI s1.Y)])]⟩) (fun hb=>?_) fun hb=>?_)
 replace h:=iteT hb h
 exact nomatch h
 replace h:=iteF hb h
 refine zA 5 (zS (decide (s1.Y < (-4194304))) (fun b0=>⟨[(0,s_Rect l),(3,.ptr 3 0),(20,vB b0)],[(3,.box [(vI s1.X),(vI s1.Y)])]⟩) (fun hb=>?_) fun hb=>?_)
 replace h:=iteT hb h
 exact nomatch h
 replace h:=iteF hb h
 refine y1 4 [0,3,24] [3] (zI (decide (s1.Y > 4194304)) (fun hb=>?_) fun hb=>?_)
 replace h:=iteT hb h
 exact nomatch h
 replace h:=iteF hb h
 refine y4 [0,3] [3] (zB (z7 (zA 25 (evs_op (st_len (c:=c_Rect) (l:=[(Rect.mk (isub s1.X 1) (isub s1.Y 1) 1 1),(Rect.mk s1.X (isub s1.Y 1) 1 1),(Rect.mk (isub s1.X 1) s1.Y 1 1),(Rect.mk s1.X s1.Y 1 1)]) (x:=(s_Rect [(Rect.mk (isub s1.X 1) (isub s1.Y 1) 1 1),(Rect.mk s1.X (isub s1.Y 1) 1 1),(Rect.mk (isub s1.X 1) s1.Y 1 1),(Rect.mk s1.X s1.Y 1 1)])) (by kernel_rfl) (by kernel_rfl)) (y1 1 [0,49,50,51] [] (zC ?_))))))
 obtain ⟨x36,hx36,h⟩:=bindS h
 refine sem_loopS (fun (s19 : Unit)=>⟨[(0,s_Rect l),(49,s_Rect [(Rect.mk (isub s1.X 1) (isub s1.Y 1) 1 1),(Rect.mk s1.X (isub s1.Y 1) 1 1),(Rect.mk (isub s1.X 1) s1.Y 1 1),(Rect.mk s1.X s1.Y 1 1)]),(50,vI ([(Rect.mk (isub s1.X 1) (isub s1.Y 1) 1 1),(Rect.mk s1.X (isub s1.Y 1) 1 1),(Rect.mk (isub s1.X 1) s1.Y 1 1),(Rect.mk s1.X s1.Y 1 1)].length : Int)),(51,vI 0)],[]⟩) (fun (x36 : Unit)=>(.ret,⟨[(4,vB false)],[]⟩)) (cut_InRegion_k_l1 l s1) () x36 (by kernel_rfl) (here (by kernel_rfl)) (iter_loop hx36) ?_ ?_ ?_
 intro s19 r h
 refine y3 1 [0,49,50,51,52] [] (zB (zI (decide (0 < ([(Rect.mk (isub s1.X 1) (isub s1.Y 1) 1 1),(Rect.mk s1.X (isub s1.Y 1) 1 1),(Rect.mk (isub s1.X 1) s1.Y 1 1),(Rect.mk s1.X s1.Y 1 1)].length : Int))) (fun hb=>?_) fun hb=>?_))
 replace h:=iteT hb h
 refine y4 [0,49,50,51] [] (zB (zC (z7 ?_)))
 obtain ⟨x33,hx33,h⟩:=bindS h
 refine evs_op (st_idx (c:=c_Rect) (l:=[(Rect.mk (isub s1.X 1) (isub s1.Y 1) 1 1),(Rect.mk s1.X (isub s1.Y 1) 1 1),(Rect.mk (isub s1.X 1) s1.Y 1 1),(Rect.mk s1.X s1.Y 1 1)]) (i:=0) (kd:=.i64) (sz:=4) (by kernel_rfl) hx33 rfl) (y1 3 [0,6,49,50,51] [6] (z7 (zA 2 ?_)))
 obtain ⟨r35,hr35,h⟩:=bindS h
 refine evs_callP [6] (by kernel_rfl) (W.slices_ContainsFunc_Lapi_Rect_api_Rect__cut_InRegion_1_k_ok hr35) (by kernel_rfl) (.inr rfl) (by kernel_rfl) (y1 1 [0,49,50,51,58] [] (zI (!r35) (fun hb=>?_) fun hb=>?_))
 replace h:=iteT hb h
 refine z8 1 ⟨[(4,vB false)],[]⟩ fun τ hτ=>?_
 refine bl_ret (th_ret ?_)
 obtain rfl:=osi h
 exact zF hτ
 replace h:=iteF hb h
 exact nomatch h
 replace h:=iteF hb h
 exact nomatch h
 intro x
 rfl
 intro τ hτ
 refine bl_ret (th_ret ?_)
 obtain rfl:=osi h
 exact zV hτ [(4,vB false)]
theorem W.cut_gap_k_ok {s0 : Spot} {l : Segment} {r : Int} (h : cut_gap_k s0 l=some r) : PC G.P 159 [(.agg [(vI s0.X),(vI s0.Y)]),(.agg (c_Segment l))] [] (vI r) []:=by
 refine zU G Tryz.func159 (yK [0,1] [] (y3 3 [2,3] [2,3] (z8 22 ⟨[(4,vI (imax (imax (imax (imax 0 (isub l.X1 s0.X)) (isub s0.X l.X2)) (isub l.Y1 s0.Y)) (isub s0.Y l.Y2)))],[]⟩ fun τ hτ=>?_)))
 obtain rfl:=osi h
 exact zV hτ [(4,vI (imax (imax (imax (imax 0 (isub l.X1 s0.X)) (isub s0.X l.X2)) (isub l.Y1 s0.Y)) (isub s0.Y l.Y2)))]
theorem W.cut_State_lead_k_ok {st : cut_State} {l : LayoutT} {all : (List EdgeT)} {x3 : ItemT} {r : Bool} (h : cut_State_lead_k st l all x3=some r) : PC G.P 116 [(.agg (c_cut_State st)),(.agg (c_LayoutT l)),(.sl (List.map c_EdgeT all)),(.agg (c_ItemT x3))] [] (vB r) []:=by
 refine zU G Tryz.func116 (yK [0,1,2,3] [] (y3 4 [2,4,5,7] [4,5,7] (y3 4 [2,4,5,7,9] [4,5,7,9] (zB (y3 3 [2,4,5,7,9,19] [4,5,7,9] (zI (decide (x3.Hole ≥ 0)) (fun hb=>?_) fun hb=>?_))))))
 replace h:=iteT hb h
 exact nomatch h
 replace h:=iteF hb h
 refine y4 [2,4,5,7,9] [4,5,7,9] (zB (z7 (zA 4 (zS (decide (x3.Lead.X < 0)) (fun b0=>⟨[(2,s_EdgeT all),(4,.ptr 4 0),(5,.ptr 5 0),(7,.ptr 7 0),(9,.ptr 9 0),(66,vB b0)],[(4,.box (c_cut_State st)),(5,.box (c_LayoutT l)),(7,.box (c_ItemT x3)),(9,.box [(vI x3.Lead.X),(vI x3.Lead.Y)])]⟩) (fun hb=>?_) fun hb=>?_))))
 replace h:=iteT hb h
 exact nomatch h
 replace h:=iteF hb h
 refine zA 8 (zS (decide (x3.Lead.X > l.Sheet.Width)) (fun b0=>⟨[(2,s_EdgeT all),(4,.ptr 4 0),(5,.ptr 5 0),(7,.ptr 7 0),(9,.ptr 9 0),(74,vB b0)],[(4,.box (c_cut_State st)),(5,.box (c_LayoutT l)),(7,.box (c_ItemT x3)),(9,.box [(vI x3.Lead.X),(vI x3.Lead.Y)])]⟩) (fun hb=>?_) fun hb=>?_)
 replace h:=iteT hb h
 exact nomatch h
 replace h:=iteF hb h
 refine zA 5 (zS (decide (x3.Lead.Y < 0)) (fun b0=>⟨[(2,s_EdgeT all),(4,.ptr 4 0),(5,.ptr 5 0),(7,.ptr 7 0),(9,.ptr 9 0),(79,vB b0)],[(4,.box (c_cut_State st)),(5,.box (c_LayoutT l)),(7,.box (c_ItemT x3)),(9,.box [(vI x3.Lead.X),(vI x3.Lead.Y)])]⟩) (fun hb=>?_) fun hb=>?_)
 replace h:=iteT hb h
 exact nomatch h
 replace h:=iteF hb h
 refine zA 8 (zS (decide (x3.Lead.Y > l.Sheet.Height)) (fun b0=>⟨[(2,s_EdgeT all),(4,.ptr 4 0),(5,.ptr 5 0),(7,.ptr 7 0),(9,.ptr 9 0),(87,vB b0)],[(4,.box (c_cut_State st)),(5,.box (c_LayoutT l)),(7,.box (c_ItemT x3)),(9,.box [(vI x3.Lead.X),(vI x3.Lead.Y)])]⟩) (fun hb=>?_) fun hb=>?_)
 replace h:=iteT hb h
 exact nomatch h
 replace h:=iteF hb h
 refine zA 4 ?_
 obtain ⟨r4,hr4,h⟩:=bindS h
 refine evs_callP [] (by kernel_rfl) (W.cut_InRegion_k_ok hr4) (by kernel_rfl) (.inl rfl) (by kernel_rfl) (y1 1 [2,4,5,7,9,93] [4,5,7,9] (zI r4 (fun hb=>?_) fun hb=>?_))
 replace h:=iteT hb h
 exact nomatch h
 replace h:=iteF hb h
 refine y4 [2,4,5,7,9] [4,5,7,9] (zB (z7 (zA 2 (evs_op (st_len (c:=c_Piece) (l:=l.Pieces) (x:=(s_Piece l.Pieces)) (by kernel_rfl) (by kernel_rfl)) (y1 1 [2,4,7,9,95,96,97] [4,7,9] (zC ?_))))))
 obtain ⟨x58,hx58,h⟩:=bindS h
 refine sem_loopS (fun (s41 : Int)=>⟨[(2,s_EdgeT all),(4,.ptr 500000 0),(7,.ptr 500001 0),(9,.ptr 500002 0),(95,s_Piece l.Pieces),(96,vI (l.Pieces.length : Int)),(97,vI s41)],[(500000,.box (c_cut_State st)),(500001,.box (c_ItemT x3)),(500002,.box [(vI x3.Lead.X),(vI x3.Lead.Y)])]⟩) (fun (x58 : Unit)=>(.exit 0,⟨[(2,s_EdgeT all),(4,.ptr 500000 0),(7,.ptr 500001 0),(9,.ptr 500002 0)],[(500000,.box (c_cut_State st)),(500001,.box (c_ItemT x3)),(500002,.box [(vI x3.Lead.X),(vI x3.Lead.Y)])]⟩)) (cut_State_lead_k_l1 l x3) 0 x58 (by kernel_rfl) (subR_prep [] [(4,500000),(7,500001),(9,500002)] (by kernel_rfl) rfl rfl (by kernel_rfl)) (iter_loop hx58) ?_ ?_ ?_
 intro s41 r h
 refine y3 1 [2,4,7,9,95,96,97,98] [500000,500001,500002] (zB (zI (decide (s41 < (l.Pieces.length : Int))) (fun hb=>?_) fun hb=>?_))
 replace h:=iteT hb h
 refine y4 [2,4,7,9,95,96,97] [500000,500001,500002] (zB (zC (z7 ?_)))
 obtain ⟨x55,hx55,h⟩:=bindS h
 refine evs_op (st_idx (c:=c_Piece) (l:=l.Pieces) (i:=s41) (kd:=.i64) (sz:=7) (by kernel_rfl) hx55 rfl) (y1 3 [2,4,7,9,12,95,96,97] [12,500000,500001,500002] (z7 (zA 3 ?_)))
 obtain ⟨r57,hr57,h⟩:=bindS h
 refine evs_callP [] (by kernel_rfl) (W.cut_InRegion_k_ok hr57) (by kernel_rfl) (.inl rfl) (by kernel_rfl) (zP fun τ hτ=>?_)
 refine yE hτ [2,4,7,9,95,96,97,104] [500000,500001,500002] (zI r57 (fun hb=>?_) fun hb=>?_)
 replace h:=iteT hb h
 exact nomatch h
 replace h:=iteF hb h
 refine zM fun τ hτ=>?_
 refine bl_normal (yE hτ [2,4,7,9,95,96,97] [500000,500001,500002] (zD (z6 2 fun τ hτ=>?_)))
 obtain rfl:=osi h
 exact zH hτ
 replace h:=iteF hb h
 refine zL 0 fun τ hτ=>?_
 refine th_exit ?_
 obtain rfl:=osi h
 exact zF hτ
 intro x
 rfl
 intro τ hτ
 refine zQ (yE hτ [2,4,7,9] [500000,500001,500002] (zB (z7 (zA 1 (evs_op (st_len (c:=c_EdgeT) (l:=all) (x:=(s_EdgeT all)) (by kernel_rfl) (by kernel_rfl)) (y1 1 [4,7,9,106,107,108] [500000,500001,500002] ?_))))))
 refine zC ?_
 obtain ⟨x172,hx172,h⟩:=bindS h
 refine sem_loopS (fun (s135 : Int)=>⟨[(4,.ptr 500000 0),(7,.ptr 500001 0),(9,.ptr 500002 0),(106,s_EdgeT all),(107,vI (all.length : Int)),(108,vI s135)],[(500000,.box (c_cut_State st)),(500001,.box (c_ItemT x3)),(500002,.box [(vI x3.Lead.X),(vI x3.Lead.Y)])]⟩) (fun (x172 : Unit)=>(.ret,⟨[(8,vB true)],[]⟩)) (cut_State_lead_k_l2 st all x3) 0 x172 (by kernel_rfl) (here (by kernel_rfl)) (iter_loop hx172) ?_ ?_ ?_
 intro s135 r h
 refine y3 1 [4,7,9,106,107,108,109] [500000,500001,500002] (zB (zI (decide (s135 < (all.length : Int))) (fun hb=>?_) fun hb=>?_))
 replace h:=iteT hb h
 refine y4 [4,7,9,106,107,108] [500000,500001,500002] (zB (zC (z7 (zA 1 ?_))))
 obtain ⟨x164,hx164,h⟩:=bindS h
 refine evs_op (st_idx (c:=c_EdgeT) (l:=all) (i:=s135) (kd:=.i64) (sz:=6) (by kernel_rfl) hx164 rfl) (y1 4 [4,7,9,13,14,106,107,108] [14,500000,500001,500002] (zB ?_))
 obtain ⟨j168,hj168,h⟩:=bindS h
 refine zT ⟨[(4,.ptr 500000 0),(7,.ptr 500001 0),(9,.ptr 500002 0),(106,s_EdgeT all),(107,vI (all.length : Int)),(108,vI s135),(131,vB j168)],[(500000,.box (c_cut_State st)),(500001,.box (c_ItemT x3)),(500002,.box [(vI x3.Lead.X),(vI x3.Lead.Y)])]⟩ ?_ fun τ hτ=>?_
 replace h:=hj168
 refine zA 3 ?_
 obtain ⟨r169,hr169,h⟩:=bindS h
 refine evs_callP [] (by kernel_rfl) (W.cut_of_k_ok hr169) (by kernel_rfl) (.inl rfl) (by kernel_rfl) (zA 1 (zS r169 (fun b0=>⟨[(4,.ptr 500000 0),(7,.ptr 500001 0),(9,.ptr 500002 0),(13,vI s135),(14,.ptr 14 0),(106,s_EdgeT all),(107,vI (all.length : Int)),(108,vI s135),(117,vB b0)],[(14,.box (c_EdgeT x164)),(500000,.box (c_cut_State st)),(500001,.box (c_ItemT x3)),(500002,.box [(vI x3.Lead.X),(vI x3.Lead.Y)])]⟩) (fun hb=>?_) fun hb=>?_))
 replace h:=iteT hb h
 refine zA 3 ?_
 obtain ⟨x170,hx170,h⟩:=bindS h
 refine evs_op (st_idx (c:=cB) (l:=st.Cut) (i:=s135) (kd:=.i64) (sz:=1) (by kernel_rfl) hx170 rfl) (zA 4 (zS x170 (fun b0=>⟨[(4,.ptr 500000 0),(7,.ptr 500001 0),(9,.ptr 500002 0),(14,.ptr 14 0),(106,s_EdgeT all),(107,vI (all.length : Int)),(108,vI s135),(125,vB (!b0))],[(14,.box (c_EdgeT x164)),(500000,.box (c_cut_State st)),(500001,.box (c_ItemT x3)),(500002,.box [(vI x3.Lead.X),(vI x3.Lead.Y)])]⟩) (fun hb=>?_) fun hb=>?_))
 replace h:=iteT hb h
 refine z6 6 fun τ hτ=>?_
 obtain rfl:=osi h
 exact zG hτ
 replace h:=iteF hb h
 refine zA 3 ?_
 obtain ⟨r171,hr171,h⟩:=bindS h
 refine evs_callP [] (by kernel_rfl) (W.cut_gap_k_ok hr171) (by kernel_rfl) (.inl rfl) (by kernel_rfl) (z6 2 fun τ hτ=>?_)
 obtain rfl:=osi h
 exact zG hτ
 replace h:=iteF hb h
 refine z6 14 fun τ hτ=>?_
 obtain rfl:=osi h
 exact zG hτ
 refine yE hτ [4,7,9,106,107,108,131] [500000,500001,500002] (zI j168 (fun hb=>?_) fun hb=>?_)
 replace h:=iteT hb h
 refine z8 1 ⟨[(8,vB true)],[]⟩ fun τ hτ=>?_
 refine bl_ret (th_ret ?_)
 obtain rfl:=osi h
 exact zF hτ
 replace h:=iteF hb h
 refine zM fun τ hτ=>?_
 refine bl_normal (yE hτ [4,7,9,106,107,108] [500000,500001,500002] (zD (z6 2 fun τ hτ=>?_)))
 obtain rfl:=osi h
 exact zH hτ
 replace h:=iteF hb h
 exact nomatch h
 intro x
 rfl
 intro τ hτ
 refine bl_ret (th_ret ?_)
 obtain rfl:=osi h
 exact zV hτ [(8,vB true)]
theorem W.slices_Clone_Lbool_bool_ok {s r : (List Bool)} (h : slices_Clone_Lbool_bool s=some r) : PC G.P 160 [.sl (List.map cB s)] [] (.row (.top 0) 4) [(0,.row 4 [] (List.map cB r))]:=by
 replace h : app [] s=some r:=h
 refine zU G Tryz.func160 (y3 1 [0] [] (zB (z7 (zA 1 (evs_isnil (es:=List.map cB s) (by kernel_rfl) (fun hn=>?_) ?_)))))
 obtain rfl : s=[]:=List.map_eq_nil_iff.1 hn
 obtain rfl : []=r:=Option.some.inj ((app_eq (by simp [LIM])).symm.trans h)
 refine zP fun τ hτ=>?_
 refine yE hτ [0,4] [] (sem_condT (by kernel_rfl) (by kernel_rfl) (z8 1 ⟨[(2,ro 2 4)],[(2,wB 4 [])]⟩ fun τ hτ=>?_))
 exact th_ret (rk_ret hτ [(2,ro 0 4)] (subR_of [(2,0)] rfl rfl (by kernel_rfl)) (by kernel_rfl))
 refine zP fun τ hτ=>?_
 refine yE hτ [0,4] [] (sem_condF (by kernel_rfl) (by kernel_rfl) (y4 [0] [] (z7 (evs_at (at_build (es:=List.map cB []) (e:=4) (d:=5) (by kernel_rfl)) (zA 1 (evs_op (st_app (c:=cB) (l:=[]) (l2:=s) (x:=sB s) (g:=5) (e:=4) (sz:=1) (d:=7) (by kernel_rfl) (by kernel_rfl) (by kernel_rfl) (by kernel_rfl) (fun _=>rfl) rfl h) ?_))))))
 refine y1 1 [2] [5] (zN fun τ hτ=>?_)
 exact rk_ret hτ [(2,ro 0 4)] (subR_of [(5,0)] rfl rfl (by kernel_rfl)) (by kernel_rfl)
theorem W.slices_Clone_Lint_int_ok {s r : (List Int)} (h : slices_Clone_Lint_int s=some r) : PC G.P 161 [.sl (List.map cI s)] [] (.row (.top 0) 3) [(0,.row 3 [] (List.map cI r))]:=by
 replace h : app [] s=some r:=h
 refine zU G Tryz.func161 (y3 1 [0] [] (zB (z7 (zA 1 (evs_isnil (es:=List.map cI s) (by kernel_rfl) (fun hn=>?_) ?_)))))
 obtain rfl : s=[]:=List.map_eq_nil_iff.1 hn
 obtain rfl : []=r:=Option.some.inj ((app_eq (by simp [LIM])).symm.trans h)
 refine zP fun τ hτ=>?_
 refine yE hτ [0,4] [] (sem_condT (by kernel_rfl) (by kernel_rfl) (z8 1 ⟨[(2,ro 2 3)],[(2,wI 3 [])]⟩ fun τ hτ=>?_))
 exact th_ret (rk_ret hτ [(2,ro 0 3)] (subR_of [(2,0)] rfl rfl (by kernel_rfl)) (by kernel_rfl))
 refine zP fun τ hτ=>?_
 refine yE hτ [0,4] [] (sem_condF (by kernel_rfl) (by kernel_rfl) (y4 [0] [] (z7 (evs_at (at_build (es:=List.map cI []) (e:=3) (d:=5) (by kernel_rfl)) (zA 1 (evs_op (st_app (c:=cI) (l:=[]) (l2:=s) (x:=sI s) (g:=5) (e:=3) (sz:=1) (d:=7) (by kernel_rfl) (by kernel_rfl) (by kernel_rfl) (by kernel_rfl) (fun _=>rfl) rfl h) ?_))))))
 refine y1 1 [2] [5] (zN fun τ hτ=>?_)
 exact rk_ret hτ [(2,ro 0 3)] (subR_of [(5,0)] rfl rfl (by kernel_rfl)) (by kernel_rfl)
theorem W.cut_State_clone_k_ok {st : cut_State} {r : cut_State} (h : cut_State_clone_k st=some r) : PC G.P 117 [(.agg (c_cut_State st))] [] (.agg [(.row (.top 1) 4),(.row (.top 2) 36),(.row (.top 3) 4),(.row (.top 4) 3),(.row (.top 5) 4)]) [(0,.box [(.row (.top 1) 4),(.row (.top 2) 36),(.row (.top 3) 4),(.row (.top 4) 3),(.row (.top 5) 4)]),(1,.row 4 [] (List.map cB r.Cut)),(2,.row 36 [] (List.map (cS cB) r.Holes)),(3,.row 4 [] (List.map cB r.Done)),(4,.row 3 [] (List.map cI r.Joints)),(5,.row 4 [] (List.map cB r.Fallen))]:=by
 refine zU G Tryz.func117 (yK [0] [] (y3 2 [1,2] [1,2] (zB (sem_draw [(2,[700100]),(5,[700250]),(8,[700400]),(11,[700550]),(13,[3])] [(2,[700100]),(5,[700250]),(8,[700400]),(11,[700550]),(13,[3])] [] [(0,[3]),(1,[3]),(2,[3]),(3,[700100,3]),(4,[700100,3]),(5,[3]),(6,[700100,700250,3]),(7,[700100,700250,3]),(8,[3]),(9,[700100,700250,700400,3]),(10,[700100,700250,700400,3]),(11,[3]),(12,[3]),(13,[700100,700250,700400,700550])] [(0,[700100,700250,700400,700550,3]),(1,[700100,700250,700400,700550,3]),(2,[700250,700400,700550,3]),(3,[700100,700250,700400,700550,3]),(4,[700100,700250,700400,700550,3]),(5,[700400,700550,3]),(6,[700100,700250,700400,700550,3]),(7,[700100,700250,700400,700550,3]),(8,[700550,3]),(9,[700100,700250,700400,700550,3]),(10,[700100,700250,700400,700550,3]),(11,[3]),(12,[3]),(13,[700100,700250,700400,700550])] 14 (by kernel_rfl) (by kernel_rfl) [700100,700250,700400,700550,3] (by kernel_rfl) (by kernel_rfl) (evd_run 2 (by kernel_rfl) ?_)))))
 obtain ⟨r9,hr9,h⟩:=bindS h
 refine evd_callS [(0,700100)] [] (by kernel_rfl) (by kernel_rfl) (W.slices_Clone_Lbool_bool_ok hr9) (by kernel_rfl) (.inl rfl) (by kernel_rfl) (by kernel_rfl) (evd_run 2 (by kernel_rfl) ?_)
 obtain ⟨r10,hr10,h⟩:=bindS h
 refine evd_callS [(0,700250)] [] (by kernel_rfl) (by kernel_rfl) (W.slices_Clone_Lbool_bool_ok hr10) (by kernel_rfl) (.inl rfl) (by kernel_rfl) (by kernel_rfl) (evd_run 2 (by kernel_rfl) ?_)
 obtain ⟨r11,hr11,h⟩:=bindS h
 refine evd_callS [(0,700400)] [] (by kernel_rfl) (by kernel_rfl) (W.slices_Clone_Lint_int_ok hr11) (by kernel_rfl) (.inl rfl) (by kernel_rfl) (by kernel_rfl) (evd_run 2 (by kernel_rfl) ?_)
 obtain ⟨r12,hr12,h⟩:=bindS h
 refine evd_callS [(0,700550)] [] (by kernel_rfl) (by kernel_rfl) (W.slices_Clone_Lbool_bool_ok hr12) (by kernel_rfl) (.inl rfl) (by kernel_rfl) (by kernel_rfl) (evd_run 1 (by kernel_rfl) (evd_new (g:=3) (ob:=.box [.nl,.nl,.nl,.nl,.nl]) (v:=(.ptr 3 0)) (by kernel_rfl) (by kernel_rfl) (by kernel_rfl) (by kernel_rfl) (by kernel_rfl) (by kernel_rfl) (evd_end (by kernel_rfl) (evo_run 1 (by kernel_rfl) (zO fun τ hτ=>?_)))))
 refine yE hτ [1,2,3] [1,2,3,700100,700250,700400,700550] (zB (z7 (zA 2 (evs_op (st_len (c:=(cS cB)) (l:=st.Holes) (x:=(.sl (List.map (cS cB) st.Holes))) (by kernel_rfl) (by kernel_rfl)) (y1 1 [2,3,20,21,22] [2,3,700100,700250,700400,700550] (zC ?_))))))
 obtain ⟨x114,hx114,h⟩:=bindS h
 refine sem_loopS (fun (s81 : Int×(List (List Bool)))=>⟨[(2,.ptr 500000 0),(3,.ptr 500001 0),(20,.sl (List.map (cS cB) st.Holes)),(21,vI (st.Holes.length : Int)),(22,vI s81.1)],[(500000,.box [.nl,.nl,.nl,.nl,.nl]),(500001,.box [(ro 500002 4),(ro 500003 36),(ro 500004 4),(ro 500005 3),(ro 500006 4)]),(500002,wB 4 r9),(500003,.row 36 [] (List.map (cS cB) s81.2)),(500004,wB 4 r10),(500005,wI 3 r11),(500006,wB 4 r12)]⟩) (fun (x114 : (List (List Bool)))=>(.exit 0,⟨[(2,.ptr 500000 0),(3,.ptr 500001 0)],[(500000,.box [.nl,.nl,.nl,.nl,.nl]),(500001,.box [(ro 500002 4),(ro 500003 36),(ro 500004 4),(ro 500005 3),(ro 500006 4)]),(500002,wB 4 r9),(500003,.row 36 [] (List.map (cS cB) x114)),(500004,wB 4 r10),(500005,wI 3 r11),(500006,wB 4 r12)]⟩)) (cut_State_clone_k_l1 st) (0,[]) x114 (by kernel_rfl) (subR_prep [.row (.box 3 1) 800000 36 []] [(2,500000),(3,500001),(700100,500002),(700250,500004),(700400,500005),(700550,500006),(800000,500003)] (by kernel_rfl) rfl rfl (by kernel_rfl)) (iter_loop hx114) ?_ ?_ ?_
 intro s81 r h
 refine y3 1 [2,3,20,21,22,23] [500000,500001,500002,500003,500004,500005,500006] (zB (zI (decide (s81.1 < (st.Holes.length : Int))) (fun hb=>?_) fun hb=>?_))
 replace h:=iteT hb h
 refine y4 [2,3,20,21,22] [500000,500001,500002,500003,500004,500005,500006] (zB (zC (z7 ?_)))
 obtain ⟨x107,hx107,h⟩:=bindS h
 refine evs_op (st_idx (c:=(cS cB)) (l:=st.Holes) (i:=s81.1) (kd:=.i64) (sz:=1) (by kernel_rfl) hx107 rfl) (y1 2 [2,3,5,20,21,22] [500000,500001,500002,500003,500004,500005,500006] (sem_drawN [] [] [] [] [] 5 (by kernel_rfl) (by kernel_rfl) (by kernel_rfl) (evd_run 3 (by kernel_rfl) ?_)))
 obtain ⟨r112,hr112,h⟩:=bindS h
 refine evd_callS [] [] (by kernel_rfl) (by kernel_rfl) (pc_frz (by decide) (W.slices_Clone_Lbool_bool_ok hr112)) (by kernel_rfl) (.inl rfl) (by kernel_rfl) (by kernel_rfl) (evd_run 1 (by kernel_rfl) (evd_end (by kernel_rfl) ?_))
 obtain ⟨l113,hl113,h⟩:=bindS h
 refine evo_op (st_app (c:=(cS cB)) (l:=s81.2) (l2:=[r112]) (x:=(.sl (List.map (cS cB) [r112]))) (g:=500003) (e:=36) (sz:=1) (d:=31) (by kernel_rfl) (by kernel_rfl) (by kernel_rfl) (by kernel_rfl) (fun _=>rfl) rfl hl113) (evo_run 2 (by kernel_rfl) (zO fun τ hτ=>?_))
 refine bl_normal (yE hτ [2,3,20,21,22] [500000,500001,500002,500003,500004,500005,500006] (zD (z6 2 fun τ hτ=>?_)))
 obtain rfl:=osi h
 exact zH hτ
 replace h:=iteF hb h
 refine zL 0 fun τ hτ=>?_
 refine th_exit ?_
 obtain rfl:=osi h
 exact zF hτ
 intro x
 rfl
 intro τ hτ
 refine zQ (yE hτ [2,3] [500000,500001,500002,500003,500004,500005,500006] (z8 2 ⟨[(2,.ptr 500000 0)],[(500000,.box [(ro 500002 4),(ro 500003 36),(ro 500004 4),(ro 500005 3),(ro 500006 4)]),(500002,wB 4 r9),(500003,.row 36 [] (List.map (cS cB) x114)),(500004,wB 4 r10),(500005,wI 3 r11),(500006,wB 4 r12)]⟩ fun τ hτ=>?_))
 obtain rfl:=osi h
 exact rk_ret hτ [(2,.ptr 0 0)] (subR_prep [] [(500000,0),(500002,1),(500003,2),(500004,3),(500005,4),(500006,5)] (by kernel_rfl) rfl rfl (by kernel_rfl)) (by kernel_rfl)
theorem W.cut_do_k_ok {l : LayoutT} {all : (List EdgeT)} {st : cut_State} {x3 : ItemT} {r : cut_State×Int} (h : cut_do_k l all st x3=some r) : PC G.P 54 [(.agg (c_LayoutT l)),(.sl (List.map c_EdgeT all)),(.agg (c_cut_State st)),(.agg (c_ItemT x3))] [] (.tup [(.agg [(.row (.top 1) 4),(.row (.top 2) 36),(.row (.top 3) 4),(.row (.top 4) 3),(.row (.top 5) 4)]),(vI r.2)]) [(0,.box [(.row (.top 1) 4),(.row (.top 2) 36),(.row (.top 3) 4),(.row (.top 4) 3),(.row (.top 5) 4)]),(1,.row 4 [] (List.map cB r.1.Cut)),(2,.row 36 [] (List.map (cS cB) r.1.Holes)),(3,.row 4 [] (List.map cB r.1.Done)),(4,.row 3 [] (List.map cI r.1.Joints)),(5,.row 4 [] (List.map cB r.1.Fallen))]:=by
 refine zU G Tryz.func54 (yK [0,1,2,3] [] (y3 5 [1,4,6,7,8] [4,6,7,8] (zB (zC (z7 (zA 3 ?_))))))
 refine evs_op (st_len (c:=c_EdgeT) (l:=all) (x:=(s_EdgeT all)) (by kernel_rfl) (by kernel_rfl)) ?_
 obtain ⟨r15,hr15,h⟩:=bindS h
 refine evs_callP [] (by kernel_rfl) (W.cut_State_fits_k_ok hr15) (by kernel_rfl) (.inl rfl) (by kernel_rfl) (zA 2 (zS r15 (fun b0=>⟨[(1,s_EdgeT all),(4,.ptr 4 0),(6,.ptr 6 0),(7,.ptr 7 0),(8,.ptr 8 0),(21,vB (!b0))],[(4,.box (c_LayoutT l)),(6,.box (c_cut_State st)),(7,.box (c_ItemT x3)),(8,.box [.nl,.nl,.nl,.nl,.nl])]⟩) (fun hb=>?_) fun hb=>?_))
 replace h:=iteT hb h
 refine zA 5 (zS (decide (x3.Piece < 0)) (fun b0=>⟨[(1,s_EdgeT all),(4,.ptr 4 0),(6,.ptr 6 0),(7,.ptr 7 0),(8,.ptr 8 0),(26,vB b0)],[(4,.box (c_LayoutT l)),(6,.box (c_cut_State st)),(7,.box (c_ItemT x3)),(8,.box [.nl,.nl,.nl,.nl,.nl])]⟩) (fun hb=>?_) fun hb=>?_)
 replace h:=iteT hb h
 exact nomatch h
 replace h:=iteF hb h
 refine zA 4 (evs_op (st_len (c:=c_Piece) (l:=l.Pieces) (x:=(s_Piece l.Pieces)) (by kernel_rfl) (by kernel_rfl)) (y1 3 [1,4,6,7,8,14] [4,6,7,8] (zI (decide (x3.Piece ≥ (l.Pieces.length : Int))) (fun hb=>?_) fun hb=>?_)))
 replace h:=iteT hb h
 exact nomatch h
 replace h:=iteF hb h
 refine zB (sem_drawN [] [] [] [] [] 14 (by kernel_rfl) (by kernel_rfl) (by kernel_rfl) (evd_run 4 (by kernel_rfl) (evd_split (decide (x3.Hole < (-1))) (fun b0=>⟨[(39,vB b0),(38,vB b0),(37,vI x3.Hole),(36,.ptr 7 1),(1,s_EdgeT all),(4,.ptr 4 0),(6,.ptr 6 0),(7,.ptr 7 0),(8,.ptr 8 0),(14,vB (decide (x3.Piece ≥ (l.Pieces.length : Int))))],[(4,.box (c_LayoutT l)),(6,.box (c_cut_State st)),(7,.box (c_ItemT x3)),(8,.box [.nl,.nl,.nl,.nl,.nl])]⟩) (by kernel_rfl) (fun hb=>?_) fun hb=>?_)))
 replace h:=iteT hb h
 exact nomatch h
 replace h:=iteF hb h
 refine evd_run 6 (by kernel_rfl) ?_
 obtain ⟨x18,hx18,h⟩:=bindS h
 refine evd_val (by kernel_rfl) (st_idx (c:=c_Piece) (l:=l.Pieces) (i:=x3.Piece) (kd:=.i64) (sz:=7) (by kernel_rfl) hx18 rfl) (by kernel_rfl) (by kernel_rfl) (evd_run 2 (by kernel_rfl) (evd_val (by kernel_rfl) (st_len (c:=c_Rect) (l:=x18.Cuts) (x:=(s_Rect x18.Cuts)) (by kernel_rfl) (by kernel_rfl)) (by kernel_rfl) (by kernel_rfl) (evd_end (by kernel_rfl) (evo_run 3 (by kernel_rfl) (evo_split (decide (x3.Hole ≥ (x18.Cuts.length : Int))) (fun b0=>⟨[(1,s_EdgeT all),(4,.ptr 4 0),(6,.ptr 6 0),(7,.ptr 7 0),(8,.ptr 8 0),(52,vB b0)],[(4,.box (c_LayoutT l)),(6,.box (c_cut_State st)),(7,.box (c_ItemT x3)),(8,.box [.nl,.nl,.nl,.nl,.nl])]⟩) (by kernel_rfl) (fun hb=>?_) fun hb=>?_)))))
 replace h:=iteT hb h
 exact nomatch h
 replace h:=iteF hb h
 refine evo_run 5 (by kernel_rfl) (evo_split (decide (x3.Joints < 0)) (fun b0=>⟨[(1,s_EdgeT all),(4,.ptr 4 0),(6,.ptr 6 0),(7,.ptr 7 0),(8,.ptr 8 0),(57,vB b0)],[(4,.box (c_LayoutT l)),(6,.box (c_cut_State st)),(7,.box (c_ItemT x3)),(8,.box [.nl,.nl,.nl,.nl,.nl])]⟩) (by kernel_rfl) (fun hb=>?_) fun hb=>?_)
 replace h:=iteT hb h
 exact nomatch h
 replace h:=iteF hb h
 refine evo_run 5 (by kernel_rfl) (evo_split (decide (x3.Joints > 4)) (fun b0=>⟨[(1,s_EdgeT all),(4,.ptr 4 0),(6,.ptr 6 0),(7,.ptr 7 0),(8,.ptr 8 0),(62,vB b0)],[(4,.box (c_LayoutT l)),(6,.box (c_cut_State st)),(7,.box (c_ItemT x3)),(8,.box [.nl,.nl,.nl,.nl,.nl])]⟩) (by kernel_rfl) (fun hb=>?_) fun hb=>?_)
 replace h:=iteT hb h
 exact nomatch h
 replace h:=iteF hb h
 refine evo_run 4 (by kernel_rfl) (evo_split (decide (x3.Hole ≥ 0)) (fun b0=>⟨[(1,s_EdgeT all),(4,.ptr 4 0),(6,.ptr 6 0),(7,.ptr 7 0),(8,.ptr 8 0),(62,vB false),(66,vB b0)],[(4,.box (c_LayoutT l)),(6,.box (c_cut_State st)),(7,.box (c_ItemT x3)),(8,.box [.nl,.nl,.nl,.nl,.nl])]⟩) (by kernel_rfl) (fun hb=>?_) fun hb=>?_)
 replace h:=iteT hb h
 exact nomatch h
 replace h:=iteF hb h
 refine evo_run 6 (by kernel_rfl) (zO fun τ hτ=>?_)
 refine yE hτ [1,4,6,7,8,35] [4,6,7,8] (sem_condF (by kernel_rfl) (by kernel_rfl) (z7 (zA 3 ?_)))
 obtain ⟨r20,hr20,h⟩:=bindS h
 refine evs_callP [] (by kernel_rfl) (W.cut_State_order_k_ok hr20) (by kernel_rfl) (.inl rfl) (by kernel_rfl) (y1 2 [1,4,6,7,8,73] [4,6,7,8] (zI (!r20) (fun hb=>?_) fun hb=>?_))
 replace h:=iteT hb h
 exact nomatch h
 replace h:=iteF hb h
 refine z7 (zA 4 (zS (decide (x3.Hole < 0)) (fun b0=>⟨[(1,s_EdgeT all),(4,.ptr 4 0),(6,.ptr 6 0),(7,.ptr 7 0),(8,.ptr 8 0),(84,vB b0)],[(4,.box (c_LayoutT l)),(6,.box (c_cut_State st)),(7,.box (c_ItemT x3)),(8,.box [.nl,.nl,.nl,.nl,.nl])]⟩) (fun hb=>?_) fun hb=>?_))
 replace h:=iteT hb h
 refine zA 5 (zS (x3.Joints==0) (fun b0=>⟨[(1,s_EdgeT all),(4,.ptr 4 0),(6,.ptr 6 0),(7,.ptr 7 0),(8,.ptr 8 0),(89,vB b0)],[(4,.box (c_LayoutT l)),(6,.box (c_cut_State st)),(7,.box (c_ItemT x3)),(8,.box [.nl,.nl,.nl,.nl,.nl])]⟩) (fun hb=>?_) fun hb=>?_)
 replace h:=iteT hb h
 refine zA 4 ?_
 obtain ⟨x23,hx23,h⟩:=bindS h
 refine evs_op (st_idx (c:=c_Piece) (l:=l.Pieces) (i:=x3.Piece) (kd:=.i64) (sz:=7) (by kernel_rfl) hx23 rfl) (zA 1 ?_)
 obtain ⟨r24,hr24,h⟩:=bindS h
 refine evs_callP [] (by kernel_rfl) (W.cut_Small_k_ok hr24) (by kernel_rfl) (.inl rfl) (by kernel_rfl) (y1 2 [1,4,6,7,8,80] [4,6,7,8] (zI r24 (fun hb=>?_) fun hb=>?_))
 replace h:=iteT hb h
 exact nomatch h
 replace h:=iteF hb h
 refine z7 (zA 4 ?_)
 obtain ⟨r26,hr26,h⟩:=bindS h
 refine evs_callP [] (by kernel_rfl) (W.cut_State_lead_k_ok hr26) (by kernel_rfl) (.inl rfl) (by kernel_rfl) (y1 2 [1,4,6,7,8,99] [4,6,7,8] (zI (!r26) (fun hb=>?_) fun hb=>?_))
 replace h:=iteT hb h
 exact nomatch h
 replace h:=iteF hb h
 refine zM fun τ hτ=>?_
 refine bl_normal (yE hτ [1,4,6,7,8] [4,6,7,8] (z7 (zA 1 ?_)))
 obtain ⟨r28,hr28,h⟩:=bindS h
 refine evs_callS [] [(0,700050),(1,700051),(2,700052),(3,700053),(4,700054),(5,700055)] [] (by kernel_rfl) (W.cut_State_clone_k_ok hr28) (by kernel_rfl) (by kernel_rfl) (.inl rfl) (y1 2 [1,4,7,8,10] [4,7,8,10,700051,700052,700053,700054,700055] (zB (y3 3 [1,4,7,8,10,111] [4,7,8,10,700051,700052,700053,700054,700055] (zI (decide (x3.Hole ≥ 0)) (fun hb=>?_) fun hb=>?_))))
 replace h:=iteT hb h
 exact nomatch h
 replace h:=iteF hb h
 refine zB (sem_drawN [(11,[700053])] [] [] [(4,[700053]),(5,[700053]),(6,[700053]),(7,[700053]),(8,[700053]),(9,[700053])] [] 12 (by kernel_rfl) (by kernel_rfl) (by kernel_rfl) (evd_run 10 (by kernel_rfl) ?_))
 obtain ⟨x81,hx81,h⟩:=bindS h
 refine evd_val (by kernel_rfl) (st_idxO (c:=cB) (l:=r28.Done) (i:=x3.Piece) (kd:=.i64) (kk:=(.top 700053)) (e:=4) (sz:=1) (by kernel_rfl) (by kernel_rfl) hx81 rfl) (by kernel_rfl) (by kernel_rfl) (evd_set (by kernel_rfl) (st_stO (c:=cB) (l:=r28.Done) (i:=(Int.toNat x3.Piece)) (x:=x81) (x':=true) (v:=(vB true)) (agg:=false) (sz:=1) (kk:=(.top 700053)) (e:=4) (off:=0) (J:=[]) (o:=wB 4 (List.set r28.Done (Int.toNat x3.Piece) true)) (by kernel_rfl) (by kernel_rfl) (by kernel_rfl) ((idxS hx81).2) (by kernel_rfl) (by kernel_rfl) (by kernel_rfl)) (by kernel_rfl) (by kernel_rfl) (by kernel_rfl) (evd_end (by kernel_rfl) ?_))
 obtain ⟨x82,hx82,h⟩:=bindS h
 refine evo_op (st_idxO (c:=cI) (l:=r28.Joints) (i:=x3.Piece) (kd:=.i64) (kk:=(.top 700054)) (e:=3) (sz:=1) (by kernel_rfl) (by kernel_rfl) hx82 rfl) (evo_op (st_stO (c:=cI) (l:=r28.Joints) (i:=(Int.toNat x3.Piece)) (x:=x82) (x':=x3.Joints) (v:=(vI x3.Joints)) (agg:=false) (sz:=1) (kk:=(.top 700054)) (e:=3) (off:=0) (J:=[]) (o:=wI 3 (List.set r28.Joints (Int.toNat x3.Piece) x3.Joints)) (by kernel_rfl) (by kernel_rfl) (by kernel_rfl) ((idxS hx82).2) (by kernel_rfl) (by kernel_rfl) (by kernel_rfl)) (zO fun τ hτ=>?_))
 refine yE hτ [1,4,7,8,10] [4,7,8,10,700051,700052,700053,700054,700055] (z7 (zA 1 (evs_op (st_len (c:=c_EdgeT) (l:=all) (x:=(s_EdgeT all)) (by kernel_rfl) (by kernel_rfl)) (y1 1 [1,4,7,8,10,133,134,135] [4,7,8,10,700051,700052,700053,700054,700055] (zC ?_)))))
 obtain ⟨x124,hx124,h⟩:=bindS h
 refine sem_loopS (fun (s97 : Int×(List Bool))=>⟨[(1,s_EdgeT all),(4,.ptr 500000 0),(7,.ptr 500001 0),(8,.ptr 500002 0),(10,.ptr 500003 0),(133,s_EdgeT all),(134,vI (all.length : Int)),(135,vI s97.1)],[(500000,.box (c_LayoutT l)),(500001,.box (c_ItemT x3)),(500002,.box [.nl,.nl,.nl,.nl,.nl]),(500003,.box [(ro 500004 4),(ro 500005 36),(ro 500006 4),(ro 500007 3),(ro 500008 4)]),(500004,wB 4 s97.2),(500005,.row 36 [] (List.map (cS cB) r28.Holes)),(500006,wB 4 (List.set r28.Done (Int.toNat x3.Piece) true)),(500007,wI 3 (List.set r28.Joints (Int.toNat x3.Piece) x3.Joints)),(500008,wB 4 r28.Fallen)]⟩) (fun (x124 : (List Bool))=>(.exit 1,⟨[(1,s_EdgeT all),(4,.ptr 500000 0),(8,.ptr 500001 0),(10,.ptr 500002 0)],[(500000,.box (c_LayoutT l)),(500001,.box [.nl,.nl,.nl,.nl,.nl]),(500002,.box [(ro 500003 4),(ro 500004 36),(ro 500005 4),(ro 500006 3),(ro 500007 4)]),(500003,wB 4 x124),(500004,.row 36 [] (List.map (cS cB) r28.Holes)),(500005,wB 4 (List.set r28.Done (Int.toNat x3.Piece) true)),(500006,wI 3 (List.set r28.Joints (Int.toNat x3.Piece) x3.Joints)),(500007,wB 4 r28.Fallen)]⟩)) (cut_do_k_l2 all x3) (0,r28.Cut) x124 (by kernel_rfl) (subR_prep [] [(4,500000),(7,500001),(8,500002),(10,500003),(700051,500004),(700052,500005),(700053,500006),(700054,500007),(700055,500008)] (by kernel_rfl) rfl rfl (by kernel_rfl)) (iter_loop hx124) ?_ ?_ ?_
 intro s97 r h
 refine y3 1 [1,4,7,8,10,133,134,135,136] [500000,500001,500002,500003,500004,500005,500006,500007,500008] (zB (zI (decide (s97.1 < (all.length : Int))) (fun hb=>?_) fun hb=>?_))
 replace h:=iteT hb h
 refine y4 [1,4,7,8,10,133,134,135] [500000,500001,500002,500003,500004,500005,500006,500007,500008] (sem_seqJ (fun (j117 : (List Bool))=>⟨[(1,s_EdgeT all),(4,.ptr 500000 0),(7,.ptr 500001 0),(8,.ptr 500002 0),(10,.ptr 500003 0),(133,s_EdgeT all),(134,vI (all.length : Int)),(135,vI s97.1)],[(500000,.box (c_LayoutT l)),(500001,.box (c_ItemT x3)),(500002,.box [.nl,.nl,.nl,.nl,.nl]),(500003,.box [(ro 500004 4),(ro 500005 36),(ro 500006 4),(ro 500007 3),(ro 500008 4)]),(500004,wB 4 j117),(500005,.row 36 [] (List.map (cS cB) r28.Holes)),(500006,wB 4 (List.set r28.Done (Int.toNat x3.Piece) true)),(500007,wI 3 (List.set r28.Joints (Int.toNat x3.Piece) x3.Joints)),(500008,wB 4 r28.Fallen)]⟩) (cut_do_k_k1 s97) r (by kernel_rfl) (fun j117 h=>?_) ?_)
 refine zD (z6 2 fun τ hτ=>?_)
 obtain rfl:=osi h
 exact zH hτ
 refine zC (z7 (zA 1 ?_))
 obtain ⟨x119,hx119,h⟩:=bindS h
 refine evs_op (st_idx (c:=c_EdgeT) (l:=all) (i:=s97.1) (kd:=.i64) (sz:=6) (by kernel_rfl) hx119 rfl) (y1 4 [1,4,7,8,10,11,12,133,134,135] [12,500000,500001,500002,500003,500004,500005,500006,500007,500008] (z7 (zA 3 ?_)))
 obtain ⟨r121,hr121,h⟩:=bindS h
 refine evs_callP [] (by kernel_rfl) (W.cut_of_k_ok hr121) (by kernel_rfl) (.inl rfl) (by kernel_rfl) (zP fun τ hτ=>?_)
 refine yE hτ [1,4,7,8,10,11,133,134,135,143] [500000,500001,500002,500003,500004,500005,500006,500007,500008] (zI r121 (fun hb=>?_) fun hb=>?_)
 replace h:=iteT hb h
 refine zD (zA 3 ?_)
 obtain ⟨x123,hx123,h⟩:=bindS h
 refine evs_op (st_idxO (c:=cB) (l:=s97.2) (i:=s97.1) (kd:=.i64) (kk:=(.top 500004)) (e:=4) (sz:=1) (by kernel_rfl) (by kernel_rfl) hx123 rfl) (evs_op (st_stO (c:=cB) (l:=s97.2) (i:=(Int.toNat s97.1)) (x:=x123) (x':=true) (v:=(vB true)) (agg:=false) (sz:=1) (kk:=(.top 500004)) (e:=4) (off:=0) (J:=[]) (o:=wB 4 (List.set s97.2 (Int.toNat s97.1) true)) (by kernel_rfl) (by kernel_rfl) (by kernel_rfl) ((idxS hx123).2) (by kernel_rfl) (by kernel_rfl) (by kernel_rfl)) (zP fun τ hτ=>?_))
 exact bl_normal (jk_normal (List.set s97.2 (Int.toNat s97.1) true) h hτ (here (by kernel_rfl)))
 replace h:=iteF hb h
 refine zM fun τ hτ=>?_
 exact bl_normal (jk_normal s97.2 h hτ (here (by kernel_rfl)))
 replace h:=iteF hb h
 refine zL 1 fun τ hτ=>?_
 refine th_exit ?_
 obtain rfl:=osi h
 exact lk_outS hτ rfl (subR_prep [] [(500000,500000),(500002,500001),(500003,500002),(500004,500003),(500005,500004),(500006,500005),(500007,500006),(500008,500007)] (by kernel_rfl) rfl rfl (by kernel_rfl))
 intro x
 rfl
 intro τ hτ
 refine zQ (yE hτ [1,4,8,10] [500000,500001,500002,500003,500004,500005,500006,500007] (zB (z7 (zA 2 (evs_op (st_len (c:=c_Piece) (l:=l.Pieces) (x:=(s_Piece l.Pieces)) (by kernel_rfl) (by kernel_rfl)) (y1 1 [1,8,10,151,152] [500001,500002,500003,500004,500005,500006,500007] ?_))))))
 refine zC ?_
 obtain ⟨x244,hx244,h⟩:=bindS h
 refine sem_loopS (fun (s205 : Int×(List Bool))=>⟨[(1,s_EdgeT all),(8,.ptr 500000 0),(10,.ptr 500001 0),(151,vI (l.Pieces.length : Int)),(152,vI s205.1)],[(500000,.box [.nl,.nl,.nl,.nl,.nl]),(500001,.box [(ro 500002 4),(ro 500003 36),(ro 500004 4),(ro 500005 3),(ro 500006 4)]),(500002,wB 4 x124),(500003,.row 36 [] (List.map (cS cB) r28.Holes)),(500004,wB 4 (List.set r28.Done (Int.toNat x3.Piece) true)),(500005,wI 3 (List.set r28.Joints (Int.toNat x3.Piece) x3.Joints)),(500006,wB 4 s205.2)]⟩) (fun (x244 : (List Bool))=>(.exit 3,⟨[(8,.ptr 500000 0),(10,.ptr 500001 0)],[(500000,.box [.nl,.nl,.nl,.nl,.nl]),(500001,.box [(ro 500002 4),(ro 500003 36),(ro 500004 4),(ro 500005 3),(ro 500006 4)]),(500002,wB 4 x124),(500003,.row 36 [] (List.map (cS cB) r28.Holes)),(500004,wB 4 (List.set r28.Done (Int.toNat x3.Piece) true)),(500005,wI 3 (List.set r28.Joints (Int.toNat x3.Piece) x3.Joints)),(500006,wB 4 x244)]⟩)) (cut_do_k_l4 l all x3 r28 x124) (0,r28.Fallen) x244 (by kernel_rfl) (subR_prep [] [(500001,500000),(500002,500001),(500003,500002),(500004,500003),(500005,500004),(500006,500005),(500007,500006)] (by kernel_rfl) rfl rfl (by kernel_rfl)) (iter_loop hx244) ?_ ?_ ?_
 intro s205 r h
 refine y3 1 [1,8,10,151,152,153] [500000,500001,500002,500003,500004,500005,500006] (zB (zI (decide (s205.1 < (l.Pieces.length : Int))) (fun hb=>?_) fun hb=>?_))
 replace h:=iteT hb h
 refine y4 [1,8,10,151,152] [500000,500001,500002,500003,500004,500005,500006] (sem_seqJ (fun (j234 : (List Bool))=>⟨[(1,s_EdgeT all),(8,.ptr 500000 0),(10,.ptr 500001 0),(151,vI (l.Pieces.length : Int)),(152,vI s205.1)],[(500000,.box [.nl,.nl,.nl,.nl,.nl]),(500001,.box [(ro 500002 4),(ro 500003 36),(ro 500004 4),(ro 500005 3),(ro 500006 4)]),(500002,wB 4 x124),(500003,.row 36 [] (List.map (cS cB) r28.Holes)),(500004,wB 4 (List.set r28.Done (Int.toNat x3.Piece) true)),(500005,wI 3 (List.set r28.Joints (Int.toNat x3.Piece) x3.Joints)),(500006,wB 4 j234)]⟩) (cut_do_k_k3 s205) r (by kernel_rfl) (fun j234 h=>?_) ?_)
 refine zD (z6 2 fun τ hτ=>?_)
 obtain rfl:=osi h
 exact zH hτ
 refine zC (y3 2 [1,8,10,13,151,152] [500000,500001,500002,500003,500004,500005,500006] (zB ?_))
 obtain ⟨j238,hj238,h⟩:=bindS h
 refine zT ⟨[(1,s_EdgeT all),(8,.ptr 500000 0),(10,.ptr 500001 0),(13,vI s205.1),(151,vI (l.Pieces.length : Int)),(152,vI s205.1),(174,vB j238)],[(500000,.box [.nl,.nl,.nl,.nl,.nl]),(500001,.box [(ro 500002 4),(ro 500003 36),(ro 500004 4),(ro 500005 3),(ro 500006 4)]),(500002,wB 4 x124),(500003,.row 36 [] (List.map (cS cB) r28.Holes)),(500004,wB 4 (List.set r28.Done (Int.toNat x3.Piece) true)),(500005,wI 3 (List.set r28.Joints (Int.toNat x3.Piece) x3.Joints)),(500006,wB 4 s205.2)]⟩ ?_ fun τ hτ=>?_
 replace h:=hj238
 refine zA 3 ?_
 obtain ⟨r239,hr239,h⟩:=bindS h
 refine evs_callP [500002,500003,500004,500005,500006] (by kernel_rfl) (W.cut_State_free_k_ok hr239) (by kernel_rfl) (.inr rfl) (by kernel_rfl) (zA 1 (zS r239 (fun b0=>⟨[(1,s_EdgeT all),(8,.ptr 500000 0),(10,.ptr 500001 0),(13,vI s205.1),(151,vI (l.Pieces.length : Int)),(152,vI s205.1),(159,vB b0)],[(500000,.box [.nl,.nl,.nl,.nl,.nl]),(500001,.box [(ro 500002 4),(ro 500003 36),(ro 500004 4),(ro 500005 3),(ro 500006 4)]),(500002,wB 4 x124),(500003,.row 36 [] (List.map (cS cB) r28.Holes)),(500004,wB 4 (List.set r28.Done (Int.toNat x3.Piece) true)),(500005,wI 3 (List.set r28.Joints (Int.toNat x3.Piece) x3.Joints)),(500006,wB 4 s205.2)]⟩) (fun hb=>?_) fun hb=>?_))
 replace h:=iteT hb h
 refine zA 3 ?_
 obtain ⟨x240,hx240,h⟩:=bindS h
 refine evs_op (st_idxO (c:=cB) (l:=(List.set r28.Done (Int.toNat x3.Piece) true)) (i:=s205.1) (kd:=.i64) (kk:=(.top 500004)) (e:=4) (sz:=1) (by kernel_rfl) (by kernel_rfl) hx240 rfl) (evs_op (st_ldO (c:=cB) (l:=(List.set r28.Done (Int.toNat x3.Piece) true)) (i:=(Int.toNat s205.1)) (v:=(vB x240)) (agg:=false) (sz:=1) (kk:=(.top 500004)) (e:=4) (off:=0) (J:=[]) (by kernel_rfl) (by kernel_rfl) (by kernel_rfl) ((idxS hx240).2) (by kernel_rfl)) (zA 1 (zS x240 (fun b0=>⟨[(1,s_EdgeT all),(8,.ptr 500000 0),(10,.ptr 500001 0),(13,vI s205.1),(151,vI (l.Pieces.length : Int)),(152,vI s205.1),(159,vB true),(165,vB b0)],[(500000,.box [.nl,.nl,.nl,.nl,.nl]),(500001,.box [(ro 500002 4),(ro 500003 36),(ro 500004 4),(ro 500005 3),(ro 500006 4)]),(500002,wB 4 x124),(500003,.row 36 [] (List.map (cS cB) r28.Holes)),(500004,wB 4 (List.set r28.Done (Int.toNat x3.Piece) true)),(500005,wI 3 (List.set r28.Joints (Int.toNat x3.Piece) x3.Joints)),(500006,wB 4 s205.2)]⟩) (fun hb=>?_) fun hb=>?_)))
 replace h:=iteT hb h
 refine zA 3 ?_
 obtain ⟨x241,hx241,h⟩:=bindS h
 refine evs_op (st_idxO (c:=cI) (l:=(List.set r28.Joints (Int.toNat x3.Piece) x3.Joints)) (i:=s205.1) (kd:=.i64) (kk:=(.top 500005)) (e:=3) (sz:=1) (by kernel_rfl) (by kernel_rfl) hx241 rfl) (evs_op (st_ldO (c:=cI) (l:=(List.set r28.Joints (Int.toNat x3.Piece) x3.Joints)) (i:=(Int.toNat s205.1)) (v:=(vI x241)) (agg:=false) (sz:=1) (kk:=(.top 500005)) (e:=3) (off:=0) (J:=[]) (by kernel_rfl) (by kernel_rfl) (by kernel_rfl) ((idxS hx241).2) (by kernel_rfl)) (z6 4 fun τ hτ=>?_))
 obtain rfl:=osi h
 exact zG hτ
 replace h:=iteF hb h
 refine z6 9 fun τ hτ=>?_
 obtain rfl:=osi h
 exact zG hτ
 replace h:=iteF hb h
 refine z6 15 fun τ hτ=>?_
 obtain rfl:=osi h
 exact zG hτ
 refine yE hτ [1,8,10,13,151,152,174] [500000,500001,500002,500003,500004,500005,500006] (zI j238 (fun hb=>?_) fun hb=>?_)
 replace h:=iteT hb h
 refine zD (zA 3 ?_)
 obtain ⟨x243,hx243,h⟩:=bindS h
 refine evs_op (st_idxO (c:=cB) (l:=s205.2) (i:=s205.1) (kd:=.i64) (kk:=(.top 500006)) (e:=4) (sz:=1) (by kernel_rfl) (by kernel_rfl) hx243 rfl) (evs_op (st_stO (c:=cB) (l:=s205.2) (i:=(Int.toNat s205.1)) (x:=x243) (x':=true) (v:=(vB true)) (agg:=false) (sz:=1) (kk:=(.top 500006)) (e:=4) (off:=0) (J:=[]) (o:=wB 4 (List.set s205.2 (Int.toNat s205.1) true)) (by kernel_rfl) (by kernel_rfl) (by kernel_rfl) ((idxS hx243).2) (by kernel_rfl) (by kernel_rfl) (by kernel_rfl)) (zP fun τ hτ=>?_))
 exact bl_normal (jk_normal (List.set s205.2 (Int.toNat s205.1) true) h hτ (here (by kernel_rfl)))
 replace h:=iteF hb h
 refine zM fun τ hτ=>?_
 exact bl_normal (jk_normal s205.2 h hτ (here (by kernel_rfl)))
 replace h:=iteF hb h
 refine zL 3 fun τ hτ=>?_
 refine th_exit ?_
 obtain rfl:=osi h
 exact zF hτ
 intro x
 rfl
 intro τ hτ
 refine zQ (yE hτ [8,10] [500000,500001,500002,500003,500004,500005,500006] (z8 3 ⟨[(8,.ptr 500000 0),(9,vI 0)],[(500000,.box [(ro 500002 4),(ro 500003 36),(ro 500004 4),(ro 500005 3),(ro 500006 4)]),(500002,wB 4 x124),(500003,.row 36 [] (List.map (cS cB) r28.Holes)),(500004,wB 4 (List.set r28.Done (Int.toNat x3.Piece) true)),(500005,wI 3 (List.set r28.Joints (Int.toNat x3.Piece) x3.Joints)),(500006,wB 4 x244)]⟩ fun τ hτ=>?_))
 obtain rfl:=osi h
 exact rk_ret hτ [(8,.ptr 0 0),(9,vI 0)] (subR_prep [] [(500000,0),(500002,1),(500003,2),(500004,3),(500005,4),(500006,5)] (by kernel_rfl) rfl rfl (by kernel_rfl)) (by kernel_rfl)
 replace h:=iteF hb h
 exact nomatch h
 replace h:=iteF hb h
 exact nomatch h
 replace h:=iteF hb h
 exact nomatch h
theorem W.cut_Falls_1_k'_ok {st : cut_State} {h0_0 : (List Bool)} {h2 : (List (List Int))} {r : (List (List Int))} (h : cut_Falls_1_k' st h0_0 h2=some r) : PC G.P 62 [(.agg (c_cut_State st)),(.ptr 1000000 0),(.ptr 1000001 0)] [(1000000,.box [(.sl (List.map cB h0_0))]),(1000001,.box [(.row (.top 300002) 38)]),(300002,.row 38 [] (List.map (cS cI) h2))] (.tup []) [(0,.row 38 [] (List.map (cS cI) r)),(1000000,.box [(.sl (List.map cB st.Fallen))]),(1000001,.box [(.row (.top 0) 38)])]:=by
 refine zU G Tryz.func62 (yK [0,1,2] [300002,1000000,1000001] (y3 1 [1,2,3] [3,300002,1000000,1000001] (y3 1 [1,2,3,4] [3,4,300002,1000000,1000001] (zB (z7 (zA 2 ?_))))))
 refine evs_op (st_len (c:=cB) (l:=st.Fallen) (x:=(sB st.Fallen)) (by kernel_rfl) (by kernel_rfl)) (y1 1 [1,2,3,4,8,9,10] [3,4,300002,1000000,1000001] (zC ?_))
 obtain ⟨x96,hx96,h⟩:=bindS h
 refine sem_loopS (fun (s65 : Int×(List Int))=>⟨[(1,.ptr 1000000 0),(2,.ptr 1000001 0),(3,.ptr 500001 0),(4,ro 500002 3),(8,sB st.Fallen),(9,vI (st.Fallen.length : Int)),(10,vI s65.1)],[(500000,.row 38 [] (List.map (cS cI) h2)),(500001,.box (c_cut_State st)),(500002,wI 3 s65.2),(1000000,.box [(sB h0_0)]),(1000001,.box [(ro 500000 38)])]⟩) (fun (x96 : (List Int))=>(.exit 0,⟨[(1,.ptr 1000000 0),(2,.ptr 1000001 0),(3,.ptr 500001 0),(4,ro 500002 3)],[(500000,.row 38 [] (List.map (cS cI) h2)),(500001,.box (c_cut_State st)),(500002,wI 3 x96),(1000000,.box [(sB h0_0)]),(1000001,.box [(ro 500000 38)])]⟩)) (cut_Falls_1_k'_l2 st h0_0) (0,[]) x96 (by kernel_rfl) (subR_prep [] [(3,500001),(4,500002),(300002,500000),(1000000,1000000),(1000001,1000001)] (by kernel_rfl) rfl rfl (by kernel_rfl)) (iter_loop hx96) ?_ ?_ ?_
 intro s65 r h
 refine y3 1 [1,2,3,4,8,9,10,11] [500000,500001,500002,1000000,1000001] (zB (zI (decide (s65.1 < (st.Fallen.length : Int))) (fun hb=>?_) fun hb=>?_))
 replace h:=iteT hb h
 refine y4 [1,2,3,4,8,9,10] [500000,500001,500002,1000000,1000001] (sem_seqJ (fun (j88 : (List Int))=>⟨[(1,.ptr 1000000 0),(2,.ptr 1000001 0),(3,.ptr 500001 0),(4,ro 500002 3),(8,sB st.Fallen),(9,vI (st.Fallen.length : Int)),(10,vI s65.1)],[(500000,.row 38 [] (List.map (cS cI) h2)),(500001,.box (c_cut_State st)),(500002,wI 3 j88),(1000000,.box [(sB h0_0)]),(1000001,.box [(ro 500000 38)])]⟩) (cut_Falls_1_k'_k1 s65) r (by kernel_rfl) (fun j88 h=>?_) ?_)
 refine zD (z6 2 fun τ hτ=>?_)
 obtain rfl:=osi h
 exact zH hτ
 refine zC (z7 (zA 1 ?_))
 obtain ⟨x90,hx90,h⟩:=bindS h
 refine evs_op (st_idx (c:=cB) (l:=st.Fallen) (i:=s65.1) (kd:=.i64) (sz:=1) (by kernel_rfl) hx90 rfl) (y1 3 [1,2,3,4,5,6,8,9,10] [500000,500001,500002,1000000,1000001] (zB ?_))
 obtain ⟨j92,hj92,h⟩:=bindS h
 refine zT ⟨[(1,.ptr 1000000 0),(2,.ptr 1000001 0),(3,.ptr 500001 0),(4,ro 500002 3),(5,vI s65.1),(8,sB st.Fallen),(9,vI (st.Fallen.length : Int)),(10,vI s65.1),(22,vB j92)],[(500000,.row 38 [] (List.map (cS cI) h2)),(500001,.box (c_cut_State st)),(500002,wI 3 s65.2),(1000000,.box [(sB h0_0)]),(1000001,.box [(ro 500000 38)])]⟩ ?_ fun τ hτ=>?_
 replace h:=hj92
 refine zA 2 (zS x90 (fun b0=>⟨[(1,.ptr 1000000 0),(2,.ptr 1000001 0),(3,.ptr 500001 0),(4,ro 500002 3),(5,vI s65.1),(8,sB st.Fallen),(9,vI (st.Fallen.length : Int)),(10,vI s65.1),(16,vB b0)],[(500000,.row 38 [] (List.map (cS cI) h2)),(500001,.box (c_cut_State st)),(500002,wI 3 s65.2),(1000000,.box [(sB h0_0)]),(1000001,.box [(ro 500000 38)])]⟩) (fun hb=>?_) fun hb=>?_)
 replace h:=iteT hb h
 refine zA 2 ?_
 obtain ⟨x93,hx93,h⟩:=bindS h
 refine evs_op (st_idx (c:=cB) (l:=h0_0) (i:=s65.1) (kd:=.i64) (sz:=1) (by kernel_rfl) hx93 rfl) (z6 3 fun τ hτ=>?_)
 obtain rfl:=osi h
 exact zG hτ
 replace h:=iteF hb h
 refine z6 6 fun τ hτ=>?_
 obtain rfl:=osi h
 exact zG hτ
 refine yE hτ [1,2,3,4,5,8,9,10,22] [500000,500001,500002,1000000,1000001] (zI j92 (fun hb=>?_) fun hb=>?_)
 replace h:=iteT hb h
 refine zD (zA 3 ?_)
 obtain ⟨l95,hl95,h⟩:=bindS h
 refine evs_op (st_app (c:=cI) (l:=s65.2) (l2:=[s65.1]) (x:=(sI [s65.1])) (g:=500002) (e:=3) (sz:=1) (d:=26) (by kernel_rfl) (by kernel_rfl) (by kernel_rfl) (by kernel_rfl) (fun _=>rfl) rfl hl95) (z6 1 fun τ hτ=>?_)
 exact bl_normal (jk_normal l95 h hτ (here (by kernel_rfl)))
 replace h:=iteF hb h
 refine zM fun τ hτ=>?_
 exact bl_normal (jk_normal s65.2 h hτ (here (by kernel_rfl)))
 replace h:=iteF hb h
 refine zL 0 fun τ hτ=>?_
 refine th_exit ?_
 obtain rfl:=osi h
 exact zF hτ
 intro x
 rfl
 intro τ hτ
 refine zQ (yE hτ [1,2,3,4] [500000,500001,500002,1000000,1000001] (z7 (zA 2 (evs_prep [.frz 500002] (by kernel_rfl) (zA 1 ?_)))))
 obtain ⟨l98,hl98,h⟩:=bindS h
 refine evs_op (st_app (c:=(cS cI)) (l:=h2) (l2:=[x96]) (x:=(.sl (List.map (cS cI) [x96]))) (g:=500000) (e:=38) (sz:=1) (d:=31) (by kernel_rfl) (by kernel_rfl) (by kernel_rfl) (by kernel_rfl) (fun _=>rfl) rfl hl98) (y1 1 [1,3] [500000,500001,1000000,1000001] (zD (z6 3 fun τ hτ=>?_)))
 obtain rfl:=osi h
 exact rk_normal hτ [] (subR_prep [] [(500000,0),(1000000,1000000),(1000001,1000001)] (by kernel_rfl) rfl rfl (by kernel_rfl)) (by kernel_rfl)
theorem W.cut_run__cut_Falls_1_k_ok {l : LayoutT} {items : (List ItemT)} {h1 : (List Bool)} {h3 : (List (List Int))} {r : cut_State×Int×Int×(List Bool)×(List (List Bool))×(List Bool)×(List Int)×(List Bool)×(List (List Int))×(List Bool)} (h : cut_run__cut_Falls_1_k l items h1 h3=some r) : PC G.P 57 [(.agg (c_LayoutT l)),(.sl (List.map c_ItemT items)),(.fn 62 [(.ptr 1000000 0),(.ptr 1000002 0)])] [(1000000,.box [(.row (.top 300001) 4)]),(300001,.row 4 [] (List.map cB h1)),(1000002,.box [(.row (.top 300003) 38)]),(300003,.row 38 [] (List.map (cS cI) h3))] (.tup [(.agg (c_cut_State r.1)),(vI r.2.1),(vI r.2.2.1)]) [(0,.box [(.sl (List.map cB r.2.2.2.1)),(.sl (List.map (cS cB) r.2.2.2.2.1)),(.sl (List.map cB r.2.2.2.2.2.1)),(.sl (List.map cI r.2.2.2.2.2.2.1)),(.sl (List.map cB r.2.2.2.2.2.2.2.1))]),(1,.row 38 [] (List.map (cS cI) r.2.2.2.2.2.2.2.2.1)),(1000000,.box [(.sl (List.map cB r.2.2.2.2.2.2.2.2.2))]),(1000002,.box [(.row (.top 1) 38)])]:=by
 refine zU G Tryz.func57 (yK [0,1,2] [300001,300003,1000000,1000002] (y3 4 [1,2,3,6] [3,6,300001,300003,1000000,1000002] (z7 (zA 1 ?_))))
 obtain ⟨r2,hr2,h⟩:=bindS h
 refine evs_callS [] [(0,700050)] [] (by kernel_rfl) (W.cut_Edges_k_ok hr2) (by kernel_rfl) (by kernel_rfl) (.inl rfl) (y1 5 [1,2,3,6,9,10] [3,6,300001,300003,700050,1000000,1000002] (zB (y3 2 [1,2,3,6,9,10,22] [3,6,300001,300003,700050,1000000,1000002] (zI (r2.2 != 0) (fun hb=>?_) fun hb=>?_))))
 replace h:=iteT hb h
 exact nomatch h
 replace h:=iteF hb h
 refine y4 [1,2,3,6,9] [3,6,300001,300003,700050,1000000,1000002] (zB (z7 (zA 1 (evs_op (st_len (c:=c_ItemT) (l:=items) (x:=(s_ItemT items)) (by kernel_rfl) (by kernel_rfl)) (y1 1 [1,2,3,6,9,27] [3,6,300001,300003,700050,1000000,1000002] (zI (decide ((items.length : Int) > 128)) (fun hb=>?_) fun hb=>?_))))))
 replace h:=iteT hb h
 exact nomatch h
 replace h:=iteF hb h
 refine y4 [1,2,3,6,9] [3,6,300001,300003,700050,1000000,1000002] (z7 (zA 2 (evs_op (st_len (c:=c_EdgeT) (l:=r2.1) (x:=(ro 700050 74)) (by kernel_rfl) (by kernel_rfl)) ?_)))
 obtain ⟨r4,hr4,h⟩:=bindS h
 refine evs_callS [] [(0,700150),(1,700151),(2,700152),(3,700153),(4,700154),(5,700155)] [] (by kernel_rfl) (W.cut_start_k_ok hr4) (by kernel_rfl) (by kernel_rfl) (.inl rfl) (y1 2 [1,2,3,6,9,11] [3,6,11,300001,300003,700050,700151,700152,700153,700154,700155,1000000,1000002] (zB (z7 (zA 1 (evs_op (st_len (c:=c_ItemT) (l:=items) (x:=(s_ItemT items)) (by kernel_rfl) (by kernel_rfl)) (y1 1 [2,3,6,9,11,33,34,35] [3,6,11,300001,300003,700050,700151,700152,700153,700154,700155,1000000,1000002] ?_))))))
 refine zC ?_
 obtain ⟨x82,hx82,h⟩:=bindS h
 refine sem_loopS (fun (s57 : Int×(List (List Int))×(List Bool)×(List (List Bool))×(List Bool)×(List Int)×(List Bool)×(List Bool))=>⟨[(2,.fn 62 [(.ptr 1000000 0),(.ptr 1000002 0)]),(3,.ptr 500001 0),(6,.ptr 500002 0),(9,s_EdgeT r2.1),(11,.ptr 500003 0),(33,s_ItemT items),(34,vI (items.length : Int)),(35,vI s57.1)],[(500000,.row 38 [] (List.map (cS cI) s57.2.1)),(500001,.box (c_LayoutT l)),(500002,.box [.nl,.nl,.nl,.nl,.nl]),(500003,.box [(sB s57.2.2.1),(.sl (List.map (cS cB) s57.2.2.2.1)),(sB s57.2.2.2.2.1),(sI s57.2.2.2.2.2.1),(sB s57.2.2.2.2.2.2.1)]),(1000000,.box [(sB s57.2.2.2.2.2.2.2)]),(1000002,.box [(ro 500000 38)])]⟩) (fun (x82 : (List Bool)×(List (List Bool))×(List Bool)×(List Int)×(List Bool)×(List (List Int))×(List Bool))=>(.exit 0,⟨[(6,.ptr 500000 0),(11,.ptr 500001 0)],[(500000,.box [.nl,.nl,.nl,.nl,.nl]),(500001,.box [(sB x82.1),(.sl (List.map (cS cB) x82.2.1)),(sB x82.2.2.1),(sI x82.2.2.2.1),(sB x82.2.2.2.2.1)]),(500002,.row 38 [] (List.map (cS cI) x82.2.2.2.2.2.1)),(1000000,.box [(sB x82.2.2.2.2.2.2)]),(1000002,.box [(ro 500002 38)])]⟩)) (cut_run__cut_Falls_1_k_l1 l items r2) (0,h3,r4.Cut,r4.Holes,r4.Done,r4.Joints,r4.Fallen,h1) x82 (by kernel_rfl) (subR_prep [.frz 300001,.frz 700050,.frz 700151,.frz 700152,.frz 700153,.frz 700154,.frz 700155] [(3,500001),(6,500002),(11,500003),(300003,500000),(1000000,1000000),(1000002,1000002)] (by kernel_rfl) rfl rfl (by kernel_rfl)) (iter_loop hx82) ?_ ?_ ?_
 intro s57 r h
 refine y3 1 [2,3,6,9,11,33,34,35,36] [500000,500001,500002,500003,1000000,1000002] (zB (zI (decide (s57.1 < (items.length : Int))) (fun hb=>?_) fun hb=>?_))
 replace h:=iteT hb h
 refine y4 [2,3,6,9,11,33,34,35] [500000,500001,500002,500003,1000000,1000002] (zB (zC (z7 (zA 1 ?_))))
 obtain ⟨x77,hx77,h⟩:=bindS h
 refine evs_op (st_idx (c:=c_ItemT) (l:=items) (i:=s57.1) (kd:=.i64) (sz:=5) (by kernel_rfl) hx77 rfl) (y1 4 [2,3,6,9,11,12,13,33,34,35] [13,500000,500001,500002,500003,1000000,1000002] (z7 (zA 4 ?_)))
 obtain ⟨r79,hr79,h⟩:=bindS h
 refine evs_callS [] [(0,700200),(1,700201),(2,700202),(3,700203),(4,700204),(5,700205)] [] (by kernel_rfl) (W.cut_do_k_ok hr79) (by kernel_rfl) (by kernel_rfl) (.inl rfl) (y1 6 [2,3,6,9,11,12,14,15,33,34,35] [14,500000,500001,500002,500003,700201,700202,700203,700204,700205,1000000,1000002] (zB (y3 2 [2,3,6,9,11,12,14,15,33,34,35,49] [14,500000,500001,500002,500003,700201,700202,700203,700204,700205,1000000,1000002] (zI (r79.2 != 0) (fun hb=>?_) fun hb=>?_))))
 replace h:=iteT hb h
 exact nomatch h
 replace h:=iteF hb h
 refine y4 [2,3,6,9,11,14,33,34,35] [14,500000,500001,500002,500003,700201,700202,700203,700204,700205,1000000,1000002] (y3 2 [2,3,6,9,11,33,34,35] [500000,500001,500002,500003,700201,700202,700203,700204,700205,1000000,1000002] (zD (zA 2 (evs_prep [.frz 700201,.frz 700202,.frz 700203,.frz 700204,.frz 700205] (by kernel_rfl) ?_))))
 obtain ⟨r81,hr81,h⟩:=bindS h
 refine evs_callS [(1000000,1000000),(1000001,1000002),(300002,500000)] [(0,700100)] [] (by kernel_rfl) (W.cut_Falls_1_k'_ok hr81) (by kernel_rfl) (by kernel_rfl) (.inl rfl) (zP fun τ hτ=>?_)
 refine bl_normal (yE hτ [2,3,6,9,11,33,34,35] [500001,500002,500003,700100,1000000,1000002] (zD (z6 2 fun τ hτ=>?_)))
 obtain rfl:=osi h
 exact lk_nextS hτ (subR_prep [] [(500001,500001),(500002,500002),(500003,500003),(700100,500000),(1000000,1000000),(1000002,1000002)] (by kernel_rfl) rfl rfl (by kernel_rfl))
 replace h:=iteF hb h
 refine zL 0 fun τ hτ=>?_
 refine th_exit ?_
 obtain rfl:=osi h
 exact lk_outS hτ rfl (subR_prep [] [(500000,500002),(500002,500000),(500003,500001),(1000000,1000000),(1000002,1000002)] (by kernel_rfl) rfl rfl (by kernel_rfl))
 intro x
 rfl
 intro τ hτ
 refine zQ (yE hτ [6,11] [500000,500001,500002,1000000,1000002] (z8 4 ⟨[(6,.ptr 500000 0),(7,vI 0),(8,vI 0)],[(500000,.box [(sB x82.1),(.sl (List.map (cS cB) x82.2.1)),(sB x82.2.2.1),(sI x82.2.2.2.1),(sB x82.2.2.2.2.1)]),(500002,.row 38 [] (List.map (cS cI) x82.2.2.2.2.2.1)),(1000000,.box [(sB x82.2.2.2.2.2.2)]),(1000002,.box [(ro 500002 38)])]⟩ fun τ hτ=>?_))
 obtain rfl:=osi h
 exact rk_ret hτ [(6,.ptr 0 0),(7,vI 0),(8,vI 0)] (subR_prep [] [(500000,0),(500002,1),(1000000,1000000),(1000002,1000002)] (by kernel_rfl) rfl rfl (by kernel_rfl)) (by kernel_rfl)
theorem W.cut_Falls_k_ok {l : LayoutT} {items : (List ItemT)} {r : (List (List Int))×Int} (h : cut_Falls_k l items=some r) : PC G.P 26 [(.agg (c_LayoutT l)),(.sl (List.map c_ItemT items))] [] (.tup [(.row (.top 0) 38),(vI r.2)]) [(0,.row 38 [] (List.map (cS cI) r.1))]:=by
 refine zU G Tryz.func26 (yK [0,1] [] (y3 3 [1,2] [2] (z7 (zA 1 (evs_prep [.row (.box 6 0) 800006 38 []] (by kernel_rfl) (zP fun τ hτ=>?_))))))
 refine yE hτ [1,2,6] [2,6,800006] (z7 (zA 2 (evs_op (st_len (c:=c_Piece) (l:=l.Pieces) (x:=(s_Piece l.Pieces)) (by kernel_rfl) (by kernel_rfl)) ?_)))
 obtain ⟨l2,hl2,h⟩:=bindS h
 refine evs_op (st_mk (c:=cB) (z:=false) (n:=(l.Pieces.length : Int)) (e:=4) (d:=14) (zs:=[(vB false)]) (k1:=.i64) (k2:=.i64) (by kernel_rfl) rfl hl2) (zA 1 (evs_prep [.row (.box 7 0) 800007 4 []] (by kernel_rfl) (y1 1 [1,2,6,7] [2,6,7,14,800006] (z7 (zA 3 ?_)))))
 obtain ⟨r4,hr4,h⟩:=bindS h
 refine evs_callS [(1000000,7),(300001,14),(1000002,6),(300003,800006)] [(0,700150),(1,700151)] [] (by kernel_rfl) (W.cut_run__cut_Falls_1_k_ok hr4) (by kernel_rfl) (by kernel_rfl) (.inl rfl) (y1 8 [6,10] [6,700151] (zB (y3 2 [6,10,24] [6,700151] (zI (r4.2.2.1 != 0) (fun hb=>?_) fun hb=>?_))))
 replace h:=iteT hb h
 exact nomatch h
 replace h:=iteF hb h
 refine y4 [6] [6,700151] (z8 3 ⟨[(4,ro 700151 38),(5,vI 0)],[(700151,.row 38 [] (List.map (cS cI) r4.2.2.2.2.2.2.2.2.1))]⟩ fun τ hτ=>?_)
 obtain rfl:=osi h
 exact rk_ret hτ [(4,ro 0 38),(5,vI 0)] (subR_prep [] [(700151,0)] (by kernel_rfl) rfl rfl (by kernel_rfl)) (by kernel_rfl)
theorem W.sheetmetalref06_SameInts_k_ok {a : (List Int)} {b : (List Int)} {r : Bool} (h : sheetmetalref06_SameInts_k a b=some r) : PC G.P 30 [(.sl (List.map cI a)),(.sl (List.map cI b))] [] (vB r) []:=by
 refine zU G Tryz.func30 (yK [0,1] [] (y3 1 [0,1] [] (zB (z7 (zA 1 (evs_op (st_len (c:=cI) (l:=a) (x:=(sI a)) (by kernel_rfl) (by kernel_rfl)) ?_))))))
 refine zA 1 (evs_op (st_len (c:=cI) (l:=b) (x:=(sI b)) (by kernel_rfl) (by kernel_rfl)) (y1 1 [0,1,10] [] (zI ((a.length : Int) != (b.length : Int)) (fun hb=>?_) fun hb=>?_)))
 replace h:=iteT hb h
 exact nomatch h
 replace h:=iteF hb h
 refine y4 [0,1] [] (zB (y3 1 [0,1,5] [] (zC ?_)))
 obtain ⟨x78,hx78,h⟩:=bindS h
 refine sem_loopS (fun (s53 : Int)=>⟨[(0,sI a),(1,sI b),(5,vI s53)],[]⟩) (fun (x78 : Unit)=>(.exit 0,⟨[],[]⟩)) (sheetmetalref06_SameInts_k_l1 a b) 0 x78 (by kernel_rfl) (here (by kernel_rfl)) (iter_loop hx78) ?_ ?_ ?_
 intro s53 r h
 refine zB (z7 (zA 2 (evs_op (st_len (c:=cI) (l:=a) (x:=(sI a)) (by kernel_rfl) (by kernel_rfl)) (y1 1 [0,1,5,14] [] (zI (decide (s53 < (a.length : Int))) (fun hb=>?_) fun hb=>?_)))))
 replace h:=iteT hb h
 refine y4 [0,1,5] [] (zB (zC (zB (sem_drawN [] [] [] [] [] 8 (by kernel_rfl) (by kernel_rfl) (by kernel_rfl) (evd_run 2 (by kernel_rfl) ?_)))))
 obtain ⟨x76,hx76,h⟩:=bindS h
 refine evd_val (by kernel_rfl) (st_idx (c:=cI) (l:=a) (i:=s53) (kd:=.i64) (sz:=1) (by kernel_rfl) hx76 rfl) (by kernel_rfl) (by kernel_rfl) (evd_run 3 (by kernel_rfl) ?_)
 obtain ⟨x77,hx77,h⟩:=bindS h
 refine evd_val (by kernel_rfl) (st_idx (c:=cI) (l:=b) (i:=s53) (kd:=.i64) (sz:=1) (by kernel_rfl) hx77 rfl) (by kernel_rfl) (by kernel_rfl) (evd_run 1 (by kernel_rfl) (evd_end (by kernel_rfl) (evo_run 1 (by kernel_rfl) (zO fun τ hτ=>?_))))
 refine yE hτ [0,1,5,25] [] (zI (x76 != x77) (fun hb=>?_) fun hb=>?_)
 replace h:=iteT hb h
 exact nomatch h
 replace h:=iteF hb h
 refine zM fun τ hτ=>?_
 refine bl_normal (yE hτ [0,1,5] [] (zD (z6 3 fun τ hτ=>?_)))
 obtain rfl:=osi h
 exact zH hτ
 replace h:=iteF hb h
 refine zL 0 fun τ hτ=>?_
 refine th_exit ?_
 obtain rfl:=osi h
 exact zF hτ
 intro x
 rfl
 intro τ hτ
 refine zQ (yE hτ [] [] (z8 1 ⟨[(4,vB true)],[]⟩ fun τ hτ=>?_))
 obtain rfl:=osi h
 exact zV hτ [(4,vB true)]
theorem W.sheetmetallaw07_known_k_ok {r : Bool} (h : sheetmetallaw07_known_k=some r) : PC G.P 13 [] [] (vB r) []:=by
 refine zU G Tryz.func13 (yK [] [] (y3 1 [] [] (y3 1 [1] [] (y3 7 [1,2] [2] (y3 7 [1,2,3] [2,3] (y3 8 [1,2,3,4] [2,3,4] ?_))))))
 refine z7 (zA 3 (evs_at (at_buildS (es:=(List.map c_Piece [(Piece.mk (ByteArray.mk #[97]) (ByteArray.mk #[115,116,101,101,108]) 10 0 [(Rect.mk 0 0 14400 14400)] [] []),(Piece.mk (ByteArray.mk #[98]) (ByteArray.mk #[115,116,101,101,108]) 10 0 [(Rect.mk 14400 0 14400 14400)] [] [])])) (by kernel_rfl)) (y1 3 [1,5] [5] (z7 (zA 1 ?_)))))
 obtain ⟨r2,hr2,h⟩:=bindS h
 refine evs_callS [] [(0,700050)] [] (by kernel_rfl) (W.cut_Edges_k_ok hr2) (by kernel_rfl) (by kernel_rfl) (.inl rfl) (y1 5 [1,5,6,7] [5,700050] (y3 7 [5,6,7,8] [5,700050] (z7 (zA 2 ?_))))
 obtain ⟨r4,hr4,h⟩:=bindS h
 refine evs_callS [] [(0,700100)] [] (by kernel_rfl) (W.cut_Falls_k_ok hr4) (by kernel_rfl) (by kernel_rfl) (.inl rfl) (y1 5 [6,7,9,10] [700050,700100] (z7 (zA 3 (zS (r2.2==0) (fun b0=>⟨[(6,ro 700050 74),(9,ro 700100 38),(10,vI r4.2),(51,vB b0)],[(700050,w_EdgeT 74 r2.1),(700100,.row 38 [] (List.map (cS cI) r4.1))]⟩) (fun hb=>?_) fun hb=>?_))))
 replace h:=iteT hb h
 refine zA 1 (evs_op (st_len (c:=c_EdgeT) (l:=r2.1) (x:=(ro 700050 74)) (by kernel_rfl) (by kernel_rfl)) (zA 3 (zS ((r2.1.length : Int)==7) (fun b0=>⟨[(9,ro 700100 38),(10,vI r4.2),(56,vB b0)],[(700100,.row 38 [] (List.map (cS cI) r4.1))]⟩) (fun hb=>?_) fun hb=>?_)))
 replace h:=iteT hb h
 refine zA 4 (zS (r4.2==0) (fun b0=>⟨[(9,ro 700100 38),(60,vB b0)],[(700100,.row 38 [] (List.map (cS cI) r4.1))]⟩) (fun hb=>?_) fun hb=>?_)
 replace h:=iteT hb h
 refine zA 1 (evs_op (st_len (c:=(cS cI)) (l:=r4.1) (x:=(ro 700100 38)) (by kernel_rfl) (by kernel_rfl)) (zA 3 (zS ((r4.1.length : Int)==2) (fun b0=>⟨[(9,ro 700100 38),(65,vB b0)],[(700100,.row 38 [] (List.map (cS cI) r4.1))]⟩) (fun hb=>?_) fun hb=>?_)))
 replace h:=iteT hb h
 refine zA 1 ?_
 obtain ⟨x9,hx9,h⟩:=bindS h
 refine evs_op (st_idxO (c:=(cS cI)) (l:=r4.1) (i:=0) (kd:=.i64) (kk:=(.top 700100)) (e:=38) (sz:=1) (by kernel_rfl) (by kernel_rfl) hx9 rfl) (evs_op (st_ldO (c:=(cS cI)) (l:=r4.1) (i:=(Int.toNat 0)) (v:=(sI x9)) (agg:=false) (sz:=1) (kk:=(.top 700100)) (e:=38) (off:=0) (J:=[]) (by kernel_rfl) (by kernel_rfl) (by kernel_rfl) ((idxS hx9).2) (by kernel_rfl)) (zA 1 ?_))
 obtain ⟨r10,hr10,h⟩:=bindS h
 refine evs_callP [] (by kernel_rfl) (W.sheetmetalref06_SameInts_k_ok hr10) (by kernel_rfl) (.inl rfl) (by kernel_rfl) (zA 2 (zS r10 (fun b0=>⟨[(9,ro 700100 38),(72,vB b0)],[(700100,.row 38 [] (List.map (cS cI) r4.1))]⟩) (fun hb=>?_) fun hb=>?_))
 replace h:=iteT hb h
 refine zA 1 ?_
 obtain ⟨x11,hx11,h⟩:=bindS h
 refine evs_op (st_idxO (c:=(cS cI)) (l:=r4.1) (i:=1) (kd:=.i64) (kk:=(.top 700100)) (e:=38) (sz:=1) (by kernel_rfl) (by kernel_rfl) hx11 rfl) (evs_op (st_ldO (c:=(cS cI)) (l:=r4.1) (i:=(Int.toNat 1)) (v:=(sI x11)) (agg:=false) (sz:=1) (kk:=(.top 700100)) (e:=38) (off:=0) (J:=[]) (by kernel_rfl) (by kernel_rfl) (by kernel_rfl) ((idxS hx11).2) (by kernel_rfl)) (zA 1 ?_))
 obtain ⟨r12,hr12,h⟩:=bindS h
 refine evs_callP [] (by kernel_rfl) (W.sheetmetalref06_SameInts_k_ok hr12) (by kernel_rfl) (.inl rfl) (by kernel_rfl) (y1 2 [0] [] (zN fun τ hτ=>?_))
 obtain rfl:=osi h
 exact zV hτ [(0,vB r12)]
 replace h:=iteF hb h
 exact nomatch h
 replace h:=iteF hb h
 exact nomatch h
 replace h:=iteF hb h
 exact nomatch h
 replace h:=iteF hb h
 exact nomatch h
 replace h:=iteF hb h
 exact nomatch h
theorem W.nest_lists_ok {sheets : (List Sheet)} {pieces : (List Piece)} {r : Int} (h : nest_lists sheets pieces=some r) : PC G.P 130 [(.sl (List.map c_Sheet sheets)),(.sl (List.map c_Piece pieces))] [] (vI r) []:=by
 refine zU G Tryz.func130 (yK [0,1] [] (y3 1 [0,1] [] (zB (zB ?_))))
 obtain ⟨j2,hj2,h⟩:=bindS h
 refine zT ⟨[(0,s_Sheet sheets),(1,s_Piece pieces),(18,vB j2)],[]⟩ ?_ fun τ hτ=>?_
 replace h:=hj2
 refine zA 1 (evs_op (st_len (c:=c_Sheet) (l:=sheets) (x:=(s_Sheet sheets)) (by kernel_rfl) (by kernel_rfl)) (zA 2 (zS (decide ((sheets.length : Int) > 4)) (fun b0=>⟨[(0,s_Sheet sheets),(1,s_Piece pieces),(14,vB b0)],[]⟩) (fun hb=>?_) fun hb=>?_)))
 replace h:=iteT hb h
 refine z6 4 fun τ hτ=>?_
 obtain rfl:=osi h
 exact zG hτ
 replace h:=iteF hb h
 refine zA 1 (evs_op (st_len (c:=c_Piece) (l:=pieces) (x:=(s_Piece pieces)) (by kernel_rfl) (by kernel_rfl)) (z6 2 fun τ hτ=>?_))
 obtain rfl:=osi h
 exact zG hτ
 refine yE hτ [0,1,18] [] (zI j2 (fun hb=>?_) fun hb=>?_)
 replace h:=iteT hb h
 refine z8 1 ⟨[(4,vI 4)],[]⟩ fun τ hτ=>?_
 refine th_ret ?_
 obtain rfl:=osi h
 exact zV hτ [(4,vI 4)]
 replace h:=iteF hb h
 refine y4 [0,1] [] (zB (z7 (zA 1 (evs_op (st_len (c:=c_Sheet) (l:=sheets) (x:=(s_Sheet sheets)) (by kernel_rfl) (by kernel_rfl)) (y1 1 [1,19,20,21] [] (zC ?_))))))
 obtain ⟨x58,hx58,h⟩:=bindS h
 refine sem_loopS (fun (s41 : Int)=>⟨[(1,s_Piece pieces),(19,s_Sheet sheets),(20,vI (sheets.length : Int)),(21,vI s41)],[]⟩) (fun (x58 : Int ⊕ Unit)=>match x58 with | .inl j59=>(.ret,⟨[(4,vI j59)],[]⟩) | .inr j60=>(.exit 0,⟨[(1,s_Piece pieces)],[]⟩)) (nest_lists_l1 sheets) 0 x58 (by kernel_rfl) (here (by kernel_rfl)) hx58 ?_ ?_ ?_
 intro s41 r h
 refine y3 1 [1,19,20,21,22] [] (zB (zI (decide (s41 < (sheets.length : Int))) (fun hb=>?_) fun hb=>?_))
 replace h:=iteT hb h
 refine y4 [1,19,20,21] [] (zB (zC (z7 ?_)))
 obtain ⟨x55,hx55,h⟩:=bindS h
 refine evs_op (st_idx (c:=c_Sheet) (l:=sheets) (i:=s41) (kd:=.i64) (sz:=8) (by kernel_rfl) hx55 rfl) (y1 3 [1,6,19,20,21] [6] (z7 (zA 1 ?_)))
 obtain ⟨r57,hr57,h⟩:=bindS h
 refine evs_callP [] (by kernel_rfl) (W.nest_ValidateSheet_ok hr57) (by kernel_rfl) (.inl rfl) (by kernel_rfl) (y1 1 [1,7,19,20,21] [] (y3 2 [1,7,19,20,21,28] [] (zI (r57 != 0) (fun hb=>?_) fun hb=>?_)))
 replace h:=iteT hb h
 refine z8 2 ⟨[(4,vI r57)],[]⟩ fun τ hτ=>?_
 refine bl_ret (th_ret ?_)
 obtain rfl:=osi h
 exact zF hτ
 replace h:=iteF hb h
 refine zM fun τ hτ=>?_
 refine bl_normal (yE hτ [1,19,20,21] [] (zD (z6 2 fun τ hτ=>?_)))
 obtain rfl:=osi h
 exact zH hτ
 replace h:=iteF hb h
 refine zL 0 fun τ hτ=>?_
 refine th_exit ?_
 obtain rfl:=osi h
 exact zF hτ
 intro x
 rcases x with _ | _ <;> rfl
 intro τ hτ
 rcases x58 with j59 | j60
 refine bl_ret (th_ret ?_)
 obtain rfl:=osi h
 exact zV hτ [(4,vI j59)]
 refine zQ (yE hτ [1] [] (zB (z7 (zA 1 (evs_op (st_len (c:=c_Piece) (l:=pieces) (x:=(s_Piece pieces)) (by kernel_rfl) (by kernel_rfl)) (y1 1 [31,32,33] [] ?_))))))
 refine zC ?_
 obtain ⟨x116,hx116,h⟩:=bindS h
 refine sem_loopS (fun (s99 : Int)=>⟨[(31,s_Piece pieces),(32,vI (pieces.length : Int)),(33,vI s99)],[]⟩) (fun (x116 : Int ⊕ Unit)=>match x116 with | .inl j117=>(.ret,⟨[(4,vI j117)],[]⟩) | .inr j118=>(.exit 2,⟨[],[]⟩)) (nest_lists_l2 pieces) 0 x116 (by kernel_rfl) (here (by kernel_rfl)) hx116 ?_ ?_ ?_
 intro s99 r h
 refine y3 1 [31,32,33,34] [] (zB (zI (decide (s99 < (pieces.length : Int))) (fun hb=>?_) fun hb=>?_))
 replace h:=iteT hb h
 refine y4 [31,32,33] [] (zB (zC (z7 ?_)))
 obtain ⟨x113,hx113,h⟩:=bindS h
 refine evs_op (st_idx (c:=c_Piece) (l:=pieces) (i:=s99) (kd:=.i64) (sz:=7) (by kernel_rfl) hx113 rfl) (y1 3 [9,31,32,33] [9] (z7 (zA 1 ?_)))
 obtain ⟨r115,hr115,h⟩:=bindS h
 refine evs_callP [] (by kernel_rfl) (W.nest_ValidatePiece_ok hr115) (by kernel_rfl) (.inl rfl) (by kernel_rfl) (y1 1 [10,31,32,33] [] (y3 2 [10,31,32,33,40] [] (zI (r115 != 0) (fun hb=>?_) fun hb=>?_)))
 replace h:=iteT hb h
 refine z8 2 ⟨[(4,vI r115)],[]⟩ fun τ hτ=>?_
 refine bl_ret (th_ret ?_)
 obtain rfl:=osi h
 exact zF hτ
 replace h:=iteF hb h
 refine zM fun τ hτ=>?_
 refine bl_normal (yE hτ [31,32,33] [] (zD (z6 2 fun τ hτ=>?_)))
 obtain rfl:=osi h
 exact zH hτ
 replace h:=iteF hb h
 refine zL 2 fun τ hτ=>?_
 refine th_exit ?_
 obtain rfl:=osi h
 exact zF hτ
 intro x
 rcases x with _ | _ <;> rfl
 intro τ hτ
 rcases x116 with j117 | j118
 refine bl_ret (th_ret ?_)
 obtain rfl:=osi h
 exact zV hτ [(4,vI j117)]
 refine zQ (yE hτ [] [] (z8 1 ⟨[(4,vI 0)],[]⟩ fun τ hτ=>?_))
 obtain rfl:=osi h
 exact zV hτ [(4,vI 0)]
theorem W.nest_ValidSettings_ok {set0 : Settings} {r : Bool} (h : nest_ValidSettings set0=some r) : PC G.P 131 [(.agg (c_Settings set0))] [] (vB r) []:=by
 refine zU G Tryz.func131 (yK [0] [] (y3 2 [1] [1] (zB ?_)))
 obtain ⟨j3,hj3,h⟩:=bindS h
 refine zT ⟨[(2,vB j3)],[]⟩ ?_ fun τ hτ=>?_
 replace h:=hj3
 refine zA 2 ?_
 obtain ⟨r4,hr4,h⟩:=bindS h
 refine evs_callP [] (by kernel_rfl) (W.nest_from_ok hr4) (by kernel_rfl) (.inl rfl) (by kernel_rfl) (zA 1 (zS r4 (fun b0=>⟨[(1,.ptr 1 0),(6,vB b0)],[(1,.box (c_Settings set0))]⟩) (fun hb=>?_) fun hb=>?_))
 replace h:=iteT hb h
 refine zA 2 ?_
 obtain ⟨r5,hr5,h⟩:=bindS h
 refine evs_callP [] (by kernel_rfl) (W.nest_from_ok hr5) (by kernel_rfl) (.inl rfl) (by kernel_rfl) (z6 2 fun τ hτ=>?_)
 obtain rfl:=osi h
 exact zG hτ
 replace h:=iteF hb h
 refine z6 5 fun τ hτ=>?_
 obtain rfl:=osi h
 exact zG hτ
 refine yE hτ [2] [] (zN fun τ hτ=>?_)
 obtain rfl:=osi h
 exact zV hτ [(2,vB j3)]
theorem W.flat_inRange_ok {s0 : Segment} {r : Bool} (h : flat_inRange s0=some r) : PC G.P 201 [(.agg (c_Segment s0))] [] (vB r) []:=by
 refine zU G Tryz.func201 (yK [0] [] (y3 2 [1] [1] (zB (z7 (zA 9 (evs_op (st_len (c:=cI) (l:=[s0.X1,s0.Y1,s0.X2,s0.Y2]) (x:=(sI [s0.X1,s0.Y1,s0.X2,s0.Y2])) (by kernel_rfl) (by kernel_rfl)) ?_))))))
 refine y1 1 [13,14,15] [] (zC ?_)
 obtain ⟨x44,hx44,h⟩:=bindS h
 refine sem_loopS (fun (s31 : Int)=>⟨[(13,sI [s0.X1,s0.Y1,s0.X2,s0.Y2]),(14,vI ([s0.X1,s0.Y1,s0.X2,s0.Y2].length : Int)),(15,vI s31)],[]⟩) (fun (x44 : Unit ⊕ Unit)=>match x44 with | .inl j45=>(.ret,⟨[(2,vB false)],[]⟩) | .inr j46=>(.exit 0,⟨[],[]⟩)) (flat_inRange_l1 s0) 0 x44 (by kernel_rfl) (here (by kernel_rfl)) hx44 ?_ ?_ ?_
 intro s31 r h
 refine y3 1 [13,14,15,16] [] (zB (zI (decide (s31 < ([s0.X1,s0.Y1,s0.X2,s0.Y2].length : Int))) (fun hb=>?_) fun hb=>?_))
 replace h:=iteT hb h
 refine y4 [13,14,15] [] (zB (zC (z7 ?_)))
 obtain ⟨x42,hx42,h⟩:=bindS h
 refine evs_op (st_idx (c:=cI) (l:=[s0.X1,s0.Y1,s0.X2,s0.Y2]) (i:=s31) (kd:=.i64) (sz:=1) (by kernel_rfl) hx42 rfl) (y1 2 [4,13,14,15] [] (zB ?_))
 obtain ⟨j43,hj43,h⟩:=bindS h
 refine zT ⟨[(13,sI [s0.X1,s0.Y1,s0.X2,s0.Y2]),(14,vI ([s0.X1,s0.Y1,s0.X2,s0.Y2].length : Int)),(15,vI s31),(24,vB j43)],[]⟩ ?_ fun τ hτ=>?_
 replace h:=hj43
 refine zA 3 (zS (decide (x42 < (-1048576))) (fun b0=>⟨[(4,vI x42),(13,sI [s0.X1,s0.Y1,s0.X2,s0.Y2]),(14,vI ([s0.X1,s0.Y1,s0.X2,s0.Y2].length : Int)),(15,vI s31),(21,vB b0)],[]⟩) (fun hb=>?_) fun hb=>?_)
 replace h:=iteT hb h
 refine z6 3 fun τ hτ=>?_
 obtain rfl:=osi h
 exact zG hτ
 replace h:=iteF hb h
 refine z6 3 fun τ hτ=>?_
 obtain rfl:=osi h
 exact zG hτ
 refine yE hτ [13,14,15,24] [] (zI j43 (fun hb=>?_) fun hb=>?_)
 replace h:=iteT hb h
 refine z8 1 ⟨[(2,vB false)],[]⟩ fun τ hτ=>?_
 refine bl_ret (th_ret ?_)
 obtain rfl:=osi h
 exact zF hτ
 replace h:=iteF hb h
 refine zM fun τ hτ=>?_
 refine bl_normal (yE hτ [13,14,15] [] (zD (z6 2 fun τ hτ=>?_)))
 obtain rfl:=osi h
 exact zH hτ
 replace h:=iteF hb h
 refine zL 0 fun τ hτ=>?_
 refine th_exit ?_
 obtain rfl:=osi h
 exact zF hτ
 intro x
 rcases x with _ | _ <;> rfl
 intro τ hτ
 rcases x44 with j45 | j46
 refine bl_ret (th_ret ?_)
 obtain rfl:=osi h
 exact zV hτ [(2,vB false)]
 refine zQ (yE hτ [] [] (z8 1 ⟨[(2,vB true)],[]⟩ fun τ hτ=>?_))
 obtain rfl:=osi h
 exact zV hτ [(2,vB true)]
theorem W.flat_check_ok {f : Flat} {r : Int} (h : flat_check f=some r) : PC G.P 186 [(.agg (c_Flat f))] [] (vI r) []:=by
 refine zU G Tryz.func186 (yK [0] [] (y3 2 [1] [1] (zB (z7 (zA 2 (evs_op (st_len (c:=c_Rect) (l:=f.Rects) (x:=(s_Rect f.Rects)) (by kernel_rfl) (by kernel_rfl)) ?_))))))
 refine y1 1 [1,12] [1] (zI ((f.Rects.length : Int)==0) (fun hb=>?_) fun hb=>?_)
 replace h:=iteT hb h
 refine z8 1 ⟨[(2,vI 1)],[]⟩ fun τ hτ=>?_
 refine th_ret ?_
 obtain rfl:=osi h
 exact zV hτ [(2,vI 1)]
 replace h:=iteF hb h
 refine y4 [1] [1] (zB (z7 (zA 7 (evs_op (st_len (c:=(cS c_Rect)) (l:=[f.Rects,f.Cuts,f.Forms]) (x:=(.sl (List.map (cS c_Rect) [f.Rects,f.Cuts,f.Forms]))) (by kernel_rfl) (by kernel_rfl)) (y1 1 [1,19,20,21] [1] (zC ?_))))))
 obtain ⟨x380,hx380,h⟩:=bindS h
 refine sem_loopS (fun (s255 : Int)=>⟨[(1,.ptr 500000 0),(19,.sl (List.map (cS c_Rect) [f.Rects,f.Cuts,f.Forms])),(20,vI ([f.Rects,f.Cuts,f.Forms].length : Int)),(21,vI s255)],[(500000,.box (c_Flat f))]⟩) (fun (x380 : Unit ⊕ Unit)=>match x380 with | .inl j381=>(.ret,⟨[(2,vI 1)],[]⟩) | .inr j382=>(.exit 0,⟨[(1,.ptr 500000 0)],[(500000,.box (c_Flat f))]⟩)) (flat_check_l2 f) 0 x380 (by kernel_rfl) (subR_prep [] [(1,500000)] (by kernel_rfl) rfl rfl (by kernel_rfl)) hx380 ?_ ?_ ?_
 intro s255 r h
 refine y3 1 [1,19,20,21,22] [500000] (zB (zI (decide (s255 < ([f.Rects,f.Cuts,f.Forms].length : Int))) (fun hb=>?_) fun hb=>?_))
 replace h:=iteT hb h
 refine y4 [1,19,20,21] [500000] (zB (zC (z7 ?_)))
 obtain ⟨x350,hx350,h⟩:=bindS h
 refine evs_op (st_idx (c:=(cS c_Rect)) (l:=[f.Rects,f.Cuts,f.Forms]) (i:=s255) (kd:=.i64) (sz:=1) (by kernel_rfl) hx350 rfl) (y1 2 [1,4,19,20,21] [500000] (zB (z7 (zA 1 (evs_op (st_len (c:=c_Rect) (l:=x350) (x:=(s_Rect x350)) (by kernel_rfl) (by kernel_rfl)) (y1 1 [1,4,19,20,21,27] [500000] ?_))))))
 refine zI (decide ((x350.length : Int) > 48)) (fun hb=>?_) fun hb=>?_
 replace h:=iteT hb h
 refine z8 1 ⟨[(2,vI 1)],[]⟩ fun τ hτ=>?_
 refine th_ret (bl_ret (th_ret ?_))
 obtain rfl:=osi h
 exact zF hτ
 replace h:=iteF hb h
 refine y4 [1,4,19,20,21] [500000] (z7 (zA 1 (evs_op (st_len (c:=c_Rect) (l:=x350) (x:=(s_Rect x350)) (by kernel_rfl) (by kernel_rfl)) (y1 1 [1,19,20,21,28,29,30] [500000] (zC ?_)))))
 obtain ⟨x377,hx377,h⟩:=bindS h
 refine sem_loopS (fun (s360 : Int)=>⟨[(1,.ptr 500000 0),(19,.sl (List.map (cS c_Rect) [f.Rects,f.Cuts,f.Forms])),(20,vI ([f.Rects,f.Cuts,f.Forms].length : Int)),(21,vI s255),(28,s_Rect x350),(29,vI (x350.length : Int)),(30,vI s360)],[(500000,.box (c_Flat f))]⟩) (fun (x377 : Unit ⊕ Unit)=>match x377 with | .inl j378=>(.ret,⟨[(2,vI 1)],[]⟩) | .inr j379=>(.exit 2,⟨[(1,.ptr 500000 0),(19,.sl (List.map (cS c_Rect) [f.Rects,f.Cuts,f.Forms])),(20,vI ([f.Rects,f.Cuts,f.Forms].length : Int)),(21,vI s255)],[(500000,.box (c_Flat f))]⟩)) (flat_check_l1 x350) 0 x377 (by kernel_rfl) (here (by kernel_rfl)) hx377 ?_ ?_ ?_
 intro s360 r h
 refine y3 1 [1,19,20,21,28,29,30,31] [500000] (zB (zI (decide (s360 < (x350.length : Int))) (fun hb=>?_) fun hb=>?_))
 replace h:=iteT hb h
 refine y4 [1,19,20,21,28,29,30] [500000] (zB (zC (z7 ?_)))
 obtain ⟨x374,hx374,h⟩:=bindS h
 refine evs_op (st_idx (c:=c_Rect) (l:=x350) (i:=s360) (kd:=.i64) (sz:=4) (by kernel_rfl) hx374 rfl) (y1 3 [1,6,19,20,21,28,29,30] [6,500000] (z7 (zA 1 ?_)))
 obtain ⟨r376,hr376,h⟩:=bindS h
 refine evs_callP [] (by kernel_rfl) (W.geom_ValidRect_ok hr376) (by kernel_rfl) (.inl rfl) (by kernel_rfl) (y1 1 [1,19,20,21,28,29,30,36] [500000] (zI (!r376) (fun hb=>?_) fun hb=>?_))
 replace h:=iteT hb h
 refine z8 1 ⟨[(2,vI 1)],[]⟩ fun τ hτ=>?_
 refine bl_ret (th_ret ?_)
 obtain rfl:=osi h
 exact zF hτ
 replace h:=iteF hb h
 refine zM fun τ hτ=>?_
 refine bl_normal (yE hτ [1,19,20,21,28,29,30] [500000] (zD (z6 2 fun τ hτ=>?_)))
 obtain rfl:=osi h
 exact zH hτ
 replace h:=iteF hb h
 refine zL 2 fun τ hτ=>?_
 refine th_exit ?_
 obtain rfl:=osi h
 exact zF hτ
 intro x
 rcases x with _ | _ <;> rfl
 intro τ hτ
 rcases x377 with j378 | j379
 refine bl_ret (bl_ret (th_ret ?_))
 obtain rfl:=osi h
 exact zF hτ
 refine zQ (bl_normal (yE hτ [1,19,20,21] [500000] (zD (z6 2 fun τ hτ=>?_))))
 obtain rfl:=osi h
 exact zH hτ
 replace h:=iteF hb h
 refine zL 0 fun τ hτ=>?_
 refine th_exit ?_
 obtain rfl:=osi h
 exact zF hτ
 intro x
 rcases x with _ | _ <;> rfl
 intro τ hτ
 rcases x380 with j381 | j382
 refine bl_ret (th_ret ?_)
 obtain rfl:=osi h
 exact zV hτ [(2,vI 1)]
 refine zQ (yE hτ [1] [500000] (zB (z7 (zA 2 (evs_op (st_len (c:=c_BendLine) (l:=f.Bends) (x:=(s_BendLine f.Bends)) (by kernel_rfl) (by kernel_rfl)) (y1 1 [40,41,42] [] ?_))))))
 refine zC ?_
 obtain ⟨x438,hx438,h⟩:=bindS h
 refine sem_loopS (fun (s421 : Int)=>⟨[(40,s_BendLine f.Bends),(41,vI (f.Bends.length : Int)),(42,vI s421)],[]⟩) (fun (x438 : Unit ⊕ Unit)=>match x438 with | .inl j439=>(.ret,⟨[(2,vI 1)],[]⟩) | .inr j440=>(.exit 4,⟨[],[]⟩)) (flat_check_l3 f) 0 x438 (by kernel_rfl) (here (by kernel_rfl)) hx438 ?_ ?_ ?_
 intro s421 r h
 refine y3 1 [40,41,42,43] [] (zB (zI (decide (s421 < (f.Bends.length : Int))) (fun hb=>?_) fun hb=>?_))
 replace h:=iteT hb h
 refine y4 [40,41,42] [] (zB (zC (z7 ?_)))
 obtain ⟨x435,hx435,h⟩:=bindS h
 refine evs_op (st_idx (c:=c_BendLine) (l:=f.Bends) (i:=s421) (kd:=.i64) (sz:=8) (by kernel_rfl) hx435 rfl) (y1 3 [8,40,41,42] [8] (z7 (zA 2 ?_)))
 obtain ⟨r437,hr437,h⟩:=bindS h
 refine evs_callP [] (by kernel_rfl) (W.flat_inRange_ok hr437) (by kernel_rfl) (.inl rfl) (by kernel_rfl) (y1 1 [40,41,42,49] [] (zI (!r437) (fun hb=>?_) fun hb=>?_))
 replace h:=iteT hb h
 refine z8 1 ⟨[(2,vI 1)],[]⟩ fun τ hτ=>?_
 refine bl_ret (th_ret ?_)
 obtain rfl:=osi h
 exact zF hτ
 replace h:=iteF hb h
 refine zM fun τ hτ=>?_
 refine bl_normal (yE hτ [40,41,42] [] (zD (z6 2 fun τ hτ=>?_)))
 obtain rfl:=osi h
 exact zH hτ
 replace h:=iteF hb h
 refine zL 4 fun τ hτ=>?_
 refine th_exit ?_
 obtain rfl:=osi h
 exact zF hτ
 intro x
 rcases x with _ | _ <;> rfl
 intro τ hτ
 rcases x438 with j439 | j440
 refine bl_ret (th_ret ?_)
 obtain rfl:=osi h
 exact zV hτ [(2,vI 1)]
 refine zQ (yE hτ [] [] (z8 1 ⟨[(2,vI 0)],[]⟩ fun τ hτ=>?_))
 obtain rfl:=osi h
 exact zV hτ [(2,vI 0)]
theorem W.flat_quarter_1_ok {r0 : Rect} {r : Rect} (h : flat_quarter_1 r0=some r) : PC G.P 203 [(.agg (c_Rect r0))] [] (.agg (c_Rect r)) [(0,.box [(vI (isub (ineg r0.Y) r0.H)),(vI r0.X),(vI r0.H),(vI r0.W)])]:=by
 refine zU G Tryz.func203 (yK [0] [] (y3 2 [1,2] [1,2] (z8 14 ⟨[(2,.ptr 2 0)],[(2,.box [(vI (isub (ineg r0.Y) r0.H)),(vI r0.X),(vI r0.H),(vI r0.W)])]⟩ fun τ hτ=>?_)))
 obtain rfl:=osi h
 exact rk_ret hτ [(2,.ptr 0 0)] (subR_prep [] [(2,0)] (by kernel_rfl) rfl rfl (by kernel_rfl)) (by kernel_rfl)
theorem W.flat_mapped_1_ok {l : (List Rect)} {r : (List Rect)} (h : flat_mapped_1 l=some r) : PC G.P 217 [(.sl (List.map c_Rect l)),(.vptr [(.fn 203 [])] 0)] [] (.row (.top 0) 98) [(0,.row 98 [] (List.map c_Rect r))]:=by
 refine zU G Tryz.func217 (yK [0,1] [] (y3 1 [0,1] [] (y3 1 [0,1,4] [4] (zB (z7 (zA 1 ?_))))))
 refine evs_op (st_len (c:=c_Rect) (l:=l) (x:=(s_Rect l)) (by kernel_rfl) (by kernel_rfl)) (y1 1 [1,4,7,8,9] [4] (zC ?_))
 obtain ⟨x78,hx78,h⟩:=bindS h
 refine sem_loopS (fun (s53 : Int×(List Rect))=>⟨[(1,.vptr [(.fn 203 [])] 0),(4,ro 500000 98),(7,s_Rect l),(8,vI (l.length : Int)),(9,vI s53.1)],[(500000,w_Rect 98 s53.2)]⟩) (fun (x78 : (List Rect))=>(.exit 0,⟨[(4,ro 500000 98)],[(500000,w_Rect 98 x78)]⟩)) (flat_mapped_1_l1 l) (0,[]) x78 (by kernel_rfl) (subR_prep [] [(4,500000)] (by kernel_rfl) rfl rfl (by kernel_rfl)) hx78 ?_ ?_ ?_
 intro s53 r h
 refine y3 1 [1,4,7,8,9,10] [500000] (zB (zI (decide (s53.1 < (l.length : Int))) (fun hb=>?_) fun hb=>?_))
 replace h:=iteT hb h
 refine y4 [1,4,7,8,9] [500000] (zB (zC (z7 ?_)))
 obtain ⟨x73,hx73,h⟩:=bindS h
 refine evs_op (st_idx (c:=c_Rect) (l:=l) (i:=s53.1) (kd:=.i64) (sz:=4) (by kernel_rfl) hx73 rfl) (y1 3 [1,4,6,7,8,9] [6,500000] (zD (zA 3 ?_)))
 obtain ⟨r76,hr76,h⟩:=bindS h
 refine evs_callS [] [(0,700150)] [] (by kernel_rfl) (W.flat_quarter_1_ok hr76) (by kernel_rfl) (by kernel_rfl) (.inl rfl) (zA 1 ?_)
 obtain ⟨l77,hl77,h⟩:=bindS h
 refine evs_op (st_app (c:=c_Rect) (l:=s53.2) (l2:=[r76]) (x:=(s_Rect [r76])) (g:=500000) (e:=98) (sz:=4) (d:=18) (by kernel_rfl) (by kernel_rfl) (by kernel_rfl) (by kernel_rfl) (fun _=>rfl) rfl hl77) (z6 1 fun τ hτ=>?_)
 refine bl_normal (yE hτ [1,4,7,8,9] [500000] (zD (z6 2 fun τ hτ=>?_)))
 obtain rfl:=osi h
 exact zH hτ
 replace h:=iteF hb h
 refine zL 0 fun τ hτ=>?_
 refine th_exit ?_
 obtain rfl:=osi h
 exact zF hτ
 intro x
 rfl
 intro τ hτ
 refine zQ (yE hτ [4] [500000] (z8 2 ⟨[(3,ro 500000 98)],[(500000,w_Rect 98 x78)]⟩ fun τ hτ=>?_))
 obtain rfl:=osi h
 exact rk_ret hτ [(3,ro 0 98)] (subR_prep [] [(500000,0)] (by kernel_rfl) rfl rfl (by kernel_rfl)) (by kernel_rfl)
theorem W.flat_quarter_2_ok {s0 : Segment} {r : Segment} (h : flat_quarter_2 s0=some r) : PC G.P 204 [(.agg (c_Segment s0))] [] (.agg (c_Segment r)) [(0,.box [(vI (ineg s0.Y1)),(vI s0.X1),(vI (ineg s0.Y2)),(vI s0.X2)])]:=by
 refine zU G Tryz.func204 (yK [0] [] (y3 2 [1,2] [1,2] (z8 12 ⟨[(2,.ptr 2 0)],[(2,.box [(vI (ineg s0.Y1)),(vI s0.X1),(vI (ineg s0.Y2)),(vI s0.X2)])]⟩ fun τ hτ=>?_)))
 obtain rfl:=osi h
 exact rk_ret hτ [(2,.ptr 0 0)] (subR_prep [] [(2,0)] (by kernel_rfl) rfl rfl (by kernel_rfl)) (by kernel_rfl)
theorem W.flat_mapped__flat_quarter_1__flat_quarter_2_ok {f : Flat} {r : Flat} (h : flat_mapped__flat_quarter_1__flat_quarter_2 f=some r) : PC G.P 202 [(.agg (c_Flat f)),(.fn 203 []),(.fn 204 [])] [] (.agg [(.row (.top 1) 98),(.row (.top 2) 98),(.row (.top 3) 98),(.row (.top 4) 225)]) [(0,.box [(.row (.top 1) 98),(.row (.top 2) 98),(.row (.top 3) 98),(.row (.top 4) 225)]),(1,.row 98 [] (List.map c_Rect r.Rects)),(2,.row 98 [] (List.map c_Rect r.Cuts)),(3,.row 98 [] (List.map c_Rect r.Forms)),(4,.row 225 [] (List.map c_BendLine r.Bends))]:=by
 refine zU G Tryz.func202 (yK [0,1,2] [] (y3 3 [2,3,4,6] [3,4,6] (y3 2 [2,3,6,7] [3,4,6] (zB (sem_draw [(3,[700150]),(7,[700350]),(11,[700550]),(13,[8])] [(3,[700150]),(7,[700350]),(11,[700550]),(13,[8])] [(3,[4]),(7,[4]),(11,[4])] [(0,[8]),(1,[8]),(2,[8]),(3,[8]),(4,[700150,8]),(5,[700150,8]),(6,[700150,8]),(7,[8]),(8,[700150,700350,8]),(9,[700150,700350,8]),(10,[700150,700350,8]),(11,[8]),(12,[8]),(13,[700150,700350,700550])] [(0,[700150,700350,700550,8]),(1,[700150,700350,700550,8]),(2,[700150,700350,700550,8]),(3,[700350,700550,8]),(4,[700150,700350,700550,8]),(5,[700150,700350,700550,8]),(6,[700150,700350,700550,8]),(7,[700550,8]),(8,[700150,700350,700550,8]),(9,[700150,700350,700550,8]),(10,[700150,700350,700550,8]),(11,[8]),(12,[8]),(13,[700150,700350,700550])] 14 (by kernel_rfl) (by kernel_rfl) [700150,700350,700550,8] (by kernel_rfl) (by kernel_rfl) (evd_run 3 (by kernel_rfl) ?_))))))
 obtain ⟨r7,hr7,h⟩:=bindS h
 refine evd_callS [(0,700150)] [4] (by kernel_rfl) (by kernel_rfl) (W.flat_mapped_1_ok hr7) (by kernel_rfl) (.inr ⟨rfl,fun _ _=>ind_cons (ind_row fun _=>rfl) (fun _ _=>ind_nil)⟩) (by kernel_rfl) (by kernel_rfl) (evd_run 3 (by kernel_rfl) ?_)
 obtain ⟨r8,hr8,h⟩:=bindS h
 refine evd_callS [(0,700350)] [4] (by kernel_rfl) (by kernel_rfl) (W.flat_mapped_1_ok hr8) (by kernel_rfl) (.inr ⟨rfl,fun _ _=>ind_cons (ind_row fun _=>rfl) (fun _ _=>ind_nil)⟩) (by kernel_rfl) (by kernel_rfl) (evd_run 3 (by kernel_rfl) ?_)
 obtain ⟨r9,hr9,h⟩:=bindS h
 refine evd_callS [(0,700550)] [4] (by kernel_rfl) (by kernel_rfl) (W.flat_mapped_1_ok hr9) (by kernel_rfl) (.inr ⟨rfl,fun _ _=>ind_cons (ind_row fun _=>rfl) (fun _ _=>ind_nil)⟩) (by kernel_rfl) (by kernel_rfl) (evd_run 1 (by kernel_rfl) (evd_new (g:=8) (ob:=.box [.nl,.nl,.nl,.nl]) (v:=(.ptr 8 0)) (by kernel_rfl) (by kernel_rfl) (by kernel_rfl) (by kernel_rfl) (by kernel_rfl) (by kernel_rfl) (evd_end (by kernel_rfl) (evo_run 1 (by kernel_rfl) (zO fun τ hτ=>?_)))))
 refine yE hτ [2,3,6,8] [3,6,8,700150,700350,700550] (zB (z7 (zA 2 (evs_op (st_len (c:=c_BendLine) (l:=f.Bends) (x:=(s_BendLine f.Bends)) (by kernel_rfl) (by kernel_rfl)) (y1 1 [2,6,8,26,27,28] [6,8,700150,700350,700550] (zC ?_))))))
 obtain ⟨x87,hx87,h⟩:=bindS h
 refine sem_loopS (fun (s62 : Int×(List BendLine))=>⟨[(2,.fn 204 []),(6,.ptr 500000 0),(8,.ptr 500001 0),(26,s_BendLine f.Bends),(27,vI (f.Bends.length : Int)),(28,vI s62.1)],[(500000,.box [.nl,.nl,.nl,.nl]),(500001,.box [(ro 500002 98),(ro 500003 98),(ro 500004 98),(ro 500005 225)]),(500002,w_Rect 98 r7),(500003,w_Rect 98 r8),(500004,w_Rect 98 r9),(500005,w_BendLine 225 s62.2)]⟩) (fun (x87 : (List BendLine))=>(.exit 0,⟨[(6,.ptr 500000 0),(8,.ptr 500001 0)],[(500000,.box [.nl,.nl,.nl,.nl]),(500001,.box [(ro 500002 98),(ro 500003 98),(ro 500004 98),(ro 500005 225)]),(500002,w_Rect 98 r7),(500003,w_Rect 98 r8),(500004,w_Rect 98 r9),(500005,w_BendLine 225 x87)]⟩)) (flat_mapped__flat_quarter_1__flat_quarter_2_l1 f) (0,[]) x87 (by kernel_rfl) (subR_prep [.row (.box 8 3) 800000 225 []] [(6,500000),(8,500001),(700150,500002),(700350,500003),(700550,500004),(800000,500005)] (by kernel_rfl) rfl rfl (by kernel_rfl)) hx87 ?_ ?_ ?_
 intro s62 r h
 refine y3 1 [2,6,8,26,27,28,29] [500000,500001,500002,500003,500004,500005] (zB (zI (decide (s62.1 < (f.Bends.length : Int))) (fun hb=>?_) fun hb=>?_))
 replace h:=iteT hb h
 refine y4 [2,6,8,26,27,28] [500000,500001,500002,500003,500004,500005] (zB (zC (z7 ?_)))
 obtain ⟨x82,hx82,h⟩:=bindS h
 refine evs_op (st_idx (c:=c_BendLine) (l:=f.Bends) (i:=s62.1) (kd:=.i64) (sz:=8) (by kernel_rfl) hx82 rfl) (y1 3 [2,6,8,10,26,27,28] [10,500000,500001,500002,500003,500004,500005] (z7 (zA 3 ?_)))
 obtain ⟨r84,hr84,h⟩:=bindS h
 refine evs_callS [] [(0,700150)] [] (by kernel_rfl) (W.flat_quarter_2_ok hr84) (by kernel_rfl) (by kernel_rfl) (.inl rfl) (y1 2 [2,6,8,10,26,27,28] [10,500000,500001,500002,500003,500004,500005] (zD (zA 4 ?_)))
 obtain ⟨l86,hl86,h⟩:=bindS h
 refine evs_op (st_app (c:=c_BendLine) (l:=s62.2) (l2:=[(BendLine.mk x82.Flange x82.Parent r84 x82.Angle x82.Deduct)]) (x:=(s_BendLine [(BendLine.mk x82.Flange x82.Parent r84 x82.Angle x82.Deduct)])) (g:=500005) (e:=225) (sz:=8) (d:=41) (by kernel_rfl) (by kernel_rfl) (by kernel_rfl) (by kernel_rfl) (fun _=>rfl) rfl hl86) (z6 2 fun τ hτ=>?_)
 refine bl_normal (yE hτ [2,6,8,26,27,28] [500000,500001,500002,500003,500004,500005] (zD (z6 2 fun τ hτ=>?_)))
 obtain rfl:=osi h
 exact zH hτ
 replace h:=iteF hb h
 refine zL 0 fun τ hτ=>?_
 refine th_exit ?_
 obtain rfl:=osi h
 exact zF hτ
 intro x
 rfl
 intro τ hτ
 refine zQ (yE hτ [6,8] [500000,500001,500002,500003,500004,500005] (z8 2 ⟨[(6,.ptr 500000 0)],[(500000,.box [(ro 500002 98),(ro 500003 98),(ro 500004 98),(ro 500005 225)]),(500002,w_Rect 98 r7),(500003,w_Rect 98 r8),(500004,w_Rect 98 r9),(500005,w_BendLine 225 x87)]⟩ fun τ hτ=>?_))
 obtain rfl:=osi h
 exact rk_ret hτ [(6,.ptr 0 0)] (subR_prep [] [(500000,0),(500002,1),(500003,2),(500004,3),(500005,4)] (by kernel_rfl) rfl rfl (by kernel_rfl)) (by kernel_rfl)
theorem W.flat_quarter_ok {f : Flat} {r : Flat} (h : flat_quarter f=some r) : PC G.P 187 [(.agg (c_Flat f))] [] (.agg [(.row (.top 1) 98),(.row (.top 2) 98),(.row (.top 3) 98),(.row (.top 4) 225)]) [(0,.box [(.row (.top 1) 98),(.row (.top 2) 98),(.row (.top 3) 98),(.row (.top 4) 225)]),(1,.row 98 [] (List.map c_Rect r.Rects)),(2,.row 98 [] (List.map c_Rect r.Cuts)),(3,.row 98 [] (List.map c_Rect r.Forms)),(4,.row 225 [] (List.map c_BendLine r.Bends))]:=by
 refine zU G Tryz.func187 (yK [0] [] (y3 2 [1,2] [1,2] (z7 (zA 1 ?_))))
 obtain ⟨r2,hr2,h⟩:=bindS h
 refine evs_callS [] [(0,700050),(1,700051),(2,700052),(3,700053),(4,700054)] [] (by kernel_rfl) (W.flat_mapped__flat_quarter_1__flat_quarter_2_ok hr2) (by kernel_rfl) (by kernel_rfl) (.inl rfl) (y1 1 [2] [2,700051,700052,700053,700054] (zN fun τ hτ=>?_))
 obtain rfl:=osi h
 exact rk_ret hτ [(2,.ptr 0 0)] (subR_prep [] [(2,0),(700051,1),(700052,2),(700053,3),(700054,4)] (by kernel_rfl) rfl rfl (by kernel_rfl)) (by kernel_rfl)
theorem W.flat_bounds_ok {l : (List Rect)} {r : Rect×Int×Int×Int×Int} (h : flat_bounds l=some r) : PC G.P 205 [(.sl (List.map c_Rect l))] [] (.agg (c_Rect r.1)) [(0,.box [(vI r.2.1),(vI r.2.2.1),(vI r.2.2.2.1),(vI r.2.2.2.2)])]:=by
 refine zU G Tryz.func205 (yK [0] [] (y3 1 [0,2] [2] (z7 (zA 1 ?_))))
 obtain ⟨x2,hx2,h⟩:=bindS h
 refine evs_op (st_idx (c:=c_Rect) (l:=l) (i:=0) (kd:=.i64) (sz:=4) (by kernel_rfl) hx2 rfl) (y1 3 [0,2,3] [2,3] (zB (z7 (zA 1 ?_))))
 obtain ⟨l21,hl21,h⟩:=bindS h
 refine evs_op (st_slL (c:=c_Rect) (l:=l) (sz:=4) (lo:=1) (k1:=.i64) (by kernel_rfl) (fun _=>rfl) hl21) (evs_op (st_len (c:=c_Rect) (l:=l21) (x:=(s_Rect l21)) (by kernel_rfl) (by kernel_rfl)) (y1 1 [2,3,12,13,14] [2,3] (zC ?_)))
 obtain ⟨x36,hx36,h⟩:=bindS h
 refine sem_loopS (fun (s27 : Int×Int×Int×Int×Int)=>⟨[(2,.ptr 500000 0),(3,.ptr 500001 0),(12,s_Rect l21),(13,vI (l21.length : Int)),(14,vI s27.1)],[(500000,.box [(vI 0),(vI 0),(vI 0),(vI 0)]),(500001,.box [(vI s27.2.1),(vI s27.2.2.1),(vI s27.2.2.2.1),(vI s27.2.2.2.2)])]⟩) (fun (x36 : Int×Int×Int×Int)=>(.exit 0,⟨[(2,.ptr 500000 0),(3,.ptr 500001 0)],[(500000,.box [(vI 0),(vI 0),(vI 0),(vI 0)]),(500001,.box [(vI x36.1),(vI x36.2.1),(vI x36.2.2.1),(vI x36.2.2.2)])]⟩)) (flat_bounds_l1 l21) (0,x2.X,x2.Y,x2.W,x2.H) x36 (by kernel_rfl) (subR_prep [] [(2,500000),(3,500001)] (by kernel_rfl) rfl rfl (by kernel_rfl)) hx36 ?_ ?_ ?_
 intro s27 r h
 refine y3 1 [2,3,12,13,14,15] [500000,500001] (zB (zI (decide (s27.1 < (l21.length : Int))) (fun hb=>?_) fun hb=>?_))
 replace h:=iteT hb h
 refine y4 [2,3,12,13,14] [500000,500001] (zB (zC (z7 ?_)))
 obtain ⟨x35,hx35,h⟩:=bindS h
 refine evs_op (st_idx (c:=c_Rect) (l:=l21) (i:=s27.1) (kd:=.i64) (sz:=4) (by kernel_rfl) hx35 rfl) (y1 3 [2,3,5,12,13,14] [5,500000,500001] (zB (sem_drawN [] [] [] [] [] 11 (by kernel_rfl) (by kernel_rfl) (by kernel_rfl) (evd_run 11 (by kernel_rfl) (evd_end (by kernel_rfl) (evo_run 1 (by kernel_rfl) ?_))))))
 refine zO fun τ hτ=>?_
 refine yE hτ [2,3,5,6,7,12,13,14] [5,500000,500001] (zB (sem_drawN [(27,[500001])] [] [] [(17,[500001]),(18,[500001]),(19,[500001]),(20,[500001]),(21,[500001]),(22,[500001]),(23,[500001]),(24,[500001]),(25,[500001])] [] 28 (by kernel_rfl) (by kernel_rfl) (by kernel_rfl) (evd_run 27 (by kernel_rfl) (evd_set (g:=500001) (ob:=.box [(vI s27.2.1),(vI s27.2.2.1),(vI (isub (imax (iadd s27.2.1 s27.2.2.2.1) (iadd x35.X x35.W)) (imin s27.2.1 x35.X))),(vI s27.2.2.2.2)]) (v:=vU) (by kernel_rfl) (by kernel_rfl) (by kernel_rfl) (by kernel_rfl) (by kernel_rfl) (evd_end (by kernel_rfl) (evo_run 2 (by kernel_rfl) ?_))))))
 refine zO fun τ hτ=>?_
 refine yE hτ [2,3,6,7,12,13,14] [500000,500001] (zD (z6 6 fun τ hτ=>?_))
 refine bl_normal (yE hτ [2,3,12,13,14] [500000,500001] (zD (z6 2 fun τ hτ=>?_)))
 obtain rfl:=osi h
 exact zH hτ
 replace h:=iteF hb h
 refine zL 0 fun τ hτ=>?_
 refine th_exit ?_
 obtain rfl:=osi h
 exact zF hτ
 intro x
 rfl
 intro τ hτ
 refine zQ (yE hτ [2,3] [500000,500001] (z8 2 ⟨[(2,.ptr 500000 0)],[(500000,.box [(vI x36.1),(vI x36.2.1),(vI x36.2.2.1),(vI x36.2.2.2)])]⟩ fun τ hτ=>?_))
 obtain rfl:=osi h
 exact rk_ret hτ [(2,.ptr 0 0)] (subR_prep [] [(500000,0)] (by kernel_rfl) rfl rfl (by kernel_rfl)) (by kernel_rfl)
theorem W.flat_settled_1_ok {r0 : Rect} {a_0 : Int} {a_1 : Int} {a_2 : Int} {a_3 : Int} {r : Rect} (h : flat_settled_1 r0 a_0 a_1 a_2 a_3=some r) : PC G.P 206 [(.agg (c_Rect r0)),(.vptr [(vI a_0),(vI a_1),(vI a_2),(vI a_3)] 0)] [] (.agg (c_Rect r)) [(0,.box [(vI (isub r0.X a_0)),(vI (isub r0.Y a_1)),(vI r0.W),(vI r0.H)])]:=by
 refine zU G Tryz.func206 (yK [0,1] [] (y3 2 [1,2,3] [2,3] (zB (sem_drawN [(11,[2])] [] [] [(7,[2]),(8,[2]),(9,[2])] [] 12 (by kernel_rfl) (by kernel_rfl) (by kernel_rfl) (evd_run 11 (by kernel_rfl) (evd_set (g:=2) (ob:=.box [(vI (isub r0.X a_0)),(vI r0.Y),(vI r0.W),(vI r0.H)]) (v:=vU) (by kernel_rfl) (by kernel_rfl) (by kernel_rfl) (by kernel_rfl) (by kernel_rfl) ?_))))))
 refine evd_end (by kernel_rfl) (evo_run 2 (by kernel_rfl) (zO fun τ hτ=>?_))
 refine yE hτ [2,3] [2,3] (z8 2 ⟨[(3,.ptr 3 0)],[(3,.box [(vI (isub r0.X a_0)),(vI (isub r0.Y a_1)),(vI r0.W),(vI r0.H)])]⟩ fun τ hτ=>?_)
 obtain rfl:=osi h
 exact rk_ret hτ [(3,.ptr 0 0)] (subR_prep [] [(3,0)] (by kernel_rfl) rfl rfl (by kernel_rfl)) (by kernel_rfl)
theorem W.flat_mapped_1'_ok {l : (List Rect)} {a_0_0_0 : Int} {a_0_0_1 : Int} {a_0_0_2 : Int} {a_0_0_3 : Int} {r : (List Rect)} (h : flat_mapped_1' l a_0_0_0 a_0_0_1 a_0_0_2 a_0_0_3=some r) : PC G.P 217 [(.sl (List.map c_Rect l)),(.vptr [(.fn 206 [(.vptr [(vI a_0_0_0),(vI a_0_0_1),(vI a_0_0_2),(vI a_0_0_3)] 0)])] 0)] [] (.row (.top 0) 98) [(0,.row 98 [] (List.map c_Rect r))]:=by
 refine zU G Tryz.func217 (yK [0,1] [] (y3 1 [0,1] [] (y3 1 [0,1,4] [4] (zB (z7 (zA 1 ?_))))))
 refine evs_op (st_len (c:=c_Rect) (l:=l) (x:=(s_Rect l)) (by kernel_rfl) (by kernel_rfl)) (y1 1 [1,4,7,8,9] [4] (zC ?_))
 obtain ⟨x78,hx78,h⟩:=bindS h
 refine sem_loopS (fun (s53 : Int×(List Rect))=>⟨[(1,.vptr [(.fn 206 [(.vptr [(vI a_0_0_0),(vI a_0_0_1),(vI a_0_0_2),(vI a_0_0_3)] 0)])] 0),(4,ro 500000 98),(7,s_Rect l),(8,vI (l.length : Int)),(9,vI s53.1)],[(500000,w_Rect 98 s53.2)]⟩) (fun (x78 : (List Rect))=>(.exit 0,⟨[(4,ro 500000 98)],[(500000,w_Rect 98 x78)]⟩)) (flat_mapped_1'_l1 l a_0_0_0 a_0_0_1 a_0_0_2 a_0_0_3) (0,[]) x78 (by kernel_rfl) (subR_prep [] [(4,500000)] (by kernel_rfl) rfl rfl (by kernel_rfl)) hx78 ?_ ?_ ?_
 intro s53 r h
 refine y3 1 [1,4,7,8,9,10] [500000] (zB (zI (decide (s53.1 < (l.length : Int))) (fun hb=>?_) fun hb=>?_))
 replace h:=iteT hb h
 refine y4 [1,4,7,8,9] [500000] (zB (zC (z7 ?_)))
 obtain ⟨x73,hx73,h⟩:=bindS h
 refine evs_op (st_idx (c:=c_Rect) (l:=l) (i:=s53.1) (kd:=.i64) (sz:=4) (by kernel_rfl) hx73 rfl) (y1 3 [1,4,6,7,8,9] [6,500000] (zD (zA 3 ?_)))
 obtain ⟨r76,hr76,h⟩:=bindS h
 refine evs_callS [] [(0,700150)] [] (by kernel_rfl) (W.flat_settled_1_ok hr76) (by kernel_rfl) (by kernel_rfl) (.inl rfl) (zA 1 ?_)
 obtain ⟨l77,hl77,h⟩:=bindS h
 refine evs_op (st_app (c:=c_Rect) (l:=s53.2) (l2:=[r76]) (x:=(s_Rect [r76])) (g:=500000) (e:=98) (sz:=4) (d:=18) (by kernel_rfl) (by kernel_rfl) (by kernel_rfl) (by kernel_rfl) (fun _=>rfl) rfl hl77) (z6 1 fun τ hτ=>?_)
 refine bl_normal (yE hτ [1,4,7,8,9] [500000] (zD (z6 2 fun τ hτ=>?_)))
 obtain rfl:=osi h
 exact zH hτ
 replace h:=iteF hb h
 refine zL 0 fun τ hτ=>?_
 refine th_exit ?_
 obtain rfl:=osi h
 exact zF hτ
 intro x
 rfl
 intro τ hτ
 refine zQ (yE hτ [4] [500000] (z8 2 ⟨[(3,ro 500000 98)],[(500000,w_Rect 98 x78)]⟩ fun τ hτ=>?_))
 obtain rfl:=osi h
 exact rk_ret hτ [(3,ro 0 98)] (subR_prep [] [(500000,0)] (by kernel_rfl) rfl rfl (by kernel_rfl)) (by kernel_rfl)
theorem W.flat_settled_2_ok {s0 : Segment} {a_0 : Int} {a_1 : Int} {a_2 : Int} {a_3 : Int} {r : Segment} (h : flat_settled_2 s0 a_0 a_1 a_2 a_3=some r) : PC G.P 207 [(.agg (c_Segment s0)),(.vptr [(vI a_0),(vI a_1),(vI a_2),(vI a_3)] 0)] [] (.agg (c_Segment r)) [(0,.box [(vI (isub s0.X1 a_0)),(vI (isub s0.Y1 a_1)),(vI (isub s0.X2 a_0)),(vI (isub s0.Y2 a_1))])]:=by
 refine zU G Tryz.func207 (yK [0,1] [] (y3 2 [1,2,3] [2,3] (z8 22 ⟨[(3,.ptr 3 0)],[(3,.box [(vI (isub s0.X1 a_0)),(vI (isub s0.Y1 a_1)),(vI (isub s0.X2 a_0)),(vI (isub s0.Y2 a_1))])]⟩ fun τ hτ=>?_)))
 obtain rfl:=osi h
 exact rk_ret hτ [(3,.ptr 0 0)] (subR_prep [] [(3,0)] (by kernel_rfl) rfl rfl (by kernel_rfl)) (by kernel_rfl)
theorem W.flat_mapped__flat_settled_1__flat_settled_2_ok {f : Flat} {rect_0_0 : Int} {rect_0_1 : Int} {rect_0_2 : Int} {rect_0_3 : Int} {line_0_0 : Int} {line_0_1 : Int} {line_0_2 : Int} {line_0_3 : Int} {r : Flat} (h : flat_mapped__flat_settled_1__flat_settled_2 f rect_0_0 rect_0_1 rect_0_2 rect_0_3 line_0_0 line_0_1 line_0_2 line_0_3=some r) : PC G.P 202 [(.agg (c_Flat f)),(.fn 206 [(.vptr [(vI rect_0_0),(vI rect_0_1),(vI rect_0_2),(vI rect_0_3)] 0)]),(.fn 207 [(.vptr [(vI line_0_0),(vI line_0_1),(vI line_0_2),(vI line_0_3)] 0)])] [] (.agg [(.row (.top 1) 98),(.row (.top 2) 98),(.row (.top 3) 98),(.row (.top 4) 225)]) [(0,.box [(.row (.top 1) 98),(.row (.top 2) 98),(.row (.top 3) 98),(.row (.top 4) 225)]),(1,.row 98 [] (List.map c_Rect r.Rects)),(2,.row 98 [] (List.map c_Rect r.Cuts)),(3,.row 98 [] (List.map c_Rect r.Forms)),(4,.row 225 [] (List.map c_BendLine r.Bends))]:=by
 refine zU G Tryz.func202 (yK [0,1,2] [] (y3 3 [2,3,4,6] [3,4,6] (y3 2 [2,3,6,7] [3,4,6] (zB (sem_draw [(3,[700150]),(7,[700350]),(11,[700550]),(13,[8])] [(3,[700150]),(7,[700350]),(11,[700550]),(13,[8])] [(3,[4]),(7,[4]),(11,[4])] [(0,[8]),(1,[8]),(2,[8]),(3,[8]),(4,[700150,8]),(5,[700150,8]),(6,[700150,8]),(7,[8]),(8,[700150,700350,8]),(9,[700150,700350,8]),(10,[700150,700350,8]),(11,[8]),(12,[8]),(13,[700150,700350,700550])] [(0,[700150,700350,700550,8]),(1,[700150,700350,700550,8]),(2,[700150,700350,700550,8]),(3,[700350,700550,8]),(4,[700150,700350,700550,8]),(5,[700150,700350,700550,8]),(6,[700150,700350,700550,8]),(7,[700550,8]),(8,[700150,700350,700550,8]),(9,[700150,700350,700550,8]),(10,[700150,700350,700550,8]),(11,[8]),(12,[8]),(13,[700150,700350,700550])] 14 (by kernel_rfl) (by kernel_rfl) [700150,700350,700550,8] (by kernel_rfl) (by kernel_rfl) (evd_run 3 (by kernel_rfl) ?_))))))
 obtain ⟨r7,hr7,h⟩:=bindS h
 refine evd_callS [(0,700150)] [4] (by kernel_rfl) (by kernel_rfl) (W.flat_mapped_1'_ok hr7) (by kernel_rfl) (.inr ⟨rfl,fun _ _=>ind_cons (ind_row fun _=>rfl) (fun _ _=>ind_nil)⟩) (by kernel_rfl) (by kernel_rfl) (evd_run 3 (by kernel_rfl) ?_)
 obtain ⟨r8,hr8,h⟩:=bindS h
 refine evd_callS [(0,700350)] [4] (by kernel_rfl) (by kernel_rfl) (W.flat_mapped_1'_ok hr8) (by kernel_rfl) (.inr ⟨rfl,fun _ _=>ind_cons (ind_row fun _=>rfl) (fun _ _=>ind_nil)⟩) (by kernel_rfl) (by kernel_rfl) (evd_run 3 (by kernel_rfl) ?_)
 obtain ⟨r9,hr9,h⟩:=bindS h
 refine evd_callS [(0,700550)] [4] (by kernel_rfl) (by kernel_rfl) (W.flat_mapped_1'_ok hr9) (by kernel_rfl) (.inr ⟨rfl,fun _ _=>ind_cons (ind_row fun _=>rfl) (fun _ _=>ind_nil)⟩) (by kernel_rfl) (by kernel_rfl) (evd_run 1 (by kernel_rfl) (evd_new (g:=8) (ob:=.box [.nl,.nl,.nl,.nl]) (v:=(.ptr 8 0)) (by kernel_rfl) (by kernel_rfl) (by kernel_rfl) (by kernel_rfl) (by kernel_rfl) (by kernel_rfl) (evd_end (by kernel_rfl) (evo_run 1 (by kernel_rfl) (zO fun τ hτ=>?_)))))
 refine yE hτ [2,3,6,8] [3,6,8,700150,700350,700550] (zB (z7 (zA 2 (evs_op (st_len (c:=c_BendLine) (l:=f.Bends) (x:=(s_BendLine f.Bends)) (by kernel_rfl) (by kernel_rfl)) (y1 1 [2,6,8,26,27,28] [6,8,700150,700350,700550] (zC ?_))))))
 obtain ⟨x87,hx87,h⟩:=bindS h
 refine sem_loopS (fun (s62 : Int×(List BendLine))=>⟨[(2,.fn 207 [(.vptr [(vI line_0_0),(vI line_0_1),(vI line_0_2),(vI line_0_3)] 0)]),(6,.ptr 500000 0),(8,.ptr 500001 0),(26,s_BendLine f.Bends),(27,vI (f.Bends.length : Int)),(28,vI s62.1)],[(500000,.box [.nl,.nl,.nl,.nl]),(500001,.box [(ro 500002 98),(ro 500003 98),(ro 500004 98),(ro 500005 225)]),(500002,w_Rect 98 r7),(500003,w_Rect 98 r8),(500004,w_Rect 98 r9),(500005,w_BendLine 225 s62.2)]⟩) (fun (x87 : (List BendLine))=>(.exit 0,⟨[(6,.ptr 500000 0),(8,.ptr 500001 0)],[(500000,.box [.nl,.nl,.nl,.nl]),(500001,.box [(ro 500002 98),(ro 500003 98),(ro 500004 98),(ro 500005 225)]),(500002,w_Rect 98 r7),(500003,w_Rect 98 r8),(500004,w_Rect 98 r9),(500005,w_BendLine 225 x87)]⟩)) (flat_mapped__flat_settled_1__flat_settled_2_l1 f line_0_0 line_0_1 line_0_2 line_0_3) (0,[]) x87 (by kernel_rfl) (subR_prep [.row (.box 8 3) 800000 225 []] [(6,500000),(8,500001),(700150,500002),(700350,500003),(700550,500004),(800000,500005)] (by kernel_rfl) rfl rfl (by kernel_rfl)) hx87 ?_ ?_ ?_
 intro s62 r h
 refine y3 1 [2,6,8,26,27,28,29] [500000,500001,500002,500003,500004,500005] (zB (zI (decide (s62.1 < (f.Bends.length : Int))) (fun hb=>?_) fun hb=>?_))
 replace h:=iteT hb h
 refine y4 [2,6,8,26,27,28] [500000,500001,500002,500003,500004,500005] (zB (zC (z7 ?_)))
 obtain ⟨x82,hx82,h⟩:=bindS h
 refine evs_op (st_idx (c:=c_BendLine) (l:=f.Bends) (i:=s62.1) (kd:=.i64) (sz:=8) (by kernel_rfl) hx82 rfl) (y1 3 [2,6,8,10,26,27,28] [10,500000,500001,500002,500003,500004,500005] (z7 (zA 3 ?_)))
 obtain ⟨r84,hr84,h⟩:=bindS h
 refine evs_callS [] [(0,700150)] [] (by kernel_rfl) (W.flat_settled_2_ok hr84) (by kernel_rfl) (by kernel_rfl) (.inl rfl) (y1 2 [2,6,8,10,26,27,28] [10,500000,500001,500002,500003,500004,500005] (zD (zA 4 ?_)))
 obtain ⟨l86,hl86,h⟩:=bindS h
 refine evs_op (st_app (c:=c_BendLine) (l:=s62.2) (l2:=[(BendLine.mk x82.Flange x82.Parent r84 x82.Angle x82.Deduct)]) (x:=(s_BendLine [(BendLine.mk x82.Flange x82.Parent r84 x82.Angle x82.Deduct)])) (g:=500005) (e:=225) (sz:=8) (d:=41) (by kernel_rfl) (by kernel_rfl) (by kernel_rfl) (by kernel_rfl) (fun _=>rfl) rfl hl86) (z6 2 fun τ hτ=>?_)
 refine bl_normal (yE hτ [2,6,8,26,27,28] [500000,500001,500002,500003,500004,500005] (zD (z6 2 fun τ hτ=>?_)))
 obtain rfl:=osi h
 exact zH hτ
 replace h:=iteF hb h
 refine zL 0 fun τ hτ=>?_
 refine th_exit ?_
 obtain rfl:=osi h
 exact zF hτ
 intro x
 rfl
 intro τ hτ
 refine zQ (yE hτ [6,8] [500000,500001,500002,500003,500004,500005] (z8 2 ⟨[(6,.ptr 500000 0)],[(500000,.box [(ro 500002 98),(ro 500003 98),(ro 500004 98),(ro 500005 225)]),(500002,w_Rect 98 r7),(500003,w_Rect 98 r8),(500004,w_Rect 98 r9),(500005,w_BendLine 225 x87)]⟩ fun τ hτ=>?_))
 obtain rfl:=osi h
 exact rk_ret hτ [(6,.ptr 0 0)] (subR_prep [] [(500000,0),(500002,1),(500003,2),(500004,3),(500005,4)] (by kernel_rfl) rfl rfl (by kernel_rfl)) (by kernel_rfl)
theorem W.flat_settled_ok {f : Flat} {r : Flat×Int} (h : flat_settled f=some r) : PC G.P 188 [(.agg (c_Flat f))] [] (.tup [(.agg [(.row (.top 1) 98),(.row (.top 2) 98),(.row (.top 3) 98),(.row (.top 4) 225)]),(vI r.2)]) [(0,.box [(.row (.top 1) 98),(.row (.top 2) 98),(.row (.top 3) 98),(.row (.top 4) 225)]),(1,.row 98 [] (List.map c_Rect r.1.Rects)),(2,.row 98 [] (List.map c_Rect r.1.Cuts)),(3,.row 98 [] (List.map c_Rect r.1.Forms)),(4,.row 225 [] (List.map c_BendLine r.1.Bends))]:=by
 refine zU G Tryz.func188 (yK [0] [] (y3 3 [1,2] [1,2] (z7 (zA 2 ?_))))
 obtain ⟨r2,hr2,h⟩:=bindS h
 refine evs_callS [] [(0,700100)] [] (by kernel_rfl) (W.flat_bounds_ok hr2) (by kernel_rfl) (by kernel_rfl) (.inl rfl) (y1 2 [1,2,4] [1,2,4] (z7 (zA 3 ?_)))
 obtain ⟨r4,hr4,h⟩:=bindS h
 refine evs_callS [] [(0,700150),(1,700151),(2,700152),(3,700153),(4,700154)] [4] (by kernel_rfl) (W.flat_mapped__flat_settled_1__flat_settled_2_ok hr4) (by kernel_rfl) (by kernel_rfl) (.inr ⟨rfl,fun _ _=>ind_cons rfl (fun _ _=>ind_cons (ind_row fun _=>rfl) (fun _ _=>ind_cons (ind_row fun _=>rfl) (fun _ _=>ind_cons (ind_row fun _=>rfl) (fun _ _=>ind_cons (ind_row fun _=>rfl) (fun _ _=>ind_nil)))))⟩) (y1 2 [2,5] [2,5,700151,700152,700153,700154] (zB (z7 (zA 1 ?_))))
 obtain ⟨r8,hr8,h⟩:=bindS h
 refine evs_callP [700151,700152,700153,700154] (by kernel_rfl) (W.flat_check_ok hr8) (by kernel_rfl) (.inr rfl) (by kernel_rfl) (y1 1 [2,5,15] [2,5,700151,700152,700153,700154] (zI (r8 != 0) (fun hb=>?_) fun hb=>?_))
 replace h:=iteT hb h
 refine z8 3 ⟨[(2,.ptr 2 0),(3,vI 4)],[(2,.box [.nl,.nl,.nl,.nl])]⟩ fun τ hτ=>?_
 refine th_ret ?_
 obtain rfl:=osi h
 exact rk_ret hτ [(2,.ptr 0 0),(3,vI 4)] (subR_prep [.row (.box 2 0) 800000 98 [],.row (.box 2 1) 800001 98 [],.row (.box 2 2) 800002 98 [],.row (.box 2 3) 800003 225 []] [(2,0),(800000,1),(800001,2),(800002,3),(800003,4)] (by kernel_rfl) rfl rfl (by kernel_rfl)) (by kernel_rfl)
 replace h:=iteF hb h
 refine y4 [2,5] [2,5,700151,700152,700153,700154] (z8 3 ⟨[(2,.ptr 2 0),(3,vI 0)],[(2,.box [(ro 700151 98),(ro 700152 98),(ro 700153 98),(ro 700154 225)]),(700151,w_Rect 98 r4.Rects),(700152,w_Rect 98 r4.Cuts),(700153,w_Rect 98 r4.Forms),(700154,w_BendLine 225 r4.Bends)]⟩ fun τ hτ=>?_)
 obtain rfl:=osi h
 exact rk_ret hτ [(2,.ptr 0 0),(3,vI 0)] (subR_prep [] [(2,0),(700151,1),(700152,2),(700153,3),(700154,4)] (by kernel_rfl) rfl rfl (by kernel_rfl)) (by kernel_rfl)
theorem W.flat_Quarter_ok {f : Flat} {turns : Int} {r : Flat×Int} (h : flat_Quarter f turns=some r) : PC G.P 168 [(.agg (c_Flat f)),(vI turns)] [] (.tup [(.agg [(.row (.top 1) 98),(.row (.top 2) 98),(.row (.top 3) 98),(.row (.top 4) 225)]),(vI r.2)]) [(0,.box [(.row (.top 1) 98),(.row (.top 2) 98),(.row (.top 3) 98),(.row (.top 4) 225)]),(1,.row 98 [] (List.map c_Rect r.1.Rects)),(2,.row 98 [] (List.map c_Rect r.1.Cuts)),(3,.row 98 [] (List.map c_Rect r.1.Forms)),(4,.row 225 [] (List.map c_BendLine r.1.Bends))]:=by
 refine zU G Tryz.func168 (yK [0,1] [] (y3 3 [1,2,4] [2,4] (zB (z7 (zA 1 ?_)))))
 obtain ⟨r5,hr5,h⟩:=bindS h
 refine evs_callP [] (by kernel_rfl) (W.flat_check_ok hr5) (by kernel_rfl) (.inl rfl) (by kernel_rfl) (y1 1 [1,2,4,6] [2,4] (zB ?_))
 obtain ⟨j6,hj6,h⟩:=bindS h
 refine zT ⟨[(1,vI turns),(2,.ptr 500000 0),(4,.ptr 500001 0),(22,vB j6)],[(500000,.box (c_Flat f)),(500001,.box [.nl,.nl,.nl,.nl])]⟩ ?_ fun τ hτ=>?_
 replace h:=hj6
 refine zA 3 (zS (r5 != 0) (fun b0=>⟨[(1,vI turns),(2,.ptr 2 0),(4,.ptr 4 0),(15,vB b0)],[(2,.box (c_Flat f)),(4,.box [.nl,.nl,.nl,.nl])]⟩) (fun hb=>?_) fun hb=>?_)
 replace h:=iteT hb h
 refine z6 7 fun τ hτ=>?_
 obtain rfl:=osi h
 exact leafC hτ (subR_prep [] [(2,500000),(4,500001)] (by kernel_rfl) rfl rfl (by kernel_rfl))
 replace h:=iteF hb h
 refine zA 4 (zS (decide (turns < 0)) (fun b0=>⟨[(1,vI turns),(2,.ptr 2 0),(4,.ptr 4 0),(19,vB b0)],[(2,.box (c_Flat f)),(4,.box [.nl,.nl,.nl,.nl])]⟩) (fun hb=>?_) fun hb=>?_)
 replace h:=iteT hb h
 refine z6 3 fun τ hτ=>?_
 obtain rfl:=osi h
 exact leafC hτ (subR_prep [] [(2,500000),(4,500001)] (by kernel_rfl) rfl rfl (by kernel_rfl))
 replace h:=iteF hb h
 refine z6 3 fun τ hτ=>?_
 obtain rfl:=osi h
 exact leafC hτ (subR_prep [] [(2,500000),(4,500001)] (by kernel_rfl) rfl rfl (by kernel_rfl))
 refine yE hτ [1,2,4,22] [500000,500001] (zI j6 (fun hb=>?_) fun hb=>?_)
 replace h:=iteT hb h
 refine z8 3 ⟨[(4,.ptr 500001 0),(5,vI 1)],[(500001,.box [.nl,.nl,.nl,.nl])]⟩ fun τ hτ=>?_
 refine th_ret ?_
 obtain rfl:=osi h
 exact rk_ret hτ [(4,.ptr 0 0),(5,vI 1)] (subR_prep [.row (.box 500001 0) 800000 98 [],.row (.box 500001 1) 800001 98 [],.row (.box 500001 2) 800002 98 [],.row (.box 500001 3) 800003 225 []] [(500001,0),(800000,1),(800001,2),(800002,3),(800003,4)] (by kernel_rfl) rfl rfl (by kernel_rfl)) (by kernel_rfl)
 replace h:=iteF hb h
 refine y4 [1,2,4] [500000,500001] (y3 3 [1,2,4,7] [7,500000,500001] (zB (y3 2 [1,2,4,7,25,26] [7,500000,500001] (zC ?_))))
 obtain ⟨x36,hx36,h⟩:=bindS h
 refine sem_loopS (fun (s27 : Int×(List Rect)×(List Rect)×(List Rect)×(List BendLine))=>⟨[(1,vI turns),(2,.ptr 500000 0),(4,.ptr 500001 0),(7,.ptr 500002 0),(25,vI turns),(26,vI s27.1)],[(500000,.box (c_Flat f)),(500001,.box [.nl,.nl,.nl,.nl]),(500002,.box [(s_Rect s27.2.1),(s_Rect s27.2.2.1),(s_Rect s27.2.2.2.1),(s_BendLine s27.2.2.2.2)])]⟩) (fun (x36 : (List Rect)×(List Rect)×(List Rect)×(List BendLine))=>(.exit 0,⟨[(1,vI turns),(2,.ptr 500000 0),(4,.ptr 500001 0),(7,.ptr 500002 0)],[(500000,.box (c_Flat f)),(500001,.box [.nl,.nl,.nl,.nl]),(500002,.box [(s_Rect x36.1),(s_Rect x36.2.1),(s_Rect x36.2.2.1),(s_BendLine x36.2.2.2)])]⟩)) (flat_Quarter_l1 turns) (0,f.Rects,f.Cuts,f.Forms,f.Bends) x36 (by kernel_rfl) (subR_prep [] [(7,500002),(500000,500000),(500001,500001)] (by kernel_rfl) rfl rfl (by kernel_rfl)) hx36 ?_ ?_ ?_
 intro s27 r h
 refine y3 1 [1,2,4,7,25,26,27] [500000,500001,500002] (zB (zI (decide (s27.1 < turns)) (fun hb=>?_) fun hb=>?_))
 replace h:=iteT hb h
 refine y4 [1,2,4,7,25,26] [500000,500001,500002] (zB (zC (zD (zA 1 ?_))))
 obtain ⟨r35,hr35,h⟩:=bindS h
 refine evs_callS [] [(0,700050),(1,700051),(2,700052),(3,700053),(4,700054)] [] (by kernel_rfl) (W.flat_quarter_ok hr35) (by kernel_rfl) (by kernel_rfl) (.inl rfl) (z6 1 fun τ hτ=>?_)
 refine bl_normal (yE hτ [1,2,4,7,25,26] [500000,500001,500002,700051,700052,700053,700054] (zD (z6 2 fun τ hτ=>?_)))
 obtain rfl:=osi h
 exact lk_nextS hτ (subR_prep [.frz 700051,.frz 700052,.frz 700053,.frz 700054] [(500000,500000),(500001,500001),(500002,500002)] (by kernel_rfl) rfl rfl (by kernel_rfl))
 replace h:=iteF hb h
 refine zL 0 fun τ hτ=>?_
 refine th_exit ?_
 obtain rfl:=osi h
 exact zF hτ
 intro x
 rfl
 intro τ hτ
 refine zQ (yE hτ [1,2,4,7] [500000,500001,500002] (zB (z7 (zA 2 (evs_op (st_len (c:=c_BendLine) (l:=f.Bends) (x:=(s_BendLine f.Bends)) (by kernel_rfl) (by kernel_rfl)) (y1 1 [1,4,7,32,33,34] [500001,500002] ?_))))))
 refine zC ?_
 obtain ⟨x40,hx40,h⟩:=bindS h
 refine sem_loopS (fun (s39 : Unit)=>⟨[(1,vI turns),(4,.ptr 500000 0),(7,.ptr 500001 0),(32,s_BendLine f.Bends),(33,vI (f.Bends.length : Int)),(34,vI 0)],[(500000,.box [.nl,.nl,.nl,.nl]),(500001,.box [(s_Rect x36.1),(s_Rect x36.2.1),(s_Rect x36.2.2.1),(s_BendLine x36.2.2.2)])]⟩) (fun (x40 : Unit)=>(.exit 2,⟨[(4,.ptr 500000 0),(7,.ptr 500001 0)],[(500000,.box [.nl,.nl,.nl,.nl]),(500001,.box [(s_Rect x36.1),(s_Rect x36.2.1),(s_Rect x36.2.2.1),(s_BendLine x36.2.2.2)])]⟩)) (flat_Quarter_l2 f) () x40 (by kernel_rfl) (subR_prep [] [(500001,500000),(500002,500001)] (by kernel_rfl) rfl rfl (by kernel_rfl)) hx40 ?_ ?_ ?_
 intro s39 r h
 refine y3 1 [1,4,7,32,33,34,35] [500000,500001] (zB (zI (decide (0 < (f.Bends.length : Int))) (fun hb=>?_) fun hb=>?_))
 replace h:=iteT hb h
 exact nomatch h
 replace h:=iteF hb h
 refine zL 2 fun τ hτ=>?_
 refine th_exit ?_
 obtain rfl:=osi h
 exact zF hτ
 intro x
 rfl
 intro τ hτ
 refine zQ (yE hτ [4,7] [500000,500001] (z7 (zA 1 ?_)))
 obtain ⟨r42,hr42,h⟩:=bindS h
 refine evs_callS [] [(0,700050),(1,700051),(2,700052),(3,700053),(4,700054)] [] (by kernel_rfl) (W.flat_settled_ok hr42) (by kernel_rfl) (by kernel_rfl) (.inl rfl) (y1 4 [4,5] [500000,700051,700052,700053,700054] (zN fun τ hτ=>?_))
 obtain rfl:=osi h
 exact rk_ret hτ [(4,.ptr 0 0),(5,vI r42.2)] (subR_prep [] [(500000,0),(700051,1),(700052,2),(700053,3),(700054,4)] (by kernel_rfl) rfl rfl (by kernel_rfl)) (by kernel_rfl)
theorem W.nest_moved_ok {l : (List Rect)} {x1 : Int} {y : Int} {r : (List Rect)} (h : nest_moved l x1 y=some r) : PC G.P 169 [(.sl (List.map c_Rect l)),(vI x1),(vI y)] [] (.row (.top 0) 98) [(0,.row 98 [] (List.map c_Rect r))]:=by
 refine zU G Tryz.func169 (yK [0,1,2] [] (y3 1 [0,1,2] [] (z7 (zA 1 (evs_op (st_len (c:=c_Rect) (l:=l) (x:=(s_Rect l)) (by kernel_rfl) (by kernel_rfl)) ?_)))))
 obtain ⟨l2,hl2,h⟩:=bindS h
 refine evs_op (st_mk (c:=c_Rect) (z:=(Rect.mk 0 0 0 0)) (n:=(l.length : Int)) (e:=98) (d:=11) (zs:=[(vI 0),(vI 0),(vI 0),(vI 0)]) (k1:=.i64) (k2:=.i64) (by kernel_rfl) rfl hl2) (y1 1 [0,1,2,7] [11] (z7 (zA 2 (evs_at (at_copy (c:=c_Rect) (l:=l2) (l2:=l) (d:=(ro 11 98)) (x:=(s_Rect l)) (e:=98) (sz:=4) (g:=11) (lo:=0) (n:=l2.length) (by kernel_rfl) (by kernel_rfl) (by kernel_rfl) (Nat.le_of_eq (Nat.zero_add _)) (by kernel_rfl) (by kernel_rfl) (fun _=>rfl)) (zP fun τ hτ=>?_)))))
 refine yE hτ [1,2,7] [11] (zB (z7 (zA 1 (evs_op (st_len (c:=c_Rect) (l:=(cpy l2 (0) (List.take (min l.length (l2.length)) l))) (x:=(ro 11 98)) (by kernel_rfl) (by kernel_rfl)) (y1 1 [1,2,7,16,17] [11] (zC ?_))))))
 obtain ⟨x104,hx104,h⟩:=bindS h
 refine sem_loopS (fun (s71 : Int×(List Rect))=>⟨[(1,vI x1),(2,vI y),(7,ro 500000 98),(16,vI ((cpy l2 (0) (List.take (min l.length (l2.length)) l)).length : Int)),(17,vI s71.1)],[(500000,w_Rect 98 s71.2)]⟩) (fun (x104 : (List Rect))=>(.exit 0,⟨[(7,ro 500000 98)],[(500000,w_Rect 98 x104)]⟩)) (nest_moved_l1 l x1 y l2) (0,cpy l2 (0) (List.take (min l.length (l2.length)) l)) x104 (by kernel_rfl) (subR_prep [] [(11,500000)] (by kernel_rfl) rfl rfl (by kernel_rfl)) hx104 ?_ ?_ ?_
 intro s71 r h
 refine y3 1 [1,2,7,16,17,18] [500000] (zB (zI (decide (s71.1 < ((cpy l2 (0) (List.take (min l.length (l2.length)) l)).length : Int))) (fun hb=>?_) fun hb=>?_))
 replace h:=iteT hb h
 refine y4 [1,2,7,16,17] [500000] (zB (zC (y3 2 [1,2,7,8,16,17] [500000] (z7 (zA 2 ?_)))))
 obtain ⟨x98,hx98,h⟩:=bindS h
 refine evs_op (st_idxO (c:=c_Rect) (l:=s71.2) (i:=s71.1) (kd:=.i64) (kk:=(.top 500000)) (e:=98) (sz:=4) (by kernel_rfl) (by kernel_rfl) hx98 rfl) (zA 1 (evs_op (st_ldO (c:=c_Rect) (l:=s71.2) (i:=(Int.toNat s71.1)) (v:=(vI x98.X)) (agg:=false) (sz:=1) (kk:=(.top 500000)) (e:=98) (off:=0) (J:=[]) (by kernel_rfl) (by kernel_rfl) (by kernel_rfl) ((idxS hx98).2) (by kernel_rfl)) (zA 2 ?_)))
 obtain ⟨x99,hx99,h⟩:=bindS h
 refine evs_op (st_idxO (c:=c_Rect) (l:=s71.2) (i:=s71.1) (kd:=.i64) (kk:=(.top 500000)) (e:=98) (sz:=4) (by kernel_rfl) (by kernel_rfl) hx99 rfl) (zA 1 (evs_op (st_stO (c:=c_Rect) (l:=s71.2) (i:=(Int.toNat s71.1)) (x:=x99) (x':=(Rect.mk (iadd x98.X x1) x99.Y x99.W x99.H)) (v:=(vI (iadd x98.X x1))) (agg:=false) (sz:=1) (kk:=(.top 500000)) (e:=98) (off:=0) (J:=[]) (o:=w_Rect 98 (List.set s71.2 (Int.toNat s71.1) (Rect.mk (iadd x98.X x1) x99.Y x99.W x99.H))) (by kernel_rfl) (by kernel_rfl) (by kernel_rfl) ((idxS hx99).2) (by kernel_rfl) (by kernel_rfl) (by kernel_rfl)) (zP fun τ hτ=>?_)))
 refine yE hτ [1,2,7,8,16,17] [500000] (zD (zA 2 ?_))
 obtain ⟨x102,hx102,h⟩:=bindS h
 refine evs_op (st_idxO (c:=c_Rect) (l:=(List.set s71.2 (Int.toNat s71.1) (Rect.mk (iadd x98.X x1) x99.Y x99.W x99.H))) (i:=s71.1) (kd:=.i64) (kk:=(.top 500000)) (e:=98) (sz:=4) (by kernel_rfl) (by kernel_rfl) hx102 rfl) (zA 1 (evs_op (st_ldO (c:=c_Rect) (l:=(List.set s71.2 (Int.toNat s71.1) (Rect.mk (iadd x98.X x1) x99.Y x99.W x99.H))) (i:=(Int.toNat s71.1)) (v:=(vI x102.Y)) (agg:=false) (sz:=1) (kk:=(.top 500000)) (e:=98) (off:=1) (J:=[]) (by kernel_rfl) (by kernel_rfl) (by kernel_rfl) ((idxS hx102).2) (by kernel_rfl)) (zA 2 ?_)))
 obtain ⟨x103,hx103,h⟩:=bindS h
 refine evs_op (st_idxO (c:=c_Rect) (l:=(List.set s71.2 (Int.toNat s71.1) (Rect.mk (iadd x98.X x1) x99.Y x99.W x99.H))) (i:=s71.1) (kd:=.i64) (kk:=(.top 500000)) (e:=98) (sz:=4) (by kernel_rfl) (by kernel_rfl) hx103 rfl) (zA 1 (evs_op (st_stO (c:=c_Rect) (l:=(List.set s71.2 (Int.toNat s71.1) (Rect.mk (iadd x98.X x1) x99.Y x99.W x99.H))) (i:=(Int.toNat s71.1)) (x:=x103) (x':=(Rect.mk x103.X (iadd x102.Y y) x103.W x103.H)) (v:=(vI (iadd x102.Y y))) (agg:=false) (sz:=1) (kk:=(.top 500000)) (e:=98) (off:=1) (J:=[]) (o:=w_Rect 98 (List.set (List.set s71.2 (Int.toNat s71.1) (Rect.mk (iadd x98.X x1) x99.Y x99.W x99.H)) (Int.toNat s71.1) (Rect.mk x103.X (iadd x102.Y y) x103.W x103.H))) (by kernel_rfl) (by kernel_rfl) (by kernel_rfl) ((idxS hx103).2) (by kernel_rfl) (by kernel_rfl) (by kernel_rfl)) (zP fun τ hτ=>?_)))
 refine bl_normal (yE hτ [1,2,7,16,17] [500000] (zD (z6 2 fun τ hτ=>?_)))
 obtain rfl:=osi h
 exact zH hτ
 replace h:=iteF hb h
 refine zL 0 fun τ hτ=>?_
 refine th_exit ?_
 obtain rfl:=osi h
 exact zF hτ
 intro x
 rfl
 intro τ hτ
 refine zQ (yE hτ [7] [500000] (z8 2 ⟨[(6,ro 500000 98)],[(500000,w_Rect 98 x104)]⟩ fun τ hτ=>?_))
 obtain rfl:=osi h
 exact rk_ret hτ [(6,ro 0 98)] (subR_prep [] [(500000,0)] (by kernel_rfl) rfl rfl (by kernel_rfl)) (by kernel_rfl)
end Go.Proofs.YtgfjbgoehhnaeaaGreat
