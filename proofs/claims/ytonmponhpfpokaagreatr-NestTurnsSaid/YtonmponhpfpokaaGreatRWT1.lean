/- Each Go function does what its model says; written by a program out of the translation. -/
import Derived.Test.YtonmponhpfpokaaGreatRWT
import Derived.Test.YtonmponhpfpokaaGreatRNeMT
set_option linter.unusedVariables false
set_option linter.unusedSimpArgs false
set_option linter.unusedSectionVars false
namespace Go.Proofs.YtonmponhpfpokaaGreatR
open Go Go.VI Go.SM Go.Proofs
set_option maxRecDepth 100000
set_option maxHeartbeats 4000000
theorem W.slices_DeleteFunc_Lint_int__nest_search_heights_1_k_ok {del_0_0 : (List Rect)} {del_0_1 : (List nest_obstacle)} {del_0_2 : Int} {del_0_3 : Int} {del_0_4 : Int} {del_0_5 : Int} {del_0_6 : Int} {del_0_7 : Int} {h0 : (List Int)} {r : (List Int)} (h : slices_DeleteFunc_Lint_int__nest_search_heights_1_k del_0_0 del_0_1 del_0_2 del_0_3 del_0_4 del_0_5 del_0_6 del_0_7 h0 = some r) : PC G.P 131 [(.row (.top 300000) 3),(.fn 132 [(.vptr [(.sl (List.map c_Rect del_0_0)),(.sl (List.map c_nest_obstacle del_0_1)),(vI del_0_2),(vI del_0_3),(vI del_0_4),(vI del_0_5),(vI del_0_6),(vI del_0_7)] 0)])] [(300000,.row 3 [] (List.map cI h0))] (.row (.top 0) 3) [(0,.row 3 [] (List.map cI r))]:=by
 refine zU G Tryz.func131 (zK ⟨[(0,ro 300000 3),(1,.fn 132 [(.vptr [(s_Rect del_0_0),(s_nest_obstacle del_0_1),(vI del_0_2),(vI del_0_3),(vI del_0_4),(vI del_0_5),(vI del_0_6),(vI del_0_7)] 0)])],[(300000,wI 3 h0)]⟩ (z3 1 ⟨[(0,ro 300000 3),(1,.fn 132 [(.vptr [(s_Rect del_0_0),(s_nest_obstacle del_0_1),(vI del_0_2),(vI del_0_3),(vI del_0_4),(vI del_0_5),(vI del_0_6),(vI del_0_7)] 0)])],[(300000,wI 3 h0)]⟩ ?_))
 refine z7 (zA 2 ?_)
 obtain ⟨r2,hr2,h⟩:=bindS h
 refine evs_callP [300000] (by kernel_rfl) (W.slices_IndexFunc_Lint_int__nest_search_heights_1_k_ok hr2) (by kernel_rfl) (.inr rfl) (by kernel_rfl) (z1 1 ⟨[(0,ro 300000 3),(1,.fn 132 [(.vptr [(s_Rect del_0_0),(s_nest_obstacle del_0_1),(vI del_0_2),(vI del_0_3),(vI del_0_4),(vI del_0_5),(vI del_0_6),(vI del_0_7)] 0)]),(5,vI r2)],[(300000,wI 3 h0)]⟩ (zB ?_))
 refine z3 2 ⟨[(0,ro 300000 3),(1,.fn 132 [(.vptr [(s_Rect del_0_0),(s_nest_obstacle del_0_1),(vI del_0_2),(vI del_0_3),(vI del_0_4),(vI del_0_5),(vI del_0_6),(vI del_0_7)] 0)]),(5,vI r2),(12,vB (r2 == (-1)))],[(300000,wI 3 h0)]⟩ (zI (r2 == (-1)) (fun hb=>?_) fun hb=>?_)
 replace h:=iteT hb h
 refine z8 2 ⟨[(4,ro 300000 3)],[(300000,wI 3 h0)]⟩ fun τ hτ=>?_
 refine th_ret ?_
 obtain rfl:=osi h
 exact rk_ret hτ [(4,ro 0 3)] (subR_prep [] [(300000,0)] (by kernel_rfl) rfl rfl (by kernel_rfl)) (by kernel_rfl)
 replace h:=iteF hb h
 refine z4 ⟨[(0,ro 300000 3),(1,.fn 132 [(.vptr [(s_Rect del_0_0),(s_nest_obstacle del_0_1),(vI del_0_2),(vI del_0_3),(vI del_0_4),(vI del_0_5),(vI del_0_6),(vI del_0_7)] 0)]),(5,vI r2)],[(300000,wI 3 h0)]⟩ (zB (z3 3 ⟨[(0,ro 300000 3),(1,.fn 132 [(.vptr [(s_Rect del_0_0),(s_nest_obstacle del_0_1),(vI del_0_2),(vI del_0_3),(vI del_0_4),(vI del_0_5),(vI del_0_6),(vI del_0_7)] 0)]),(5,vI r2),(6,vI (iadd r2 1))],[(300000,wI 3 h0)]⟩ ?_))
 refine zC ?_
 obtain ⟨x86,hx86,h⟩:=bindS h
 refine sem_loopS (fun (s59 : Int × Int × (List Int))=>⟨[(0,ro 500000 3),(1,.fn 132 [(.vptr [(s_Rect del_0_0),(s_nest_obstacle del_0_1),(vI del_0_2),(vI del_0_3),(vI del_0_4),(vI del_0_5),(vI del_0_6),(vI del_0_7)] 0)]),(5,vI s59.1),(6,vI s59.2.1)],[(500000,wI 3 s59.2.2)]⟩) (fun (x86 : Int × (List Int))=>(.exit 0,⟨[(0,ro 500000 3),(5,vI x86.1)],[(500000,wI 3 x86.2)]⟩)) (slices_DeleteFunc_Lint_int__nest_search_heights_1_k_l2 del_0_0 del_0_1 del_0_2 del_0_3 del_0_4 del_0_5 del_0_6 del_0_7) (r2,(iadd r2 1),h0) x86 (by kernel_rfl) (subR_prep [] [(300000,500000)] (by kernel_rfl) rfl rfl (by kernel_rfl)) (iter_loop hx86) ?_ ?_ ?_
 intro s59 r h
 refine zB (z7 (zA 2 ?_))
 refine evs_op (st_len (c:=cI) (l:=s59.2.2) (x:=(ro 500000 3)) (by kernel_rfl) (by kernel_rfl)) (z1 1 ⟨[(0,ro 500000 3),(1,.fn 132 [(.vptr [(s_Rect del_0_0),(s_nest_obstacle del_0_1),(vI del_0_2),(vI del_0_3),(vI del_0_4),(vI del_0_5),(vI del_0_6),(vI del_0_7)] 0)]),(5,vI s59.1),(6,vI s59.2.1),(19,vB (decide (s59.2.1 < (s59.2.2.length : Int))))],[(500000,wI 3 s59.2.2)]⟩ (zI (decide (s59.2.1 < (s59.2.2.length : Int))) (fun hb=>?_) fun hb=>?_))
 replace h:=iteT hb h
 refine z4 ⟨[(0,ro 500000 3),(1,.fn 132 [(.vptr [(s_Rect del_0_0),(s_nest_obstacle del_0_1),(vI del_0_2),(vI del_0_3),(vI del_0_4),(vI del_0_5),(vI del_0_6),(vI del_0_7)] 0)]),(5,vI s59.1),(6,vI s59.2.1)],[(500000,wI 3 s59.2.2)]⟩ (sem_seqJ (fun (j79 : Int × (List Int))=>⟨[(0,ro 500000 3),(1,.fn 132 [(.vptr [(s_Rect del_0_0),(s_nest_obstacle del_0_1),(vI del_0_2),(vI del_0_3),(vI del_0_4),(vI del_0_5),(vI del_0_6),(vI del_0_7)] 0)]),(5,vI j79.1),(6,vI s59.2.1)],[(500000,wI 3 j79.2)]⟩) (slices_DeleteFunc_Lint_int__nest_search_heights_1_k_k1 s59) r (by kernel_rfl) (fun j79 h=>?_) ?_)
 refine zD (z6 3 fun τ hτ=>?_)
 obtain rfl:=osi h
 exact zH hτ
 refine zC (z7 (zA 2 ?_))
 obtain ⟨x81,hx81,h⟩:=bindS h
 refine evs_op (st_idxO (c:=cI) (l:=s59.2.2) (i:=s59.2.1) (kd:=.i64) (kk:=(.top 500000)) (e:=3) (sz:=1) (by kernel_rfl) (by kernel_rfl) hx81 rfl) (evs_op (st_ldO (c:=cI) (l:=s59.2.2) (i:=(Int.toNat s59.2.1)) (v:=(vI x81)) (agg:=false) (sz:=1) (kk:=(.top 500000)) (e:=3) (off:=0) (J:=[]) (by kernel_rfl) (by kernel_rfl) (by kernel_rfl) ((idxS hx81).2) (by kernel_rfl)) (z1 1 ⟨[(0,ro 500000 3),(1,.fn 132 [(.vptr [(s_Rect del_0_0),(s_nest_obstacle del_0_1),(vI del_0_2),(vI del_0_3),(vI del_0_4),(vI del_0_5),(vI del_0_6),(vI del_0_7)] 0)]),(5,vI s59.1),(6,vI s59.2.1),(7,vI x81)],[(500000,wI 3 s59.2.2)]⟩ ?_))
 refine z7 (zA 2 ?_)
 obtain ⟨r83,hr83,h⟩:=bindS h
 refine evs_callP [] (by kernel_rfl) (W.nest_search_heights_1_k_ok hr83) (by kernel_rfl) (.inl rfl) (by kernel_rfl) (z1 1 ⟨[(0,ro 500000 3),(1,.fn 132 [(.vptr [(s_Rect del_0_0),(s_nest_obstacle del_0_1),(vI del_0_2),(vI del_0_3),(vI del_0_4),(vI del_0_5),(vI del_0_6),(vI del_0_7)] 0)]),(5,vI s59.1),(6,vI s59.2.1),(7,vI x81),(29,vB (!r83))],[(500000,wI 3 s59.2.2)]⟩ (zI (!r83) (fun hb=>?_) fun hb=>?_))
 replace h:=iteT hb h
 refine z7 (zA 3 ?_)
 obtain ⟨x85,hx85,h⟩:=bindS h
 refine evs_op (st_idxO (c:=cI) (l:=s59.2.2) (i:=s59.1) (kd:=.i64) (kk:=(.top 500000)) (e:=3) (sz:=1) (by kernel_rfl) (by kernel_rfl) hx85 rfl) (evs_op (st_stO (c:=cI) (l:=s59.2.2) (i:=(Int.toNat s59.1)) (x:=x85) (x':=x81) (v:=(vI x81)) (agg:=false) (sz:=1) (kk:=(.top 500000)) (e:=3) (off:=0) (J:=[]) (o:=wI 3 (List.set s59.2.2 (Int.toNat s59.1) x81)) (by kernel_rfl) (by kernel_rfl) (by kernel_rfl) ((idxS hx85).2) (by kernel_rfl) (by kernel_rfl) (by kernel_rfl)) (zP fun τ hτ=>?_))
 refine zE hτ ⟨[(0,ro 500000 3),(1,.fn 132 [(.vptr [(s_Rect del_0_0),(s_nest_obstacle del_0_1),(vI del_0_2),(vI del_0_3),(vI del_0_4),(vI del_0_5),(vI del_0_6),(vI del_0_7)] 0)]),(5,vI s59.1),(6,vI s59.2.1)],[(500000,wI 3 (List.set s59.2.2 (Int.toNat s59.1) x81))]⟩ (zD (z6 3 fun τ hτ=>?_))
 exact bl_normal (jk_normal ((iadd s59.1 1),(List.set s59.2.2 (Int.toNat s59.1) x81)) h hτ (here (by kernel_rfl)))
 replace h:=iteF hb h
 refine zM fun τ hτ=>?_
 exact bl_normal (jk_normal (s59.1,s59.2.2) h hτ (here (by kernel_rfl)))
 replace h:=iteF hb h
 refine zL 0 fun τ hτ=>?_
 refine th_exit ?_
 obtain rfl:=osi h
 exact zF hτ
 intro x
 rfl
 intro τ hτ
 refine zQ (zE hτ ⟨[(0,ro 500000 3),(5,vI x86.1)],[(500000,wI 3 x86.2)]⟩ (z7 ?_))
 refine zA 2 ?_
 obtain ⟨hp2,h⟩:=iteN h
 refine evs_op (st_slPL (c:=cI) (l:=x86.2) (kk:=(.top 500000)) (e:=3) (sz:=1) (lo:=x86.1) (k1:=.i64) (by kernel_rfl) (by kernel_rfl) (fun _=>rfl) hp2) (evs_at (at_clear (c:=cI) (l:=x86.2) (z:=0) (d:=(.part (.top 500000) 3 (Int.toNat x86.1) (Int.toNat (x86.2.length : Int) - Int.toNat x86.1))) (e:=3) (g:=500000) (lo:=(Int.toNat x86.1)) (n:=(Int.toNat (x86.2.length : Int) - Int.toNat x86.1)) (zs:=[(vI 0)]) (by kernel_rfl) (by kernel_rfl) (by kernel_rfl) (part_fit hp2) rfl) (zP fun τ hτ=>?_))
 refine zE hτ ⟨[(0,ro 500000 3),(5,vI x86.1)],[(500000,wI 3 (cpy x86.2 (Int.toNat x86.1) (List.replicate (Int.toNat (x86.2.length : Int) - Int.toNat x86.1) 0)))]⟩ (z7 (zA 2 ?_))
 obtain ⟨l88,hl88,h⟩:=bindS h
 refine evs_at (at_cut (J:=[]) (c:=cI) (l:=(cpy x86.2 (Int.toNat x86.1) (List.replicate (Int.toNat (x86.2.length : Int) - Int.toNat x86.1) 0))) (e:=3) (g:=500000) (hi:=x86.1) (k2:=.i64) (by kernel_rfl) (by kernel_rfl) rfl hl88) (z1 1 ⟨[(4,ro 500000 3)],[(500000,wI 3 l88)]⟩ (zN fun τ hτ=>?_))
 obtain rfl:=osi h
 exact rk_ret hτ [(4,ro 0 3)] (subR_prep [] [(500000,0)] (by kernel_rfl) rfl rfl (by kernel_rfl)) (by kernel_rfl)
theorem W.nest_search_heights_k_ok {s0 : nest_search} {r : (List Int)} (h : nest_search_heights_k s0 = some r) : PC G.P 100 [(.agg (c_nest_search s0))] [] (.row (.top 0) 3) [(0,.row 3 [] (List.map cI r))]:=by
 refine zU G Tryz.func100 (zK ⟨[(0,.agg (c_nest_search s0))],[]⟩ (z3 2 ⟨[(1,.ptr 1 0)],[(1,.box (c_nest_search s0))]⟩ ?_))
 refine z7 (zA 3 (evs_at (at_build (e:=3) (d:=13) (es:=(List.map cI [s0.area.Y])) (by kernel_rfl)) ?_))
 refine z1 1 ⟨[(1,.ptr 1 0),(3,ro 13 3)],[(1,.box (c_nest_search s0)),(13,wI 3 [s0.area.Y])]⟩ (zB (z7 ?_))
 refine zA 2 (evs_op (st_len (c:=c_nest_obstacle) (l:=s0.obstacles) (x:=(s_nest_obstacle s0.obstacles)) (by kernel_rfl) (by kernel_rfl)) (z1 1 ⟨[(1,.ptr 1 0),(3,ro 13 3),(15,s_nest_obstacle s0.obstacles),(16,vI (s0.obstacles.length : Int)),(17,vI 0)],[(1,.box (c_nest_search s0)),(13,wI 3 [s0.area.Y])]⟩ ?_))
 refine zC ?_
 obtain ⟨x2154,hx2154,h⟩:=bindS h
 refine sem_loopS (fun (s1437 : Int × (List Int))=>⟨[(1,.ptr 500000 0),(3,ro 500001 3),(15,s_nest_obstacle s0.obstacles),(16,vI (s0.obstacles.length : Int)),(17,vI s1437.1)],[(500000,.box (c_nest_search s0)),(500001,wI 3 s1437.2)]⟩) (fun (x2154 : (List Int))=>(.exit 0,⟨[(1,.ptr 500000 0),(3,ro 500001 3)],[(500000,.box (c_nest_search s0)),(500001,wI 3 x2154)]⟩)) (nest_search_heights_k_l3 s0) (0,[s0.area.Y]) x2154 (by kernel_rfl) (subR_prep [] [(1,500000),(13,500001)] (by kernel_rfl) rfl rfl (by kernel_rfl)) (iter_loop hx2154) ?_ ?_ ?_
 intro s1437 r h
 refine z3 1 ⟨[(1,.ptr 500000 0),(3,ro 500001 3),(15,s_nest_obstacle s0.obstacles),(16,vI (s0.obstacles.length : Int)),(17,vI s1437.1),(18,vB (decide (s1437.1 < (s0.obstacles.length : Int))))],[(500000,.box (c_nest_search s0)),(500001,wI 3 s1437.2)]⟩ (zB (zI (decide (s1437.1 < (s0.obstacles.length : Int))) (fun hb=>?_) fun hb=>?_))
 replace h:=iteT hb h
 refine z4 ⟨[(1,.ptr 500000 0),(3,ro 500001 3),(15,s_nest_obstacle s0.obstacles),(16,vI (s0.obstacles.length : Int)),(17,vI s1437.1)],[(500000,.box (c_nest_search s0)),(500001,wI 3 s1437.2)]⟩ (zB (zC ?_))
 refine z7 ?_
 obtain ⟨x1976,hx1976,h⟩:=bindS h
 refine evs_op (st_idx (c:=c_nest_obstacle) (l:=s0.obstacles) (i:=s1437.1) (kd:=.i64) (sz:=6) (by kernel_rfl) hx1976 rfl) (z1 3 ⟨[(1,.ptr 500000 0),(3,ro 500001 3),(5,.ptr 5 0),(15,s_nest_obstacle s0.obstacles),(16,vI (s0.obstacles.length : Int)),(17,vI s1437.1)],[(5,.box (c_nest_obstacle x1976)),(500000,.box (c_nest_search s0)),(500001,wI 3 s1437.2)]⟩ (z7 ?_))
 refine zA 2 (evs_op (st_len (c:=c_Rect) (l:=s0.rects) (x:=(s_Rect s0.rects)) (by kernel_rfl) (by kernel_rfl)) (z1 1 ⟨[(1,.ptr 500000 0),(3,ro 500001 3),(5,.ptr 5 0),(15,s_nest_obstacle s0.obstacles),(16,vI (s0.obstacles.length : Int)),(17,vI s1437.1),(22,s_Rect s0.rects),(23,vI (s0.rects.length : Int)),(24,vI 0)],[(5,.box (c_nest_obstacle x1976)),(500000,.box (c_nest_search s0)),(500001,wI 3 s1437.2)]⟩ ?_))
 refine zC ?_
 obtain ⟨x2153,hx2153,h⟩:=bindS h
 refine sem_loopS (fun (s2036 : Int × (List Int))=>⟨[(1,.ptr 500000 0),(3,ro 500001 3),(5,.ptr 500002 0),(15,s_nest_obstacle s0.obstacles),(16,vI (s0.obstacles.length : Int)),(17,vI s1437.1),(22,s_Rect s0.rects),(23,vI (s0.rects.length : Int)),(24,vI s2036.1)],[(500000,.box (c_nest_search s0)),(500001,wI 3 s2036.2),(500002,.box (c_nest_obstacle x1976))]⟩) (fun (x2153 : (List Int))=>(.exit 2,⟨[(1,.ptr 500000 0),(3,ro 500001 3),(15,s_nest_obstacle s0.obstacles),(16,vI (s0.obstacles.length : Int)),(17,vI s1437.1)],[(500000,.box (c_nest_search s0)),(500001,wI 3 x2153)]⟩)) (nest_search_heights_k_l2 s0 x1976) (0,s1437.2) x2153 (by kernel_rfl) (subR_prep [] [(5,500002),(500000,500000),(500001,500001)] (by kernel_rfl) rfl rfl (by kernel_rfl)) (iter_loop hx2153) ?_ ?_ ?_
 intro s2036 r h
 refine z3 1 ⟨[(1,.ptr 500000 0),(3,ro 500001 3),(5,.ptr 500002 0),(15,s_nest_obstacle s0.obstacles),(16,vI (s0.obstacles.length : Int)),(17,vI s1437.1),(22,s_Rect s0.rects),(23,vI (s0.rects.length : Int)),(24,vI s2036.1),(25,vB (decide (s2036.1 < (s0.rects.length : Int))))],[(500000,.box (c_nest_search s0)),(500001,wI 3 s2036.2),(500002,.box (c_nest_obstacle x1976))]⟩ (zB (zI (decide (s2036.1 < (s0.rects.length : Int))) (fun hb=>?_) fun hb=>?_))
 replace h:=iteT hb h
 refine z4 ⟨[(1,.ptr 500000 0),(3,ro 500001 3),(5,.ptr 500002 0),(15,s_nest_obstacle s0.obstacles),(16,vI (s0.obstacles.length : Int)),(17,vI s1437.1),(22,s_Rect s0.rects),(23,vI (s0.rects.length : Int)),(24,vI s2036.1)],[(500000,.box (c_nest_search s0)),(500001,wI 3 s2036.2),(500002,.box (c_nest_obstacle x1976))]⟩ (zB (zC ?_))
 refine z7 ?_
 obtain ⟨x2125,hx2125,h⟩:=bindS h
 refine evs_op (st_idx (c:=c_Rect) (l:=s0.rects) (i:=s2036.1) (kd:=.i64) (sz:=4) (by kernel_rfl) hx2125 rfl) (z1 3 ⟨[(1,.ptr 500000 0),(3,ro 500001 3),(5,.ptr 500002 0),(7,.ptr 7 0),(15,s_nest_obstacle s0.obstacles),(16,vI (s0.obstacles.length : Int)),(17,vI s1437.1),(22,s_Rect s0.rects),(23,vI (s0.rects.length : Int)),(24,vI s2036.1)],[(7,.box (c_Rect x2125)),(500000,.box (c_nest_search s0)),(500001,wI 3 s2036.2),(500002,.box (c_nest_obstacle x1976))]⟩ (z7 ?_))
 refine zA 3 (evs_op (st_len (c:=cI) (l:=[0,x1976.gap]) (x:=(sI [0,x1976.gap])) (by kernel_rfl) (by kernel_rfl)) (z1 1 ⟨[(1,.ptr 500000 0),(3,ro 500001 3),(5,.ptr 500002 0),(7,.ptr 7 0),(15,s_nest_obstacle s0.obstacles),(16,vI (s0.obstacles.length : Int)),(17,vI s1437.1),(22,s_Rect s0.rects),(23,vI (s0.rects.length : Int)),(24,vI s2036.1),(30,sI [0,x1976.gap]),(31,vI ([0,x1976.gap].length : Int)),(32,vI 0)],[(7,.box (c_Rect x2125)),(500000,.box (c_nest_search s0)),(500001,wI 3 s2036.2),(500002,.box (c_nest_obstacle x1976))]⟩ ?_))
 refine zC ?_
 obtain ⟨x2152,hx2152,h⟩:=bindS h
 refine sem_loopS (fun (s2135 : Int × (List Int))=>⟨[(1,.ptr 500000 0),(3,ro 500001 3),(5,.ptr 500002 0),(7,.ptr 500003 0),(15,s_nest_obstacle s0.obstacles),(16,vI (s0.obstacles.length : Int)),(17,vI s1437.1),(22,s_Rect s0.rects),(23,vI (s0.rects.length : Int)),(24,vI s2036.1),(30,sI [0,x1976.gap]),(31,vI ([0,x1976.gap].length : Int)),(32,vI s2135.1)],[(500000,.box (c_nest_search s0)),(500001,wI 3 s2135.2),(500002,.box (c_nest_obstacle x1976)),(500003,.box (c_Rect x2125))]⟩) (fun (x2152 : (List Int))=>(.exit 4,⟨[(1,.ptr 500000 0),(3,ro 500001 3),(5,.ptr 500002 0),(15,s_nest_obstacle s0.obstacles),(16,vI (s0.obstacles.length : Int)),(17,vI s1437.1),(22,s_Rect s0.rects),(23,vI (s0.rects.length : Int)),(24,vI s2036.1)],[(500000,.box (c_nest_search s0)),(500001,wI 3 x2152),(500002,.box (c_nest_obstacle x1976))]⟩)) (nest_search_heights_k_l1 x1976 x2125) (0,s2036.2) x2152 (by kernel_rfl) (subR_prep [] [(7,500003),(500000,500000),(500001,500001),(500002,500002)] (by kernel_rfl) rfl rfl (by kernel_rfl)) (iter_loop hx2152) ?_ ?_ ?_
 intro s2135 r h
 refine z3 1 ⟨[(1,.ptr 500000 0),(3,ro 500001 3),(5,.ptr 500002 0),(7,.ptr 500003 0),(15,s_nest_obstacle s0.obstacles),(16,vI (s0.obstacles.length : Int)),(17,vI s1437.1),(22,s_Rect s0.rects),(23,vI (s0.rects.length : Int)),(24,vI s2036.1),(30,sI [0,x1976.gap]),(31,vI ([0,x1976.gap].length : Int)),(32,vI s2135.1),(33,vB (decide (s2135.1 < ([0,x1976.gap].length : Int))))],[(500000,.box (c_nest_search s0)),(500001,wI 3 s2135.2),(500002,.box (c_nest_obstacle x1976)),(500003,.box (c_Rect x2125))]⟩ (zB (zI (decide (s2135.1 < ([0,x1976.gap].length : Int))) (fun hb=>?_) fun hb=>?_))
 replace h:=iteT hb h
 refine z4 ⟨[(1,.ptr 500000 0),(3,ro 500001 3),(5,.ptr 500002 0),(7,.ptr 500003 0),(15,s_nest_obstacle s0.obstacles),(16,vI (s0.obstacles.length : Int)),(17,vI s1437.1),(22,s_Rect s0.rects),(23,vI (s0.rects.length : Int)),(24,vI s2036.1),(30,sI [0,x1976.gap]),(31,vI ([0,x1976.gap].length : Int)),(32,vI s2135.1)],[(500000,.box (c_nest_search s0)),(500001,wI 3 s2135.2),(500002,.box (c_nest_obstacle x1976)),(500003,.box (c_Rect x2125))]⟩ (zB (zC ?_))
 refine z7 ?_
 obtain ⟨x2149,hx2149,h⟩:=bindS h
 refine evs_op (st_idx (c:=cI) (l:=[0,x1976.gap]) (i:=s2135.1) (kd:=.i64) (sz:=1) (by kernel_rfl) hx2149 rfl) (z1 2 ⟨[(1,.ptr 500000 0),(3,ro 500001 3),(5,.ptr 500002 0),(7,.ptr 500003 0),(9,vI x2149),(15,s_nest_obstacle s0.obstacles),(16,vI (s0.obstacles.length : Int)),(17,vI s1437.1),(22,s_Rect s0.rects),(23,vI (s0.rects.length : Int)),(24,vI s2036.1),(30,sI [0,x1976.gap]),(31,vI ([0,x1976.gap].length : Int)),(32,vI s2135.1)],[(500000,.box (c_nest_search s0)),(500001,wI 3 s2135.2),(500002,.box (c_nest_obstacle x1976)),(500003,.box (c_Rect x2125))]⟩ (zD ?_))
 refine zA 25 ?_
 obtain ⟨l2151,hl2151,h⟩:=bindS h
 refine evs_op (st_app (c:=cI) (l:=s2135.2) (l2:=[(isub (iadd (iadd x1976.Rect.Y x1976.Rect.H) x2149) x2125.Y),(isub (isub (isub x1976.Rect.Y x2149) x2125.Y) x2125.H)]) (x:=(sI [(isub (iadd (iadd x1976.Rect.Y x1976.Rect.H) x2149) x2125.Y),(isub (isub (isub x1976.Rect.Y x2149) x2125.Y) x2125.H)])) (g:=500001) (e:=3) (sz:=1) (d:=61) (by kernel_rfl) (by kernel_rfl) (by kernel_rfl) (by kernel_rfl) (fun _=>rfl) rfl hl2151) (z6 1 fun τ hτ=>?_)
 refine bl_normal (zE hτ ⟨[(1,.ptr 500000 0),(3,ro 500001 3),(5,.ptr 500002 0),(7,.ptr 500003 0),(15,s_nest_obstacle s0.obstacles),(16,vI (s0.obstacles.length : Int)),(17,vI s1437.1),(22,s_Rect s0.rects),(23,vI (s0.rects.length : Int)),(24,vI s2036.1),(30,sI [0,x1976.gap]),(31,vI ([0,x1976.gap].length : Int)),(32,vI s2135.1)],[(500000,.box (c_nest_search s0)),(500001,wI 3 l2151),(500002,.box (c_nest_obstacle x1976)),(500003,.box (c_Rect x2125))]⟩ (zD ?_))
 refine z6 2 fun τ hτ=>?_
 obtain rfl:=osi h
 exact zH hτ
 replace h:=iteF hb h
 refine zL 4 fun τ hτ=>?_
 refine th_exit ?_
 obtain rfl:=osi h
 exact zF hτ
 intro x
 rfl
 intro τ hτ
 refine zQ (bl_normal (zE hτ ⟨[(1,.ptr 500000 0),(3,ro 500001 3),(5,.ptr 500002 0),(15,s_nest_obstacle s0.obstacles),(16,vI (s0.obstacles.length : Int)),(17,vI s1437.1),(22,s_Rect s0.rects),(23,vI (s0.rects.length : Int)),(24,vI s2036.1)],[(500000,.box (c_nest_search s0)),(500001,wI 3 x2152),(500002,.box (c_nest_obstacle x1976))]⟩ ?_))
 refine zD (z6 2 fun τ hτ=>?_)
 obtain rfl:=osi h
 exact zH hτ
 replace h:=iteF hb h
 refine zL 2 fun τ hτ=>?_
 refine th_exit ?_
 obtain rfl:=osi h
 exact zF hτ
 intro x
 rfl
 intro τ hτ
 refine zQ (bl_normal (zE hτ ⟨[(1,.ptr 500000 0),(3,ro 500001 3),(15,s_nest_obstacle s0.obstacles),(16,vI (s0.obstacles.length : Int)),(17,vI s1437.1)],[(500000,.box (c_nest_search s0)),(500001,wI 3 x2153)]⟩ ?_))
 refine zD (z6 2 fun τ hτ=>?_)
 obtain rfl:=osi h
 exact zH hτ
 replace h:=iteF hb h
 refine zL 0 fun τ hτ=>?_
 refine th_exit ?_
 obtain rfl:=osi h
 exact zF hτ
 intro x
 rfl
 intro τ hτ
 refine zQ (zE hτ ⟨[(1,.ptr 500000 0),(3,ro 500001 3)],[(500000,.box (c_nest_search s0)),(500001,wI 3 x2154)]⟩ (z7 ?_))
 refine zA 1 ?_
 obtain ⟨r2156,hr2156,h⟩:=bindS h
 refine evs_callS [(1000000,500001)] [] [] (by kernel_rfl) (W.slices_Sort_Lint_int_k_ok hr2156) (by kernel_rfl) (by kernel_rfl) (.inl rfl) (zP fun τ hτ=>?_)
 refine zE hτ ⟨[(1,.ptr 500000 0),(3,ro 500001 3)],[(500000,.box (c_nest_search s0)),(500001,wI 3 r2156)]⟩ (z7 (zA 1 ?_))
 obtain ⟨r2158,hr2158,h⟩:=bindS h
 refine evs_callS [(300000,500001)] [(0,700050)] [] (by kernel_rfl) (W.slices_Compact_Lint_int_k_ok hr2158) (by kernel_rfl) (by kernel_rfl) (.inl rfl) (z1 1 ⟨[(1,.ptr 500000 0),(3,ro 700050 3)],[(500000,.box (c_nest_search s0)),(700050,wI 3 r2158)]⟩ (z7 ?_))
 refine zA 2 ?_
 obtain ⟨r2160,hr2160,h⟩:=bindS h
 refine evs_callS [(300000,700050)] [(0,700100)] [500000] (by kernel_rfl) (W.slices_DeleteFunc_Lint_int__nest_search_heights_1_k_ok hr2160) (by kernel_rfl) (by kernel_rfl) (.inr ⟨rfl,fun _ _=>ind_cons (ind_row fun _=>rfl) (fun _ _=>ind_nil)⟩) (z1 1 ⟨[(2,ro 700100 3)],[(700100,wI 3 r2160)]⟩ (zN fun τ hτ=>?_))
 obtain rfl:=osi h
 exact rk_ret hτ [(2,ro 0 3)] (subR_prep [] [(700100,0)] (by kernel_rfl) rfl rfl (by kernel_rfl)) (by kernel_rfl)
theorem W.nest_split_1_k_ok {a : nest_span} {r : Bool} (h : nest_split_1_k a = some r) : PC G.P 176 [(.agg [(vI a.lo),(vI a.hi)])] [] (vB r) []:=by
 refine zU G Tryz.func176 (zK ⟨[(0,.agg [(vI a.lo),(vI a.hi)])],[]⟩ (z3 2 ⟨[(1,.ptr 1 0)],[(1,.box [(vI a.lo),(vI a.hi)])]⟩ ?_))
 refine z8 7 ⟨[(2,vB (decide ((isub a.hi a.lo) < 2)))],[]⟩ fun τ hτ=>?_
 obtain rfl:=osi h
 exact zV hτ [(2,vB (decide ((isub a.hi a.lo) < 2)))]
theorem W.slices_IndexFunc_Lnest_span_nest_span__nest_split_1_k_ok {s0 : (List nest_span)} {r : Int} (h : slices_IndexFunc_Lnest_span_nest_span__nest_split_1_k s0 = some r) : PC G.P 200 [(.sl (List.map c_nest_span s0)),(.fn 176 [])] [] (vI r) []:=by
 refine zU G Tryz.func200 (zK ⟨[(0,s_nest_span s0),(1,.fn 176 [])],[]⟩ (z3 1 ⟨[(0,s_nest_span s0),(1,.fn 176 [])],[]⟩ ?_))
 refine zB (z7 (zA 1 ?_))
 refine evs_op (st_len (c:=c_nest_span) (l:=s0) (x:=(s_nest_span s0)) (by kernel_rfl) (by kernel_rfl)) (z1 1 ⟨[(0,s_nest_span s0),(1,.fn 176 []),(7,vI (s0.length : Int)),(8,vI 0)],[]⟩ (zC ?_))
 obtain ⟨x54,hx54,h⟩:=bindS h
 refine sem_loopS (fun (s37 : Int)=>⟨[(0,s_nest_span s0),(1,.fn 176 []),(7,vI (s0.length : Int)),(8,vI s37)],[]⟩) (fun (x54 : Unit)=>(.exit 0,⟨[],[]⟩)) (slices_IndexFunc_Lnest_span_nest_span__nest_split_1_k_l1 s0) 0 x54 (by kernel_rfl) (here (by kernel_rfl)) (iter_loop hx54) ?_ ?_ ?_
 intro s37 r h
 refine z3 1 ⟨[(0,s_nest_span s0),(1,.fn 176 []),(7,vI (s0.length : Int)),(8,vI s37),(9,vB (decide (s37 < (s0.length : Int))))],[]⟩ (zB (zI (decide (s37 < (s0.length : Int))) (fun hb=>?_) fun hb=>?_))
 replace h:=iteT hb h
 refine z4 ⟨[(0,s_nest_span s0),(1,.fn 176 []),(7,vI (s0.length : Int)),(8,vI s37)],[]⟩ (zB (zC ?_))
 refine z3 2 ⟨[(0,s_nest_span s0),(1,.fn 176 []),(5,vI s37),(7,vI (s0.length : Int)),(8,vI s37)],[]⟩ (z7 (zA 3 ?_))
 obtain ⟨x52,hx52,h⟩:=bindS h
 refine evs_op (st_idx (c:=c_nest_span) (l:=s0) (i:=s37) (kd:=.i64) (sz:=2) (by kernel_rfl) hx52 rfl) (zA 1 ?_)
 obtain ⟨r53,hr53,h⟩:=bindS h
 refine evs_callP [] (by kernel_rfl) (W.nest_split_1_k_ok hr53) (by kernel_rfl) (.inl rfl) (by kernel_rfl) (zP fun τ hτ=>?_)
 refine zE hτ ⟨[(0,s_nest_span s0),(1,.fn 176 []),(5,vI s37),(7,vI (s0.length : Int)),(8,vI s37),(16,vB r53)],[]⟩ (zI r53 (fun hb=>?_) fun hb=>?_)
 replace h:=iteT hb h
 exact nomatch h
 replace h:=iteF hb h
 refine zM fun τ hτ=>?_
 refine bl_normal (zE hτ ⟨[(0,s_nest_span s0),(1,.fn 176 []),(7,vI (s0.length : Int)),(8,vI s37)],[]⟩ (zD ?_))
 refine z6 2 fun τ hτ=>?_
 obtain rfl:=osi h
 exact zH hτ
 replace h:=iteF hb h
 refine zL 0 fun τ hτ=>?_
 refine th_exit ?_
 obtain rfl:=osi h
 exact zF hτ
 intro x
 rfl
 intro τ hτ
 refine zQ (zE hτ ⟨[],[]⟩ (z8 1 ⟨[(4,vI (-1))],[]⟩ fun τ hτ=>?_))
 obtain rfl:=osi h
 exact zV hτ [(4,vI (-1))]
theorem W.slices_DeleteFunc_Lnest_span_nest_span__nest_split_1_k_ok {s0 : (List nest_span)} {r : (List nest_span)} (h : slices_DeleteFunc_Lnest_span_nest_span__nest_split_1_k s0 = some r) : PC G.P 175 [(.sl (List.map c_nest_span s0)),(.fn 176 [])] [] (.sl (List.map c_nest_span r)) []:=by
 refine zU G Tryz.func175 (zK ⟨[(0,s_nest_span s0),(1,.fn 176 [])],[]⟩ (z3 1 ⟨[(0,s_nest_span s0),(1,.fn 176 [])],[]⟩ ?_))
 refine z7 (zA 2 ?_)
 obtain ⟨r2,hr2,h⟩:=bindS h
 refine evs_callP [] (by kernel_rfl) (W.slices_IndexFunc_Lnest_span_nest_span__nest_split_1_k_ok hr2) (by kernel_rfl) (.inl rfl) (by kernel_rfl) (z1 1 ⟨[(0,s_nest_span s0),(1,.fn 176 []),(5,vI r2)],[]⟩ (zB ?_))
 refine z3 2 ⟨[(0,s_nest_span s0),(1,.fn 176 []),(5,vI r2),(12,vB (r2 == (-1)))],[]⟩ (zI (r2 == (-1)) (fun hb=>?_) fun hb=>?_)
 replace h:=iteT hb h
 refine z8 2 ⟨[(4,s_nest_span s0)],[]⟩ fun τ hτ=>?_
 refine th_ret ?_
 obtain rfl:=osi h
 exact zV hτ [(4,s_nest_span s0)]
 replace h:=iteF hb h
 exact nomatch h
theorem W.nest_split_k_ok {l : (List nest_span)} {r : (List nest_span)} (h : nest_split_k l = some r) : PC G.P 154 [(.sl (List.map c_nest_span l))] [] (.sl (List.map c_nest_span r)) []:=by
 refine zU G Tryz.func154 (zK ⟨[(0,s_nest_span l)],[]⟩ (z3 1 ⟨[(0,s_nest_span l)],[]⟩ ?_))
 refine z7 (zA 1 ?_)
 obtain ⟨r2,hr2,h⟩:=bindS h
 refine evs_callP [] (by kernel_rfl) (W.slices_DeleteFunc_Lnest_span_nest_span__nest_split_1_k_ok hr2) (by kernel_rfl) (.inl rfl) (by kernel_rfl) (z1 1 ⟨[(2,s_nest_span r2)],[]⟩ (zN fun τ hτ=>?_))
 obtain rfl:=osi h
 exact zV hτ [(2,s_nest_span r2)]
theorem W.nest_obstacle_spans_k_ok {o : nest_obstacle} {r1 : Rect} {y : Int} {r : (List nest_span)} (h : nest_obstacle_spans_k o r1 y = some r) : PC G.P 133 [(.agg (c_nest_obstacle o)),(.agg (c_Rect r1)),(vI y)] [] (.sl (List.map c_nest_span r)) []:=by
 refine zU G Tryz.func133 (zK ⟨[(0,.agg (c_nest_obstacle o)),(1,.agg (c_Rect r1)),(2,vI y)],[]⟩ (z3 3 ⟨[(2,vI y),(3,.ptr 3 0),(4,.ptr 4 0)],[(3,.box (c_nest_obstacle o)),(4,.box (c_Rect r1))]⟩ ?_))
 refine z3 25 ⟨[(2,vI y),(3,.ptr 3 0),(4,.ptr 4 0),(7,vI (imax (imax 0 (isub (isub (isub o.Rect.Y r1.Y) y) r1.H)) (isub (isub (iadd r1.Y y) o.Rect.Y) o.Rect.H)))],[(3,.box (c_nest_obstacle o)),(4,.box (c_Rect r1))]⟩ (z3 10 ⟨[(2,vI y),(3,.ptr 3 0),(4,.ptr 4 0),(7,vI (imax (imax 0 (isub (isub (isub o.Rect.Y r1.Y) y) r1.H)) (isub (isub (iadd r1.Y y) o.Rect.Y) o.Rect.H))),(8,vI (isub (isub o.Rect.X r1.X) r1.W))],[(3,.box (c_nest_obstacle o)),(4,.box (c_Rect r1))]⟩ (z3 11 ⟨[(2,vI y),(3,.ptr 3 0),(4,.ptr 4 0),(7,vI (imax (imax 0 (isub (isub (isub o.Rect.Y r1.Y) y) r1.H)) (isub (isub (iadd r1.Y y) o.Rect.Y) o.Rect.H))),(8,vI (isub (isub o.Rect.X r1.X) r1.W)),(9,vI (isub (iadd o.Rect.X o.Rect.W) r1.X))],[(3,.box (c_nest_obstacle o)),(4,.box (c_Rect r1))]⟩ ?_))
 refine z7 (zA 13 (zS (decide ((iadd r1.Y y) < (iadd o.Rect.Y o.Rect.H))) (fun b0=>⟨[(2,vI y),(3,.ptr 3 0),(4,.ptr 4 0),(7,vI (imax (imax 0 (isub (isub (isub o.Rect.Y r1.Y) y) r1.H)) (isub (isub (iadd r1.Y y) o.Rect.Y) o.Rect.H))),(8,vI (isub (isub o.Rect.X r1.X) r1.W)),(9,vI (isub (iadd o.Rect.X o.Rect.W) r1.X)),(66,vB b0)],[(3,.box (c_nest_obstacle o)),(4,.box (c_Rect r1))]⟩) (fun hb=>?_) fun hb=>?_))
 replace h:=iteT hb h
 refine z1 13 ⟨[(3,.ptr 3 0),(7,vI (imax (imax 0 (isub (isub (isub o.Rect.Y r1.Y) y) r1.H)) (isub (isub (iadd r1.Y y) o.Rect.Y) o.Rect.H))),(8,vI (isub (isub o.Rect.X r1.X) r1.W)),(9,vI (isub (iadd o.Rect.X o.Rect.W) r1.X)),(10,vB (decide (o.Rect.Y < (iadd (iadd r1.Y y) r1.H))))],[(3,.box (c_nest_obstacle o))]⟩ (zB (zC ?_))
 refine z7 (zA 5 (zS (decide ((imax (imax 0 (isub (isub (isub o.Rect.Y r1.Y) y) r1.H)) (isub (isub (iadd r1.Y y) o.Rect.Y) o.Rect.H)) ≥ o.gap)) (fun b0=>⟨[(3,.ptr 3 0),(7,vI (imax (imax 0 (isub (isub (isub o.Rect.Y r1.Y) y) r1.H)) (isub (isub (iadd r1.Y y) o.Rect.Y) o.Rect.H))),(8,vI (isub (isub o.Rect.X r1.X) r1.W)),(9,vI (isub (iadd o.Rect.X o.Rect.W) r1.X)),(10,vB (decide (o.Rect.Y < (iadd (iadd r1.Y y) r1.H)))),(84,vB b0)],[(3,.box (c_nest_obstacle o))]⟩) (fun hb=>?_) fun hb=>?_))
 replace h:=iteT hb h
 exact nomatch h
 replace h:=iteF hb h
 refine z1 4 ⟨[(3,.ptr 3 0),(7,vI (imax (imax 0 (isub (isub (isub o.Rect.Y r1.Y) y) r1.H)) (isub (isub (iadd r1.Y y) o.Rect.Y) o.Rect.H))),(8,vI (isub (isub o.Rect.X r1.X) r1.W)),(9,vI (isub (iadd o.Rect.X o.Rect.W) r1.X)),(10,vB (decide (o.Rect.Y < (iadd (iadd r1.Y y) r1.H)))),(79,vB false)],[(3,.box (c_nest_obstacle o))]⟩ (sem_condF (by kernel_rfl) (by kernel_rfl) (z7 ?_))
 refine zA 3 (zS o.common (fun b0=>⟨[(3,.ptr 3 0),(7,vI (imax (imax 0 (isub (isub (isub o.Rect.Y r1.Y) y) r1.H)) (isub (isub (iadd r1.Y y) o.Rect.Y) o.Rect.H))),(8,vI (isub (isub o.Rect.X r1.X) r1.W)),(9,vI (isub (iadd o.Rect.X o.Rect.W) r1.X)),(10,vB (decide (o.Rect.Y < (iadd (iadd r1.Y y) r1.H)))),(91,vB b0)],[(3,.box [(vI o.Rect.X),(vI o.Rect.Y),(vI o.Rect.W),(vI o.Rect.H),(vI o.gap),(vB b0)])]⟩) (fun hb=>?_) fun hb=>?_)
 replace h:=iteT hb h
 exact nomatch h
 replace h:=iteF hb h
 refine z1 3 ⟨[(3,.ptr 3 0),(7,vI (imax (imax 0 (isub (isub (isub o.Rect.Y r1.Y) y) r1.H)) (isub (isub (iadd r1.Y y) o.Rect.Y) o.Rect.H))),(8,vI (isub (isub o.Rect.X r1.X) r1.W)),(9,vI (isub (iadd o.Rect.X o.Rect.W) r1.X)),(10,vB (decide (o.Rect.Y < (iadd (iadd r1.Y y) r1.H)))),(88,vB false)],[(3,.box [(vI o.Rect.X),(vI o.Rect.Y),(vI o.Rect.W),(vI o.Rect.H),(vI o.gap),(vB false)])]⟩ (sem_condF (by kernel_rfl) (by kernel_rfl) (z3 7 ⟨[(3,.ptr 3 0),(7,vI (imax (imax 0 (isub (isub (isub o.Rect.Y r1.Y) y) r1.H)) (isub (isub (iadd r1.Y y) o.Rect.Y) o.Rect.H))),(8,vI (isub (isub o.Rect.X r1.X) r1.W)),(9,vI (isub (iadd o.Rect.X o.Rect.W) r1.X)),(10,vB (decide (o.Rect.Y < (iadd (iadd r1.Y y) r1.H)))),(111,vB false)],[(3,.box [(vI o.Rect.X),(vI o.Rect.Y),(vI o.Rect.W),(vI o.Rect.H),(vI o.gap),(vB false)])]⟩ ?_))
 refine sem_condF (by kernel_rfl) (by kernel_rfl) (z7 (zA 3 ?_))
 refine zS ((imax (imax 0 (isub (isub (isub o.Rect.Y r1.Y) y) r1.H)) (isub (isub (iadd r1.Y y) o.Rect.Y) o.Rect.H)) == 0) (fun b0=>⟨[(3,.ptr 3 0),(8,vI (isub (isub o.Rect.X r1.X) r1.W)),(9,vI (isub (iadd o.Rect.X o.Rect.W) r1.X)),(10,vB (decide (o.Rect.Y < (iadd (iadd r1.Y y) r1.H)))),(135,vB b0)],[(3,.box [(vI o.Rect.X),(vI o.Rect.Y),(vI o.Rect.W),(vI o.Rect.H),(vI o.gap),(vB false)])]⟩) (fun hb=>?_) fun hb=>?_
 replace h:=iteT hb h
 refine zA 5 (zS (o.gap == 0) (fun b0=>⟨[(3,.ptr 3 0),(8,vI (isub (isub o.Rect.X r1.X) r1.W)),(9,vI (isub (iadd o.Rect.X o.Rect.W) r1.X)),(10,vB (decide (o.Rect.Y < (iadd (iadd r1.Y y) r1.H)))),(140,vB b0)],[(3,.box [(vI o.Rect.X),(vI o.Rect.Y),(vI o.Rect.W),(vI o.Rect.H),(vI o.gap),(vB false)])]⟩) (fun hb=>?_) fun hb=>?_)
 replace h:=iteT hb h
 exact nomatch h
 replace h:=iteF hb h
 refine z1 4 ⟨[(3,.ptr 3 0),(8,vI (isub (isub o.Rect.X r1.X) r1.W)),(9,vI (isub (iadd o.Rect.X o.Rect.W) r1.X)),(132,vB false)],[(3,.box [(vI o.Rect.X),(vI o.Rect.Y),(vI o.Rect.W),(vI o.Rect.H),(vI o.gap),(vB false)])]⟩ (sem_condF (by kernel_rfl) (by kernel_rfl) (zM fun τ hτ=>?_))
 refine bl_normal (zE hτ ⟨[(3,.ptr 3 0),(8,vI (isub (isub o.Rect.X r1.X) r1.W)),(9,vI (isub (iadd o.Rect.X o.Rect.W) r1.X))],[(3,.box [(vI o.Rect.X),(vI o.Rect.Y),(vI o.Rect.W),(vI o.Rect.H),(vI o.gap),(vB false)])]⟩ (z7 ?_))
 refine zA 10 ?_
 obtain ⟨r2,hr2,h⟩:=bindS h
 refine evs_callP [] (by kernel_rfl) (W.nest_split_k_ok hr2) (by kernel_rfl) (.inl rfl) (by kernel_rfl) (z1 1 ⟨[(6,s_nest_span r2)],[]⟩ (zN fun τ hτ=>?_))
 obtain rfl:=osi h
 exact zV hτ [(6,s_nest_span r2)]
 replace h:=iteF hb h
 exact nomatch h
 replace h:=iteF hb h
 exact nomatch h
theorem W.slices_insertionSortCmpFunc_nest_span__nest_byPlace_compare_k_ok {a : Int} {b : Int} {h0 : (List nest_span)} {r : Unit} (h : slices_insertionSortCmpFunc_nest_span__nest_byPlace_compare_k a b h0 = some r) : PC G.P 177 [(.row (.top 1000000) 169),(vI a),(vI b),(.lit (.func (.func 134) #[.agg #[]] #[]))] [(1000000,.row 169 [] (List.map c_nest_span h0))] (.tup []) [(1000000,.row 169 [] (List.map c_nest_span h0))]:=by
 refine zU G Tryz.func177 (zK ⟨[(0,ro 1000000 169),(1,vI a),(2,vI b),(3,.lit (.func (.func 134) #[.agg #[]] #[]))],[(1000000,w_nest_span 169 h0)]⟩ (z3 3 ⟨[(0,ro 1000000 169),(1,vI a),(2,vI b),(3,.lit (.func (.func 134) #[.agg #[]] #[])),(8,vI (iadd a 1))],[(1000000,w_nest_span 169 h0)]⟩ ?_))
 refine zC ?_
 obtain ⟨x2,hx2,h⟩:=bindS h
 refine sem_loopS (fun (s1 : Unit)=>⟨[(0,ro 1000000 169),(1,vI a),(2,vI b),(3,.lit (.func (.func 134) #[.agg #[]] #[])),(8,vI (iadd a 1))],[(1000000,w_nest_span 169 h0)]⟩) (fun (x2 : Unit)=>(.exit 0,⟨[],[(1000000,w_nest_span 169 h0)]⟩)) (slices_insertionSortCmpFunc_nest_span__nest_byPlace_compare_k_l1 a b) () x2 (by kernel_rfl) (here (by kernel_rfl)) (iter_loop hx2) ?_ ?_ ?_
 intro s1 r h
 refine zB (z3 3 ⟨[(0,ro 1000000 169),(1,vI a),(2,vI b),(3,.lit (.func (.func 134) #[.agg #[]] #[])),(8,vI (iadd a 1)),(14,vB (decide ((iadd a 1) < b)))],[(1000000,w_nest_span 169 h0)]⟩ (zI (decide ((iadd a 1) < b)) (fun hb=>?_) fun hb=>?_))
 replace h:=iteT hb h
 exact nomatch h
 replace h:=iteF hb h
 refine zL 0 fun τ hτ=>?_
 refine th_exit ?_
 obtain rfl:=osi h
 exact zF hτ
 intro x
 rfl
 intro τ hτ
 refine zQ ?_
 obtain rfl:=osi h
 exact rk_normal hτ [] (here (by kernel_rfl)) (by kernel_rfl)
theorem W.slices_pdqsortCmpFunc_nest_span__nest_byPlace_compare_k_ok {a : Int} {b : Int} {limit : Int} {h0 : (List nest_span)} {r : Unit} (h : slices_pdqsortCmpFunc_nest_span__nest_byPlace_compare_k a b limit h0 = some r) : PC G.P 156 [(.row (.top 1000000) 169),(vI a),(vI b),(vI limit),(.lit (.func (.func 134) #[.agg #[]] #[]))] [(1000000,.row 169 [] (List.map c_nest_span h0))] (.tup []) [(1000000,.row 169 [] (List.map c_nest_span h0))]:=by
 refine zU G Tryz.func156 (zK ⟨[(0,ro 1000000 169),(1,vI a),(2,vI b),(3,vI limit),(4,.lit (.func (.func 134) #[.agg #[]] #[]))],[(1000000,w_nest_span 169 h0)]⟩ (z3 1 ⟨[(0,ro 1000000 169),(1,vI a),(2,vI b),(3,vI limit),(4,.lit (.func (.func 134) #[.agg #[]] #[])),(10,vB true)],[(1000000,w_nest_span 169 h0)]⟩ ?_))
 refine z3 1 ⟨[(0,ro 1000000 169),(1,vI a),(2,vI b),(3,vI limit),(4,.lit (.func (.func 134) #[.agg #[]] #[])),(10,vB true),(11,vB true)],[(1000000,w_nest_span 169 h0)]⟩ (zC ?_)
 obtain ⟨x10,hx10,h⟩:=bindS h
 refine sem_loopS (fun (s1 : Unit)=>⟨[(0,ro 1000000 169),(1,vI a),(2,vI b),(3,vI limit),(4,.lit (.func (.func 134) #[.agg #[]] #[])),(10,vB true),(11,vB true)],[(1000000,w_nest_span 169 h0)]⟩) (fun (x10 : Unit)=>(.ret,⟨[],[(1000000,w_nest_span 169 h0)]⟩)) (slices_pdqsortCmpFunc_nest_span__nest_byPlace_compare_k_l1 a b h0) () x10 (by kernel_rfl) (here (by kernel_rfl)) (iter_loop hx10) ?_ ?_ ?_
 intro s1 r h
 refine zC (z3 4 ⟨[(0,ro 1000000 169),(1,vI a),(2,vI b),(3,vI limit),(4,.lit (.func (.func 134) #[.agg #[]] #[])),(10,vB true),(11,vB true),(12,vI (isub b a))],[(1000000,w_nest_span 169 h0)]⟩ (zB ?_))
 refine z3 2 ⟨[(0,ro 1000000 169),(1,vI a),(2,vI b),(3,vI limit),(4,.lit (.func (.func 134) #[.agg #[]] #[])),(10,vB true),(11,vB true),(12,vI (isub b a)),(25,vB (decide ((isub b a) ≤ 12)))],[(1000000,w_nest_span 169 h0)]⟩ (zI (decide ((isub b a) ≤ 12)) (fun hb=>?_) fun hb=>?_)
 replace h:=iteT hb h
 refine z7 (zA 4 ?_)
 obtain ⟨r9,hr9,h⟩:=bindS h
 refine evs_callS [(1000000,1000000)] [] [] (by kernel_rfl) (W.slices_insertionSortCmpFunc_nest_span__nest_byPlace_compare_k_ok hr9) (by kernel_rfl) (by kernel_rfl) (.inl rfl) (zP fun τ hτ=>?_)
 refine zE hτ ⟨[],[(1000000,w_nest_span 169 h0)]⟩ (zN fun τ hτ=>?_)
 refine th_ret (bl_ret ?_)
 obtain rfl:=osi h
 exact zF hτ
 replace h:=iteF hb h
 exact nomatch h
 intro x
 rfl
 intro τ hτ
 refine bl_ret ?_
 obtain rfl:=osi h
 exact zV hτ []
theorem W.slices_SortFunc_Lnest_span_nest_span__nest_byPlace_compare_k_ok {h0 : (List nest_span)} {r : Unit} (h : slices_SortFunc_Lnest_span_nest_span__nest_byPlace_compare_k h0 = some r) : PC G.P 135 [(.row (.top 1000000) 169),(.lit (.func (.func 134) #[.agg #[]] #[]))] [(1000000,.row 169 [] (List.map c_nest_span h0))] (.tup []) [(1000000,.row 169 [] (List.map c_nest_span h0))]:=by
 refine zU G Tryz.func135 (zK ⟨[(0,ro 1000000 169),(1,.lit (.func (.func 134) #[.agg #[]] #[]))],[(1000000,w_nest_span 169 h0)]⟩ (z7 ?_))
 refine zA 1 (evs_op (st_len (c:=c_nest_span) (l:=h0) (x:=(ro 1000000 169)) (by kernel_rfl) (by kernel_rfl)) (z1 1 ⟨[(0,ro 1000000 169),(1,.lit (.func (.func 134) #[.agg #[]] #[])),(4,vI (h0.length : Int))],[(1000000,w_nest_span 169 h0)]⟩ ?_))
 refine zD (zA 4 ?_)
 obtain ⟨r3,hr3,h⟩:=bindS h
 refine evs_callP [] (by kernel_rfl) (W.bits_Len_k_ok hr3) (by kernel_rfl) (.inl rfl) (by kernel_rfl) (zA 1 ?_)
 obtain ⟨r4,hr4,h⟩:=bindS h
 refine evs_callS [(1000000,1000000)] [] [] (by kernel_rfl) (W.slices_pdqsortCmpFunc_nest_span__nest_byPlace_compare_k_ok hr4) (by kernel_rfl) (by kernel_rfl) (.inl rfl) (zP fun τ hτ=>?_)
 obtain rfl:=osi h
 exact rk_normal hτ [] (here (by kernel_rfl)) (by kernel_rfl)
theorem W.nest_search_blocked_k_ok {s0 : nest_search} {y : Int} {r : (List nest_span)} (h : nest_search_blocked_k s0 y = some r) : PC G.P 102 [(.agg (c_nest_search s0)),(vI y)] [] (.row (.top 0) 169) [(0,.row 169 [] (List.map c_nest_span r))]:=by
 refine zU G Tryz.func102 (zK ⟨[(0,.agg (c_nest_search s0)),(1,vI y)],[]⟩ (z3 2 ⟨[(1,vI y),(2,.ptr 2 0)],[(2,.box (c_nest_search s0))]⟩ ?_))
 refine z3 1 ⟨[(1,vI y),(2,.ptr 2 0),(5,ro 5 169)],[(2,.box (c_nest_search s0)),(5,w_nest_span 169 [])]⟩ (zB (z7 ?_))
 refine zA 2 (evs_op (st_len (c:=c_nest_obstacle) (l:=s0.obstacles) (x:=(s_nest_obstacle s0.obstacles)) (by kernel_rfl) (by kernel_rfl)) (z1 1 ⟨[(1,vI y),(2,.ptr 2 0),(5,ro 5 169),(12,s_nest_obstacle s0.obstacles),(13,vI (s0.obstacles.length : Int)),(14,vI 0)],[(2,.box (c_nest_search s0)),(5,w_nest_span 169 [])]⟩ ?_))
 refine zC ?_
 obtain ⟨x498,hx498,h⟩:=bindS h
 refine sem_loopS (fun (s333 : Int × (List nest_span))=>⟨[(1,vI y),(2,.ptr 500000 0),(5,ro 500001 169),(12,s_nest_obstacle s0.obstacles),(13,vI (s0.obstacles.length : Int)),(14,vI s333.1)],[(500000,.box (c_nest_search s0)),(500001,w_nest_span 169 s333.2)]⟩) (fun (x498 : (List nest_span))=>(.exit 0,⟨[(5,ro 500000 169)],[(500000,w_nest_span 169 x498)]⟩)) (nest_search_blocked_k_l2 s0 y) (0,[]) x498 (by kernel_rfl) (subR_prep [] [(2,500000),(5,500001)] (by kernel_rfl) rfl rfl (by kernel_rfl)) (iter_loop hx498) ?_ ?_ ?_
 intro s333 r h
 refine z3 1 ⟨[(1,vI y),(2,.ptr 500000 0),(5,ro 500001 169),(12,s_nest_obstacle s0.obstacles),(13,vI (s0.obstacles.length : Int)),(14,vI s333.1),(15,vB (decide (s333.1 < (s0.obstacles.length : Int))))],[(500000,.box (c_nest_search s0)),(500001,w_nest_span 169 s333.2)]⟩ (zB (zI (decide (s333.1 < (s0.obstacles.length : Int))) (fun hb=>?_) fun hb=>?_))
 replace h:=iteT hb h
 refine z4 ⟨[(1,vI y),(2,.ptr 500000 0),(5,ro 500001 169),(12,s_nest_obstacle s0.obstacles),(13,vI (s0.obstacles.length : Int)),(14,vI s333.1)],[(500000,.box (c_nest_search s0)),(500001,w_nest_span 169 s333.2)]⟩ (zB (zC ?_))
 refine z7 ?_
 obtain ⟨x458,hx458,h⟩:=bindS h
 refine evs_op (st_idx (c:=c_nest_obstacle) (l:=s0.obstacles) (i:=s333.1) (kd:=.i64) (sz:=6) (by kernel_rfl) hx458 rfl) (z1 3 ⟨[(1,vI y),(2,.ptr 500000 0),(5,ro 500001 169),(7,.ptr 7 0),(12,s_nest_obstacle s0.obstacles),(13,vI (s0.obstacles.length : Int)),(14,vI s333.1)],[(7,.box (c_nest_obstacle x458)),(500000,.box (c_nest_search s0)),(500001,w_nest_span 169 s333.2)]⟩ (z7 ?_))
 refine zA 2 (evs_op (st_len (c:=c_Rect) (l:=s0.rects) (x:=(s_Rect s0.rects)) (by kernel_rfl) (by kernel_rfl)) (z1 1 ⟨[(1,vI y),(2,.ptr 500000 0),(5,ro 500001 169),(7,.ptr 7 0),(12,s_nest_obstacle s0.obstacles),(13,vI (s0.obstacles.length : Int)),(14,vI s333.1),(19,s_Rect s0.rects),(20,vI (s0.rects.length : Int)),(21,vI 0)],[(7,.box (c_nest_obstacle x458)),(500000,.box (c_nest_search s0)),(500001,w_nest_span 169 s333.2)]⟩ ?_))
 refine zC ?_
 obtain ⟨x497,hx497,h⟩:=bindS h
 refine sem_loopS (fun (s472 : Int × (List nest_span))=>⟨[(1,vI y),(2,.ptr 500000 0),(5,ro 500001 169),(7,.ptr 500002 0),(12,s_nest_obstacle s0.obstacles),(13,vI (s0.obstacles.length : Int)),(14,vI s333.1),(19,s_Rect s0.rects),(20,vI (s0.rects.length : Int)),(21,vI s472.1)],[(500000,.box (c_nest_search s0)),(500001,w_nest_span 169 s472.2),(500002,.box (c_nest_obstacle x458))]⟩) (fun (x497 : (List nest_span))=>(.exit 2,⟨[(1,vI y),(2,.ptr 500000 0),(5,ro 500001 169),(12,s_nest_obstacle s0.obstacles),(13,vI (s0.obstacles.length : Int)),(14,vI s333.1)],[(500000,.box (c_nest_search s0)),(500001,w_nest_span 169 x497)]⟩)) (nest_search_blocked_k_l1 s0 y x458) (0,s333.2) x497 (by kernel_rfl) (subR_prep [] [(7,500002),(500000,500000),(500001,500001)] (by kernel_rfl) rfl rfl (by kernel_rfl)) (iter_loop hx497) ?_ ?_ ?_
 intro s472 r h
 refine z3 1 ⟨[(1,vI y),(2,.ptr 500000 0),(5,ro 500001 169),(7,.ptr 500002 0),(12,s_nest_obstacle s0.obstacles),(13,vI (s0.obstacles.length : Int)),(14,vI s333.1),(19,s_Rect s0.rects),(20,vI (s0.rects.length : Int)),(21,vI s472.1),(22,vB (decide (s472.1 < (s0.rects.length : Int))))],[(500000,.box (c_nest_search s0)),(500001,w_nest_span 169 s472.2),(500002,.box (c_nest_obstacle x458))]⟩ (zB (zI (decide (s472.1 < (s0.rects.length : Int))) (fun hb=>?_) fun hb=>?_))
 replace h:=iteT hb h
 refine z4 ⟨[(1,vI y),(2,.ptr 500000 0),(5,ro 500001 169),(7,.ptr 500002 0),(12,s_nest_obstacle s0.obstacles),(13,vI (s0.obstacles.length : Int)),(14,vI s333.1),(19,s_Rect s0.rects),(20,vI (s0.rects.length : Int)),(21,vI s472.1)],[(500000,.box (c_nest_search s0)),(500001,w_nest_span 169 s472.2),(500002,.box (c_nest_obstacle x458))]⟩ (zB (zC ?_))
 refine z7 ?_
 obtain ⟨x492,hx492,h⟩:=bindS h
 refine evs_op (st_idx (c:=c_Rect) (l:=s0.rects) (i:=s472.1) (kd:=.i64) (sz:=4) (by kernel_rfl) hx492 rfl) (z1 3 ⟨[(1,vI y),(2,.ptr 500000 0),(5,ro 500001 169),(7,.ptr 500002 0),(9,.ptr 9 0),(12,s_nest_obstacle s0.obstacles),(13,vI (s0.obstacles.length : Int)),(14,vI s333.1),(19,s_Rect s0.rects),(20,vI (s0.rects.length : Int)),(21,vI s472.1)],[(9,.box (c_Rect x492)),(500000,.box (c_nest_search s0)),(500001,w_nest_span 169 s472.2),(500002,.box (c_nest_obstacle x458))]⟩ (zD ?_))
 refine zA 4 ?_
 obtain ⟨r495,hr495,h⟩:=bindS h
 refine evs_callP [] (by kernel_rfl) (W.nest_obstacle_spans_k_ok hr495) (by kernel_rfl) (.inl rfl) (by kernel_rfl) ?_
 obtain ⟨l496,hl496,h⟩:=bindS h
 refine evs_op (st_app (c:=c_nest_span) (l:=s472.2) (l2:=r495) (x:=(s_nest_span r495)) (g:=500001) (e:=169) (sz:=2) (d:=30) (by kernel_rfl) (by kernel_rfl) (by kernel_rfl) (by kernel_rfl) (fun _=>rfl) rfl hl496) (z6 1 fun τ hτ=>?_)
 refine bl_normal (zE hτ ⟨[(1,vI y),(2,.ptr 500000 0),(5,ro 500001 169),(7,.ptr 500002 0),(12,s_nest_obstacle s0.obstacles),(13,vI (s0.obstacles.length : Int)),(14,vI s333.1),(19,s_Rect s0.rects),(20,vI (s0.rects.length : Int)),(21,vI s472.1)],[(500000,.box (c_nest_search s0)),(500001,w_nest_span 169 l496),(500002,.box (c_nest_obstacle x458))]⟩ (zD ?_))
 refine z6 2 fun τ hτ=>?_
 obtain rfl:=osi h
 exact zH hτ
 replace h:=iteF hb h
 refine zL 2 fun τ hτ=>?_
 refine th_exit ?_
 obtain rfl:=osi h
 exact zF hτ
 intro x
 rfl
 intro τ hτ
 refine zQ (bl_normal (zE hτ ⟨[(1,vI y),(2,.ptr 500000 0),(5,ro 500001 169),(12,s_nest_obstacle s0.obstacles),(13,vI (s0.obstacles.length : Int)),(14,vI s333.1)],[(500000,.box (c_nest_search s0)),(500001,w_nest_span 169 x497)]⟩ ?_))
 refine zD (z6 2 fun τ hτ=>?_)
 obtain rfl:=osi h
 exact zH hτ
 replace h:=iteF hb h
 refine zL 0 fun τ hτ=>?_
 refine th_exit ?_
 obtain rfl:=osi h
 exact lk_outS hτ rfl (subR_prep [] [(500001,500000)] (by kernel_rfl) rfl rfl (by kernel_rfl))
 intro x
 rfl
 intro τ hτ
 refine zQ (zE hτ ⟨[(5,ro 500000 169)],[(500000,w_nest_span 169 x498)]⟩ (z7 ?_))
 refine zA 1 (evs_at (at_mkb (f:=134) (by kernel_rfl)) (z1 1 ⟨[(5,ro 500000 169),(10,.lit (.func (.func 134) #[.agg #[]] #[]))],[(500000,w_nest_span 169 x498)]⟩ ?_))
 refine z7 (zA 2 ?_)
 obtain ⟨r500,hr500,h⟩:=bindS h
 refine evs_callS [(1000000,500000)] [] [] (by kernel_rfl) (W.slices_SortFunc_Lnest_span_nest_span__nest_byPlace_compare_k_ok hr500) (by kernel_rfl) (by kernel_rfl) (.inl rfl) (zP fun τ hτ=>?_)
 refine zE hτ ⟨[(5,ro 500000 169)],[(500000,w_nest_span 169 x498)]⟩ (z8 2 ⟨[(4,ro 500000 169)],[(500000,w_nest_span 169 x498)]⟩ fun τ hτ=>?_)
 obtain rfl:=osi h
 exact rk_ret hτ [(4,ro 0 169)] (subR_prep [] [(500000,0)] (by kernel_rfl) rfl rfl (by kernel_rfl)) (by kernel_rfl)
theorem W.nest_first_k_ok {l : (List nest_span)} {lo : Int} {hi : Int} {r : Int × Bool} (h : nest_first_k l lo hi = some r) : PC G.P 101 [(.sl (List.map c_nest_span l)),(vI lo),(vI hi)] [] (.tup [(vI r.1),(vB r.2)]) []:=by
 refine zU G Tryz.func101 (zK ⟨[(0,s_nest_span l),(1,vI lo),(2,vI hi)],[]⟩ (z3 2 ⟨[(0,s_nest_span l),(1,vI lo),(2,vI hi)],[]⟩ ?_))
 refine z3 2 ⟨[(0,s_nest_span l),(2,vI hi),(8,vI lo)],[]⟩ (zB (z3 1 ⟨[(0,s_nest_span l),(2,vI hi),(8,vI lo),(9,vB true)],[]⟩ ?_))
 refine zC ?_
 obtain ⟨x114,hx114,h⟩:=bindS h
 refine sem_loopS (fun (s77 : Int × Bool)=>⟨[(0,s_nest_span l),(2,vI hi),(8,vI s77.1),(9,vB s77.2)],[]⟩) (fun (x114 : Int)=>(.exit 0,⟨[(2,vI hi),(8,vI x114)],[]⟩)) (nest_first_k_l3 l lo hi) (lo,true) x114 (by kernel_rfl) (here (by kernel_rfl)) (iter_loop hx114) ?_ ?_ ?_
 intro s77 r h
 refine zB (z3 1 ⟨[(0,s_nest_span l),(2,vI hi),(8,vI s77.1),(13,vB s77.2)],[]⟩ (zI s77.2 (fun hb=>?_) fun hb=>?_))
 replace h:=iteT hb h
 refine z4 ⟨[(0,s_nest_span l),(2,vI hi),(8,vI s77.1)],[]⟩ (zC (z3 1 ⟨[(0,s_nest_span l),(2,vI hi),(8,vI s77.1),(9,vB false)],[]⟩ ?_))
 refine z7 (zA 1 (evs_op (st_len (c:=c_nest_span) (l:=l) (x:=(s_nest_span l)) (by kernel_rfl) (by kernel_rfl)) ?_))
 refine z1 1 ⟨[(0,s_nest_span l),(2,vI hi),(8,vI s77.1),(9,vB false),(14,s_nest_span l),(15,vI (l.length : Int)),(16,vI 0)],[]⟩ (zC ?_)
 obtain ⟨x113,hx113,h⟩:=bindS h
 refine sem_loopS (fun (s102 : Int × Bool × Int)=>⟨[(0,s_nest_span l),(2,vI hi),(8,vI s102.1),(9,vB s102.2.1),(14,s_nest_span l),(15,vI (l.length : Int)),(16,vI s102.2.2)],[]⟩) (fun (x113 : Int × Bool)=>(.exit 2,⟨[(0,s_nest_span l),(2,vI hi),(8,vI x113.1),(9,vB x113.2)],[]⟩)) (nest_first_k_l2 l lo hi) (s77.1,false,0) x113 (by kernel_rfl) (here (by kernel_rfl)) (iter_loop hx113) ?_ ?_ ?_
 intro s102 r h
 refine z3 1 ⟨[(0,s_nest_span l),(2,vI hi),(8,vI s102.1),(9,vB s102.2.1),(14,s_nest_span l),(15,vI (l.length : Int)),(16,vI s102.2.2),(17,vB (decide (s102.2.2 < (l.length : Int))))],[]⟩ (zB (zI (decide (s102.2.2 < (l.length : Int))) (fun hb=>?_) fun hb=>?_))
 replace h:=iteT hb h
 refine z4 ⟨[(0,s_nest_span l),(2,vI hi),(8,vI s102.1),(9,vB s102.2.1),(14,s_nest_span l),(15,vI (l.length : Int)),(16,vI s102.2.2)],[]⟩ (sem_seqJ (fun (j110 : Int × Bool)=>⟨[(0,s_nest_span l),(2,vI hi),(8,vI j110.1),(9,vB j110.2),(14,s_nest_span l),(15,vI (l.length : Int)),(16,vI s102.2.2)],[]⟩) (nest_first_k_k1 s102) r (by kernel_rfl) (fun j110 h=>?_) ?_)
 refine zD (z6 2 fun τ hτ=>?_)
 obtain rfl:=osi h
 exact zH hτ
 refine zC (z7 ?_)
 obtain ⟨x112,hx112,h⟩:=bindS h
 refine evs_op (st_idx (c:=c_nest_span) (l:=l) (i:=s102.2.2) (kd:=.i64) (sz:=2) (by kernel_rfl) hx112 rfl) (z1 3 ⟨[(0,s_nest_span l),(2,vI hi),(8,vI s102.1),(9,vB s102.2.1),(11,.ptr 11 0),(14,s_nest_span l),(15,vI (l.length : Int)),(16,vI s102.2.2)],[(11,.box [(vI x112.lo),(vI x112.hi)])]⟩ (z7 ?_))
 refine zA 5 (zS (decide (x112.lo < s102.1)) (fun b0=>⟨[(0,s_nest_span l),(2,vI hi),(8,vI s102.1),(9,vB s102.2.1),(11,.ptr 11 0),(14,s_nest_span l),(15,vI (l.length : Int)),(16,vI s102.2.2),(24,vB b0)],[(11,.box [(vI x112.lo),(vI x112.hi)])]⟩) (fun hb=>?_) fun hb=>?_)
 replace h:=iteT hb h
 refine z1 5 ⟨[(0,s_nest_span l),(2,vI hi),(8,vI s102.1),(9,vB s102.2.1),(11,.ptr 11 0),(14,s_nest_span l),(15,vI (l.length : Int)),(16,vI s102.2.2),(29,vB (decide (s102.1 < x112.hi)))],[(11,.box [(vI x112.lo),(vI x112.hi)])]⟩ (zI (decide (s102.1 < x112.hi)) (fun hb=>?_) fun hb=>?_)
 replace h:=iteT hb h
 refine z3 3 ⟨[(0,s_nest_span l),(2,vI hi),(8,vI x112.hi),(14,s_nest_span l),(15,vI (l.length : Int)),(16,vI s102.2.2)],[]⟩ (zD (z6 1 fun τ hτ=>?_))
 exact bl_normal (jk_normal (x112.hi,true) h hτ (here (by kernel_rfl)))
 replace h:=iteF hb h
 refine zM fun τ hτ=>?_
 exact bl_normal (jk_normal (s102.1,s102.2.1) h hτ (here (by kernel_rfl)))
 replace h:=iteF hb h
 exact nomatch h
 replace h:=iteF hb h
 refine zL 2 fun τ hτ=>?_
 refine th_exit ?_
 obtain rfl:=osi h
 exact zF hτ
 intro x
 rfl
 intro τ hτ
 refine zQ (bl_normal ?_)
 obtain rfl:=osi h
 exact zH hτ
 replace h:=iteF hb h
 refine zL 0 fun τ hτ=>?_
 refine th_exit ?_
 obtain rfl:=osi h
 exact zF hτ
 intro x
 rfl
 intro τ hτ
 refine zQ (zE hτ ⟨[(2,vI hi),(8,vI x114)],[]⟩ (z8 6 ⟨[(6,vI x114),(7,vB (decide (x114 ≤ hi)))],[]⟩ fun τ hτ=>?_))
 obtain rfl:=osi h
 exact zV hτ [(6,vI x114),(7,vB (decide (x114 ≤ hi)))]
theorem W.nest_search_place_k_ok {s0 : nest_search} {r : Int × Int × Bool} (h : nest_search_place_k s0 = some r) : PC G.P 69 [(.agg (c_nest_search s0))] [] (.tup [(vI r.1),(vI r.2.1),(vB r.2.2)]) []:=by
 refine zU G Tryz.func69 (zK ⟨[(0,.agg (c_nest_search s0))],[]⟩ (z3 4 ⟨[(1,.ptr 1 0)],[(1,.box (c_nest_search s0))]⟩ ?_))
 refine zB (z7 (zA 7 ?_))
 refine zS (decide (s0.w > s0.area.W)) (fun b0=>⟨[(1,.ptr 1 0),(15,vB b0)],[(1,.box (c_nest_search s0))]⟩) (fun hb=>?_) fun hb=>?_
 replace h:=iteT hb h
 exact nomatch h
 replace h:=iteF hb h
 refine z1 7 ⟨[(1,.ptr 1 0),(22,vB (decide (s0.h > s0.area.H)))],[(1,.box (c_nest_search s0))]⟩ (zI (decide (s0.h > s0.area.H)) (fun hb=>?_) fun hb=>?_)
 replace h:=iteT hb h
 exact nomatch h
 replace h:=iteF hb h
 refine z4 ⟨[(1,.ptr 1 0)],[(1,.box (c_nest_search s0))]⟩ (zB (z7 ?_))
 refine zA 1 ?_
 obtain ⟨r38,hr38,h⟩:=bindS h
 refine evs_callS [] [(0,700050)] [] (by kernel_rfl) (W.nest_search_heights_k_ok hr38) (by kernel_rfl) (by kernel_rfl) (.inl rfl) (evs_op (st_len (c:=cI) (l:=r38) (x:=(ro 700050 3)) (by kernel_rfl) (by kernel_rfl)) (z1 1 ⟨[(1,.ptr 1 0),(24,ro 700050 3),(25,vI (r38.length : Int)),(26,vI 0)],[(1,.box (c_nest_search s0)),(700050,wI 3 r38)]⟩ ?_))
 refine zC ?_
 obtain ⟨x72,hx72,h⟩:=bindS h
 refine sem_loopS (fun (s39 : Unit)=>⟨[(1,.ptr 500000 0),(24,ro 500001 3),(25,vI (r38.length : Int)),(26,vI 0)],[(500000,.box (c_nest_search s0)),(500001,wI 3 r38)]⟩) (fun (x72 : Int × Int)=>(.ret,⟨[(2,vI x72.1),(3,vI x72.2),(4,vB true)],[]⟩)) (nest_search_place_k_l1 s0 r38) () x72 (by kernel_rfl) (subR_prep [] [(1,500000),(700050,500001)] (by kernel_rfl) rfl rfl (by kernel_rfl)) (iter_loop hx72) ?_ ?_ ?_
 intro s39 r h
 refine z3 1 ⟨[(1,.ptr 500000 0),(24,ro 500001 3),(25,vI (r38.length : Int)),(26,vI 0),(27,vB (decide (0 < (r38.length : Int))))],[(500000,.box (c_nest_search s0)),(500001,wI 3 r38)]⟩ (zB (zI (decide (0 < (r38.length : Int))) (fun hb=>?_) fun hb=>?_))
 replace h:=iteT hb h
 refine z4 ⟨[(1,.ptr 500000 0),(24,ro 500001 3),(25,vI (r38.length : Int)),(26,vI 0)],[(500000,.box (c_nest_search s0)),(500001,wI 3 r38)]⟩ (zB (zC ?_))
 refine z7 ?_
 obtain ⟨x65,hx65,h⟩:=bindS h
 refine evs_op (st_idxO (c:=cI) (l:=r38) (i:=0) (kd:=.i64) (kk:=(.top 500001)) (e:=3) (sz:=1) (by kernel_rfl) (by kernel_rfl) hx65 rfl) (evs_op (st_ldO (c:=cI) (l:=r38) (i:=(Int.toNat 0)) (v:=(vI x65)) (agg:=false) (sz:=1) (kk:=(.top 500001)) (e:=3) (off:=0) (J:=[]) (by kernel_rfl) (by kernel_rfl) (by kernel_rfl) ((idxS hx65).2) (by kernel_rfl)) (z1 1 ⟨[(1,.ptr 500000 0),(6,vI x65),(24,ro 500001 3),(25,vI (r38.length : Int)),(26,vI 0)],[(500000,.box (c_nest_search s0)),(500001,wI 3 r38)]⟩ ?_))
 refine zB (sem_draw [(2,[700100])] [(2,[700100])] [(16,[700100])] [(3,[700100]),(4,[700100]),(5,[700100]),(6,[700100]),(7,[700100]),(8,[700100]),(9,[700100]),(10,[700100]),(11,[700100]),(12,[700100]),(13,[700100]),(14,[700100]),(15,[700100])] [(0,[700100]),(1,[700100]),(3,[700100]),(4,[700100]),(5,[700100]),(6,[700100]),(7,[700100]),(8,[700100]),(9,[700100]),(10,[700100]),(11,[700100]),(12,[700100]),(13,[700100]),(14,[700100]),(15,[700100])] 21 (by kernel_rfl) (by kernel_rfl) [700100] (by kernel_rfl) (by kernel_rfl) (evd_run 2 (by kernel_rfl) ?_))
 obtain ⟨r70,hr70,h⟩:=bindS h
 refine evd_callS [(0,700100)] [] (by kernel_rfl) (by kernel_rfl) (W.nest_search_blocked_k_ok hr70) (by kernel_rfl) (.inl rfl) (by kernel_rfl) (by kernel_rfl) (evd_run 13 (by kernel_rfl) ?_)
 obtain ⟨r71,hr71,h⟩:=bindS h
 refine evd_callS [] [700100] (by kernel_rfl) (by kernel_rfl) (W.nest_first_k_ok hr71) (by kernel_rfl) (.inr ⟨rfl,fun _ _=>ind_nil⟩) (by kernel_rfl) (by kernel_rfl) (evd_run 4 (by kernel_rfl) (evd_end (by kernel_rfl) ?_))
 refine evo_run 1 (by kernel_rfl) (zO fun τ hτ=>?_)
 refine zE hτ ⟨[(1,.ptr 500000 0),(6,vI x65),(7,vI r71.1),(8,vB r71.2),(24,ro 500001 3),(25,vI (r38.length : Int)),(26,vI 0)],[(500000,.box (c_nest_search s0)),(500001,wI 3 r38)]⟩ (z3 1 ⟨[(1,.ptr 500000 0),(6,vI x65),(7,vI r71.1),(24,ro 500001 3),(25,vI (r38.length : Int)),(26,vI 0),(50,vB r71.2)],[(500000,.box (c_nest_search s0)),(500001,wI 3 r38)]⟩ (zI r71.2 (fun hb=>?_) fun hb=>?_))
 replace h:=iteT hb h
 refine z8 5 ⟨[(2,vI r71.1),(3,vI x65),(4,vB true)],[]⟩ fun τ hτ=>?_
 refine bl_ret (th_ret ?_)
 obtain rfl:=osi h
 exact zF hτ
 replace h:=iteF hb h
 exact nomatch h
 replace h:=iteF hb h
 exact nomatch h
 intro x
 rfl
 intro τ hτ
 refine bl_ret (th_ret ?_)
 obtain rfl:=osi h
 exact zV hτ [(2,vI x72.1),(3,vI x72.2),(4,vB true)]
theorem W.nest_Fit_k_ok {s0 : Sheet} {taken : (List (List Rect))} {x2 : Piece} {set3 : Settings} {r : Placement × Bool × Int × Int × Int × Int} (h : nest_Fit_k s0 taken x2 set3 = some r) : PC G.P 24 [(.agg (c_Sheet s0)),(.sl (List.map (cS c_Rect) taken)),(.agg (c_Piece x2)),(.agg (c_Settings set3))] [] (.tup [(.agg (c_Placement r.1)),(vB r.2.1),(vI r.2.2.1)]) [(0,.box [(vI 0),(vI 0),(vI r.2.2.2.1),(vI r.2.2.2.2.1),(vI r.2.2.2.2.2)])]:=by
 refine zU G Tryz.func24 (zK ⟨[(0,.agg (c_Sheet s0)),(1,.sl (List.map (cS c_Rect) taken)),(2,.agg (c_Piece x2)),(3,.agg (c_Settings set3))],[]⟩ (z3 6 ⟨[(1,.sl (List.map (cS c_Rect) taken)),(4,.ptr 4 0),(6,.ptr 6 0),(7,.ptr 7 0),(8,.ptr 8 0)],[(4,.box (c_Sheet s0)),(6,.box (c_Piece x2)),(7,.box (c_Settings set3)),(8,.box [(vI 0),(vI 0),(vI 0),(vI 0),(vI 0)])]⟩ ?_))
 refine zB (z7 (zA 1 ?_))
 obtain ⟨r4,hr4,h⟩:=bindS h
 refine evs_callP [] (by kernel_rfl) (W.nest_ValidateSheet_k_ok hr4) (by kernel_rfl) (.inl rfl) (by kernel_rfl) (z1 1 ⟨[(1,.sl (List.map (cS c_Rect) taken)),(4,.ptr 4 0),(6,.ptr 6 0),(7,.ptr 7 0),(8,.ptr 8 0),(11,vI r4)],[(4,.box (c_Sheet s0)),(6,.box (c_Piece x2)),(7,.box (c_Settings set3)),(8,.box [(vI 0),(vI 0),(vI 0),(vI 0),(vI 0)])]⟩ (z3 2 ⟨[(1,.sl (List.map (cS c_Rect) taken)),(4,.ptr 4 0),(6,.ptr 6 0),(7,.ptr 7 0),(8,.ptr 8 0),(11,vI r4),(31,vB (r4 != 0))],[(4,.box (c_Sheet s0)),(6,.box (c_Piece x2)),(7,.box (c_Settings set3)),(8,.box [(vI 0),(vI 0),(vI 0),(vI 0),(vI 0)])]⟩ ?_))
 refine zI (r4 != 0) (fun hb=>?_) fun hb=>?_
 replace h:=iteT hb h
 exact nomatch h
 replace h:=iteF hb h
 refine z4 ⟨[(1,.sl (List.map (cS c_Rect) taken)),(4,.ptr 4 0),(6,.ptr 6 0),(7,.ptr 7 0),(8,.ptr 8 0)],[(4,.box (c_Sheet s0)),(6,.box (c_Piece x2)),(7,.box (c_Settings set3)),(8,.box [(vI 0),(vI 0),(vI 0),(vI 0),(vI 0)])]⟩ (zB (z7 ?_))
 refine zA 1 ?_
 obtain ⟨r8,hr8,h⟩:=bindS h
 refine evs_callP [] (by kernel_rfl) (W.nest_takenError_k_ok hr8) (by kernel_rfl) (.inl rfl) (by kernel_rfl) (z1 1 ⟨[(1,.sl (List.map (cS c_Rect) taken)),(4,.ptr 4 0),(6,.ptr 6 0),(7,.ptr 7 0),(8,.ptr 8 0),(12,vI r8)],[(4,.box (c_Sheet s0)),(6,.box (c_Piece x2)),(7,.box (c_Settings set3)),(8,.box [(vI 0),(vI 0),(vI 0),(vI 0),(vI 0)])]⟩ (z3 2 ⟨[(1,.sl (List.map (cS c_Rect) taken)),(4,.ptr 4 0),(6,.ptr 6 0),(7,.ptr 7 0),(8,.ptr 8 0),(12,vI r8),(37,vB (r8 != 0))],[(4,.box (c_Sheet s0)),(6,.box (c_Piece x2)),(7,.box (c_Settings set3)),(8,.box [(vI 0),(vI 0),(vI 0),(vI 0),(vI 0)])]⟩ ?_))
 refine zI (r8 != 0) (fun hb=>?_) fun hb=>?_
 replace h:=iteT hb h
 exact nomatch h
 replace h:=iteF hb h
 refine z4 ⟨[(1,.sl (List.map (cS c_Rect) taken)),(4,.ptr 4 0),(6,.ptr 6 0),(7,.ptr 7 0),(8,.ptr 8 0)],[(4,.box (c_Sheet s0)),(6,.box (c_Piece x2)),(7,.box (c_Settings set3)),(8,.box [(vI 0),(vI 0),(vI 0),(vI 0),(vI 0)])]⟩ (zB (z7 ?_))
 refine zA 1 ?_
 obtain ⟨r12,hr12,h⟩:=bindS h
 refine evs_callP [] (by kernel_rfl) (W.nest_ValidatePiece_k_ok hr12) (by kernel_rfl) (.inl rfl) (by kernel_rfl) (z1 1 ⟨[(1,.sl (List.map (cS c_Rect) taken)),(4,.ptr 4 0),(6,.ptr 6 0),(7,.ptr 7 0),(8,.ptr 8 0),(13,vI r12)],[(4,.box (c_Sheet s0)),(6,.box (c_Piece x2)),(7,.box (c_Settings set3)),(8,.box [(vI 0),(vI 0),(vI 0),(vI 0),(vI 0)])]⟩ (z3 2 ⟨[(1,.sl (List.map (cS c_Rect) taken)),(4,.ptr 4 0),(6,.ptr 6 0),(7,.ptr 7 0),(8,.ptr 8 0),(13,vI r12),(43,vB (r12 != 0))],[(4,.box (c_Sheet s0)),(6,.box (c_Piece x2)),(7,.box (c_Settings set3)),(8,.box [(vI 0),(vI 0),(vI 0),(vI 0),(vI 0)])]⟩ ?_))
 refine zI (r12 != 0) (fun hb=>?_) fun hb=>?_
 replace h:=iteT hb h
 exact nomatch h
 replace h:=iteF hb h
 refine z4 ⟨[(1,.sl (List.map (cS c_Rect) taken)),(4,.ptr 4 0),(6,.ptr 6 0),(7,.ptr 7 0),(8,.ptr 8 0)],[(4,.box (c_Sheet s0)),(6,.box (c_Piece x2)),(7,.box (c_Settings set3)),(8,.box [(vI 0),(vI 0),(vI 0),(vI 0),(vI 0)])]⟩ (zB (z7 ?_))
 refine zA 1 ?_
 obtain ⟨r16,hr16,h⟩:=bindS h
 refine evs_callP [] (by kernel_rfl) (W.nest_ValidSettings_k_ok hr16) (by kernel_rfl) (.inl rfl) (by kernel_rfl) (z1 1 ⟨[(1,.sl (List.map (cS c_Rect) taken)),(4,.ptr 4 0),(6,.ptr 6 0),(7,.ptr 7 0),(8,.ptr 8 0),(48,vB (!r16))],[(4,.box (c_Sheet s0)),(6,.box (c_Piece x2)),(7,.box (c_Settings set3)),(8,.box [(vI 0),(vI 0),(vI 0),(vI 0),(vI 0)])]⟩ (zI (!r16) (fun hb=>?_) fun hb=>?_))
 replace h:=iteT hb h
 exact nomatch h
 replace h:=iteF hb h
 refine z4 ⟨[(1,.sl (List.map (cS c_Rect) taken)),(4,.ptr 4 0),(6,.ptr 6 0),(7,.ptr 7 0),(8,.ptr 8 0)],[(4,.box (c_Sheet s0)),(6,.box (c_Piece x2)),(7,.box (c_Settings set3)),(8,.box [(vI 0),(vI 0),(vI 0),(vI 0),(vI 0)])]⟩ (z7 (zA 3 ?_))
 obtain ⟨r18,hr18,h⟩:=bindS h
 refine evs_callS [] [(0,700150)] [] (by kernel_rfl) (W.nest_inner_k_ok hr18) (by kernel_rfl) (by kernel_rfl) (.inl rfl) (z1 6 ⟨[(1,.sl (List.map (cS c_Rect) taken)),(4,.ptr 4 0),(6,.ptr 6 0),(7,.ptr 7 0),(8,.ptr 8 0),(14,.ptr 14 0),(15,vB r18.2)],[(4,.box (c_Sheet s0)),(6,.box (c_Piece x2)),(7,.box (c_Settings set3)),(8,.box [(vI 0),(vI 0),(vI 0),(vI 0),(vI 0)]),(14,.box (c_Rect r18.1))]⟩ (zB ?_))
 refine z3 2 ⟨[(1,.sl (List.map (cS c_Rect) taken)),(4,.ptr 4 0),(6,.ptr 6 0),(7,.ptr 7 0),(8,.ptr 8 0),(14,.ptr 14 0),(58,vB (!r18.2))],[(4,.box (c_Sheet s0)),(6,.box (c_Piece x2)),(7,.box (c_Settings set3)),(8,.box [(vI 0),(vI 0),(vI 0),(vI 0),(vI 0)]),(14,.box (c_Rect r18.1))]⟩ (zI (!r18.2) (fun hb=>?_) fun hb=>?_)
 replace h:=iteT hb h
 exact nomatch h
 replace h:=iteF hb h
 refine z4 ⟨[(1,.sl (List.map (cS c_Rect) taken)),(4,.ptr 4 0),(6,.ptr 6 0),(7,.ptr 7 0),(8,.ptr 8 0),(14,.ptr 14 0)],[(4,.box (c_Sheet s0)),(6,.box (c_Piece x2)),(7,.box (c_Settings set3)),(8,.box [(vI 0),(vI 0),(vI 0),(vI 0),(vI 0)]),(14,.box (c_Rect r18.1))]⟩ (z7 (zA 3 ?_))
 obtain ⟨r20,hr20,h⟩:=bindS h
 refine evs_callS [] [(0,700150)] [] (by kernel_rfl) (W.nest_obstaclesOf_k_ok hr20) (by kernel_rfl) (by kernel_rfl) (.inl rfl) (z1 1 ⟨[(4,.ptr 4 0),(6,.ptr 6 0),(8,.ptr 8 0),(14,.ptr 14 0),(16,ro 700150 131)],[(4,.box (c_Sheet s0)),(6,.box (c_Piece x2)),(8,.box [(vI 0),(vI 0),(vI 0),(vI 0),(vI 0)]),(14,.box (c_Rect r18.1)),(700150,w_nest_obstacle 131 r20)]⟩ (z3 4 ⟨[(4,.ptr 4 0),(6,.ptr 6 0),(8,.ptr 8 0),(14,.ptr 14 0),(16,ro 700150 131),(17,.ptr 17 0),(18,vB false)],[(4,.box (c_Sheet s0)),(6,.box (c_Piece x2)),(8,.box [(vI 0),(vI 0),(vI 0),(vI 0),(vI 0)]),(14,.box (c_Rect r18.1)),(17,.box [(vI 0),(vI 0),(vI 0),(vI 0),(vI 0)]),(700150,w_nest_obstacle 131 r20)]⟩ ?_))
 refine zB (z3 1 ⟨[(4,.ptr 4 0),(6,.ptr 6 0),(8,.ptr 8 0),(14,.ptr 14 0),(16,ro 700150 131),(17,.ptr 17 0),(18,vB false),(65,vI 0)],[(4,.box (c_Sheet s0)),(6,.box (c_Piece x2)),(8,.box [(vI 0),(vI 0),(vI 0),(vI 0),(vI 0)]),(14,.box (c_Rect r18.1)),(17,.box [(vI 0),(vI 0),(vI 0),(vI 0),(vI 0)]),(700150,w_nest_obstacle 131 r20)]⟩ (zC ?_))
 obtain ⟨x660,hx660,h⟩:=bindS h
 refine sem_loopS (fun (s501 : Bool × Int × Int × Int × Int)=>⟨[(4,.ptr 500000 0),(6,.ptr 500001 0),(8,.ptr 500002 0),(14,.ptr 500003 0),(16,ro 500004 131),(17,.ptr 500005 0),(18,vB s501.1),(65,vI s501.2.1)],[(500000,.box (c_Sheet s0)),(500001,.box (c_Piece x2)),(500002,.box [(vI 0),(vI 0),(vI 0),(vI 0),(vI 0)]),(500003,.box (c_Rect r18.1)),(500004,w_nest_obstacle 131 r20),(500005,.box [(vI 0),(vI 0),(vI s501.2.2.1),(vI s501.2.2.2.1),(vI s501.2.2.2.2)])]⟩) (fun (x660 : Bool × Int × Int × Int)=>(.exit 0,⟨[(8,.ptr 500000 0),(17,.ptr 500001 0),(18,vB x660.1)],[(500000,.box [(vI 0),(vI 0),(vI 0),(vI 0),(vI 0)]),(500001,.box [(vI 0),(vI 0),(vI x660.2.1),(vI x660.2.2.1),(vI x660.2.2.2)])]⟩)) (nest_Fit_k_l3 s0 x2 r18 r20) (false,0,0,0,0) x660 (by kernel_rfl) (subR_prep [] [(4,500000),(6,500001),(8,500002),(14,500003),(17,500005),(700150,500004)] (by kernel_rfl) rfl rfl (by kernel_rfl)) (iter_loop hx660) ?_ ?_ ?_
 intro s501 r h
 refine z3 1 ⟨[(4,.ptr 500000 0),(6,.ptr 500001 0),(8,.ptr 500002 0),(14,.ptr 500003 0),(16,ro 500004 131),(17,.ptr 500005 0),(18,vB s501.1),(65,vI s501.2.1),(66,vB (decide (s501.2.1 < 4)))],[(500000,.box (c_Sheet s0)),(500001,.box (c_Piece x2)),(500002,.box [(vI 0),(vI 0),(vI 0),(vI 0),(vI 0)]),(500003,.box (c_Rect r18.1)),(500004,w_nest_obstacle 131 r20),(500005,.box [(vI 0),(vI 0),(vI s501.2.2.1),(vI s501.2.2.2.1),(vI s501.2.2.2.2)])]⟩ (zB (zI (decide (s501.2.1 < 4)) (fun hb=>?_) fun hb=>?_))
 replace h:=iteT hb h
 refine z4 ⟨[(4,.ptr 500000 0),(6,.ptr 500001 0),(8,.ptr 500002 0),(14,.ptr 500003 0),(16,ro 500004 131),(17,.ptr 500005 0),(18,vB s501.1),(65,vI s501.2.1)],[(500000,.box (c_Sheet s0)),(500001,.box (c_Piece x2)),(500002,.box [(vI 0),(vI 0),(vI 0),(vI 0),(vI 0)]),(500003,.box (c_Rect r18.1)),(500004,w_nest_obstacle 131 r20),(500005,.box [(vI 0),(vI 0),(vI s501.2.2.1),(vI s501.2.2.2.1),(vI s501.2.2.2.2)])]⟩ (sem_seqJ (fun (j620 : Bool × Int × Int × Int)=>⟨[(4,.ptr 500000 0),(6,.ptr 500001 0),(8,.ptr 500002 0),(14,.ptr 500003 0),(16,ro 500004 131),(17,.ptr 500005 0),(18,vB j620.1),(65,vI s501.2.1)],[(500000,.box (c_Sheet s0)),(500001,.box (c_Piece x2)),(500002,.box [(vI 0),(vI 0),(vI 0),(vI 0),(vI 0)]),(500003,.box (c_Rect r18.1)),(500004,w_nest_obstacle 131 r20),(500005,.box [(vI 0),(vI 0),(vI j620.2.1),(vI j620.2.2.1),(vI j620.2.2.2)])]⟩) (nest_Fit_k_k1 s501) r (by kernel_rfl) (fun j620 h=>?_) ?_)
 refine zD (z6 2 fun τ hτ=>?_)
 obtain rfl:=osi h
 exact zH hτ
 refine zC (z3 2 ⟨[(4,.ptr 500000 0),(6,.ptr 500001 0),(8,.ptr 500002 0),(14,.ptr 500003 0),(16,ro 500004 131),(17,.ptr 500005 0),(18,vB s501.1),(19,vI s501.2.1),(65,vI s501.2.1)],[(500000,.box (c_Sheet s0)),(500001,.box (c_Piece x2)),(500002,.box [(vI 0),(vI 0),(vI 0),(vI 0),(vI 0)]),(500003,.box (c_Rect r18.1)),(500004,w_nest_obstacle 131 r20),(500005,.box [(vI 0),(vI 0),(vI s501.2.2.1),(vI s501.2.2.2.1),(vI s501.2.2.2.2)])]⟩ (zB ?_))
 refine z7 (zA 3 ?_)
 obtain ⟨r624,hr624,h⟩:=bindS h
 refine evs_callP [] (by kernel_rfl) (W.nest_Allowed_k_ok hr624) (by kernel_rfl) (.inl rfl) (by kernel_rfl) (z1 1 ⟨[(4,.ptr 500000 0),(6,.ptr 500001 0),(8,.ptr 500002 0),(14,.ptr 500003 0),(16,ro 500004 131),(17,.ptr 500005 0),(18,vB s501.1),(19,vI s501.2.1),(65,vI s501.2.1),(72,vB (!r624))],[(500000,.box (c_Sheet s0)),(500001,.box (c_Piece x2)),(500002,.box [(vI 0),(vI 0),(vI 0),(vI 0),(vI 0)]),(500003,.box (c_Rect r18.1)),(500004,w_nest_obstacle 131 r20),(500005,.box [(vI 0),(vI 0),(vI s501.2.2.1),(vI s501.2.2.2.1),(vI s501.2.2.2.2)])]⟩ (zI (!r624) (fun hb=>?_) fun hb=>?_))
 replace h:=iteT hb h
 exact nomatch h
 replace h:=iteF hb h
 refine z4 ⟨[(4,.ptr 500000 0),(6,.ptr 500001 0),(8,.ptr 500002 0),(14,.ptr 500003 0),(16,ro 500004 131),(17,.ptr 500005 0),(18,vB s501.1),(19,vI s501.2.1),(65,vI s501.2.1)],[(500000,.box (c_Sheet s0)),(500001,.box (c_Piece x2)),(500002,.box [(vI 0),(vI 0),(vI 0),(vI 0),(vI 0)]),(500003,.box (c_Rect r18.1)),(500004,w_nest_obstacle 131 r20),(500005,.box [(vI 0),(vI 0),(vI s501.2.2.1),(vI s501.2.2.2.1),(vI s501.2.2.2.2)])]⟩ (z7 (zA 3 ?_))
 obtain ⟨r626,hr626,h⟩:=bindS h
 refine evs_callS [] [(0,700150),(1,700151),(2,700152),(3,700153)] [] (by kernel_rfl) (W.nest_put_k_ok hr626) (by kernel_rfl) (by kernel_rfl) (.inl rfl) (z1 6 ⟨[(4,.ptr 500000 0),(6,.ptr 500001 0),(8,.ptr 500002 0),(14,.ptr 500003 0),(16,ro 500004 131),(17,.ptr 500005 0),(18,vB s501.1),(19,vI s501.2.1),(20,.ptr 20 0),(21,vI r626.2),(65,vI s501.2.1)],[(20,.box [(vS r626.1.Name),(vS r626.1.Material),(vI r626.1.Gauge),(vI r626.1.Grain),(ro 700151 86),(ro 700152 86),(ro 700153 86)]),(500000,.box (c_Sheet s0)),(500001,.box (c_Piece x2)),(500002,.box [(vI 0),(vI 0),(vI 0),(vI 0),(vI 0)]),(500003,.box (c_Rect r18.1)),(500004,w_nest_obstacle 131 r20),(500005,.box [(vI 0),(vI 0),(vI s501.2.2.1),(vI s501.2.2.2.1),(vI s501.2.2.2.2)]),(700151,w_Rect 86 r626.1.Rects),(700152,w_Rect 86 r626.1.Cuts),(700153,w_Rect 86 r626.1.Forms)]⟩ (zB ?_))
 refine z3 2 ⟨[(4,.ptr 500000 0),(6,.ptr 500001 0),(8,.ptr 500002 0),(14,.ptr 500003 0),(16,ro 500004 131),(17,.ptr 500005 0),(18,vB s501.1),(19,vI s501.2.1),(20,.ptr 20 0),(65,vI s501.2.1),(81,vB (r626.2 != 0))],[(20,.box [(vS r626.1.Name),(vS r626.1.Material),(vI r626.1.Gauge),(vI r626.1.Grain),(ro 700151 86),(ro 700152 86),(ro 700153 86)]),(500000,.box (c_Sheet s0)),(500001,.box (c_Piece x2)),(500002,.box [(vI 0),(vI 0),(vI 0),(vI 0),(vI 0)]),(500003,.box (c_Rect r18.1)),(500004,w_nest_obstacle 131 r20),(500005,.box [(vI 0),(vI 0),(vI s501.2.2.1),(vI s501.2.2.2.1),(vI s501.2.2.2.2)]),(700151,w_Rect 86 r626.1.Rects),(700152,w_Rect 86 r626.1.Cuts),(700153,w_Rect 86 r626.1.Forms)]⟩ (zI (r626.2 != 0) (fun hb=>?_) fun hb=>?_)
 replace h:=iteT hb h
 exact nomatch h
 replace h:=iteF hb h
 refine z4 ⟨[(4,.ptr 500000 0),(6,.ptr 500001 0),(8,.ptr 500002 0),(14,.ptr 500003 0),(16,ro 500004 131),(17,.ptr 500005 0),(18,vB s501.1),(19,vI s501.2.1),(20,.ptr 20 0),(65,vI s501.2.1)],[(20,.box [(vS r626.1.Name),(vS r626.1.Material),(vI r626.1.Gauge),(vI r626.1.Grain),(ro 700151 86),(ro 700152 86),(ro 700153 86)]),(500000,.box (c_Sheet s0)),(500001,.box (c_Piece x2)),(500002,.box [(vI 0),(vI 0),(vI 0),(vI 0),(vI 0)]),(500003,.box (c_Rect r18.1)),(500004,w_nest_obstacle 131 r20),(500005,.box [(vI 0),(vI 0),(vI s501.2.2.1),(vI s501.2.2.2.1),(vI s501.2.2.2.2)]),(700151,w_Rect 86 r626.1.Rects),(700152,w_Rect 86 r626.1.Cuts),(700153,w_Rect 86 r626.1.Forms)]⟩ (z3 7 ⟨[(4,.ptr 500000 0),(6,.ptr 500001 0),(8,.ptr 500002 0),(14,.ptr 500003 0),(16,ro 500004 131),(17,.ptr 500005 0),(18,vB s501.1),(19,vI s501.2.1),(20,.ptr 20 0),(22,.ptr 22 0),(65,vI s501.2.1)],[(20,.box [(vS r626.1.Name),(vS r626.1.Material),(vI r626.1.Gauge),(vI r626.1.Grain),(ro 700151 86),(ro 700152 86),(ro 700153 86)]),(22,.box [(ro 700151 86),(ro 500004 131),(vI r18.1.X),(vI r18.1.Y),(vI r18.1.W),(vI r18.1.H),(vI 0),(vI 0)]),(500000,.box (c_Sheet s0)),(500001,.box (c_Piece x2)),(500002,.box [(vI 0),(vI 0),(vI 0),(vI 0),(vI 0)]),(500003,.box (c_Rect r18.1)),(500004,w_nest_obstacle 131 r20),(500005,.box [(vI 0),(vI 0),(vI s501.2.2.1),(vI s501.2.2.2.1),(vI s501.2.2.2.2)]),(700151,w_Rect 86 r626.1.Rects),(700152,w_Rect 86 r626.1.Cuts),(700153,w_Rect 86 r626.1.Forms)]⟩ (zB ?_))
 refine z7 (zA 2 (evs_op (st_len (c:=c_Rect) (l:=r626.1.Rects) (x:=(ro 700151 86)) (by kernel_rfl) (by kernel_rfl)) ?_))
 refine z1 1 ⟨[(4,.ptr 500000 0),(6,.ptr 500001 0),(8,.ptr 500002 0),(14,.ptr 500003 0),(16,ro 500004 131),(17,.ptr 500005 0),(18,vB s501.1),(19,vI s501.2.1),(22,.ptr 22 0),(65,vI s501.2.1),(88,ro 700151 86),(89,vI (r626.1.Rects.length : Int)),(90,vI 0)],[(22,.box [(ro 700151 86),(ro 500004 131),(vI r18.1.X),(vI r18.1.Y),(vI r18.1.W),(vI r18.1.H),(vI 0),(vI 0)]),(500000,.box (c_Sheet s0)),(500001,.box (c_Piece x2)),(500002,.box [(vI 0),(vI 0),(vI 0),(vI 0),(vI 0)]),(500003,.box (c_Rect r18.1)),(500004,w_nest_obstacle 131 r20),(500005,.box [(vI 0),(vI 0),(vI s501.2.2.1),(vI s501.2.2.2.1),(vI s501.2.2.2.2)]),(700151,w_Rect 86 r626.1.Rects)]⟩ (zC ?_)
 obtain ⟨x656,hx656,h⟩:=bindS h
 refine sem_loopS (fun (s647 : Int × Int × Int)=>⟨[(4,.ptr 500000 0),(6,.ptr 500001 0),(8,.ptr 500002 0),(14,.ptr 500003 0),(16,ro 500004 131),(17,.ptr 500005 0),(18,vB s501.1),(19,vI s501.2.1),(22,.ptr 500006 0),(65,vI s501.2.1),(88,ro 500007 86),(89,vI (r626.1.Rects.length : Int)),(90,vI s647.1)],[(500000,.box (c_Sheet s0)),(500001,.box (c_Piece x2)),(500002,.box [(vI 0),(vI 0),(vI 0),(vI 0),(vI 0)]),(500003,.box (c_Rect r18.1)),(500004,w_nest_obstacle 131 r20),(500005,.box [(vI 0),(vI 0),(vI s501.2.2.1),(vI s501.2.2.2.1),(vI s501.2.2.2.2)]),(500006,.box [(ro 500007 86),(ro 500004 131),(vI r18.1.X),(vI r18.1.Y),(vI r18.1.W),(vI r18.1.H),(vI s647.2.1),(vI s647.2.2)]),(500007,w_Rect 86 r626.1.Rects)]⟩) (fun (x656 : Int × Int)=>(.exit 2,⟨[(4,.ptr 500000 0),(6,.ptr 500001 0),(8,.ptr 500002 0),(14,.ptr 500003 0),(16,ro 500004 131),(17,.ptr 500005 0),(18,vB s501.1),(19,vI s501.2.1),(22,.ptr 500006 0),(65,vI s501.2.1)],[(500000,.box (c_Sheet s0)),(500001,.box (c_Piece x2)),(500002,.box [(vI 0),(vI 0),(vI 0),(vI 0),(vI 0)]),(500003,.box (c_Rect r18.1)),(500004,w_nest_obstacle 131 r20),(500005,.box [(vI 0),(vI 0),(vI s501.2.2.1),(vI s501.2.2.2.1),(vI s501.2.2.2.2)]),(500006,.box [(ro 500007 86),(ro 500004 131),(vI r18.1.X),(vI r18.1.Y),(vI r18.1.W),(vI r18.1.H),(vI x656.1),(vI x656.2)]),(500007,w_Rect 86 r626.1.Rects)]⟩)) (nest_Fit_k_l2 r626) (0,0,0) x656 (by kernel_rfl) (subR_prep [] [(22,500006),(500000,500000),(500001,500001),(500002,500002),(500003,500003),(500004,500004),(500005,500005),(700151,500007)] (by kernel_rfl) rfl rfl (by kernel_rfl)) (iter_loop hx656) ?_ ?_ ?_
 intro s647 r h
 refine z3 1 ⟨[(4,.ptr 500000 0),(6,.ptr 500001 0),(8,.ptr 500002 0),(14,.ptr 500003 0),(16,ro 500004 131),(17,.ptr 500005 0),(18,vB s501.1),(19,vI s501.2.1),(22,.ptr 500006 0),(65,vI s501.2.1),(88,ro 500007 86),(89,vI (r626.1.Rects.length : Int)),(90,vI s647.1),(91,vB (decide (s647.1 < (r626.1.Rects.length : Int))))],[(500000,.box (c_Sheet s0)),(500001,.box (c_Piece x2)),(500002,.box [(vI 0),(vI 0),(vI 0),(vI 0),(vI 0)]),(500003,.box (c_Rect r18.1)),(500004,w_nest_obstacle 131 r20),(500005,.box [(vI 0),(vI 0),(vI s501.2.2.1),(vI s501.2.2.2.1),(vI s501.2.2.2.2)]),(500006,.box [(ro 500007 86),(ro 500004 131),(vI r18.1.X),(vI r18.1.Y),(vI r18.1.W),(vI r18.1.H),(vI s647.2.1),(vI s647.2.2)]),(500007,w_Rect 86 r626.1.Rects)]⟩ (zB (zI (decide (s647.1 < (r626.1.Rects.length : Int))) (fun hb=>?_) fun hb=>?_))
 replace h:=iteT hb h
 refine z4 ⟨[(4,.ptr 500000 0),(6,.ptr 500001 0),(8,.ptr 500002 0),(14,.ptr 500003 0),(16,ro 500004 131),(17,.ptr 500005 0),(18,vB s501.1),(19,vI s501.2.1),(22,.ptr 500006 0),(65,vI s501.2.1),(88,ro 500007 86),(89,vI (r626.1.Rects.length : Int)),(90,vI s647.1)],[(500000,.box (c_Sheet s0)),(500001,.box (c_Piece x2)),(500002,.box [(vI 0),(vI 0),(vI 0),(vI 0),(vI 0)]),(500003,.box (c_Rect r18.1)),(500004,w_nest_obstacle 131 r20),(500005,.box [(vI 0),(vI 0),(vI s501.2.2.1),(vI s501.2.2.2.1),(vI s501.2.2.2.2)]),(500006,.box [(ro 500007 86),(ro 500004 131),(vI r18.1.X),(vI r18.1.Y),(vI r18.1.W),(vI r18.1.H),(vI s647.2.1),(vI s647.2.2)]),(500007,w_Rect 86 r626.1.Rects)]⟩ (zB (zC ?_))
 refine z7 ?_
 obtain ⟨x655,hx655,h⟩:=bindS h
 refine evs_op (st_idxO (c:=c_Rect) (l:=r626.1.Rects) (i:=s647.1) (kd:=.i64) (kk:=(.top 500007)) (e:=86) (sz:=4) (by kernel_rfl) (by kernel_rfl) hx655 rfl) (evs_op (st_ldO (c:=c_Rect) (l:=r626.1.Rects) (i:=(Int.toNat s647.1)) (v:=(.agg (c_Rect x655))) (agg:=true) (sz:=4) (kk:=(.top 500007)) (e:=86) (off:=0) (J:=[]) (by kernel_rfl) (by kernel_rfl) (by kernel_rfl) ((idxS hx655).2) (by kernel_rfl)) (z1 2 ⟨[(4,.ptr 500000 0),(6,.ptr 500001 0),(8,.ptr 500002 0),(14,.ptr 500003 0),(16,ro 500004 131),(17,.ptr 500005 0),(18,vB s501.1),(19,vI s501.2.1),(22,.ptr 500006 0),(24,.ptr 24 0),(65,vI s501.2.1),(88,ro 500007 86),(89,vI (r626.1.Rects.length : Int)),(90,vI s647.1)],[(24,.box (c_Rect x655)),(500000,.box (c_Sheet s0)),(500001,.box (c_Piece x2)),(500002,.box [(vI 0),(vI 0),(vI 0),(vI 0),(vI 0)]),(500003,.box (c_Rect r18.1)),(500004,w_nest_obstacle 131 r20),(500005,.box [(vI 0),(vI 0),(vI s501.2.2.1),(vI s501.2.2.2.1),(vI s501.2.2.2.2)]),(500006,.box [(ro 500007 86),(ro 500004 131),(vI r18.1.X),(vI r18.1.Y),(vI r18.1.W),(vI r18.1.H),(vI s647.2.1),(vI s647.2.2)]),(500007,w_Rect 86 r626.1.Rects)]⟩ ?_))
 refine sem_drawN [(17,[500006])] [] [] [(10,[500006]),(11,[500006]),(12,[500006]),(13,[500006]),(14,[500006]),(15,[500006])] [] 18 (by kernel_rfl) (by kernel_rfl) (by kernel_rfl) (evd_run 17 (by kernel_rfl) (evd_set (g:=500006) (ob:=.box [(ro 500007 86),(ro 500004 131),(vI r18.1.X),(vI r18.1.Y),(vI r18.1.W),(vI r18.1.H),(vI (imax s647.2.1 (iadd x655.X x655.W))),(vI s647.2.2)]) (v:=vU) (by kernel_rfl) (by kernel_rfl) (by kernel_rfl) (by kernel_rfl) (by kernel_rfl) ?_))
 refine evd_end (by kernel_rfl) (evo_run 2 (by kernel_rfl) (zO fun τ hτ=>?_))
 refine bl_normal (zE hτ ⟨[(4,.ptr 500000 0),(6,.ptr 500001 0),(8,.ptr 500002 0),(14,.ptr 500003 0),(16,ro 500004 131),(17,.ptr 500005 0),(18,vB s501.1),(19,vI s501.2.1),(22,.ptr 500006 0),(65,vI s501.2.1),(88,ro 500007 86),(89,vI (r626.1.Rects.length : Int)),(90,vI s647.1)],[(500000,.box (c_Sheet s0)),(500001,.box (c_Piece x2)),(500002,.box [(vI 0),(vI 0),(vI 0),(vI 0),(vI 0)]),(500003,.box (c_Rect r18.1)),(500004,w_nest_obstacle 131 r20),(500005,.box [(vI 0),(vI 0),(vI s501.2.2.1),(vI s501.2.2.2.1),(vI s501.2.2.2.2)]),(500006,.box [(ro 500007 86),(ro 500004 131),(vI r18.1.X),(vI r18.1.Y),(vI r18.1.W),(vI r18.1.H),(vI (imax s647.2.1 (iadd x655.X x655.W))),(vI (imax s647.2.2 (iadd x655.Y x655.H)))]),(500007,w_Rect 86 r626.1.Rects)]⟩ (zD ?_))
 refine z6 2 fun τ hτ=>?_
 obtain rfl:=osi h
 exact zH hτ
 replace h:=iteF hb h
 refine zL 2 fun τ hτ=>?_
 refine th_exit ?_
 obtain rfl:=osi h
 exact zF hτ
 intro x
 rfl
 intro τ hτ
 refine zQ (zE hτ ⟨[(4,.ptr 500000 0),(6,.ptr 500001 0),(8,.ptr 500002 0),(14,.ptr 500003 0),(16,ro 500004 131),(17,.ptr 500005 0),(18,vB s501.1),(19,vI s501.2.1),(22,.ptr 500006 0),(65,vI s501.2.1)],[(500000,.box (c_Sheet s0)),(500001,.box (c_Piece x2)),(500002,.box [(vI 0),(vI 0),(vI 0),(vI 0),(vI 0)]),(500003,.box (c_Rect r18.1)),(500004,w_nest_obstacle 131 r20),(500005,.box [(vI 0),(vI 0),(vI s501.2.2.1),(vI s501.2.2.2.1),(vI s501.2.2.2.2)]),(500006,.box [(ro 500007 86),(ro 500004 131),(vI r18.1.X),(vI r18.1.Y),(vI r18.1.W),(vI r18.1.H),(vI x656.1),(vI x656.2)]),(500007,w_Rect 86 r626.1.Rects)]⟩ (z7 ?_))
 refine zA 1 ?_
 obtain ⟨r658,hr658,h⟩:=bindS h
 refine evs_callP [500007,500004] (by kernel_rfl) (W.nest_search_place_k_ok hr658) (by kernel_rfl) (.inr rfl) (by kernel_rfl) (z1 7 ⟨[(4,.ptr 500000 0),(6,.ptr 500001 0),(8,.ptr 500002 0),(14,.ptr 500003 0),(16,ro 500004 131),(17,.ptr 500005 0),(18,vB s501.1),(19,vI s501.2.1),(25,vI r658.1),(26,vI r658.2.1),(27,vB r658.2.2),(65,vI s501.2.1)],[(500000,.box (c_Sheet s0)),(500001,.box (c_Piece x2)),(500002,.box [(vI 0),(vI 0),(vI 0),(vI 0),(vI 0)]),(500003,.box (c_Rect r18.1)),(500004,w_nest_obstacle 131 r20),(500005,.box [(vI 0),(vI 0),(vI s501.2.2.1),(vI s501.2.2.2.1),(vI s501.2.2.2.2)])]⟩ (zB ?_))
 obtain ⟨j659,hj659,h⟩:=bindS h
 refine zT ⟨[(4,.ptr 500000 0),(6,.ptr 500001 0),(8,.ptr 500002 0),(14,.ptr 500003 0),(16,ro 500004 131),(17,.ptr 500005 0),(18,vB j659.1),(19,vI s501.2.1),(25,vI r658.1),(26,vI r658.2.1),(65,vI s501.2.1),(141,vB j659.2)],[(500000,.box (c_Sheet s0)),(500001,.box (c_Piece x2)),(500002,.box [(vI 0),(vI 0),(vI 0),(vI 0),(vI 0)]),(500003,.box (c_Rect r18.1)),(500004,w_nest_obstacle 131 r20),(500005,.box [(vI 0),(vI 0),(vI s501.2.2.1),(vI s501.2.2.2.1),(vI s501.2.2.2.2)])]⟩ ?_ fun τ hτ=>?_
 replace h:=hj659
 refine zA 2 (zS r658.2.2 (fun b0=>⟨[(4,.ptr 500000 0),(6,.ptr 500001 0),(8,.ptr 500002 0),(14,.ptr 500003 0),(16,ro 500004 131),(17,.ptr 500005 0),(18,vB s501.1),(19,vI s501.2.1),(25,vI r658.1),(26,vI r658.2.1),(65,vI s501.2.1),(120,vB b0)],[(500000,.box (c_Sheet s0)),(500001,.box (c_Piece x2)),(500002,.box [(vI 0),(vI 0),(vI 0),(vI 0),(vI 0)]),(500003,.box (c_Rect r18.1)),(500004,w_nest_obstacle 131 r20),(500005,.box [(vI 0),(vI 0),(vI s501.2.2.1),(vI s501.2.2.2.1),(vI s501.2.2.2.2)])]⟩) (fun hb=>?_) fun hb=>?_)
 replace h:=iteT hb h
 refine zA 3 (zS s501.1 (fun b0=>⟨[(4,.ptr 500000 0),(6,.ptr 500001 0),(8,.ptr 500002 0),(14,.ptr 500003 0),(16,ro 500004 131),(17,.ptr 500005 0),(18,vB b0),(19,vI s501.2.1),(25,vI r658.1),(26,vI r658.2.1),(65,vI s501.2.1),(120,vB true),(123,vB (!b0))],[(500000,.box (c_Sheet s0)),(500001,.box (c_Piece x2)),(500002,.box [(vI 0),(vI 0),(vI 0),(vI 0),(vI 0)]),(500003,.box (c_Rect r18.1)),(500004,w_nest_obstacle 131 r20),(500005,.box [(vI 0),(vI 0),(vI s501.2.2.1),(vI s501.2.2.2.1),(vI s501.2.2.2.2)])]⟩) (fun hb=>?_) fun hb=>?_)
 replace h:=iteT hb h
 refine zA 6 (zS (decide (r658.2.1 < s501.2.2.2.1)) (fun b0=>⟨[(4,.ptr 500000 0),(6,.ptr 500001 0),(8,.ptr 500002 0),(14,.ptr 500003 0),(16,ro 500004 131),(17,.ptr 500005 0),(18,vB true),(19,vI s501.2.1),(25,vI r658.1),(26,vI r658.2.1),(65,vI s501.2.1),(120,vB true),(129,vB b0)],[(500000,.box (c_Sheet s0)),(500001,.box (c_Piece x2)),(500002,.box [(vI 0),(vI 0),(vI 0),(vI 0),(vI 0)]),(500003,.box (c_Rect r18.1)),(500004,w_nest_obstacle 131 r20),(500005,.box [(vI 0),(vI 0),(vI s501.2.2.1),(vI s501.2.2.2.1),(vI s501.2.2.2.2)])]⟩) (fun hb=>?_) fun hb=>?_)
 replace h:=iteT hb h
 refine z6 12 fun τ hτ=>?_
 obtain rfl:=osi h
 exact zG hτ
 replace h:=iteF hb h
 refine zA 5 (zS (r658.2.1 == s501.2.2.2.1) (fun b0=>⟨[(4,.ptr 500000 0),(6,.ptr 500001 0),(8,.ptr 500002 0),(14,.ptr 500003 0),(16,ro 500004 131),(17,.ptr 500005 0),(18,vB true),(19,vI s501.2.1),(25,vI r658.1),(26,vI r658.2.1),(65,vI s501.2.1),(120,vB true),(129,vB false),(134,vB b0)],[(500000,.box (c_Sheet s0)),(500001,.box (c_Piece x2)),(500002,.box [(vI 0),(vI 0),(vI 0),(vI 0),(vI 0)]),(500003,.box (c_Rect r18.1)),(500004,w_nest_obstacle 131 r20),(500005,.box [(vI 0),(vI 0),(vI s501.2.2.1),(vI s501.2.2.2.1),(vI s501.2.2.2.2)])]⟩) (fun hb=>?_) fun hb=>?_)
 replace h:=iteT hb h
 refine z6 7 fun τ hτ=>?_
 obtain rfl:=osi h
 exact zG hτ
 replace h:=iteF hb h
 refine z6 7 fun τ hτ=>?_
 obtain rfl:=osi h
 exact zG hτ
 replace h:=iteF hb h
 refine z6 18 fun τ hτ=>?_
 obtain rfl:=osi h
 exact zG hτ
 replace h:=iteF hb h
 exact nomatch h
 refine zE hτ ⟨[(4,.ptr 500000 0),(6,.ptr 500001 0),(8,.ptr 500002 0),(14,.ptr 500003 0),(16,ro 500004 131),(17,.ptr 500005 0),(18,vB j659.1),(19,vI s501.2.1),(25,vI r658.1),(26,vI r658.2.1),(65,vI s501.2.1),(141,vB j659.2)],[(500000,.box (c_Sheet s0)),(500001,.box (c_Piece x2)),(500002,.box [(vI 0),(vI 0),(vI 0),(vI 0),(vI 0)]),(500003,.box (c_Rect r18.1)),(500004,w_nest_obstacle 131 r20),(500005,.box [(vI 0),(vI 0),(vI s501.2.2.1),(vI s501.2.2.2.1),(vI s501.2.2.2.2)])]⟩ (zI j659.2 (fun hb=>?_) fun hb=>?_)
 replace h:=iteT hb h
 refine zD (z6 6 fun τ hτ=>?_)
 exact bl_normal (jk_normal (true,r658.1,r658.2.1,s501.2.1) h hτ (here (by kernel_rfl)))
 replace h:=iteF hb h
 refine zM fun τ hτ=>?_
 exact bl_normal (jk_normal (j659.1,s501.2.2.1,s501.2.2.2.1,s501.2.2.2.2) h hτ (here (by kernel_rfl)))
 replace h:=iteF hb h
 refine zL 0 fun τ hτ=>?_
 refine th_exit ?_
 obtain rfl:=osi h
 exact lk_outS hτ rfl (subR_prep [] [(500002,500000),(500005,500001)] (by kernel_rfl) rfl rfl (by kernel_rfl))
 intro x
 rfl
 intro τ hτ
 refine zQ (zE hτ ⟨[(8,.ptr 500000 0),(17,.ptr 500001 0),(18,vB x660.1)],[(500000,.box [(vI 0),(vI 0),(vI 0),(vI 0),(vI 0)]),(500001,.box [(vI 0),(vI 0),(vI x660.2.1),(vI x660.2.2.1),(vI x660.2.2.2)])]⟩ (z8 5 ⟨[(8,.ptr 500000 0),(9,vB x660.1),(10,vI 0)],[(500000,.box [(vI 0),(vI 0),(vI x660.2.1),(vI x660.2.2.1),(vI x660.2.2.2)])]⟩ fun τ hτ=>?_))
 obtain rfl:=osi h
 exact rk_ret hτ [(8,.ptr 0 0),(9,vB x660.1),(10,vI 0)] (subR_prep [] [(500000,0)] (by kernel_rfl) rfl rfl (by kernel_rfl)) (by kernel_rfl)
theorem W.nest_lists_k_ok {sheets : (List Sheet)} {pieces : (List Piece)} {r : Int} (h : nest_lists_k sheets pieces = some r) : PC G.P 77 [(.sl (List.map c_Sheet sheets)),(.sl (List.map c_Piece pieces))] [] (vI r) []:=by
 refine zU G Tryz.func77 (zK ⟨[(0,s_Sheet sheets),(1,s_Piece pieces)],[]⟩ (z3 1 ⟨[(0,s_Sheet sheets),(1,s_Piece pieces)],[]⟩ ?_))
 refine zB (z7 (zA 1 ?_))
 refine evs_op (st_len (c:=c_Sheet) (l:=sheets) (x:=(s_Sheet sheets)) (by kernel_rfl) (by kernel_rfl)) (zA 2 (zS (decide ((sheets.length : Int) > 4)) (fun b0=>⟨[(0,s_Sheet sheets),(1,s_Piece pieces),(14,vB b0)],[]⟩) (fun hb=>?_) fun hb=>?_))
 replace h:=iteT hb h
 exact nomatch h
 replace h:=iteF hb h
 refine zA 1 (evs_op (st_len (c:=c_Piece) (l:=pieces) (x:=(s_Piece pieces)) (by kernel_rfl) (by kernel_rfl)) (z1 2 ⟨[(0,s_Sheet sheets),(1,s_Piece pieces),(18,vB (decide ((pieces.length : Int) > 8)))],[]⟩ ?_))
 refine zI (decide ((pieces.length : Int) > 8)) (fun hb=>?_) fun hb=>?_
 replace h:=iteT hb h
 exact nomatch h
 replace h:=iteF hb h
 refine z4 ⟨[(0,s_Sheet sheets),(1,s_Piece pieces)],[]⟩ (zB (z7 ?_))
 refine zA 1 (evs_op (st_len (c:=c_Sheet) (l:=sheets) (x:=(s_Sheet sheets)) (by kernel_rfl) (by kernel_rfl)) (z1 1 ⟨[(1,s_Piece pieces),(19,s_Sheet sheets),(20,vI (sheets.length : Int)),(21,vI 0)],[]⟩ ?_))
 refine zC ?_
 obtain ⟨x54,hx54,h⟩:=bindS h
 refine sem_loopS (fun (s37 : Int)=>⟨[(1,s_Piece pieces),(19,s_Sheet sheets),(20,vI (sheets.length : Int)),(21,vI s37)],[]⟩) (fun (x54 : Unit)=>(.exit 0,⟨[(1,s_Piece pieces)],[]⟩)) (nest_lists_k_l1 sheets) 0 x54 (by kernel_rfl) (here (by kernel_rfl)) (iter_loop hx54) ?_ ?_ ?_
 intro s37 r h
 refine z3 1 ⟨[(1,s_Piece pieces),(19,s_Sheet sheets),(20,vI (sheets.length : Int)),(21,vI s37),(22,vB (decide (s37 < (sheets.length : Int))))],[]⟩ (zB (zI (decide (s37 < (sheets.length : Int))) (fun hb=>?_) fun hb=>?_))
 replace h:=iteT hb h
 refine z4 ⟨[(1,s_Piece pieces),(19,s_Sheet sheets),(20,vI (sheets.length : Int)),(21,vI s37)],[]⟩ (zB (zC ?_))
 refine z7 ?_
 obtain ⟨x51,hx51,h⟩:=bindS h
 refine evs_op (st_idx (c:=c_Sheet) (l:=sheets) (i:=s37) (kd:=.i64) (sz:=8) (by kernel_rfl) hx51 rfl) (z1 3 ⟨[(1,s_Piece pieces),(6,.ptr 6 0),(19,s_Sheet sheets),(20,vI (sheets.length : Int)),(21,vI s37)],[(6,.box (c_Sheet x51))]⟩ (z7 ?_))
 refine zA 1 ?_
 obtain ⟨r53,hr53,h⟩:=bindS h
 refine evs_callP [] (by kernel_rfl) (W.nest_ValidateSheet_k_ok hr53) (by kernel_rfl) (.inl rfl) (by kernel_rfl) (z1 1 ⟨[(1,s_Piece pieces),(7,vI r53),(19,s_Sheet sheets),(20,vI (sheets.length : Int)),(21,vI s37)],[]⟩ (z3 2 ⟨[(1,s_Piece pieces),(7,vI r53),(19,s_Sheet sheets),(20,vI (sheets.length : Int)),(21,vI s37),(28,vB (r53 != 0))],[]⟩ ?_))
 refine zI (r53 != 0) (fun hb=>?_) fun hb=>?_
 replace h:=iteT hb h
 exact nomatch h
 replace h:=iteF hb h
 refine zM fun τ hτ=>?_
 refine bl_normal (zE hτ ⟨[(1,s_Piece pieces),(19,s_Sheet sheets),(20,vI (sheets.length : Int)),(21,vI s37)],[]⟩ (zD ?_))
 refine z6 2 fun τ hτ=>?_
 obtain rfl:=osi h
 exact zH hτ
 replace h:=iteF hb h
 refine zL 0 fun τ hτ=>?_
 refine th_exit ?_
 obtain rfl:=osi h
 exact zF hτ
 intro x
 rfl
 intro τ hτ
 refine zQ (zE hτ ⟨[(1,s_Piece pieces)],[]⟩ (zB ?_))
 refine z7 (zA 1 (evs_op (st_len (c:=c_Piece) (l:=pieces) (x:=(s_Piece pieces)) (by kernel_rfl) (by kernel_rfl)) ?_))
 refine z1 1 ⟨[(31,s_Piece pieces),(32,vI (pieces.length : Int)),(33,vI 0)],[]⟩ (zC ?_)
 obtain ⟨x108,hx108,h⟩:=bindS h
 refine sem_loopS (fun (s91 : Int)=>⟨[(31,s_Piece pieces),(32,vI (pieces.length : Int)),(33,vI s91)],[]⟩) (fun (x108 : Unit)=>(.exit 2,⟨[],[]⟩)) (nest_lists_k_l2 pieces) 0 x108 (by kernel_rfl) (here (by kernel_rfl)) (iter_loop hx108) ?_ ?_ ?_
 intro s91 r h
 refine z3 1 ⟨[(31,s_Piece pieces),(32,vI (pieces.length : Int)),(33,vI s91),(34,vB (decide (s91 < (pieces.length : Int))))],[]⟩ (zB (zI (decide (s91 < (pieces.length : Int))) (fun hb=>?_) fun hb=>?_))
 replace h:=iteT hb h
 refine z4 ⟨[(31,s_Piece pieces),(32,vI (pieces.length : Int)),(33,vI s91)],[]⟩ (zB (zC ?_))
 refine z7 ?_
 obtain ⟨x105,hx105,h⟩:=bindS h
 refine evs_op (st_idx (c:=c_Piece) (l:=pieces) (i:=s91) (kd:=.i64) (sz:=7) (by kernel_rfl) hx105 rfl) (z1 3 ⟨[(9,.ptr 9 0),(31,s_Piece pieces),(32,vI (pieces.length : Int)),(33,vI s91)],[(9,.box (c_Piece x105))]⟩ (z7 ?_))
 refine zA 1 ?_
 obtain ⟨r107,hr107,h⟩:=bindS h
 refine evs_callP [] (by kernel_rfl) (W.nest_ValidatePiece_k_ok hr107) (by kernel_rfl) (.inl rfl) (by kernel_rfl) (z1 1 ⟨[(10,vI r107),(31,s_Piece pieces),(32,vI (pieces.length : Int)),(33,vI s91)],[]⟩ (z3 2 ⟨[(10,vI r107),(31,s_Piece pieces),(32,vI (pieces.length : Int)),(33,vI s91),(40,vB (r107 != 0))],[]⟩ ?_))
 refine zI (r107 != 0) (fun hb=>?_) fun hb=>?_
 replace h:=iteT hb h
 exact nomatch h
 replace h:=iteF hb h
 refine zM fun τ hτ=>?_
 refine bl_normal (zE hτ ⟨[(31,s_Piece pieces),(32,vI (pieces.length : Int)),(33,vI s91)],[]⟩ (zD ?_))
 refine z6 2 fun τ hτ=>?_
 obtain rfl:=osi h
 exact zH hτ
 replace h:=iteF hb h
 refine zL 2 fun τ hτ=>?_
 refine th_exit ?_
 obtain rfl:=osi h
 exact zF hτ
 intro x
 rfl
 intro τ hτ
 refine zQ (zE hτ ⟨[],[]⟩ (z8 1 ⟨[(4,vI 0)],[]⟩ fun τ hτ=>?_))
 obtain rfl:=osi h
 exact zV hτ [(4,vI 0)]
theorem W.nest_Nest_k_ok {sheets : (List Sheet)} {pieces : (List Piece)} {set2 : Settings} {r : (List Placement) × (List Int) × Int} (h : nest_Nest_k sheets pieces set2 = some r) : PC G.P 34 [(.sl (List.map c_Sheet sheets)),(.sl (List.map c_Piece pieces)),(.agg (c_Settings set2))] [] (.tup [(.row (.top 0) 40),(.row (.top 1) 3),(vI r.2.2)]) [(0,.row 40 [] (List.map c_Placement r.1)),(1,.row 3 [] (List.map cI r.2.1))]:=by
 refine zU G Tryz.func34 (zK ⟨[(0,s_Sheet sheets),(1,s_Piece pieces),(2,.agg (c_Settings set2))],[]⟩ (z3 4 ⟨[(0,s_Sheet sheets),(1,s_Piece pieces),(5,.ptr 5 0)],[(5,.box (c_Settings set2))]⟩ ?_))
 refine sem_scope (by kernel_rfl) (zB (z7 ?_))
 refine zA 2 ?_
 obtain ⟨r4,hr4,h⟩:=bindS h
 refine evs_callP [] (by kernel_rfl) (W.nest_lists_k_ok hr4) (by kernel_rfl) (.inl rfl) (by kernel_rfl) (z1 1 ⟨[(0,s_Sheet sheets),(1,s_Piece pieces),(5,.ptr 5 0),(9,vI r4)],[(5,.box (c_Settings set2))]⟩ (z3 2 ⟨[(0,s_Sheet sheets),(1,s_Piece pieces),(5,.ptr 5 0),(9,vI r4),(26,vB (r4 != 0))],[(5,.box (c_Settings set2))]⟩ ?_))
 refine zI (r4 != 0) (fun hb=>?_) fun hb=>?_
 replace h:=iteT hb h
 exact nomatch h
 replace h:=iteF hb h
 refine z4 ⟨[(0,s_Sheet sheets),(1,s_Piece pieces),(5,.ptr 5 0)],[(5,.box (c_Settings set2))]⟩ (zB (z7 ?_))
 refine zA 1 ?_
 obtain ⟨r8,hr8,h⟩:=bindS h
 refine evs_callP [] (by kernel_rfl) (W.nest_ValidSettings_k_ok hr8) (by kernel_rfl) (.inl rfl) (by kernel_rfl) (z1 1 ⟨[(0,s_Sheet sheets),(1,s_Piece pieces),(5,.ptr 5 0),(30,vB (!r8))],[(5,.box (c_Settings set2))]⟩ (zI (!r8) (fun hb=>?_) fun hb=>?_))
 replace h:=iteT hb h
 exact nomatch h
 replace h:=iteF hb h
 refine z4 ⟨[(0,s_Sheet sheets),(1,s_Piece pieces),(5,.ptr 5 0)],[(5,.box (c_Settings set2))]⟩ (z7 (zA 1 ?_))
 refine evs_op (st_len (c:=c_Sheet) (l:=sheets) (x:=(s_Sheet sheets)) (by kernel_rfl) (by kernel_rfl)) ?_
 obtain ⟨l10,hl10,h⟩:=bindS h
 refine evs_at (at_mkJ (c:=(cS (cS c_Rect))) (z:=[]) (n:=(sheets.length : Int)) (e:=36) (e2:=22) (d:=33) (k1:=.i64) (k2:=.i64) (by kernel_rfl) rfl (by kernel_rfl) hl10) (z1 1 ⟨[(0,s_Sheet sheets),(1,s_Piece pieces),(5,.ptr 5 0),(10,ro 33 36)],[(5,.box (c_Settings set2)),(33,.row 36 [(0,22)] (List.map (cS (cS c_Rect)) l10))]⟩ (z3 1 ⟨[(0,s_Sheet sheets),(1,s_Piece pieces),(5,.ptr 5 0),(10,ro 33 36),(11,ro 11 40)],[(5,.box (c_Settings set2)),(11,w_Placement 40 []),(33,.row 36 [(0,22)] (List.map (cS (cS c_Rect)) l10))]⟩ ?_))
 refine z3 1 ⟨[(0,s_Sheet sheets),(1,s_Piece pieces),(5,.ptr 5 0),(10,ro 33 36),(11,ro 11 40),(12,ro 12 3)],[(5,.box (c_Settings set2)),(11,w_Placement 40 []),(12,wI 3 []),(33,.row 36 [(0,22)] (List.map (cS (cS c_Rect)) l10))]⟩ (zB (sem_labelS (by kernel_rfl) fun τ hτ=>?_))
 refine zE hτ ⟨[(0,s_Sheet sheets),(1,s_Piece pieces),(5,.ptr 5 0),(10,ro 33 36),(11,ro 11 40),(12,ro 12 3)],[(5,.box (c_Settings set2)),(11,w_Placement 40 []),(12,wI 3 []),(33,.row 36 [(0,22)] (List.map (cS (cS c_Rect)) l10))]⟩ (zB (z7 ?_))
 refine zA 1 (evs_op (st_len (c:=c_Piece) (l:=pieces) (x:=(s_Piece pieces)) (by kernel_rfl) (by kernel_rfl)) (z1 1 ⟨[(0,s_Sheet sheets),(5,.ptr 5 0),(10,ro 33 36),(11,ro 11 40),(12,ro 12 3),(34,s_Piece pieces),(35,vI (pieces.length : Int)),(36,vI 0)],[(5,.box (c_Settings set2)),(11,w_Placement 40 []),(12,wI 3 []),(33,.row 36 [(0,22)] (List.map (cS (cS c_Rect)) l10))]⟩ ?_))
 refine zC ?_
 obtain ⟨x2200,hx2200,h⟩:=bindS h
 refine sem_loopS (fun (s1471 : Int × (List (List (List Rect))) × (List Placement))=>⟨[(0,s_Sheet sheets),(5,.ptr 500000 0),(10,ro 500001 36),(11,ro 500002 40),(12,ro 500003 3),(34,s_Piece pieces),(35,vI (pieces.length : Int)),(36,vI s1471.1)],[(500000,.box (c_Settings set2)),(500001,.row 36 [(0,22)] (List.map (cS (cS c_Rect)) s1471.2.1)),(500002,w_Placement 40 s1471.2.2),(500003,wI 3 [])]⟩) (fun (x2200 : (List Placement))=>(.exit 0,⟨[(11,ro 500000 40),(12,ro 500001 3)],[(500000,w_Placement 40 x2200),(500001,wI 3 [])]⟩)) (nest_Nest_k_l2 sheets pieces set2) (0,l10,[]) x2200 (by kernel_rfl) (subR_prep [] [(5,500000),(11,500002),(12,500003),(33,500001)] (by kernel_rfl) rfl rfl (by kernel_rfl)) (iter_loop hx2200) ?_ ?_ ?_
 intro s1471 r h
 refine z3 1 ⟨[(0,s_Sheet sheets),(5,.ptr 500000 0),(10,ro 500001 36),(11,ro 500002 40),(12,ro 500003 3),(34,s_Piece pieces),(35,vI (pieces.length : Int)),(36,vI s1471.1),(37,vB (decide (s1471.1 < (pieces.length : Int))))],[(500000,.box (c_Settings set2)),(500001,.row 36 [(0,22)] (List.map (cS (cS c_Rect)) s1471.2.1)),(500002,w_Placement 40 s1471.2.2),(500003,wI 3 [])]⟩ (zB (zI (decide (s1471.1 < (pieces.length : Int))) (fun hb=>?_) fun hb=>?_))
 replace h:=iteT hb h
 refine z4 ⟨[(0,s_Sheet sheets),(5,.ptr 500000 0),(10,ro 500001 36),(11,ro 500002 40),(12,ro 500003 3),(34,s_Piece pieces),(35,vI (pieces.length : Int)),(36,vI s1471.1)],[(500000,.box (c_Settings set2)),(500001,.row 36 [(0,22)] (List.map (cS (cS c_Rect)) s1471.2.1)),(500002,w_Placement 40 s1471.2.2),(500003,wI 3 [])]⟩ (zB (zC ?_))
 refine z7 (zA 1 ?_)
 obtain ⟨x2019,hx2019,h⟩:=bindS h
 refine evs_op (st_idx (c:=c_Piece) (l:=pieces) (i:=s1471.1) (kd:=.i64) (sz:=7) (by kernel_rfl) hx2019 rfl) (z1 4 ⟨[(0,s_Sheet sheets),(5,.ptr 500000 0),(10,ro 500001 36),(11,ro 500002 40),(12,ro 500003 3),(13,vI s1471.1),(14,.ptr 14 0),(34,s_Piece pieces),(35,vI (pieces.length : Int)),(36,vI s1471.1)],[(14,.box (c_Piece x2019)),(500000,.box (c_Settings set2)),(500001,.row 36 [(0,22)] (List.map (cS (cS c_Rect)) s1471.2.1)),(500002,w_Placement 40 s1471.2.2),(500003,wI 3 [])]⟩ (zB ?_))
 refine z7 (zA 1 (evs_op (st_len (c:=c_Sheet) (l:=sheets) (x:=(s_Sheet sheets)) (by kernel_rfl) (by kernel_rfl)) ?_))
 refine z1 1 ⟨[(0,s_Sheet sheets),(5,.ptr 500000 0),(10,ro 500001 36),(11,ro 500002 40),(12,ro 500003 3),(13,vI s1471.1),(14,.ptr 14 0),(34,s_Piece pieces),(35,vI (pieces.length : Int)),(36,vI s1471.1),(41,s_Sheet sheets),(42,vI (sheets.length : Int)),(43,vI 0)],[(14,.box (c_Piece x2019)),(500000,.box (c_Settings set2)),(500001,.row 36 [(0,22)] (List.map (cS (cS c_Rect)) s1471.2.1)),(500002,w_Placement 40 s1471.2.2),(500003,wI 3 [])]⟩ (zC ?_)
 obtain ⟨x2199,hx2199,h⟩:=bindS h
 refine sem_loopS (fun (s2110 : Unit)=>⟨[(0,s_Sheet sheets),(5,.ptr 500000 0),(10,ro 500001 36),(11,ro 500002 40),(12,ro 500003 3),(13,vI s1471.1),(14,.ptr 500004 0),(34,s_Piece pieces),(35,vI (pieces.length : Int)),(36,vI s1471.1),(41,s_Sheet sheets),(42,vI (sheets.length : Int)),(43,vI 0)],[(500000,.box (c_Settings set2)),(500001,.row 36 [(0,22)] (List.map (cS (cS c_Rect)) s1471.2.1)),(500002,w_Placement 40 s1471.2.2),(500003,wI 3 []),(500004,.box (c_Piece x2019))]⟩) (fun (x2199 : (List (List (List Rect))) × (List Placement))=>(.exit 1,⟨[(0,s_Sheet sheets),(5,.ptr 500000 0),(10,ro 500001 36),(11,ro 500002 40),(12,ro 500003 3),(34,s_Piece pieces),(35,vI (pieces.length : Int)),(36,vI s1471.1)],[(500000,.box (c_Settings set2)),(500001,.row 36 [(0,22)] (List.map (cS (cS c_Rect)) x2199.1)),(500002,w_Placement 40 x2199.2),(500003,wI 3 [])]⟩)) (nest_Nest_k_l1 sheets set2 s1471 x2019) () x2199 (by kernel_rfl) (subR_prep [] [(14,500004),(500000,500000),(500001,500001),(500002,500002),(500003,500003)] (by kernel_rfl) rfl rfl (by kernel_rfl)) (iter_loop hx2199) ?_ ?_ ?_
 intro s2110 r h
 refine z3 1 ⟨[(0,s_Sheet sheets),(5,.ptr 500000 0),(10,ro 500001 36),(11,ro 500002 40),(12,ro 500003 3),(13,vI s1471.1),(14,.ptr 500004 0),(34,s_Piece pieces),(35,vI (pieces.length : Int)),(36,vI s1471.1),(41,s_Sheet sheets),(42,vI (sheets.length : Int)),(43,vI 0),(44,vB (decide (0 < (sheets.length : Int))))],[(500000,.box (c_Settings set2)),(500001,.row 36 [(0,22)] (List.map (cS (cS c_Rect)) s1471.2.1)),(500002,w_Placement 40 s1471.2.2),(500003,wI 3 []),(500004,.box (c_Piece x2019))]⟩ (zB (zI (decide (0 < (sheets.length : Int))) (fun hb=>?_) fun hb=>?_))
 replace h:=iteT hb h
 refine z4 ⟨[(0,s_Sheet sheets),(5,.ptr 500000 0),(10,ro 500001 36),(11,ro 500002 40),(12,ro 500003 3),(13,vI s1471.1),(14,.ptr 500004 0),(34,s_Piece pieces),(35,vI (pieces.length : Int)),(36,vI s1471.1),(41,s_Sheet sheets),(42,vI (sheets.length : Int)),(43,vI 0)],[(500000,.box (c_Settings set2)),(500001,.row 36 [(0,22)] (List.map (cS (cS c_Rect)) s1471.2.1)),(500002,w_Placement 40 s1471.2.2),(500003,wI 3 []),(500004,.box (c_Piece x2019))]⟩ (zB (zC ?_))
 refine z7 (zA 1 ?_)
 obtain ⟨x2178,hx2178,h⟩:=bindS h
 refine evs_op (st_idx (c:=c_Sheet) (l:=sheets) (i:=0) (kd:=.i64) (sz:=8) (by kernel_rfl) hx2178 rfl) (z1 4 ⟨[(0,s_Sheet sheets),(5,.ptr 500000 0),(10,ro 500001 36),(11,ro 500002 40),(12,ro 500003 3),(13,vI s1471.1),(14,.ptr 500004 0),(15,vI 0),(16,.ptr 16 0),(34,s_Piece pieces),(35,vI (pieces.length : Int)),(36,vI s1471.1),(41,s_Sheet sheets),(42,vI (sheets.length : Int)),(43,vI 0)],[(16,.box (c_Sheet x2178)),(500000,.box (c_Settings set2)),(500001,.row 36 [(0,22)] (List.map (cS (cS c_Rect)) s1471.2.1)),(500002,w_Placement 40 s1471.2.2),(500003,wI 3 []),(500004,.box (c_Piece x2019))]⟩ (zB ?_))
 refine sem_draw [(7,[700350]),(12,[17]),(13,[17])] [(7,[700350]),(12,[17])] [(7,[500001])] [(0,[17]),(1,[17]),(2,[17]),(3,[17]),(4,[17]),(5,[17]),(6,[17]),(7,[17]),(8,[17]),(9,[17]),(10,[17]),(11,[17]),(12,[700350])] [(0,[700350,17]),(1,[700350,17]),(2,[700350,17]),(3,[700350,17]),(4,[700350,17]),(5,[700350,17]),(6,[700350,17]),(7,[17]),(8,[17]),(9,[17]),(10,[17]),(11,[17]),(12,[700350])] 15 (by kernel_rfl) (by kernel_rfl) [700350,17] (by kernel_rfl) (by kernel_rfl) (evd_run 3 (by kernel_rfl) ?_)
 obtain ⟨x2183,hx2183,h⟩:=bindS h
 refine evd_val (by kernel_rfl) (st_idxO (c:=(cS (cS c_Rect))) (l:=s1471.2.1) (i:=0) (kd:=.i64) (kk:=(.top 500001)) (e:=36) (sz:=1) (by kernel_rfl) (by kernel_rfl) hx2183 rfl) (by kernel_rfl) (by kernel_rfl) (evd_val (by kernel_rfl) (st_ldO (c:=(cS (cS c_Rect))) (l:=s1471.2.1) (i:=(Int.toNat 0)) (v:=(.row (.sub 500001 (Int.toNat 0) 0) 22)) (agg:=false) (sz:=1) (kk:=(.top 500001)) (e:=36) (off:=0) (J:=[(0,22)]) (by kernel_rfl) (by kernel_rfl) (by kernel_rfl) ((idxS hx2183).2) (by kernel_rfl)) (by kernel_rfl) (by kernel_rfl) (evd_run 2 (by kernel_rfl) ?_))
 obtain ⟨r2184,hr2184,h⟩:=bindS h
 refine evd_callV (args:=[(.agg (c_Sheet x2178)),(.row (.sub 500001 (Int.toNat 0) 0) 22),(.agg (c_Piece x2019)),(.agg (c_Settings set2))]) (qs:=[(.agg (c_Sheet x2178)),(.sl (List.map (cS c_Rect) x2183)),(.agg (c_Piece x2019)),(.agg (c_Settings set2))]) [(0,700350)] [500001] (by kernel_rfl) (by kernel_rfl) (viewRL_cons (p:=(.agg (c_Sheet x2178))) (q:=(.agg (c_Sheet x2178))) (by kernel_rfl) (viewRL_cons (p:=(.row (.sub 500001 (Int.toNat 0) 0) 22)) (q:=(.sl (List.map (cS c_Rect) x2183))) (view_sub (c:=(cS (cS c_Rect))) (c2:=(cS c_Rect)) (g:=500001) (i:=(Int.toNat 0)) (e:=36) (e2:=22) (l:=s1471.2.1) (x:=x2183) (l2:=x2183) (by kernel_rfl) (((idxS hx2183).2)) rfl) (viewRL_cons (p:=(.agg (c_Piece x2019))) (q:=(.agg (c_Piece x2019))) (by kernel_rfl) (viewRL_cons (p:=(.agg (c_Settings set2))) (q:=(.agg (c_Settings set2))) (by kernel_rfl) rfl)))) (W.nest_Fit_k_ok hr2184) (by kernel_rfl) (.inr ⟨rfl,fun _ _=>ind_cons rfl (fun _ _=>ind_nil)⟩) (by kernel_rfl) (by kernel_rfl) (evd_run 4 (by kernel_rfl) (evd_new (g:=17) (ob:=.box [(vI 0),(vI 0),(vI 0),(vI 0),(vI 0)]) (v:=(.ptr 17 0)) (by kernel_rfl) (by kernel_rfl) (by kernel_rfl) (by kernel_rfl) (by kernel_rfl) (by kernel_rfl) ?_))
 refine evd_set (g:=17) (ob:=.box (c_Placement r2184.1)) (v:=vU) (by kernel_rfl) (by kernel_rfl) (by kernel_rfl) (by kernel_rfl) (by kernel_rfl) (evd_run 1 (by kernel_rfl) (evd_end (by kernel_rfl) ?_))
 refine evo_run 1 (by kernel_rfl) (zO fun τ hτ=>?_)
 refine zE hτ ⟨[(0,s_Sheet sheets),(5,.ptr 500000 0),(10,ro 500001 36),(11,ro 500002 40),(12,ro 500003 3),(13,vI s1471.1),(14,.ptr 500004 0),(15,vI 0),(17,.ptr 17 0),(18,vB r2184.2.1),(19,vI r2184.2.2.1),(34,s_Piece pieces),(35,vI (pieces.length : Int)),(36,vI s1471.1),(41,s_Sheet sheets),(42,vI (sheets.length : Int)),(43,vI 0)],[(17,.box (c_Placement r2184.1)),(500000,.box (c_Settings set2)),(500001,.row 36 [(0,22)] (List.map (cS (cS c_Rect)) s1471.2.1)),(500002,w_Placement 40 s1471.2.2),(500003,wI 3 []),(500004,.box (c_Piece x2019))]⟩ (zB (z7 ?_))
 refine zA 3 (zS (r2184.2.2.1 != 0) (fun b0=>⟨[(0,s_Sheet sheets),(5,.ptr 500000 0),(10,ro 500001 36),(11,ro 500002 40),(12,ro 500003 3),(13,vI s1471.1),(14,.ptr 500004 0),(15,vI 0),(17,.ptr 17 0),(18,vB r2184.2.1),(34,s_Piece pieces),(35,vI (pieces.length : Int)),(36,vI s1471.1),(41,s_Sheet sheets),(42,vI (sheets.length : Int)),(43,vI 0),(62,vB b0)],[(17,.box (c_Placement r2184.1)),(500000,.box (c_Settings set2)),(500001,.row 36 [(0,22)] (List.map (cS (cS c_Rect)) s1471.2.1)),(500002,w_Placement 40 s1471.2.2),(500003,wI 3 []),(500004,.box (c_Piece x2019))]⟩) (fun hb=>?_) fun hb=>?_)
 replace h:=iteT hb h
 exact nomatch h
 replace h:=iteF hb h
 refine z1 3 ⟨[(0,s_Sheet sheets),(5,.ptr 500000 0),(10,ro 500001 36),(11,ro 500002 40),(12,ro 500003 3),(13,vI s1471.1),(14,.ptr 500004 0),(15,vI 0),(17,.ptr 17 0),(34,s_Piece pieces),(35,vI (pieces.length : Int)),(36,vI s1471.1),(41,s_Sheet sheets),(42,vI (sheets.length : Int)),(43,vI 0),(65,vB (!r2184.2.1))],[(17,.box (c_Placement r2184.1)),(500000,.box (c_Settings set2)),(500001,.row 36 [(0,22)] (List.map (cS (cS c_Rect)) s1471.2.1)),(500002,w_Placement 40 s1471.2.2),(500003,wI 3 []),(500004,.box (c_Piece x2019))]⟩ (zI (!r2184.2.1) (fun hb=>?_) fun hb=>?_)
 replace h:=iteT hb h
 exact nomatch h
 replace h:=iteF hb h
 refine z4 ⟨[(0,s_Sheet sheets),(5,.ptr 500000 0),(10,ro 500001 36),(11,ro 500002 40),(12,ro 500003 3),(13,vI s1471.1),(14,.ptr 500004 0),(15,vI 0),(17,.ptr 17 0),(34,s_Piece pieces),(35,vI (pieces.length : Int)),(36,vI s1471.1)],[(17,.box (c_Placement r2184.1)),(500000,.box (c_Settings set2)),(500001,.row 36 [(0,22)] (List.map (cS (cS c_Rect)) s1471.2.1)),(500002,w_Placement 40 s1471.2.2),(500003,wI 3 []),(500004,.box (c_Piece x2019))]⟩ (z3 6 ⟨[(0,s_Sheet sheets),(5,.ptr 500000 0),(10,ro 500001 36),(11,ro 500002 40),(12,ro 500003 3),(14,.ptr 500004 0),(15,vI 0),(17,.ptr 17 0),(34,s_Piece pieces),(35,vI (pieces.length : Int)),(36,vI s1471.1)],[(17,.box [(vI s1471.1),(vI 0),(vI r2184.1.X),(vI r2184.1.Y),(vI r2184.1.Turn)]),(500000,.box (c_Settings set2)),(500001,.row 36 [(0,22)] (List.map (cS (cS c_Rect)) s1471.2.1)),(500002,w_Placement 40 s1471.2.2),(500003,wI 3 []),(500004,.box (c_Piece x2019))]⟩ (z7 ?_))
 refine zA 2 ?_
 obtain ⟨r2186,hr2186,h⟩:=bindS h
 refine evs_callS [] [(0,700100),(1,700101),(2,700102),(3,700103)] [] (by kernel_rfl) (W.nest_put_k_ok hr2186) (by kernel_rfl) (by kernel_rfl) (.inl rfl) (z1 6 ⟨[(0,s_Sheet sheets),(5,.ptr 500000 0),(10,ro 500001 36),(11,ro 500002 40),(12,ro 500003 3),(15,vI 0),(17,.ptr 17 0),(20,.ptr 20 0),(34,s_Piece pieces),(35,vI (pieces.length : Int)),(36,vI s1471.1)],[(17,.box [(vI s1471.1),(vI 0),(vI r2184.1.X),(vI r2184.1.Y),(vI r2184.1.Turn)]),(20,.box [(vS r2186.1.Name),(vS r2186.1.Material),(vI r2186.1.Gauge),(vI r2186.1.Grain),(ro 700101 86),(ro 700102 86),(ro 700103 86)]),(500000,.box (c_Settings set2)),(500001,.row 36 [(0,22)] (List.map (cS (cS c_Rect)) s1471.2.1)),(500002,w_Placement 40 s1471.2.2),(500003,wI 3 []),(700101,w_Rect 86 r2186.1.Rects),(700102,w_Rect 86 r2186.1.Cuts),(700103,w_Rect 86 r2186.1.Forms)]⟩ (zB ?_))
 refine sem_prep [.frz 700101] (by kernel_rfl) (sem_draw [(5,[500001,600005]),(9,[600005,600009])] [(5,[600005]),(9,[600009])] [] [(0,[500001,600005,600009]),(1,[500001,600005,600009]),(6,[500001,600005]),(7,[500001,600005]),(8,[500001,600005])] [(0,[600005,600009]),(1,[600005,600009]),(2,[600005,600009]),(3,[600005,600009]),(4,[600005,600009]),(5,[600009]),(6,[600005,600009]),(7,[600005,600009]),(8,[600005,600009])] 10 (by kernel_rfl) (by kernel_rfl) [600005,600009] (by kernel_rfl) (by kernel_rfl) (evd_run 4 (by kernel_rfl) ?_))
 obtain ⟨x2194,hx2194,h⟩:=bindS h
 refine evd_val (by kernel_rfl) (st_idxO (c:=(cS (cS c_Rect))) (l:=s1471.2.1) (i:=0) (kd:=.i64) (kk:=(.top 500001)) (e:=36) (sz:=1) (by kernel_rfl) (by kernel_rfl) hx2194 rfl) (by kernel_rfl) (by kernel_rfl) (evd_take (c:=(cS (cS c_Rect))) (c2:=(cS c_Rect)) (l:=s1471.2.1) (x:=x2194) (l2:=x2194) (g:=500001) (T:=600005) (e:=36) (e2:=22) (i:=(Int.toNat 0)) (by kernel_rfl) (by kernel_rfl) (by kernel_rfl) ((idxS hx2194).2) rfl (by kernel_rfl) (by kernel_rfl) (by kernel_rfl) (by kernel_rfl) (by kernel_rfl) (evd_run 3 (by kernel_rfl) ?_))
 obtain ⟨l2195,hl2195,h⟩:=bindS h
 refine evd_app (c:=(cS c_Rect)) (l:=x2194) (l2:=[r2186.1.Rects]) (x:=(.sl (List.map (cS c_Rect) [r2186.1.Rects]))) (g:=600005) (g2:=600009) (e:=22) (sz:=1) (d:=85) (by kernel_rfl) (by kernel_rfl) (by kernel_rfl) (by kernel_rfl) (by kernel_rfl) (fun _=>rfl) hl2195 (by kernel_rfl) (by kernel_rfl) (by kernel_rfl) (by kernel_rfl) (by kernel_rfl) (evd_end (by kernel_rfl) ?_)
 obtain ⟨x2196,hx2196,h⟩:=bindS h
 refine evo_op (st_idxH (c:=(cS (cS c_Rect))) (l:=s1471.2.1) (x:=x2196) (g:=500001) (e:=36) (e2:=22) (j:=(Int.toNat 0)) (i:=0) (kd:=.i64) (sz:=1) (by kernel_rfl) (by kernel_rfl) hx2196 (fun _=>rfl) rfl) (evo_at (at_moveH (c:=(cS (cS c_Rect))) (c2:=(cS c_Rect)) (g:=500001) (d:=600009) (e:=36) (e':=22) (i:=(Int.toNat 0)) (l:=s1471.2.1) (x:=x2196) (x':=l2195) (l2:=l2195) (by kernel_rfl) (by kernel_rfl) (by kernel_rfl) (by kernel_rfl) ((idxS hx2196).2) rfl) (zO fun τ hτ=>?_))
 refine zE hτ ⟨[(0,s_Sheet sheets),(5,.ptr 500000 0),(10,ro 500001 36),(11,ro 500002 40),(12,ro 500003 3),(17,.ptr 17 0),(34,s_Piece pieces),(35,vI (pieces.length : Int)),(36,vI s1471.1)],[(17,.box [(vI s1471.1),(vI 0),(vI r2184.1.X),(vI r2184.1.Y),(vI r2184.1.Turn)]),(500000,.box (c_Settings set2)),(500001,.row 36 [(0,22)] (List.map (cS (cS c_Rect)) (List.set s1471.2.1 (Int.toNat 0) l2195))),(500002,w_Placement 40 s1471.2.2),(500003,wI 3 [])]⟩ (z7 (zA 3 ?_))
 obtain ⟨l2198,hl2198,h⟩:=bindS h
 refine evs_op (st_app (c:=c_Placement) (l:=s1471.2.2) (l2:=[(Placement.mk s1471.1 0 r2184.1.X r2184.1.Y r2184.1.Turn)]) (x:=(s_Placement [(Placement.mk s1471.1 0 r2184.1.X r2184.1.Y r2184.1.Turn)])) (g:=500002) (e:=40) (sz:=5) (d:=90) (by kernel_rfl) (by kernel_rfl) (by kernel_rfl) (by kernel_rfl) (fun _=>rfl) rfl hl2198) (z1 1 ⟨[(0,s_Sheet sheets),(5,.ptr 500000 0),(10,ro 500001 36),(11,ro 500002 40),(12,ro 500003 3),(34,s_Piece pieces),(35,vI (pieces.length : Int)),(36,vI s1471.1)],[(500000,.box (c_Settings set2)),(500001,.row 36 [(0,22)] (List.map (cS (cS c_Rect)) (List.set s1471.2.1 (Int.toNat 0) l2195))),(500002,w_Placement 40 l2198),(500003,wI 3 [])]⟩ (zL 1 fun τ hτ=>?_))
 refine bl_miss (by kernel_rfl) (th_exit ?_)
 obtain rfl:=osi h
 exact zF hτ
 replace h:=iteF hb h
 exact nomatch h
 intro x
 rfl
 intro τ hτ
 refine bl_miss (by kernel_rfl) (th_exit (zQ ?_))
 refine zE hτ ⟨[(0,s_Sheet sheets),(5,.ptr 500000 0),(10,ro 500001 36),(11,ro 500002 40),(12,ro 500003 3),(34,s_Piece pieces),(35,vI (pieces.length : Int)),(36,vI s1471.1)],[(500000,.box (c_Settings set2)),(500001,.row 36 [(0,22)] (List.map (cS (cS c_Rect)) x2199.1)),(500002,w_Placement 40 x2199.2),(500003,wI 3 [])]⟩ (zD (z6 2 fun τ hτ=>?_))
 obtain rfl:=osi h
 exact zH hτ
 replace h:=iteF hb h
 refine zL 0 fun τ hτ=>?_
 refine th_exit ?_
 obtain rfl:=osi h
 exact lk_outS hτ rfl (subR_prep [] [(500002,500000),(500003,500001)] (by kernel_rfl) rfl rfl (by kernel_rfl))
 intro x
 rfl
 intro τ hτ
 refine zQ (zE hτ ⟨[(11,ro 500000 40),(12,ro 500001 3)],[(500000,w_Placement 40 x2200),(500001,wI 3 [])]⟩ (z8 5 ⟨[(6,ro 500000 40),(7,ro 500001 3),(8,vI 0)],[(500000,w_Placement 40 x2200),(500001,wI 3 [])]⟩ fun τ hτ=>?_))
 obtain rfl:=osi h
 exact rk_ret hτ [(6,ro 0 40),(7,ro 1 3),(8,vI 0)] (subR_prep [] [(500000,0),(500001,1)] (by kernel_rfl) rfl rfl (by kernel_rfl)) (by kernel_rfl)
theorem W.sheetmetalref06_SamePlacements_k_ok {a : (List Placement)} {b : (List Placement)} {r : Bool} (h : sheetmetalref06_SamePlacements_k a b = some r) : PC G.P 36 [(.sl (List.map c_Placement a)),(.sl (List.map c_Placement b))] [] (vB r) []:=by
 refine zU G Tryz.func36 (zK ⟨[(0,s_Placement a),(1,s_Placement b)],[]⟩ (z3 1 ⟨[(0,s_Placement a),(1,s_Placement b)],[]⟩ ?_))
 refine zB (z7 (zA 1 ?_))
 refine evs_op (st_len (c:=c_Placement) (l:=a) (x:=(s_Placement a)) (by kernel_rfl) (by kernel_rfl)) (zA 1 (evs_op (st_len (c:=c_Placement) (l:=b) (x:=(s_Placement b)) (by kernel_rfl) (by kernel_rfl)) ?_))
 refine z1 1 ⟨[(0,s_Placement a),(1,s_Placement b),(10,vB ((a.length : Int) != (b.length : Int)))],[]⟩ (zI ((a.length : Int) != (b.length : Int)) (fun hb=>?_) fun hb=>?_)
 replace h:=iteT hb h
 exact nomatch h
 replace h:=iteF hb h
 refine z4 ⟨[(0,s_Placement a),(1,s_Placement b)],[]⟩ (zB (z3 1 ⟨[(0,s_Placement a),(1,s_Placement b),(5,vI 0)],[]⟩ ?_))
 refine zC ?_
 obtain ⟨x78,hx78,h⟩:=bindS h
 refine sem_loopS (fun (s53 : Int)=>⟨[(0,s_Placement a),(1,s_Placement b),(5,vI s53)],[]⟩) (fun (x78 : Unit)=>(.exit 0,⟨[],[]⟩)) (sheetmetalref06_SamePlacements_k_l1 a b) 0 x78 (by kernel_rfl) (here (by kernel_rfl)) (iter_loop hx78) ?_ ?_ ?_
 intro s53 r h
 refine zB (z7 (zA 2 ?_))
 refine evs_op (st_len (c:=c_Placement) (l:=a) (x:=(s_Placement a)) (by kernel_rfl) (by kernel_rfl)) (z1 1 ⟨[(0,s_Placement a),(1,s_Placement b),(5,vI s53),(14,vB (decide (s53 < (a.length : Int))))],[]⟩ (zI (decide (s53 < (a.length : Int))) (fun hb=>?_) fun hb=>?_))
 replace h:=iteT hb h
 refine z4 ⟨[(0,s_Placement a),(1,s_Placement b),(5,vI s53)],[]⟩ (zB (zC ?_))
 refine zB (sem_drawN [] [] [] [] [] 8 (by kernel_rfl) (by kernel_rfl) (by kernel_rfl) (evd_run 2 (by kernel_rfl) ?_))
 obtain ⟨x76,hx76,h⟩:=bindS h
 refine evd_val (by kernel_rfl) (st_idx (c:=c_Placement) (l:=a) (i:=s53) (kd:=.i64) (sz:=5) (by kernel_rfl) hx76 rfl) (by kernel_rfl) (by kernel_rfl) (evd_run 3 (by kernel_rfl) ?_)
 obtain ⟨x77,hx77,h⟩:=bindS h
 refine evd_val (by kernel_rfl) (st_idx (c:=c_Placement) (l:=b) (i:=s53) (kd:=.i64) (sz:=5) (by kernel_rfl) hx77 rfl) (by kernel_rfl) (by kernel_rfl) (evd_run 1 (by kernel_rfl) (evd_end (by kernel_rfl) ?_))
 refine evo_run 1 (by kernel_rfl) (zO fun τ hτ=>?_)
 refine zE hτ ⟨[(0,s_Placement a),(1,s_Placement b),(5,vI s53),(25,vB (!((x76.Piece == x77.Piece) && ((x76.Sheet == x77.Sheet) && ((x76.X == x77.X) && ((x76.Y == x77.Y) && ((x76.Turn == x77.Turn) && true)))))))],[]⟩ (zI (!((x76.Piece == x77.Piece) && ((x76.Sheet == x77.Sheet) && ((x76.X == x77.X) && ((x76.Y == x77.Y) && ((x76.Turn == x77.Turn) && true)))))) (fun hb=>?_) fun hb=>?_)
 replace h:=iteT hb h
 exact nomatch h
 replace h:=iteF hb h
 refine zM fun τ hτ=>?_
 refine bl_normal (zE hτ ⟨[(0,s_Placement a),(1,s_Placement b),(5,vI s53)],[]⟩ (zD ?_))
 refine z6 3 fun τ hτ=>?_
 obtain rfl:=osi h
 exact zH hτ
 replace h:=iteF hb h
 refine zL 0 fun τ hτ=>?_
 refine th_exit ?_
 obtain rfl:=osi h
 exact zF hτ
 intro x
 rfl
 intro τ hτ
 refine zQ (zE hτ ⟨[],[]⟩ (z8 1 ⟨[(4,vB true)],[]⟩ fun τ hτ=>?_))
 obtain rfl:=osi h
 exact zV hτ [(4,vB true)]
theorem W.sheetmetallaw06_known_k_ok {r : Bool} (h : sheetmetallaw06_known_k = some r) : PC G.P 21 [] [] (vB r) []:=by
 refine zU G Tryz.func21 (zK ⟨[],[]⟩ (z3 1 ⟨[],[]⟩ ?_))
 refine z3 3 ⟨[(1,.ptr 1 0)],[(1,.box [(vS (ByteArray.mk #[115])),(vS (ByteArray.mk #[115,116,101,101,108])),(vI 10),(vI 0),(vI 1000),(vI 1000),.nl,.nl])]⟩ (z3 5 ⟨[(1,.ptr 1 0),(2,.ptr 2 0)],[(1,.box [(vS (ByteArray.mk #[115])),(vS (ByteArray.mk #[115,116,101,101,108])),(vI 10),(vI 0),(vI 1000),(vI 1000),.nl,.nl]),(2,.box [(vS (ByteArray.mk #[112])),(vS (ByteArray.mk #[115,116,101,101,108])),(vI 10),(vI 0),(s_Rect [(Rect.mk 0 0 100 50)]),.nl,.nl])]⟩ (z7 ?_))
 refine zA 3 ?_
 obtain ⟨r2,hr2,h⟩:=bindS h
 refine evs_callS [] [(0,700150)] [] (by kernel_rfl) (W.nest_Fit_k_ok hr2) (by kernel_rfl) (by kernel_rfl) (.inl rfl) (z1 8 ⟨[(1,.ptr 1 0),(2,.ptr 2 0),(3,.ptr 3 0),(4,vB r2.2.1),(5,vI r2.2.2.1)],[(1,.box [(vS (ByteArray.mk #[115])),(vS (ByteArray.mk #[115,116,101,101,108])),(vI 10),(vI 0),(vI 1000),(vI 1000),.nl,.nl]),(2,.box [(vS (ByteArray.mk #[112])),(vS (ByteArray.mk #[115,116,101,101,108])),(vI 10),(vI 0),(s_Rect [(Rect.mk 0 0 100 50)]),.nl,.nl]),(3,.box (c_Placement r2.1))]⟩ (z7 ?_))
 refine zA 1 (evs_at (at_buildS (es:=(List.map c_Sheet [(Sheet.mk (ByteArray.mk #[115]) (ByteArray.mk #[115,116,101,101,108]) 10 0 1000 1000 [] [])])) (by kernel_rfl)) (zA 2 ?_))
 refine evs_at (at_buildS (es:=(List.map c_Piece [(Piece.mk (ByteArray.mk #[112]) (ByteArray.mk #[115,116,101,101,108]) 10 0 [(Rect.mk 0 0 100 50)] [] []),(Piece.mk (ByteArray.mk #[112]) (ByteArray.mk #[115,116,101,101,108]) 10 0 [(Rect.mk 0 0 100 50)] [] [])])) (by kernel_rfl)) (zA 1 ?_)
 obtain ⟨r4,hr4,h⟩:=bindS h
 refine evs_callS [] [(0,700300),(1,700301)] [] (by kernel_rfl) (W.nest_Nest_k_ok hr4) (by kernel_rfl) (by kernel_rfl) (.inl rfl) (z1 7 ⟨[(3,.ptr 3 0),(4,vB r2.2.1),(5,vI r2.2.2.1),(6,ro 700300 40),(7,ro 700301 3),(8,vI r4.2.2)],[(3,.box (c_Placement r2.1)),(700300,w_Placement 40 r4.1),(700301,wI 3 r4.2.1)]⟩ (z7 ?_))
 refine zA 3 (zS (r2.2.2.1 == 0) (fun b0=>⟨[(3,.ptr 3 0),(4,vB r2.2.1),(6,ro 700300 40),(7,ro 700301 3),(8,vI r4.2.2),(34,vB b0)],[(3,.box (c_Placement r2.1)),(700300,w_Placement 40 r4.1),(700301,wI 3 r4.2.1)]⟩) (fun hb=>?_) fun hb=>?_)
 replace h:=iteT hb h
 refine zA 3 (zS r2.2.1 (fun b0=>⟨[(3,.ptr 3 0),(6,ro 700300 40),(7,ro 700301 3),(8,vI r4.2.2),(37,vB b0)],[(3,.box (c_Placement r2.1)),(700300,w_Placement 40 r4.1),(700301,wI 3 r4.2.1)]⟩) (fun hb=>?_) fun hb=>?_)
 replace h:=iteT hb h
 refine zA 5 (zS ((r2.1.Piece == 0) && ((r2.1.Sheet == 0) && ((r2.1.X == 10) && ((r2.1.Y == 10) && ((r2.1.Turn == 0) && true))))) (fun b0=>⟨[(6,ro 700300 40),(7,ro 700301 3),(8,vI r4.2.2),(42,vB b0)],[(700300,w_Placement 40 r4.1),(700301,wI 3 r4.2.1)]⟩) (fun hb=>?_) fun hb=>?_)
 replace h:=iteT hb h
 refine zA 4 (zS (r4.2.2 == 0) (fun b0=>⟨[(6,ro 700300 40),(7,ro 700301 3),(46,vB b0)],[(700300,w_Placement 40 r4.1),(700301,wI 3 r4.2.1)]⟩) (fun hb=>?_) fun hb=>?_)
 replace h:=iteT hb h
 refine zA 1 (evs_op (st_len (c:=cI) (l:=r4.2.1) (x:=(ro 700301 3)) (by kernel_rfl) (by kernel_rfl)) (zA 3 ?_))
 refine zS ((r4.2.1.length : Int) == 0) (fun b0=>⟨[(6,ro 700300 40),(51,vB b0)],[(700300,w_Placement 40 r4.1)]⟩) (fun hb=>?_) fun hb=>?_
 replace h:=iteT hb h
 refine zA 4 ?_
 obtain ⟨r6,hr6,h⟩:=bindS h
 refine evs_callP [700300] (by kernel_rfl) (W.sheetmetalref06_SamePlacements_k_ok hr6) (by kernel_rfl) (.inr rfl) (by kernel_rfl) (z1 2 ⟨[(0,vB r6)],[]⟩ (zN fun τ hτ=>?_))
 obtain rfl:=osi h
 exact zV hτ [(0,vB r6)]
 replace h:=iteF hb h
 exact nomatch h
 replace h:=iteF hb h
 exact nomatch h
 replace h:=iteF hb h
 exact nomatch h
 replace h:=iteF hb h
 exact nomatch h
 replace h:=iteF hb h
 exact nomatch h
theorem W.geom_within_ok {n : Int} {most : Int} {r : Bool} (h : geom_within n most = some r) : PC G.P 122 [(vI n),(vI most)] [] (vB r) []:=by
 refine zU G Tryz.func122 (zK ⟨[(0,vI n),(1,vI most)],[]⟩ (z3 1 ⟨[(0,vI n),(1,vI most)],[]⟩ ?_))
 refine zB ?_
 obtain ⟨j1,hj1,h⟩:=bindS h
 refine zT ⟨[(4,vB j1)],[]⟩ ?_ fun τ hτ=>?_
 replace h:=hj1
 refine zA 5 (zS (decide ((ineg most) ≤ n)) (fun b0=>⟨[(0,vI n),(1,vI most),(9,vB b0)],[]⟩) (fun hb=>?_) fun hb=>?_)
 replace h:=iteT hb h
 refine z6 5 fun τ hτ=>?_
 obtain rfl:=osi h
 exact zG hτ
 replace h:=iteF hb h
 refine z6 5 fun τ hτ=>?_
 obtain rfl:=osi h
 exact zG hτ
 refine zE hτ ⟨[(4,vB j1)],[]⟩ (zN fun τ hτ=>?_)
 obtain rfl:=osi h
 exact zV hτ [(4,vB j1)]
theorem W.geom_ValidRect_1_ok {x0 : Int} {w : Int} {r : Bool} (h : geom_ValidRect_1 x0 w = some r) : PC G.P 121 [(vI x0),(vI w)] [] (vB r) []:=by
 refine zU G Tryz.func121 (zK ⟨[(0,vI x0),(1,vI w)],[]⟩ (z3 1 ⟨[(0,vI x0),(1,vI w)],[]⟩ ?_))
 refine zB ?_
 obtain ⟨j2,hj2,h⟩:=bindS h
 refine zT ⟨[(4,vB j2)],[]⟩ ?_ fun τ hτ=>?_
 replace h:=hj2
 refine zA 1 ?_
 obtain ⟨r3,hr3,h⟩:=bindS h
 refine evs_callP [] (by kernel_rfl) (W.geom_within_ok hr3) (by kernel_rfl) (.inl rfl) (by kernel_rfl) (zA 1 (zS r3 (fun b0=>⟨[(0,vI x0),(1,vI w),(7,vB b0)],[]⟩) (fun hb=>?_) fun hb=>?_))
 replace h:=iteT hb h
 refine zA 4 (zS (decide (w > 0)) (fun b0=>⟨[(0,vI x0),(1,vI w),(11,vB b0)],[]⟩) (fun hb=>?_) fun hb=>?_)
 replace h:=iteT hb h
 refine zA 4 (zS (decide (w ≤ 2097152)) (fun b0=>⟨[(0,vI x0),(1,vI w),(15,vB b0)],[]⟩) (fun hb=>?_) fun hb=>?_)
 replace h:=iteT hb h
 refine z6 6 fun τ hτ=>?_
 obtain rfl:=osi h
 exact zG hτ
 replace h:=iteF hb h
 refine z6 6 fun τ hτ=>?_
 obtain rfl:=osi h
 exact zG hτ
 replace h:=iteF hb h
 refine z6 10 fun τ hτ=>?_
 obtain rfl:=osi h
 exact zG hτ
 replace h:=iteF hb h
 refine z6 14 fun τ hτ=>?_
 obtain rfl:=osi h
 exact zG hτ
 refine zE hτ ⟨[(4,vB j2)],[]⟩ (zN fun τ hτ=>?_)
 obtain rfl:=osi h
 exact zV hτ [(4,vB j2)]
theorem W.geom_ValidRect_ok {r0 : Rect} {r : Bool} (h : geom_ValidRect r0 = some r) : PC G.P 92 [(.agg (c_Rect r0))] [] (vB r) []:=by
 refine zU G Tryz.func92 (zK ⟨[(0,.agg (c_Rect r0))],[]⟩ (z3 2 ⟨[(1,.ptr 1 0)],[(1,.box (c_Rect r0))]⟩ ?_))
 refine z3 1 ⟨[(1,.ptr 1 0),(3,.fn 121 [])],[(1,.box (c_Rect r0))]⟩ (zB ?_)
 obtain ⟨j3,hj3,h⟩:=bindS h
 refine zT ⟨[(2,vB j3)],[]⟩ ?_ fun τ hτ=>?_
 replace h:=hj3
 refine zA 5 ?_
 obtain ⟨r4,hr4,h⟩:=bindS h
 refine evs_callP [] (by kernel_rfl) (W.geom_ValidRect_1_ok hr4) (by kernel_rfl) (.inl rfl) (by kernel_rfl) (zA 1 (zS r4 (fun b0=>⟨[(1,.ptr 1 0),(3,.fn 121 []),(10,vB b0)],[(1,.box (c_Rect r0))]⟩) (fun hb=>?_) fun hb=>?_))
 replace h:=iteT hb h
 refine zA 5 ?_
 obtain ⟨r5,hr5,h⟩:=bindS h
 refine evs_callP [] (by kernel_rfl) (W.geom_ValidRect_1_ok hr5) (by kernel_rfl) (.inl rfl) (by kernel_rfl) (z6 2 fun τ hτ=>?_)
 obtain rfl:=osi h
 exact zG hτ
 replace h:=iteF hb h
 refine z6 8 fun τ hτ=>?_
 obtain rfl:=osi h
 exact zG hτ
 refine zE hτ ⟨[(2,vB j3)],[]⟩ (zN fun τ hτ=>?_)
 obtain rfl:=osi h
 exact zV hτ [(2,vB j3)]
theorem W.geom_Distance_ok {a : Rect} {b : Rect} {r : Int} (h : geom_Distance a b = some r) : PC G.P 71 [(.agg (c_Rect a)),(.agg (c_Rect b))] [] (vI r) []:=by
 refine zU G Tryz.func71 (zK ⟨[(0,.agg (c_Rect a)),(1,.agg (c_Rect b))],[]⟩ (z3 3 ⟨[(2,.ptr 2 0),(3,.ptr 3 0)],[(2,.box (c_Rect a)),(3,.box (c_Rect b))]⟩ ?_))
 refine zB (zB ?_)
 obtain ⟨j8,hj8,h⟩:=bindS h
 refine zT ⟨[(2,.ptr 500000 0),(3,.ptr 500001 0),(13,vB j8)],[(500000,.box (c_Rect a)),(500001,.box (c_Rect b))]⟩ ?_ fun τ hτ=>?_
 replace h:=hj8
 refine zA 1 ?_
 obtain ⟨r9,hr9,h⟩:=bindS h
 refine evs_callP [] (by kernel_rfl) (W.geom_ValidRect_ok hr9) (by kernel_rfl) (.inl rfl) (by kernel_rfl) (zA 2 (zS r9 (fun b0=>⟨[(2,.ptr 2 0),(3,.ptr 3 0),(9,vB (!b0))],[(2,.box (c_Rect a)),(3,.box (c_Rect b))]⟩) (fun hb=>?_) fun hb=>?_))
 replace h:=iteT hb h
 refine zA 1 ?_
 obtain ⟨r10,hr10,h⟩:=bindS h
 refine evs_callP [] (by kernel_rfl) (W.geom_ValidRect_ok hr10) (by kernel_rfl) (.inl rfl) (by kernel_rfl) (z6 2 fun τ hτ=>?_)
 obtain rfl:=osi h
 exact leafC hτ (subR_prep [] [(2,500000),(3,500001)] (by kernel_rfl) rfl rfl (by kernel_rfl))
 replace h:=iteF hb h
 refine z6 4 fun τ hτ=>?_
 obtain rfl:=osi h
 exact leafC hτ (subR_prep [] [(2,500000),(3,500001)] (by kernel_rfl) rfl rfl (by kernel_rfl))
 refine zE hτ ⟨[(2,.ptr 500000 0),(3,.ptr 500001 0),(13,vB j8)],[(500000,.box (c_Rect a)),(500001,.box (c_Rect b))]⟩ (zI j8 (fun hb=>?_) fun hb=>?_)
 replace h:=iteT hb h
 refine z8 1 ⟨[(4,vI 0)],[]⟩ fun τ hτ=>?_
 refine th_ret ?_
 obtain rfl:=osi h
 exact zV hτ [(4,vI 0)]
 replace h:=iteF hb h
 refine z4 ⟨[(2,.ptr 500000 0),(3,.ptr 500001 0)],[(500000,.box (c_Rect a)),(500001,.box (c_Rect b))]⟩ (z3 18 ⟨[(2,.ptr 500000 0),(3,.ptr 500001 0),(5,vI (imax (imax 0 (isub (isub b.X a.X) a.W)) (isub (isub a.X b.X) b.W)))],[(500000,.box (c_Rect a)),(500001,.box (c_Rect b))]⟩ (z8 19 ⟨[(4,vI (imax (imax (imax (imax 0 (isub (isub b.X a.X) a.W)) (isub (isub a.X b.X) b.W)) (isub (isub b.Y a.Y) a.H)) (isub (isub a.Y b.Y) b.H)))],[]⟩ fun τ hτ=>?_))
 obtain rfl:=osi h
 exact zV hτ [(4,vI (imax (imax (imax (imax 0 (isub (isub b.X a.X) a.W)) (isub (isub a.X b.X) b.W)) (isub (isub b.Y a.Y) a.H)) (isub (isub a.Y b.Y) b.H)))]
theorem W.geom_Overlap_ok {a : Rect} {b : Rect} {r : Bool} (h : geom_Overlap a b = some r) : PC G.P 58 [(.agg (c_Rect a)),(.agg (c_Rect b))] [] (vB r) []:=by
 refine zU G Tryz.func58 (zK ⟨[(0,.agg (c_Rect a)),(1,.agg (c_Rect b))],[]⟩ (z3 3 ⟨[(2,.ptr 2 0),(3,.ptr 3 0)],[(2,.box (c_Rect a)),(3,.box (c_Rect b))]⟩ ?_))
 refine zB ?_
 obtain ⟨j3,hj3,h⟩:=bindS h
 refine zT ⟨[(4,vB j3)],[]⟩ ?_ fun τ hτ=>?_
 replace h:=hj3
 refine zA 1 ?_
 obtain ⟨r4,hr4,h⟩:=bindS h
 refine evs_callP [] (by kernel_rfl) (W.geom_ValidRect_ok hr4) (by kernel_rfl) (.inl rfl) (by kernel_rfl) (zA 1 (zS r4 (fun b0=>⟨[(2,.ptr 2 0),(3,.ptr 3 0),(7,vB b0)],[(2,.box (c_Rect a)),(3,.box (c_Rect b))]⟩) (fun hb=>?_) fun hb=>?_))
 replace h:=iteT hb h
 refine zA 1 ?_
 obtain ⟨r5,hr5,h⟩:=bindS h
 refine evs_callP [] (by kernel_rfl) (W.geom_ValidRect_ok hr5) (by kernel_rfl) (.inl rfl) (by kernel_rfl) (zA 2 (zS r5 (fun b0=>⟨[(2,.ptr 2 0),(3,.ptr 3 0),(11,vB b0)],[(2,.box (c_Rect a)),(3,.box (c_Rect b))]⟩) (fun hb=>?_) fun hb=>?_))
 replace h:=iteT hb h
 refine zA 10 (zS (decide (a.X < (iadd b.X b.W))) (fun b0=>⟨[(2,.ptr 2 0),(3,.ptr 3 0),(21,vB b0)],[(2,.box (c_Rect a)),(3,.box (c_Rect b))]⟩) (fun hb=>?_) fun hb=>?_)
 replace h:=iteT hb h
 refine zA 10 (zS (decide (b.X < (iadd a.X a.W))) (fun b0=>⟨[(2,.ptr 2 0),(3,.ptr 3 0),(31,vB b0)],[(2,.box (c_Rect a)),(3,.box (c_Rect b))]⟩) (fun hb=>?_) fun hb=>?_)
 replace h:=iteT hb h
 refine zA 10 (zS (decide (a.Y < (iadd b.Y b.H))) (fun b0=>⟨[(2,.ptr 2 0),(3,.ptr 3 0),(41,vB b0)],[(2,.box (c_Rect a)),(3,.box (c_Rect b))]⟩) (fun hb=>?_) fun hb=>?_)
 replace h:=iteT hb h
 refine z6 10 fun τ hτ=>?_
 obtain rfl:=osi h
 exact zG hτ
 replace h:=iteF hb h
 refine z6 10 fun τ hτ=>?_
 obtain rfl:=osi h
 exact zG hτ
 replace h:=iteF hb h
 refine z6 20 fun τ hτ=>?_
 obtain rfl:=osi h
 exact zG hτ
 replace h:=iteF hb h
 refine z6 30 fun τ hτ=>?_
 obtain rfl:=osi h
 exact zG hτ
 replace h:=iteF hb h
 refine z6 40 fun τ hτ=>?_
 obtain rfl:=osi h
 exact zG hτ
 replace h:=iteF hb h
 refine z6 44 fun τ hτ=>?_
 obtain rfl:=osi h
 exact zG hτ
 refine zE hτ ⟨[(4,vB j3)],[]⟩ (zN fun τ hτ=>?_)
 obtain rfl:=osi h
 exact zV hτ [(4,vB j3)]
theorem W.strings_Contains'_ok {s sub : ByteArray} {r : Bool} (h : strings_Contains' s sub = some r) : PC G.P 91 [vS s,vS sub] [] (vB r) []:=by
 unfold strings_Contains' at h
 split at h
 rename_i hs
 injection h with h; subst h
 exact pc_pure (args:=[.string s,.string sub]) (by kernel_rfl) 0 (by kernel_rfl) fun m w hm=>Any.strings_Contains Tryz.contains_lays s sub m w hs hm
 cases h
theorem W.part_ValidName_ok {s0 : ByteArray} {r : Bool} (h : part_ValidName s0 = some r) : PC G.P 49 [(vS s0)] [] (vB r) []:=by
 refine zU G Tryz.func49 (zK ⟨[(0,vS s0)],[]⟩ (z3 1 ⟨[(0,vS s0)],[]⟩ ?_))
 refine zB (zB ?_)
 obtain ⟨j8,hj8,h⟩:=bindS h
 refine zT ⟨[(0,vS s0),(22,vB j8)],[]⟩ ?_ fun τ hτ=>?_
 replace h:=hj8
 refine zA 4 (zS (decide ((s0.size : Int) < 1)) (fun b0=>⟨[(0,vS s0),(8,vB b0)],[]⟩) (fun hb=>?_) fun hb=>?_)
 replace h:=iteT hb h
 refine z6 14 fun τ hτ=>?_
 obtain rfl:=osi h
 exact zG hτ
 replace h:=iteF hb h
 refine zA 5 (zS (decide ((s0.size : Int) > 8)) (fun b0=>⟨[(0,vS s0),(13,vB b0)],[]⟩) (fun hb=>?_) fun hb=>?_)
 replace h:=iteT hb h
 refine z6 9 fun τ hτ=>?_
 obtain rfl:=osi h
 exact zG hτ
 replace h:=iteF hb h
 refine zA 1 ?_
 obtain ⟨x9,hx9,h⟩:=bindS h
 refine evs_at (at_sidx (s:=s0) (i:=0) (kd:=.i64) (by kernel_rfl) hx9) (zA 3 (zS (decide (x9 < 97)) (fun b0=>⟨[(0,vS s0),(18,vB b0)],[]⟩) (fun hb=>?_) fun hb=>?_))
 replace h:=iteT hb h
 refine z6 4 fun τ hτ=>?_
 obtain rfl:=osi h
 exact zG hτ
 replace h:=iteF hb h
 refine zA 1 ?_
 obtain ⟨x10,hx10,h⟩:=bindS h
 refine evs_at (at_sidx (s:=s0) (i:=0) (kd:=.i64) (by kernel_rfl) hx10) (z6 2 fun τ hτ=>?_)
 obtain rfl:=osi h
 exact zG hτ
 refine zE hτ ⟨[(0,vS s0),(22,vB j8)],[]⟩ (zI j8 (fun hb=>?_) fun hb=>?_)
 replace h:=iteT hb h
 refine z8 1 ⟨[(2,vB false)],[]⟩ fun τ hτ=>?_
 refine th_ret ?_
 obtain rfl:=osi h
 exact zV hτ [(2,vB false)]
 replace h:=iteF hb h
 refine z4 ⟨[(0,vS s0)],[]⟩ (zB (z3 3 ⟨[(0,vS s0),(24,vI (s0.size : Int)),(25,vI 0)],[]⟩ ?_))
 refine zC ?_
 obtain ⟨x54,hx54,h⟩:=bindS h
 refine sem_loopS (fun (s41 : Int)=>⟨[(0,vS s0),(24,vI (s0.size : Int)),(25,vI s41)],[]⟩) (fun (x54 : Unit ⊕ Unit)=>match x54 with | .inl j55=>(.ret,⟨[(2,vB false)],[]⟩) | .inr j56=>(.exit 0,⟨[(0,vS s0)],[]⟩)) (part_ValidName_l1 s0) 0 x54 (by kernel_rfl) (here (by kernel_rfl)) hx54 ?_ ?_ ?_
 intro s41 r h
 refine z3 1 ⟨[(0,vS s0),(24,vI (s0.size : Int)),(25,vI s41),(26,vB (decide (s41 < (s0.size : Int))))],[]⟩ (zB (zI (decide (s41 < (s0.size : Int))) (fun hb=>?_) fun hb=>?_))
 replace h:=iteT hb h
 refine z4 ⟨[(0,vS s0),(24,vI (s0.size : Int)),(25,vI s41)],[]⟩ (zB (zC ?_))
 refine z3 2 ⟨[(0,vS s0),(3,vI s41),(24,vI (s0.size : Int)),(25,vI s41)],[]⟩ (z7 (zA 2 ?_))
 obtain ⟨x52,hx52,h⟩:=bindS h
 refine evs_at (at_sidx (s:=s0) (i:=s41) (kd:=.i64) (by kernel_rfl) hx52) (z1 1 ⟨[(0,vS s0),(4,vK .u8 x52),(24,vI (s0.size : Int)),(25,vI s41)],[]⟩ (zB ?_))
 obtain ⟨j53,hj53,h⟩:=bindS h
 refine zT ⟨[(0,vS s0),(24,vI (s0.size : Int)),(25,vI s41),(44,vB j53)],[]⟩ ?_ fun τ hτ=>?_
 replace h:=hj53
 refine zA 3 (zS (decide (x52 < 97)) (fun b0=>⟨[(0,vS s0),(4,vK .u8 x52),(24,vI (s0.size : Int)),(25,vI s41),(33,vB b0)],[]⟩) (fun hb=>?_) fun hb=>?_)
 replace h:=iteT hb h
 refine zA 7 (zS (decide (x52 < 48)) (fun b0=>⟨[(0,vS s0),(4,vK .u8 x52),(24,vI (s0.size : Int)),(25,vI s41),(37,vB true),(40,vB b0)],[]⟩) (fun hb=>?_) fun hb=>?_)
 replace h:=iteT hb h
 refine z6 4 fun τ hτ=>?_
 obtain rfl:=osi h
 exact zG hτ
 replace h:=iteF hb h
 refine z6 4 fun τ hτ=>?_
 obtain rfl:=osi h
 exact zG hτ
 replace h:=iteF hb h
 refine zA 4 (zS (decide (x52 > 122)) (fun b0=>⟨[(0,vS s0),(4,vK .u8 x52),(24,vI (s0.size : Int)),(25,vI s41),(37,vB b0)],[]⟩) (fun hb=>?_) fun hb=>?_)
 replace h:=iteT hb h
 refine zA 3 (zS (decide (x52 < 48)) (fun b0=>⟨[(0,vS s0),(4,vK .u8 x52),(24,vI (s0.size : Int)),(25,vI s41),(37,vB true),(40,vB b0)],[]⟩) (fun hb=>?_) fun hb=>?_)
 replace h:=iteT hb h
 refine z6 4 fun τ hτ=>?_
 obtain rfl:=osi h
 exact zG hτ
 replace h:=iteF hb h
 refine z6 4 fun τ hτ=>?_
 obtain rfl:=osi h
 exact zG hτ
 replace h:=iteF hb h
 refine z6 7 fun τ hτ=>?_
 obtain rfl:=osi h
 exact zG hτ
 refine zE hτ ⟨[(0,vS s0),(24,vI (s0.size : Int)),(25,vI s41),(44,vB j53)],[]⟩ (zI j53 (fun hb=>?_) fun hb=>?_)
 replace h:=iteT hb h
 refine z8 1 ⟨[(2,vB false)],[]⟩ fun τ hτ=>?_
 refine bl_ret (th_ret ?_)
 obtain rfl:=osi h
 exact zF hτ
 replace h:=iteF hb h
 refine zM fun τ hτ=>?_
 refine bl_normal (zE hτ ⟨[(0,vS s0),(24,vI (s0.size : Int)),(25,vI s41)],[]⟩ (zD ?_))
 refine z6 2 fun τ hτ=>?_
 obtain rfl:=osi h
 exact zH hτ
 replace h:=iteF hb h
 refine zL 0 fun τ hτ=>?_
 refine th_exit ?_
 obtain rfl:=osi h
 exact zF hτ
 intro x
 rcases x with _ | _ <;> rfl
 intro τ hτ
 rcases x54 with j55 | j56
 refine bl_ret (th_ret ?_)
 obtain rfl:=osi h
 exact zV hτ [(2,vB false)]
 refine zQ (zE hτ ⟨[(0,vS s0)],[]⟩ (z7 ?_))
 refine zA 1 ?_
 obtain ⟨s60,hs60,h⟩:=bindS h
 refine evs_op (st_cat (a:=(ByteArray.mk #[32])) (b:=s0) (by kernel_rfl) hs60) ?_
 obtain ⟨s61,hs61,h⟩:=bindS h
 refine evs_op (st_cat (a:=s60) (b:=(ByteArray.mk #[32])) (by kernel_rfl) hs61) ?_
 obtain ⟨r62,hr62,h⟩:=bindS h
 refine evs_callP [] (by kernel_rfl) (W.strings_Contains'_ok hr62) (by kernel_rfl) (.inl rfl) (by kernel_rfl) (z1 2 ⟨[(2,vB (!r62))],[]⟩ (zN fun τ hτ=>?_))
 obtain rfl:=osi h
 exact zV hτ [(2,vB (!r62))]
theorem W.nest_plain_ok {gauge : Int} {grain : Int} {r : Bool} (h : nest_plain gauge grain = some r) : PC G.P 50 [(vI gauge),(vI grain)] [] (vB r) []:=by
 refine zU G Tryz.func50 (zK ⟨[(0,vI gauge),(1,vI grain)],[]⟩ (z3 1 ⟨[(0,vI gauge),(1,vI grain)],[]⟩ ?_))
 refine zB ?_
 obtain ⟨j3,hj3,h⟩:=bindS h
 refine zT ⟨[(4,vB j3)],[]⟩ ?_ fun τ hτ=>?_
 replace h:=hj3
 refine zA 1 ?_
 obtain ⟨r4,hr4,h⟩:=bindS h
 refine evs_callP [] (by kernel_rfl) (W.nest_from_ok hr4) (by kernel_rfl) (.inl rfl) (by kernel_rfl) (zA 1 (zS r4 (fun b0=>⟨[(1,vI grain),(7,vB b0)],[]⟩) (fun hb=>?_) fun hb=>?_))
 replace h:=iteT hb h
 refine zA 1 ?_
 obtain ⟨r5,hr5,h⟩:=bindS h
 refine evs_callP [] (by kernel_rfl) (W.nest_from_ok hr5) (by kernel_rfl) (.inl rfl) (by kernel_rfl) (z6 2 fun τ hτ=>?_)
 obtain rfl:=osi h
 exact zG hτ
 replace h:=iteF hb h
 refine z6 4 fun τ hτ=>?_
 obtain rfl:=osi h
 exact zG hτ
 refine zE hτ ⟨[(4,vB j3)],[]⟩ (zN fun τ hτ=>?_)
 obtain rfl:=osi h
 exact zV hτ [(4,vB j3)]
theorem W.nest_valid_ok {l : (List Rect)} {r : Bool} (h : nest_valid l = some r) : PC G.P 52 [(.sl (List.map c_Rect l))] [] (vB r) []:=by
 refine zU G Tryz.func52 (zK ⟨[(0,s_Rect l)],[]⟩ (z3 1 ⟨[(0,s_Rect l)],[]⟩ ?_))
 refine zB (z7 (zA 1 ?_))
 refine evs_op (st_len (c:=c_Rect) (l:=l) (x:=(s_Rect l)) (by kernel_rfl) (by kernel_rfl)) (z1 1 ⟨[(5,s_Rect l),(6,vI (l.length : Int)),(7,vI 0)],[]⟩ (zC ?_))
 obtain ⟨x56,hx56,h⟩:=bindS h
 refine sem_loopS (fun (s39 : Int)=>⟨[(5,s_Rect l),(6,vI (l.length : Int)),(7,vI s39)],[]⟩) (fun (x56 : Unit ⊕ Unit)=>match x56 with | .inl j57=>(.ret,⟨[(2,vB false)],[]⟩) | .inr j58=>(.exit 0,⟨[],[]⟩)) (nest_valid_l1 l) 0 x56 (by kernel_rfl) (here (by kernel_rfl)) hx56 ?_ ?_ ?_
 intro s39 r h
 refine z3 1 ⟨[(5,s_Rect l),(6,vI (l.length : Int)),(7,vI s39),(8,vB (decide (s39 < (l.length : Int))))],[]⟩ (zB (zI (decide (s39 < (l.length : Int))) (fun hb=>?_) fun hb=>?_))
 replace h:=iteT hb h
 refine z4 ⟨[(5,s_Rect l),(6,vI (l.length : Int)),(7,vI s39)],[]⟩ (zB (zC ?_))
 refine z7 ?_
 obtain ⟨x53,hx53,h⟩:=bindS h
 refine evs_op (st_idx (c:=c_Rect) (l:=l) (i:=s39) (kd:=.i64) (sz:=4) (by kernel_rfl) hx53 rfl) (z1 3 ⟨[(4,.ptr 4 0),(5,s_Rect l),(6,vI (l.length : Int)),(7,vI s39)],[(4,.box (c_Rect x53))]⟩ (z7 ?_))
 refine zA 1 ?_
 obtain ⟨r55,hr55,h⟩:=bindS h
 refine evs_callP [] (by kernel_rfl) (W.geom_ValidRect_ok hr55) (by kernel_rfl) (.inl rfl) (by kernel_rfl) (z1 1 ⟨[(5,s_Rect l),(6,vI (l.length : Int)),(7,vI s39),(13,vB (!r55))],[]⟩ (zI (!r55) (fun hb=>?_) fun hb=>?_))
 replace h:=iteT hb h
 refine z8 1 ⟨[(2,vB false)],[]⟩ fun τ hτ=>?_
 refine bl_ret (th_ret ?_)
 obtain rfl:=osi h
 exact zF hτ
 replace h:=iteF hb h
 refine zM fun τ hτ=>?_
 refine bl_normal (zE hτ ⟨[(5,s_Rect l),(6,vI (l.length : Int)),(7,vI s39)],[]⟩ (zD ?_))
 refine z6 2 fun τ hτ=>?_
 obtain rfl:=osi h
 exact zH hτ
 replace h:=iteF hb h
 refine zL 0 fun τ hτ=>?_
 refine th_exit ?_
 obtain rfl:=osi h
 exact zF hτ
 intro x
 rcases x with _ | _ <;> rfl
 intro τ hτ
 rcases x56 with j57 | j58
 refine bl_ret (th_ret ?_)
 obtain rfl:=osi h
 exact zV hτ [(2,vB false)]
 refine zQ (zE hτ ⟨[],[]⟩ (z8 1 ⟨[(2,vB true)],[]⟩ fun τ hτ=>?_))
 obtain rfl:=osi h
 exact zV hτ [(2,vB true)]
theorem W.nest_touch_ok {a : Rect} {b : Rect} {r : Bool} (h : nest_touch a b = some r) : PC G.P 96 [(.agg (c_Rect a)),(.agg (c_Rect b))] [] (vB r) []:=by
 refine zU G Tryz.func96 (zK ⟨[(0,.agg (c_Rect a)),(1,.agg (c_Rect b))],[]⟩ (z3 3 ⟨[(2,.ptr 2 0),(3,.ptr 3 0)],[(2,.box (c_Rect a)),(3,.box (c_Rect b))]⟩ ?_))
 refine z3 18 ⟨[(2,.ptr 2 0),(3,.ptr 3 0),(5,vI (isub (imin (iadd a.X a.W) (iadd b.X b.W)) (imax a.X b.X)))],[(2,.box (c_Rect a)),(3,.box (c_Rect b))]⟩ (z3 18 ⟨[(5,vI (isub (imin (iadd a.X a.W) (iadd b.X b.W)) (imax a.X b.X))),(6,vI (isub (imin (iadd a.Y a.H) (iadd b.Y b.H)) (imax a.Y b.Y)))],[]⟩ (zB ?_))
 obtain ⟨j1,hj1,h⟩:=bindS h
 refine zT ⟨[(4,vB j1)],[]⟩ ?_ fun τ hτ=>?_
 replace h:=hj1
 refine zA 3 (zS ((isub (imin (iadd a.X a.W) (iadd b.X b.W)) (imax a.X b.X)) == 0) (fun b0=>⟨[(5,vI (isub (imin (iadd a.X a.W) (iadd b.X b.W)) (imax a.X b.X))),(6,vI (isub (imin (iadd a.Y a.H) (iadd b.Y b.H)) (imax a.Y b.Y))),(43,vB b0)],[]⟩) (fun hb=>?_) fun hb=>?_)
 replace h:=iteT hb h
 refine zA 4 (zS (decide ((isub (imin (iadd a.Y a.H) (iadd b.Y b.H)) (imax a.Y b.Y)) > 0)) (fun b0=>⟨[(5,vI (isub (imin (iadd a.X a.W) (iadd b.X b.W)) (imax a.X b.X))),(6,vI (isub (imin (iadd a.Y a.H) (iadd b.Y b.H)) (imax a.Y b.Y))),(47,vB b0)],[]⟩) (fun hb=>?_) fun hb=>?_)
 replace h:=iteT hb h
 refine z6 8 fun τ hτ=>?_
 obtain rfl:=osi h
 exact zG hτ
 replace h:=iteF hb h
 refine zA 3 (zS ((isub (imin (iadd a.Y a.H) (iadd b.Y b.H)) (imax a.Y b.Y)) == 0) (fun b0=>⟨[(5,vI (isub (imin (iadd a.X a.W) (iadd b.X b.W)) (imax a.X b.X))),(47,vB false),(50,vB b0)],[]⟩) (fun hb=>?_) fun hb=>?_)
 replace h:=iteT hb h
 refine z6 5 fun τ hτ=>?_
 obtain rfl:=osi h
 exact zG hτ
 replace h:=iteF hb h
 refine z6 5 fun τ hτ=>?_
 obtain rfl:=osi h
 exact zG hτ
 replace h:=iteF hb h
 refine zA 7 (zS ((isub (imin (iadd a.Y a.H) (iadd b.Y b.H)) (imax a.Y b.Y)) == 0) (fun b0=>⟨[(5,vI (isub (imin (iadd a.X a.W) (iadd b.X b.W)) (imax a.X b.X))),(47,vB false),(50,vB b0)],[]⟩) (fun hb=>?_) fun hb=>?_)
 replace h:=iteT hb h
 refine z6 5 fun τ hτ=>?_
 obtain rfl:=osi h
 exact zG hτ
 replace h:=iteF hb h
 refine z6 5 fun τ hτ=>?_
 obtain rfl:=osi h
 exact zG hτ
 refine zE hτ ⟨[(4,vB j1)],[]⟩ (zN fun τ hτ=>?_)
 obtain rfl:=osi h
 exact zV hτ [(4,vB j1)]
theorem W.nest_connected_ok {l : (List Rect)} {r : Bool} (h : nest_connected l = some r) : PC G.P 59 [(.sl (List.map c_Rect l))] [] (vB r) []:=by
 refine zU G Tryz.func59 (zK ⟨[(0,s_Rect l)],[]⟩ (z3 1 ⟨[(0,s_Rect l)],[]⟩ ?_))
 refine z7 (zA 1 (evs_op (st_len (c:=c_Rect) (l:=l) (x:=(s_Rect l)) (by kernel_rfl) (by kernel_rfl)) ?_))
 obtain ⟨l2,hl2,h⟩:=bindS h
 refine evs_op (st_mk (c:=cB) (z:=false) (n:=(l.length : Int)) (e:=4) (d:=11) (zs:=[(vB false)]) (k1:=.i64) (k2:=.i64) (by kernel_rfl) rfl hl2) (z1 1 ⟨[(0,s_Rect l),(3,ro 11 4)],[(11,wB 4 l2)]⟩ (z7 ?_))
 refine zA 1 ?_
 obtain ⟨x4,hx4,h⟩:=bindS h
 refine evs_op (st_idxO (c:=cB) (l:=l2) (i:=0) (kd:=.i64) (kk:=(.top 11)) (e:=4) (sz:=1) (by kernel_rfl) (by kernel_rfl) hx4 rfl) (evs_op (st_stO (c:=cB) (l:=l2) (i:=(Int.toNat 0)) (x:=x4) (x':=true) (v:=(vB true)) (agg:=false) (sz:=1) (kk:=(.top 11)) (e:=4) (off:=0) (J:=[]) (o:=wB 4 (List.set l2 (Int.toNat 0) true)) (by kernel_rfl) (by kernel_rfl) (by kernel_rfl) ((idxS hx4).2) (by kernel_rfl) (by kernel_rfl) (by kernel_rfl)) (zP fun τ hτ=>?_))
 refine zE hτ ⟨[(0,s_Rect l),(3,ro 11 4)],[(11,wB 4 (List.set l2 (Int.toNat 0) true))]⟩ (z7 (evs_at (at_build (e:=3) (d:=14) (es:=(List.map cI [0])) (by kernel_rfl)) ?_))
 refine evs_toTl (g:=14) (e:=3) (l:=[0]) (by kernel_rfl) (by kernel_rfl) (by kernel_rfl) (z1 1 ⟨[(0,s_Rect l),(3,ro 11 4),(4,ro 14 3)],[(11,wB 4 (List.set l2 (Int.toNat 0) true)),(14,.tl 3 [0])]⟩ (zB ?_))
 refine zC ?_
 obtain ⟨x670,hx670,h⟩:=bindS h
 refine sem_loopS (fun (s449 : (List Bool) × (List Int))=>⟨[(0,s_Rect l),(3,ro 500000 4),(4,ro 500001 3)],[(500000,wB 4 s449.1),(500001,.tl 3 s449.2)]⟩) (fun (x670 : (List Bool))=>(.exit 0,⟨[(3,ro 500000 4)],[(500000,wB 4 x670)]⟩)) (nest_connected_l3 l) ((List.set l2 (Int.toNat 0) true),[0]) x670 (by kernel_rfl) (subR_prep [] [(11,500000),(14,500001)] (by kernel_rfl) rfl rfl (by kernel_rfl)) hx670 ?_ ?_ ?_
 intro s449 r h
 refine zB (z7 (zA 1 ?_))
 refine evs_at (at_lenT (g:=500001) (e:=3) (l:=s449.2) (by kernel_rfl) (by kernel_rfl)) (z1 1 ⟨[(0,s_Rect l),(3,ro 500000 4),(4,ro 500001 3),(17,vB (decide ((s449.2.length : Int) > 0)))],[(500000,wB 4 s449.1),(500001,.tl 3 s449.2)]⟩ (zI (decide ((s449.2.length : Int) > 0)) (fun hb=>?_) fun hb=>?_))
 replace h:=iteT hb h
 refine z4 ⟨[(0,s_Rect l),(3,ro 500000 4),(4,ro 500001 3)],[(500000,wB 4 s449.1),(500001,.tl 3 s449.2)]⟩ (zC (z7 ?_))
 refine zA 1 ?_
 obtain ⟨x561,hx561,h⟩:=bindS h
 refine evs_getT (g:=500001) (e:=3) (d1:=19) (d2:=20) (l:=s449.2) (i:=0) (kd:=.i64) (by kernel_rfl) (by kernel_rfl) (by kernel_rfl) hx561 (z1 1 ⟨[(0,s_Rect l),(3,ro 500000 4),(4,ro 500001 3),(5,vI x561)],[(500000,wB 4 s449.1),(500001,.tl 3 s449.2)]⟩ (z7 ?_))
 refine zA 1 ?_
 obtain ⟨hb1,h⟩:=iteN h
 refine evs_at (at_dropT (g:=500001) (e:=3) (n:=1) (kd:=.i64) (l:=s449.2) (by kernel_rfl) (by kernel_rfl) (by kernel_rfl) hb1) (z1 1 ⟨[(0,s_Rect l),(3,ro 500000 4),(4,ro 500001 3),(5,vI x561)],[(500000,wB 4 s449.1),(500001,.tl 3 (List.drop 1 s449.2))]⟩ (z7 ?_))
 refine zA 1 (evs_op (st_len (c:=c_Rect) (l:=l) (x:=(s_Rect l)) (by kernel_rfl) (by kernel_rfl)) (z1 1 ⟨[(0,s_Rect l),(3,ro 500000 4),(4,ro 500001 3),(5,vI x561),(24,vI (l.length : Int)),(25,vI 0)],[(500000,wB 4 s449.1),(500001,.tl 3 (List.drop 1 s449.2))]⟩ ?_))
 refine zC ?_
 obtain ⟨x669,hx669,h⟩:=bindS h
 refine sem_loopS (fun (s598 : Int × (List Bool) × (List Int))=>⟨[(0,s_Rect l),(3,ro 500000 4),(4,ro 500001 3),(5,vI x561),(24,vI (l.length : Int)),(25,vI s598.1)],[(500000,wB 4 s598.2.1),(500001,.tl 3 s598.2.2)]⟩) (fun (x669 : (List Bool) × (List Int))=>(.exit 2,⟨[(0,s_Rect l),(3,ro 500000 4),(4,ro 500001 3)],[(500000,wB 4 x669.1),(500001,.tl 3 x669.2)]⟩)) (nest_connected_l2 l x561) (0,s449.1,(List.drop 1 s449.2)) x669 (by kernel_rfl) (here (by kernel_rfl)) hx669 ?_ ?_ ?_
 intro s598 r h
 refine z3 1 ⟨[(0,s_Rect l),(3,ro 500000 4),(4,ro 500001 3),(5,vI x561),(24,vI (l.length : Int)),(25,vI s598.1),(26,vB (decide (s598.1 < (l.length : Int))))],[(500000,wB 4 s598.2.1),(500001,.tl 3 s598.2.2)]⟩ (zB (zI (decide (s598.1 < (l.length : Int))) (fun hb=>?_) fun hb=>?_))
 replace h:=iteT hb h
 refine z4 ⟨[(0,s_Rect l),(3,ro 500000 4),(4,ro 500001 3),(5,vI x561),(24,vI (l.length : Int)),(25,vI s598.1)],[(500000,wB 4 s598.2.1),(500001,.tl 3 s598.2.2)]⟩ (sem_seqJ (fun (j651 : (List Bool) × (List Int))=>⟨[(0,s_Rect l),(3,ro 500000 4),(4,ro 500001 3),(5,vI x561),(24,vI (l.length : Int)),(25,vI s598.1)],[(500000,wB 4 j651.1),(500001,.tl 3 j651.2)]⟩) (nest_connected_k1 s598) r (by kernel_rfl) (fun j651 h=>?_) ?_)
 refine zD (z6 2 fun τ hτ=>?_)
 obtain rfl:=osi h
 exact zH hτ
 refine zC (z3 2 ⟨[(0,s_Rect l),(3,ro 500000 4),(4,ro 500001 3),(5,vI x561),(6,vI s598.1),(24,vI (l.length : Int)),(25,vI s598.1)],[(500000,wB 4 s598.2.1),(500001,.tl 3 s598.2.2)]⟩ (zB ?_))
 obtain ⟨j660,hj660,h⟩:=bindS h
 refine sem_drawP ⟨[(0,s_Rect l),(3,ro 500000 4),(4,ro 500001 3),(5,vI x561),(6,vI s598.1),(24,vI (l.length : Int)),(25,vI s598.1),(43,vB j660)],[(500000,wB 4 s598.2.1),(500001,.tl 3 s598.2.2)]⟩ [] [] [] [] [] 14 (by kernel_rfl) (by kernel_rfl) (by kernel_rfl) ?_ fun τ hτ=>?_
 replace h:=hj660
 refine evd_run 2 (by kernel_rfl) ?_
 obtain ⟨x661,hx661,h⟩:=bindS h
 refine evd_val (by kernel_rfl) (st_idxO (c:=cB) (l:=s598.2.1) (i:=s598.1) (kd:=.i64) (kk:=(.top 500000)) (e:=4) (sz:=1) (by kernel_rfl) (by kernel_rfl) hx661 rfl) (by kernel_rfl) (by kernel_rfl) (evd_val (by kernel_rfl) (st_ldO (c:=cB) (l:=s598.2.1) (i:=(Int.toNat s598.1)) (v:=(vB x661)) (agg:=false) (sz:=1) (kk:=(.top 500000)) (e:=4) (off:=0) (J:=[]) (by kernel_rfl) (by kernel_rfl) (by kernel_rfl) ((idxS hx661).2) (by kernel_rfl)) (by kernel_rfl) (by kernel_rfl) (evd_run 2 (by kernel_rfl) ?_))
 refine evd_split x661 (fun b0=>⟨[(33,vB (!b0)),(32,vB (!b0)),(31,vB b0),(30,.rptr (.top 500000) 4 (Int.toNat s598.1) 0),(29,vI s598.1),(28,ro 500000 4),(0,s_Rect l),(3,ro 500000 4),(4,ro 500001 3),(5,vI x561),(6,vI s598.1),(24,vI (l.length : Int)),(25,vI s598.1)],[(500000,wB 4 s598.2.1),(500001,.tl 3 s598.2.2)]⟩) (by kernel_rfl) (fun hb=>?_) fun hb=>?_
 replace h:=iteT hb h
 refine evd_run 8 (by kernel_rfl) (evd_end (by kernel_rfl) (evo_run 2 (by kernel_rfl) ?_))
 refine zO fun τ hτ=>?_
 obtain rfl:=osi h
 exact zG hτ
 replace h:=iteF hb h
 refine evd_run 2 (by kernel_rfl) ?_
 obtain ⟨x662,hx662,h⟩:=bindS h
 refine evd_val (by kernel_rfl) (st_idx (c:=c_Rect) (l:=l) (i:=x561) (kd:=.i64) (sz:=4) (by kernel_rfl) hx662 rfl) (by kernel_rfl) (by kernel_rfl) (evd_run 3 (by kernel_rfl) ?_)
 obtain ⟨x663,hx663,h⟩:=bindS h
 refine evd_val (by kernel_rfl) (st_idx (c:=c_Rect) (l:=l) (i:=s598.1) (kd:=.i64) (sz:=4) (by kernel_rfl) hx663 rfl) (by kernel_rfl) (by kernel_rfl) (evd_run 1 (by kernel_rfl) (evd_end (by kernel_rfl) ?_))
 obtain ⟨r664,hr664,h⟩:=bindS h
 refine evo_callP [] (by kernel_rfl) (W.nest_touch_ok hr664) (by kernel_rfl) (.inl rfl) (by kernel_rfl) (evo_run 1 (by kernel_rfl) (zO fun τ hτ=>?_))
 obtain rfl:=osi h
 exact zG hτ
 refine zE hτ ⟨[(0,s_Rect l),(3,ro 500000 4),(4,ro 500001 3),(5,vI x561),(6,vI s598.1),(24,vI (l.length : Int)),(25,vI s598.1),(43,vB j660)],[(500000,wB 4 s598.2.1),(500001,.tl 3 s598.2.2)]⟩ (zI j660 (fun hb=>?_) fun hb=>?_)
 replace h:=iteT hb h
 refine z7 (zA 2 ?_)
 obtain ⟨x666,hx666,h⟩:=bindS h
 refine evs_op (st_idxO (c:=cB) (l:=s598.2.1) (i:=s598.1) (kd:=.i64) (kk:=(.top 500000)) (e:=4) (sz:=1) (by kernel_rfl) (by kernel_rfl) hx666 rfl) (evs_op (st_stO (c:=cB) (l:=s598.2.1) (i:=(Int.toNat s598.1)) (x:=x666) (x':=true) (v:=(vB true)) (agg:=false) (sz:=1) (kk:=(.top 500000)) (e:=4) (off:=0) (J:=[]) (o:=wB 4 (List.set s598.2.1 (Int.toNat s598.1) true)) (by kernel_rfl) (by kernel_rfl) (by kernel_rfl) ((idxS hx666).2) (by kernel_rfl) (by kernel_rfl) (by kernel_rfl)) (zP fun τ hτ=>?_))
 refine zE hτ ⟨[(0,s_Rect l),(3,ro 500000 4),(4,ro 500001 3),(5,vI x561),(6,vI s598.1),(24,vI (l.length : Int)),(25,vI s598.1)],[(500000,wB 4 (List.set s598.2.1 (Int.toNat s598.1) true)),(500001,.tl 3 s598.2.2)]⟩ (zD (zA 3 ?_))
 obtain ⟨l668,hl668,h⟩:=bindS h
 refine evs_at (at_appT (g:=500001) (e:=3) (l:=s598.2.2) (y:=s598.1) (x:=(sI [s598.1])) (by kernel_rfl) (by kernel_rfl) (by kernel_rfl) (by kernel_rfl) (by kernel_rfl) hl668) (z6 1 fun τ hτ=>?_)
 exact bl_normal (jk_normal ((List.set s598.2.1 (Int.toNat s598.1) true),l668) h hτ (here (by kernel_rfl)))
 replace h:=iteF hb h
 refine zM fun τ hτ=>?_
 exact bl_normal (jk_normal (s598.2.1,s598.2.2) h hτ (here (by kernel_rfl)))
 replace h:=iteF hb h
 refine zL 2 fun τ hτ=>?_
 refine th_exit ?_
 obtain rfl:=osi h
 exact zF hτ
 intro x
 rfl
 intro τ hτ
 refine zQ (bl_normal ?_)
 obtain rfl:=osi h
 exact zH hτ
 replace h:=iteF hb h
 refine zL 0 fun τ hτ=>?_
 refine th_exit ?_
 obtain rfl:=osi h
 exact zF hτ
 intro x
 rfl
 intro τ hτ
 refine zQ (zE hτ ⟨[(3,ro 500000 4)],[(500000,wB 4 x670)]⟩ (zB ?_))
 refine z7 (zA 1 (evs_op (st_len (c:=cB) (l:=x670) (x:=(ro 500000 4)) (by kernel_rfl) (by kernel_rfl)) ?_))
 refine z1 1 ⟨[(52,ro 500000 4),(53,vI (x670.length : Int)),(54,vI 0)],[(500000,wB 4 x670)]⟩ (zC ?_)
 obtain ⟨x702,hx702,h⟩:=bindS h
 refine sem_loopS (fun (s693 : Int)=>⟨[(52,ro 500000 4),(53,vI (x670.length : Int)),(54,vI s693)],[(500000,wB 4 x670)]⟩) (fun (x702 : Unit ⊕ Unit)=>match x702 with | .inl j703=>(.ret,⟨[(2,vB false)],[]⟩) | .inr j704=>(.exit 4,⟨[],[]⟩)) (nest_connected_l4 x670) 0 x702 (by kernel_rfl) (here (by kernel_rfl)) hx702 ?_ ?_ ?_
 intro s693 r h
 refine z3 1 ⟨[(52,ro 500000 4),(53,vI (x670.length : Int)),(54,vI s693),(55,vB (decide (s693 < (x670.length : Int))))],[(500000,wB 4 x670)]⟩ (zB (zI (decide (s693 < (x670.length : Int))) (fun hb=>?_) fun hb=>?_))
 replace h:=iteT hb h
 refine z4 ⟨[(52,ro 500000 4),(53,vI (x670.length : Int)),(54,vI s693)],[(500000,wB 4 x670)]⟩ (zB (zC ?_))
 refine z7 ?_
 obtain ⟨x701,hx701,h⟩:=bindS h
 refine evs_op (st_idxO (c:=cB) (l:=x670) (i:=s693) (kd:=.i64) (kk:=(.top 500000)) (e:=4) (sz:=1) (by kernel_rfl) (by kernel_rfl) hx701 rfl) (evs_op (st_ldO (c:=cB) (l:=x670) (i:=(Int.toNat s693)) (v:=(vB x701)) (agg:=false) (sz:=1) (kk:=(.top 500000)) (e:=4) (off:=0) (J:=[]) (by kernel_rfl) (by kernel_rfl) (by kernel_rfl) ((idxS hx701).2) (by kernel_rfl)) (z1 1 ⟨[(8,vB x701),(52,ro 500000 4),(53,vI (x670.length : Int)),(54,vI s693)],[(500000,wB 4 x670)]⟩ ?_))
 refine z3 2 ⟨[(52,ro 500000 4),(53,vI (x670.length : Int)),(54,vI s693),(59,vB (!x701))],[(500000,wB 4 x670)]⟩ (zI (!x701) (fun hb=>?_) fun hb=>?_)
 replace h:=iteT hb h
 refine z8 1 ⟨[(2,vB false)],[]⟩ fun τ hτ=>?_
 refine bl_ret (th_ret ?_)
 obtain rfl:=osi h
 exact zF hτ
 replace h:=iteF hb h
 refine zM fun τ hτ=>?_
 refine bl_normal (zE hτ ⟨[(52,ro 500000 4),(53,vI (x670.length : Int)),(54,vI s693)],[(500000,wB 4 x670)]⟩ (zD ?_))
 refine z6 2 fun τ hτ=>?_
 obtain rfl:=osi h
 exact zH hτ
 replace h:=iteF hb h
 refine zL 4 fun τ hτ=>?_
 refine th_exit ?_
 obtain rfl:=osi h
 exact zF hτ
 intro x
 rcases x with _ | _ <;> rfl
 intro τ hτ
 rcases x702 with j703 | j704
 refine bl_ret (th_ret ?_)
 obtain rfl:=osi h
 exact zV hτ [(2,vB false)]
 refine zQ (zE hτ ⟨[],[]⟩ (z8 1 ⟨[(2,vB true)],[]⟩ fun τ hτ=>?_))
 obtain rfl:=osi h
 exact zV hτ [(2,vB true)]
theorem W.nest_strictly_ok {h0 : Rect} {l : (List Rect)} {r : Bool} (h : nest_strictly h0 l = some r) : PC G.P 97 [(.agg (c_Rect h0)),(.sl (List.map c_Rect l))] [] (vB r) []:=by
 refine zU G Tryz.func97 (zK ⟨[(0,.agg (c_Rect h0)),(1,s_Rect l)],[]⟩ (z3 2 ⟨[(1,s_Rect l),(2,.ptr 2 0)],[(2,.box (c_Rect h0))]⟩ ?_))
 refine zB (z7 (zA 1 ?_))
 refine evs_op (st_len (c:=c_Rect) (l:=l) (x:=(s_Rect l)) (by kernel_rfl) (by kernel_rfl)) (z1 1 ⟨[(2,.ptr 2 0),(7,s_Rect l),(8,vI (l.length : Int)),(9,vI 0)],[(2,.box (c_Rect h0))]⟩ (zC ?_))
 obtain ⟨x44,hx44,h⟩:=bindS h
 refine sem_loopS (fun (s31 : Int)=>⟨[(2,.ptr 500000 0),(7,s_Rect l),(8,vI (l.length : Int)),(9,vI s31)],[(500000,.box (c_Rect h0))]⟩) (fun (x44 : Unit ⊕ Unit)=>match x44 with | .inl j45=>(.ret,⟨[(4,vB true)],[]⟩) | .inr j46=>(.exit 0,⟨[],[]⟩)) (nest_strictly_l1 h0 l) 0 x44 (by kernel_rfl) (subR_prep [] [(2,500000)] (by kernel_rfl) rfl rfl (by kernel_rfl)) hx44 ?_ ?_ ?_
 intro s31 r h
 refine z3 1 ⟨[(2,.ptr 500000 0),(7,s_Rect l),(8,vI (l.length : Int)),(9,vI s31),(10,vB (decide (s31 < (l.length : Int))))],[(500000,.box (c_Rect h0))]⟩ (zB (zI (decide (s31 < (l.length : Int))) (fun hb=>?_) fun hb=>?_))
 replace h:=iteT hb h
 refine z4 ⟨[(2,.ptr 500000 0),(7,s_Rect l),(8,vI (l.length : Int)),(9,vI s31)],[(500000,.box (c_Rect h0))]⟩ (zB (zC ?_))
 refine z7 ?_
 obtain ⟨x42,hx42,h⟩:=bindS h
 refine evs_op (st_idx (c:=c_Rect) (l:=l) (i:=s31) (kd:=.i64) (sz:=4) (by kernel_rfl) hx42 rfl) (z1 3 ⟨[(2,.ptr 500000 0),(6,.ptr 6 0),(7,s_Rect l),(8,vI (l.length : Int)),(9,vI s31)],[(6,.box (c_Rect x42)),(500000,.box (c_Rect h0))]⟩ (zB ?_))
 obtain ⟨j43,hj43,h⟩:=bindS h
 refine zT ⟨[(2,.ptr 500000 0),(7,s_Rect l),(8,vI (l.length : Int)),(9,vI s31),(50,vB j43)],[(500000,.box (c_Rect h0))]⟩ ?_ fun τ hτ=>?_
 replace h:=hj43
 refine zA 6 (zS (decide (h0.X > x42.X)) (fun b0=>⟨[(2,.ptr 500000 0),(6,.ptr 6 0),(7,s_Rect l),(8,vI (l.length : Int)),(9,vI s31),(18,vB b0)],[(6,.box (c_Rect x42)),(500000,.box (c_Rect h0))]⟩) (fun hb=>?_) fun hb=>?_)
 replace h:=iteT hb h
 refine zA 7 (zS (decide (h0.Y > x42.Y)) (fun b0=>⟨[(2,.ptr 500000 0),(6,.ptr 6 0),(7,s_Rect l),(8,vI (l.length : Int)),(9,vI s31),(25,vB b0)],[(6,.box (c_Rect x42)),(500000,.box (c_Rect h0))]⟩) (fun hb=>?_) fun hb=>?_)
 replace h:=iteT hb h
 refine zA 13 (zS (decide ((iadd h0.X h0.W) < (iadd x42.X x42.W))) (fun b0=>⟨[(2,.ptr 500000 0),(6,.ptr 6 0),(7,s_Rect l),(8,vI (l.length : Int)),(9,vI s31),(38,vB b0)],[(6,.box (c_Rect x42)),(500000,.box (c_Rect h0))]⟩) (fun hb=>?_) fun hb=>?_)
 replace h:=iteT hb h
 refine z6 12 fun τ hτ=>?_
 obtain rfl:=osi h
 exact zG hτ
 replace h:=iteF hb h
 refine z6 12 fun τ hτ=>?_
 obtain rfl:=osi h
 exact zG hτ
 replace h:=iteF hb h
 refine z6 25 fun τ hτ=>?_
 obtain rfl:=osi h
 exact zG hτ
 replace h:=iteF hb h
 refine z6 32 fun τ hτ=>?_
 obtain rfl:=osi h
 exact zG hτ
 refine zE hτ ⟨[(2,.ptr 500000 0),(7,s_Rect l),(8,vI (l.length : Int)),(9,vI s31),(50,vB j43)],[(500000,.box (c_Rect h0))]⟩ (zI j43 (fun hb=>?_) fun hb=>?_)
 replace h:=iteT hb h
 refine z8 1 ⟨[(4,vB true)],[]⟩ fun τ hτ=>?_
 refine bl_ret (th_ret ?_)
 obtain rfl:=osi h
 exact zF hτ
 replace h:=iteF hb h
 refine zM fun τ hτ=>?_
 refine bl_normal (zE hτ ⟨[(2,.ptr 500000 0),(7,s_Rect l),(8,vI (l.length : Int)),(9,vI s31)],[(500000,.box (c_Rect h0))]⟩ (zD ?_))
 refine z6 2 fun τ hτ=>?_
 obtain rfl:=osi h
 exact zH hτ
 replace h:=iteF hb h
 refine zL 0 fun τ hτ=>?_
 refine th_exit ?_
 obtain rfl:=osi h
 exact zF hτ
 intro x
 rcases x with _ | _ <;> rfl
 intro τ hτ
 rcases x44 with j45 | j46
 refine bl_ret (th_ret ?_)
 obtain rfl:=osi h
 exact zV hτ [(4,vB true)]
 refine zQ (zE hτ ⟨[],[]⟩ (z8 1 ⟨[(4,vB false)],[]⟩ fun τ hτ=>?_))
 obtain rfl:=osi h
 exact zV hτ [(4,vB false)]
end Go.Proofs.YtonmponhpfpokaaGreatR
