/- Each Go function does what its model says; written by a program out of the translation. -/
import Derived.Test.YtonmponhpfpokaaGreatRWT1
import Derived.Test.YtonmponhpfpokaaGreatRNeMT
set_option linter.unusedVariables false
set_option linter.unusedSimpArgs false
set_option linter.unusedSectionVars false
namespace Go.Proofs.YtonmponhpfpokaaGreatR
open Go Go.VI Go.SM Go.Proofs
set_option maxRecDepth 100000
set_option maxHeartbeats 4000000
theorem W.nest_inside_ok {x0 : Piece} {r : Int} (h : nest_inside x0 = some r) : PC G.P 60 [(.agg (c_Piece x0))] [] (vI r) []:=by
 refine zU G Tryz.func60 (zK ⟨[(0,.agg (c_Piece x0))],[]⟩ (z3 2 ⟨[(1,.ptr 1 0)],[(1,.box (c_Piece x0))]⟩ ?_))
 refine zB (sem_draw [(2,[12])] [(2,[12])] [] [(3,[12]),(4,[12])] [(0,[12]),(1,[12]),(3,[12]),(4,[12])] 5 (by kernel_rfl) (by kernel_rfl) [12] (by kernel_rfl) (by kernel_rfl) (evd_run 2 (by kernel_rfl) ?_))
 obtain ⟨l5,hl5,h⟩:=bindS h
 refine evd_new (by kernel_rfl) (st_appN (c:=c_Rect) (l2:=x0.Cuts) (x:=(s_Rect x0.Cuts)) (e:=86) (sz:=4) (d:=12) (by kernel_rfl) (by kernel_rfl) (by kernel_rfl) (fun _=>rfl) hl5) (by kernel_rfl) (by kernel_rfl) (by kernel_rfl) (by kernel_rfl) (evd_run 2 (by kernel_rfl) (evd_end (by kernel_rfl) ?_))
 obtain ⟨l6,hl6,h⟩:=bindS h
 refine evo_op (st_app (c:=c_Rect) (l:=l5) (l2:=x0.Forms) (x:=(s_Rect x0.Forms)) (g:=12) (e:=86) (sz:=4) (d:=15) (by kernel_rfl) (by kernel_rfl) (by kernel_rfl) (by kernel_rfl) (fun _=>rfl) rfl hl6) (evo_run 1 (by kernel_rfl) (zO fun τ hτ=>?_))
 refine zE hτ ⟨[(1,.ptr 1 0),(3,ro 12 86)],[(1,.box (c_Piece x0)),(12,w_Rect 86 l6)]⟩ (zB (z7 ?_))
 refine zA 1 (evs_op (st_len (c:=c_Rect) (l:=l6) (x:=(ro 12 86)) (by kernel_rfl) (by kernel_rfl)) (z1 1 ⟨[(1,.ptr 1 0),(3,ro 12 86),(16,ro 12 86),(17,vI (l6.length : Int)),(18,vI 0)],[(1,.box (c_Piece x0)),(12,w_Rect 86 l6)]⟩ ?_))
 refine zC ?_
 obtain ⟨x98,hx98,h⟩:=bindS h
 refine sem_loopS (fun (s69 : Int)=>⟨[(1,.ptr 500000 0),(3,ro 500001 86),(16,ro 500001 86),(17,vI (l6.length : Int)),(18,vI s69)],[(500000,.box (c_Piece x0)),(500001,w_Rect 86 l6)]⟩) (fun (x98 : Unit ⊕ Unit)=>match x98 with | .inl j99=>(.ret,⟨[(2,vI 13)],[]⟩) | .inr j100=>(.exit 0,⟨[(3,ro 500000 86)],[(500000,w_Rect 86 l6)]⟩)) (nest_inside_l1 x0 l6) 0 x98 (by kernel_rfl) (subR_prep [] [(1,500000),(12,500001)] (by kernel_rfl) rfl rfl (by kernel_rfl)) hx98 ?_ ?_ ?_
 intro s69 r h
 refine z3 1 ⟨[(1,.ptr 500000 0),(3,ro 500001 86),(16,ro 500001 86),(17,vI (l6.length : Int)),(18,vI s69),(19,vB (decide (s69 < (l6.length : Int))))],[(500000,.box (c_Piece x0)),(500001,w_Rect 86 l6)]⟩ (zB (zI (decide (s69 < (l6.length : Int))) (fun hb=>?_) fun hb=>?_))
 replace h:=iteT hb h
 refine z4 ⟨[(1,.ptr 500000 0),(3,ro 500001 86),(16,ro 500001 86),(17,vI (l6.length : Int)),(18,vI s69)],[(500000,.box (c_Piece x0)),(500001,w_Rect 86 l6)]⟩ (zB (zC ?_))
 refine z7 (zA 1 ?_)
 obtain ⟨x92,hx92,h⟩:=bindS h
 refine evs_op (st_idxO (c:=c_Rect) (l:=l6) (i:=s69) (kd:=.i64) (kk:=(.top 500001)) (e:=86) (sz:=4) (by kernel_rfl) (by kernel_rfl) hx92 rfl) (evs_op (st_ldO (c:=c_Rect) (l:=l6) (i:=(Int.toNat s69)) (v:=(.agg (c_Rect x92))) (agg:=true) (sz:=4) (kk:=(.top 500001)) (e:=86) (off:=0) (J:=[]) (by kernel_rfl) (by kernel_rfl) (by kernel_rfl) ((idxS hx92).2) (by kernel_rfl)) (z1 3 ⟨[(1,.ptr 500000 0),(3,ro 500001 86),(4,vI s69),(5,.ptr 5 0),(16,ro 500001 86),(17,vI (l6.length : Int)),(18,vI s69)],[(5,.box (c_Rect x92)),(500000,.box (c_Piece x0)),(500001,w_Rect 86 l6)]⟩ ?_))
 refine zB ?_
 obtain ⟨j95,hj95,h⟩:=bindS h
 refine zT ⟨[(1,.ptr 500000 0),(3,ro 500001 86),(16,ro 500001 86),(17,vI (l6.length : Int)),(18,vI s69),(44,vB j95)],[(500000,.box (c_Piece x0)),(500001,w_Rect 86 l6)]⟩ ?_ fun τ hτ=>?_
 replace h:=hj95
 refine zA 3 (evs_op (st_len (c:=c_Rect) (l:=x0.Cuts) (x:=(s_Rect x0.Cuts)) (by kernel_rfl) (by kernel_rfl)) (zA 2 ?_))
 refine zS (decide (s69 < (x0.Cuts.length : Int))) (fun b0=>⟨[(1,.ptr 500000 0),(3,ro 500001 86),(5,.ptr 5 0),(16,ro 500001 86),(17,vI (l6.length : Int)),(18,vI s69),(28,vB b0)],[(5,.box (c_Rect x92)),(500000,.box (c_Piece x0)),(500001,w_Rect 86 l6)]⟩) (fun hb=>?_) fun hb=>?_
 replace h:=iteT hb h
 refine zA 4 (zS (x92.W == 1) (fun b0=>⟨[(1,.ptr 500000 0),(3,ro 500001 86),(5,.ptr 5 0),(16,ro 500001 86),(17,vI (l6.length : Int)),(18,vI s69),(28,vB true),(32,vB b0)],[(5,.box (c_Rect x92)),(500000,.box (c_Piece x0)),(500001,w_Rect 86 l6)]⟩) (fun hb=>?_) fun hb=>?_)
 replace h:=iteT hb h
 refine z6 12 fun τ hτ=>?_
 obtain rfl:=osi h
 exact zG hτ
 replace h:=iteF hb h
 refine zA 6 (zS (x92.H == 1) (fun b0=>⟨[(1,.ptr 500000 0),(3,ro 500001 86),(5,.ptr 5 0),(16,ro 500001 86),(17,vI (l6.length : Int)),(18,vI s69),(38,vB b0)],[(5,.box (c_Rect x92)),(500000,.box (c_Piece x0)),(500001,w_Rect 86 l6)]⟩) (fun hb=>?_) fun hb=>?_)
 replace h:=iteT hb h
 refine z6 6 fun τ hτ=>?_
 obtain rfl:=osi h
 exact zG hτ
 replace h:=iteF hb h
 refine zA 3 ?_
 obtain ⟨r96,hr96,h⟩:=bindS h
 refine evs_callP [] (by kernel_rfl) (W.nest_strictly_ok hr96) (by kernel_rfl) (.inl rfl) (by kernel_rfl) (z6 2 fun τ hτ=>?_)
 obtain rfl:=osi h
 exact zG hτ
 replace h:=iteF hb h
 refine zA 13 ?_
 obtain ⟨r97,hr97,h⟩:=bindS h
 refine evs_callP [] (by kernel_rfl) (W.nest_strictly_ok hr97) (by kernel_rfl) (.inl rfl) (by kernel_rfl) (z6 2 fun τ hτ=>?_)
 obtain rfl:=osi h
 exact zG hτ
 refine zE hτ ⟨[(1,.ptr 500000 0),(3,ro 500001 86),(16,ro 500001 86),(17,vI (l6.length : Int)),(18,vI s69),(44,vB j95)],[(500000,.box (c_Piece x0)),(500001,w_Rect 86 l6)]⟩ (zI j95 (fun hb=>?_) fun hb=>?_)
 replace h:=iteT hb h
 refine z8 1 ⟨[(2,vI 13)],[]⟩ fun τ hτ=>?_
 refine bl_ret (th_ret ?_)
 obtain rfl:=osi h
 exact zF hτ
 replace h:=iteF hb h
 refine zM fun τ hτ=>?_
 refine bl_normal (zE hτ ⟨[(1,.ptr 500000 0),(3,ro 500001 86),(16,ro 500001 86),(17,vI (l6.length : Int)),(18,vI s69)],[(500000,.box (c_Piece x0)),(500001,w_Rect 86 l6)]⟩ (zD ?_))
 refine z6 2 fun τ hτ=>?_
 obtain rfl:=osi h
 exact zH hτ
 replace h:=iteF hb h
 refine zL 0 fun τ hτ=>?_
 refine th_exit ?_
 obtain rfl:=osi h
 exact lk_outS hτ rfl (subR_prep [] [(500001,500000)] (by kernel_rfl) rfl rfl (by kernel_rfl))
 intro x
 rcases x with _ | _ <;> rfl
 intro τ hτ
 rcases x98 with j99 | j100
 refine bl_ret (th_ret ?_)
 obtain rfl:=osi h
 exact zV hτ [(2,vI 13)]
 refine zQ (zE hτ ⟨[(3,ro 500000 86)],[(500000,w_Rect 86 l6)]⟩ (zB ?_))
 refine z7 (zA 1 (evs_op (st_len (c:=c_Rect) (l:=l6) (x:=(ro 500000 86)) (by kernel_rfl) (by kernel_rfl)) ?_))
 refine z1 1 ⟨[(3,ro 500000 86),(46,ro 500000 86),(47,vI (l6.length : Int)),(48,vI 0)],[(500000,w_Rect 86 l6)]⟩ (zC ?_)
 obtain ⟨x504,hx504,h⟩:=bindS h
 refine sem_loopS (fun (s371 : Int)=>⟨[(3,s_Rect l6),(46,s_Rect l6),(47,vI (l6.length : Int)),(48,vI s371)],[]⟩) (fun (x504 : Unit ⊕ Unit)=>match x504 with | .inl j505=>(.ret,⟨[(2,vI 7)],[]⟩) | .inr j506=>(.exit 2,⟨[],[]⟩)) (nest_inside_l3 l6) 0 x504 (by kernel_rfl) (subR_prep [.frz 500000] [] (by kernel_rfl) rfl rfl (by kernel_rfl)) hx504 ?_ ?_ ?_
 intro s371 r h
 refine z3 1 ⟨[(3,s_Rect l6),(46,s_Rect l6),(47,vI (l6.length : Int)),(48,vI s371),(49,vB (decide (s371 < (l6.length : Int))))],[]⟩ (zB (zI (decide (s371 < (l6.length : Int))) (fun hb=>?_) fun hb=>?_))
 replace h:=iteT hb h
 refine z4 ⟨[(3,s_Rect l6),(46,s_Rect l6),(47,vI (l6.length : Int)),(48,vI s371)],[]⟩ (zB (zC ?_))
 refine z7 (zA 1 ?_)
 obtain ⟨x472,hx472,h⟩:=bindS h
 refine evs_op (st_idx (c:=c_Rect) (l:=l6) (i:=s371) (kd:=.i64) (sz:=4) (by kernel_rfl) hx472 rfl) (z1 4 ⟨[(3,s_Rect l6),(6,vI s371),(7,.ptr 7 0),(46,s_Rect l6),(47,vI (l6.length : Int)),(48,vI s371)],[(7,.box (c_Rect x472))]⟩ (z7 ?_))
 refine zA 2 ?_
 obtain ⟨l474,hl474,h⟩:=bindS h
 refine evs_op (st_slH (c:=c_Rect) (l:=l6) (sz:=4) (hi:=s371) (k2:=.i64) (by kernel_rfl) hl474) (evs_op (st_len (c:=c_Rect) (l:=l474) (x:=(s_Rect l474)) (by kernel_rfl) (by kernel_rfl)) (z1 1 ⟨[(3,s_Rect l6),(7,.ptr 7 0),(46,s_Rect l6),(47,vI (l6.length : Int)),(48,vI s371),(55,s_Rect l474),(56,vI (l474.length : Int)),(57,vI 0)],[(7,.box (c_Rect x472))]⟩ ?_))
 refine zC ?_
 obtain ⟨x501,hx501,h⟩:=bindS h
 refine sem_loopS (fun (s484 : Int)=>⟨[(3,s_Rect l6),(7,.ptr 500000 0),(46,s_Rect l6),(47,vI (l6.length : Int)),(48,vI s371),(55,s_Rect l474),(56,vI (l474.length : Int)),(57,vI s484)],[(500000,.box (c_Rect x472))]⟩) (fun (x501 : Unit ⊕ Unit)=>match x501 with | .inl j502=>(.ret,⟨[(2,vI 7)],[]⟩) | .inr j503=>(.exit 4,⟨[(3,s_Rect l6),(46,s_Rect l6),(47,vI (l6.length : Int)),(48,vI s371)],[]⟩)) (nest_inside_l2 x472 l474) 0 x501 (by kernel_rfl) (subR_prep [] [(7,500000)] (by kernel_rfl) rfl rfl (by kernel_rfl)) hx501 ?_ ?_ ?_
 intro s484 r h
 refine z3 1 ⟨[(3,s_Rect l6),(7,.ptr 500000 0),(46,s_Rect l6),(47,vI (l6.length : Int)),(48,vI s371),(55,s_Rect l474),(56,vI (l474.length : Int)),(57,vI s484),(58,vB (decide (s484 < (l474.length : Int))))],[(500000,.box (c_Rect x472))]⟩ (zB (zI (decide (s484 < (l474.length : Int))) (fun hb=>?_) fun hb=>?_))
 replace h:=iteT hb h
 refine z4 ⟨[(3,s_Rect l6),(7,.ptr 500000 0),(46,s_Rect l6),(47,vI (l6.length : Int)),(48,vI s371),(55,s_Rect l474),(56,vI (l474.length : Int)),(57,vI s484)],[(500000,.box (c_Rect x472))]⟩ (zB (zC ?_))
 refine z7 ?_
 obtain ⟨x498,hx498,h⟩:=bindS h
 refine evs_op (st_idx (c:=c_Rect) (l:=l474) (i:=s484) (kd:=.i64) (sz:=4) (by kernel_rfl) hx498 rfl) (z1 3 ⟨[(3,s_Rect l6),(7,.ptr 500000 0),(9,.ptr 9 0),(46,s_Rect l6),(47,vI (l6.length : Int)),(48,vI s371),(55,s_Rect l474),(56,vI (l474.length : Int)),(57,vI s484)],[(9,.box (c_Rect x498)),(500000,.box (c_Rect x472))]⟩ (z7 ?_))
 refine zA 2 ?_
 obtain ⟨r500,hr500,h⟩:=bindS h
 refine evs_callP [] (by kernel_rfl) (W.geom_Distance_ok hr500) (by kernel_rfl) (.inl rfl) (by kernel_rfl) (z1 1 ⟨[(3,s_Rect l6),(7,.ptr 500000 0),(46,s_Rect l6),(47,vI (l6.length : Int)),(48,vI s371),(55,s_Rect l474),(56,vI (l474.length : Int)),(57,vI s484),(64,vB (r500 == 0))],[(500000,.box (c_Rect x472))]⟩ (zI (r500 == 0) (fun hb=>?_) fun hb=>?_))
 replace h:=iteT hb h
 refine z8 1 ⟨[(2,vI 7)],[]⟩ fun τ hτ=>?_
 refine bl_ret (th_ret ?_)
 obtain rfl:=osi h
 exact zF hτ
 replace h:=iteF hb h
 refine zM fun τ hτ=>?_
 refine bl_normal (zE hτ ⟨[(3,s_Rect l6),(7,.ptr 500000 0),(46,s_Rect l6),(47,vI (l6.length : Int)),(48,vI s371),(55,s_Rect l474),(56,vI (l474.length : Int)),(57,vI s484)],[(500000,.box (c_Rect x472))]⟩ (zD ?_))
 refine z6 2 fun τ hτ=>?_
 obtain rfl:=osi h
 exact zH hτ
 replace h:=iteF hb h
 refine zL 4 fun τ hτ=>?_
 refine th_exit ?_
 obtain rfl:=osi h
 exact zF hτ
 intro x
 rcases x with _ | _ <;> rfl
 intro τ hτ
 rcases x501 with j502 | j503
 refine bl_ret (bl_ret (th_ret ?_))
 obtain rfl:=osi h
 exact zF hτ
 refine zQ (bl_normal (zE hτ ⟨[(3,s_Rect l6),(46,s_Rect l6),(47,vI (l6.length : Int)),(48,vI s371)],[]⟩ ?_))
 refine zD (z6 2 fun τ hτ=>?_)
 obtain rfl:=osi h
 exact zH hτ
 replace h:=iteF hb h
 refine zL 2 fun τ hτ=>?_
 refine th_exit ?_
 obtain rfl:=osi h
 exact zF hτ
 intro x
 rcases x with _ | _ <;> rfl
 intro τ hτ
 rcases x504 with j505 | j506
 refine bl_ret (th_ret ?_)
 obtain rfl:=osi h
 exact zV hτ [(2,vI 7)]
 refine zQ (zE hτ ⟨[],[]⟩ (z8 1 ⟨[(2,vI 0)],[]⟩ fun τ hτ=>?_))
 obtain rfl:=osi h
 exact zV hτ [(2,vI 0)]
theorem W.nest_ValidatePiece_ok {x0 : Piece} {r : Int} (h : nest_ValidatePiece x0 = some r) : PC G.P 17 [(.agg (c_Piece x0))] [] (vI r) []:=by
 refine zU G Tryz.func17 (zK ⟨[(0,.agg (c_Piece x0))],[]⟩ (z3 2 ⟨[(1,.ptr 1 0)],[(1,.box (c_Piece x0))]⟩ ?_))
 refine zB (zC (zB ?_))
 obtain ⟨j18,hj18,h⟩:=bindS h
 refine zT ⟨[(1,.ptr 500000 0),(11,vB j18)],[(500000,.box (c_Piece x0))]⟩ ?_ fun τ hτ=>?_
 replace h:=hj18
 refine zA 2 ?_
 obtain ⟨r19,hr19,h⟩:=bindS h
 refine evs_callP [] (by kernel_rfl) (W.part_ValidName_ok hr19) (by kernel_rfl) (.inl rfl) (by kernel_rfl) (zA 2 (zS r19 (fun b0=>⟨[(1,.ptr 1 0),(16,vB (!b0))],[(1,.box (c_Piece x0))]⟩) (fun hb=>?_) fun hb=>?_))
 replace h:=iteT hb h
 refine zA 2 ?_
 obtain ⟨r20,hr20,h⟩:=bindS h
 refine evs_callP [] (by kernel_rfl) (W.part_ValidName_ok hr20) (by kernel_rfl) (.inl rfl) (by kernel_rfl) (z6 3 fun τ hτ=>?_)
 obtain rfl:=osi h
 exact leafC hτ (subR_prep [] [(1,500000)] (by kernel_rfl) rfl rfl (by kernel_rfl))
 replace h:=iteF hb h
 refine z6 6 fun τ hτ=>?_
 obtain rfl:=osi h
 exact leafC hτ (subR_prep [] [(1,500000)] (by kernel_rfl) rfl rfl (by kernel_rfl))
 refine zE hτ ⟨[(1,.ptr 500000 0),(11,vB j18)],[(500000,.box (c_Piece x0))]⟩ (zI j18 (fun hb=>?_) fun hb=>?_)
 replace h:=iteT hb h
 refine z8 1 ⟨[(2,vI 2)],[]⟩ fun τ hτ=>?_
 refine bl_ret (th_ret ?_)
 obtain rfl:=osi h
 exact zV hτ [(2,vI 2)]
 replace h:=iteF hb h
 refine z7 (zA 4 ?_)
 obtain ⟨r22,hr22,h⟩:=bindS h
 refine evs_callP [] (by kernel_rfl) (W.nest_plain_ok hr22) (by kernel_rfl) (.inl rfl) (by kernel_rfl) (z1 2 ⟨[(1,.ptr 500000 0),(22,vB (!r22))],[(500000,.box (c_Piece x0))]⟩ (zI (!r22) (fun hb=>?_) fun hb=>?_))
 replace h:=iteT hb h
 refine z8 1 ⟨[(2,vI 1)],[]⟩ fun τ hτ=>?_
 refine bl_ret (th_ret ?_)
 obtain rfl:=osi h
 exact zV hτ [(2,vI 1)]
 replace h:=iteF hb h
 refine zB ?_
 obtain ⟨j23,hj23,h⟩:=bindS h
 refine zT ⟨[(1,.ptr 500000 0),(29,vB j23)],[(500000,.box (c_Piece x0))]⟩ ?_ fun τ hτ=>?_
 replace h:=hj23
 refine zA 2 (evs_op (st_len (c:=c_Rect) (l:=x0.Rects) (x:=(s_Rect x0.Rects)) (by kernel_rfl) (by kernel_rfl)) (zA 2 ?_))
 refine zS (decide ((x0.Rects.length : Int) > 12)) (fun b0=>⟨[(1,.ptr 500000 0),(34,vB b0)],[(500000,.box (c_Piece x0))]⟩) (fun hb=>?_) fun hb=>?_
 replace h:=iteT hb h
 refine z6 12 fun τ hτ=>?_
 obtain rfl:=osi h
 exact zG hτ
 replace h:=iteF hb h
 refine zA 2 (evs_op (st_len (c:=c_Rect) (l:=x0.Cuts) (x:=(s_Rect x0.Cuts)) (by kernel_rfl) (by kernel_rfl)) (zA 3 ?_))
 refine zS (decide ((x0.Cuts.length : Int) > 12)) (fun b0=>⟨[(1,.ptr 500000 0),(40,vB b0)],[(500000,.box (c_Piece x0))]⟩) (fun hb=>?_) fun hb=>?_
 replace h:=iteT hb h
 refine z6 6 fun τ hτ=>?_
 obtain rfl:=osi h
 exact zG hτ
 replace h:=iteF hb h
 refine zA 2 (evs_op (st_len (c:=c_Rect) (l:=x0.Forms) (x:=(s_Rect x0.Forms)) (by kernel_rfl) (by kernel_rfl)) (z6 3 fun τ hτ=>?_))
 obtain rfl:=osi h
 exact zG hτ
 refine zE hτ ⟨[(1,.ptr 500000 0),(29,vB j23)],[(500000,.box (c_Piece x0))]⟩ (zI j23 (fun hb=>?_) fun hb=>?_)
 replace h:=iteT hb h
 refine z8 1 ⟨[(2,vI 4)],[]⟩ fun τ hτ=>?_
 refine bl_ret (th_ret ?_)
 obtain rfl:=osi h
 exact zV hτ [(2,vI 4)]
 replace h:=iteF hb h
 refine zB ?_
 obtain ⟨j27,hj27,h⟩:=bindS h
 refine zT ⟨[(1,.ptr 500000 0),(46,vB j27)],[(500000,.box (c_Piece x0))]⟩ ?_ fun τ hτ=>?_
 replace h:=hj27
 refine zA 2 (evs_op (st_len (c:=c_Rect) (l:=x0.Rects) (x:=(s_Rect x0.Rects)) (by kernel_rfl) (by kernel_rfl)) (zA 2 ?_))
 refine zS ((x0.Rects.length : Int) == 0) (fun b0=>⟨[(1,.ptr 500000 0),(51,vB b0)],[(500000,.box (c_Piece x0))]⟩) (fun hb=>?_) fun hb=>?_
 replace h:=iteT hb h
 refine z6 18 fun τ hτ=>?_
 obtain rfl:=osi h
 exact zG hτ
 replace h:=iteF hb h
 refine zA 2 ?_
 obtain ⟨r28,hr28,h⟩:=bindS h
 refine evs_callP [] (by kernel_rfl) (W.nest_valid_ok hr28) (by kernel_rfl) (.inl rfl) (by kernel_rfl) (zA 3 (zS r28 (fun b0=>⟨[(1,.ptr 500000 0),(57,vB (!b0))],[(500000,.box (c_Piece x0))]⟩) (fun hb=>?_) fun hb=>?_))
 replace h:=iteT hb h
 refine zA 2 ?_
 obtain ⟨r29,hr29,h⟩:=bindS h
 refine evs_callP [] (by kernel_rfl) (W.nest_valid_ok hr29) (by kernel_rfl) (.inl rfl) (by kernel_rfl) (zA 3 (zS r29 (fun b0=>⟨[(1,.ptr 500000 0),(63,vB (!b0))],[(500000,.box (c_Piece x0))]⟩) (fun hb=>?_) fun hb=>?_))
 replace h:=iteT hb h
 refine zA 2 ?_
 obtain ⟨r30,hr30,h⟩:=bindS h
 refine evs_callP [] (by kernel_rfl) (W.nest_valid_ok hr30) (by kernel_rfl) (.inl rfl) (by kernel_rfl) (z6 3 fun τ hτ=>?_)
 obtain rfl:=osi h
 exact zG hτ
 replace h:=iteF hb h
 refine z6 6 fun τ hτ=>?_
 obtain rfl:=osi h
 exact zG hτ
 replace h:=iteF hb h
 refine z6 12 fun τ hτ=>?_
 obtain rfl:=osi h
 exact zG hτ
 refine zE hτ ⟨[(1,.ptr 500000 0),(46,vB j27)],[(500000,.box (c_Piece x0))]⟩ (zI j27 (fun hb=>?_) fun hb=>?_)
 replace h:=iteT hb h
 refine z8 1 ⟨[(2,vI 1)],[]⟩ fun τ hτ=>?_
 refine bl_ret (th_ret ?_)
 obtain rfl:=osi h
 exact zV hτ [(2,vI 1)]
 replace h:=iteF hb h
 refine zM fun τ hτ=>?_
 refine bl_normal (zE hτ ⟨[(1,.ptr 500000 0)],[(500000,.box (c_Piece x0))]⟩ (zB ?_))
 refine sem_drawN [] [] [] [] [] 11 (by kernel_rfl) (by kernel_rfl) (by kernel_rfl) (evd_run 2 (by kernel_rfl) ?_)
 obtain ⟨x35,hx35,h⟩:=bindS h
 refine evd_val (by kernel_rfl) (st_idx (c:=c_Rect) (l:=x0.Rects) (i:=0) (kd:=.i64) (sz:=4) (by kernel_rfl) hx35 rfl) (by kernel_rfl) (by kernel_rfl) (evd_run 4 (by kernel_rfl) ?_)
 obtain ⟨x36,hx36,h⟩:=bindS h
 refine evd_val (by kernel_rfl) (st_idx (c:=c_Rect) (l:=x0.Rects) (i:=0) (kd:=.i64) (sz:=4) (by kernel_rfl) hx36 rfl) (by kernel_rfl) (by kernel_rfl) (evd_run 3 (by kernel_rfl) (evd_end (by kernel_rfl) ?_))
 refine evo_run 1 (by kernel_rfl) (zO fun τ hτ=>?_)
 refine zE hτ ⟨[(1,.ptr 500000 0),(3,vI x35.X),(4,vI x36.Y)],[(500000,.box (c_Piece x0))]⟩ (zB (z7 ?_))
 refine zA 2 (evs_op (st_len (c:=c_Rect) (l:=x0.Rects) (x:=(s_Rect x0.Rects)) (by kernel_rfl) (by kernel_rfl)) (z1 1 ⟨[(1,.ptr 500000 0),(3,vI x35.X),(4,vI x36.Y),(80,s_Rect x0.Rects),(81,vI (x0.Rects.length : Int)),(82,vI 0)],[(500000,.box (c_Piece x0))]⟩ ?_))
 refine zC ?_
 obtain ⟨x66,hx66,h⟩:=bindS h
 refine sem_loopS (fun (s57 : Int × Int × Int)=>⟨[(1,.ptr 500000 0),(3,vI s57.1),(4,vI s57.2.1),(80,s_Rect x0.Rects),(81,vI (x0.Rects.length : Int)),(82,vI s57.2.2)],[(500000,.box (c_Piece x0))]⟩) (fun (x66 : Int × Int)=>(.exit 1,⟨[(1,.ptr 500000 0),(3,vI x66.1),(4,vI x66.2)],[(500000,.box (c_Piece x0))]⟩)) (nest_ValidatePiece_l1 x0) (x35.X,x36.Y,0) x66 (by kernel_rfl) (here (by kernel_rfl)) hx66 ?_ ?_ ?_
 intro s57 r h
 refine z3 1 ⟨[(1,.ptr 500000 0),(3,vI s57.1),(4,vI s57.2.1),(80,s_Rect x0.Rects),(81,vI (x0.Rects.length : Int)),(82,vI s57.2.2),(83,vB (decide (s57.2.2 < (x0.Rects.length : Int))))],[(500000,.box (c_Piece x0))]⟩ (zB (zI (decide (s57.2.2 < (x0.Rects.length : Int))) (fun hb=>?_) fun hb=>?_))
 replace h:=iteT hb h
 refine z4 ⟨[(1,.ptr 500000 0),(3,vI s57.1),(4,vI s57.2.1),(80,s_Rect x0.Rects),(81,vI (x0.Rects.length : Int)),(82,vI s57.2.2)],[(500000,.box (c_Piece x0))]⟩ (zB (zC ?_))
 refine z7 ?_
 obtain ⟨x65,hx65,h⟩:=bindS h
 refine evs_op (st_idx (c:=c_Rect) (l:=x0.Rects) (i:=s57.2.2) (kd:=.i64) (sz:=4) (by kernel_rfl) hx65 rfl) (z1 3 ⟨[(1,.ptr 500000 0),(3,vI s57.1),(4,vI s57.2.1),(6,.ptr 6 0),(80,s_Rect x0.Rects),(81,vI (x0.Rects.length : Int)),(82,vI s57.2.2)],[(6,.box (c_Rect x65)),(500000,.box (c_Piece x0))]⟩ (sem_drawN [] [] [] [] [] 9 (by kernel_rfl) (by kernel_rfl) (by kernel_rfl) ?_))
 refine evd_run 9 (by kernel_rfl) (evd_end (by kernel_rfl) (evo_run 1 (by kernel_rfl) ?_))
 refine zO fun τ hτ=>?_
 refine bl_normal (zE hτ ⟨[(1,.ptr 500000 0),(3,vI (imin s57.1 x65.X)),(4,vI (imin s57.2.1 x65.Y)),(80,s_Rect x0.Rects),(81,vI (x0.Rects.length : Int)),(82,vI s57.2.2)],[(500000,.box (c_Piece x0))]⟩ (zD ?_))
 refine z6 2 fun τ hτ=>?_
 obtain rfl:=osi h
 exact zH hτ
 replace h:=iteF hb h
 refine zL 1 fun τ hτ=>?_
 refine th_exit ?_
 obtain rfl:=osi h
 exact zF hτ
 intro x
 rfl
 intro τ hτ
 refine zQ (zE hτ ⟨[(1,.ptr 500000 0),(3,vI x66.1),(4,vI x66.2)],[(500000,.box (c_Piece x0))]⟩ (zB ?_))
 refine zB ?_
 obtain ⟨j68,hj68,h⟩:=bindS h
 refine zT ⟨[(1,.ptr 500000 0),(100,vB j68)],[(500000,.box (c_Piece x0))]⟩ ?_ fun τ hτ=>?_
 replace h:=hj68
 refine zA 3 (zS (x66.1 != 0) (fun b0=>⟨[(1,.ptr 500000 0),(4,vI x66.2),(97,vB b0)],[(500000,.box (c_Piece x0))]⟩) (fun hb=>?_) fun hb=>?_)
 replace h:=iteT hb h
 refine z6 3 fun τ hτ=>?_
 obtain rfl:=osi h
 exact zG hτ
 replace h:=iteF hb h
 refine z6 3 fun τ hτ=>?_
 obtain rfl:=osi h
 exact zG hτ
 refine zE hτ ⟨[(1,.ptr 500000 0),(100,vB j68)],[(500000,.box (c_Piece x0))]⟩ (zI j68 (fun hb=>?_) fun hb=>?_)
 replace h:=iteT hb h
 refine z8 1 ⟨[(2,vI 1)],[]⟩ fun τ hτ=>?_
 refine th_ret ?_
 obtain rfl:=osi h
 exact zV hτ [(2,vI 1)]
 replace h:=iteF hb h
 refine z4 ⟨[(1,.ptr 500000 0)],[(500000,.box (c_Piece x0))]⟩ (zB (z7 ?_))
 refine zA 2 (evs_op (st_len (c:=c_Rect) (l:=x0.Rects) (x:=(s_Rect x0.Rects)) (by kernel_rfl) (by kernel_rfl)) (z1 1 ⟨[(1,.ptr 500000 0),(102,s_Rect x0.Rects),(103,vI (x0.Rects.length : Int)),(104,vI 0)],[(500000,.box (c_Piece x0))]⟩ ?_))
 refine zC ?_
 obtain ⟨x472,hx472,h⟩:=bindS h
 refine sem_loopS (fun (s339 : Int)=>⟨[(1,.ptr 500000 0),(102,s_Rect x0.Rects),(103,vI (x0.Rects.length : Int)),(104,vI s339)],[(500000,.box (c_Piece x0))]⟩) (fun (x472 : Unit ⊕ Unit)=>match x472 with | .inl j473=>(.ret,⟨[(2,vI 7)],[]⟩) | .inr j474=>(.exit 3,⟨[(1,.ptr 500000 0)],[(500000,.box (c_Piece x0))]⟩)) (nest_ValidatePiece_l3 x0) 0 x472 (by kernel_rfl) (here (by kernel_rfl)) hx472 ?_ ?_ ?_
 intro s339 r h
 refine z3 1 ⟨[(1,.ptr 500000 0),(102,s_Rect x0.Rects),(103,vI (x0.Rects.length : Int)),(104,vI s339),(105,vB (decide (s339 < (x0.Rects.length : Int))))],[(500000,.box (c_Piece x0))]⟩ (zB (zI (decide (s339 < (x0.Rects.length : Int))) (fun hb=>?_) fun hb=>?_))
 replace h:=iteT hb h
 refine z4 ⟨[(1,.ptr 500000 0),(102,s_Rect x0.Rects),(103,vI (x0.Rects.length : Int)),(104,vI s339)],[(500000,.box (c_Piece x0))]⟩ (zB (zC ?_))
 refine z7 (zA 1 ?_)
 obtain ⟨x440,hx440,h⟩:=bindS h
 refine evs_op (st_idx (c:=c_Rect) (l:=x0.Rects) (i:=s339) (kd:=.i64) (sz:=4) (by kernel_rfl) hx440 rfl) (z1 4 ⟨[(1,.ptr 500000 0),(7,vI s339),(8,.ptr 8 0),(102,s_Rect x0.Rects),(103,vI (x0.Rects.length : Int)),(104,vI s339)],[(8,.box (c_Rect x440)),(500000,.box (c_Piece x0))]⟩ (z7 ?_))
 refine zA 3 ?_
 obtain ⟨l442,hl442,h⟩:=bindS h
 refine evs_op (st_slH (c:=c_Rect) (l:=x0.Rects) (sz:=4) (hi:=s339) (k2:=.i64) (by kernel_rfl) hl442) (evs_op (st_len (c:=c_Rect) (l:=l442) (x:=(s_Rect l442)) (by kernel_rfl) (by kernel_rfl)) (z1 1 ⟨[(1,.ptr 500000 0),(8,.ptr 8 0),(102,s_Rect x0.Rects),(103,vI (x0.Rects.length : Int)),(104,vI s339),(112,s_Rect l442),(113,vI (l442.length : Int)),(114,vI 0)],[(8,.box (c_Rect x440)),(500000,.box (c_Piece x0))]⟩ ?_))
 refine zC ?_
 obtain ⟨x469,hx469,h⟩:=bindS h
 refine sem_loopS (fun (s452 : Int)=>⟨[(1,.ptr 500000 0),(8,.ptr 500001 0),(102,s_Rect x0.Rects),(103,vI (x0.Rects.length : Int)),(104,vI s339),(112,s_Rect l442),(113,vI (l442.length : Int)),(114,vI s452)],[(500000,.box (c_Piece x0)),(500001,.box (c_Rect x440))]⟩) (fun (x469 : Unit ⊕ Unit)=>match x469 with | .inl j470=>(.ret,⟨[(2,vI 7)],[]⟩) | .inr j471=>(.exit 5,⟨[(1,.ptr 500000 0),(102,s_Rect x0.Rects),(103,vI (x0.Rects.length : Int)),(104,vI s339)],[(500000,.box (c_Piece x0))]⟩)) (nest_ValidatePiece_l2 x440 l442) 0 x469 (by kernel_rfl) (subR_prep [] [(8,500001),(500000,500000)] (by kernel_rfl) rfl rfl (by kernel_rfl)) hx469 ?_ ?_ ?_
 intro s452 r h
 refine z3 1 ⟨[(1,.ptr 500000 0),(8,.ptr 500001 0),(102,s_Rect x0.Rects),(103,vI (x0.Rects.length : Int)),(104,vI s339),(112,s_Rect l442),(113,vI (l442.length : Int)),(114,vI s452),(115,vB (decide (s452 < (l442.length : Int))))],[(500000,.box (c_Piece x0)),(500001,.box (c_Rect x440))]⟩ (zB (zI (decide (s452 < (l442.length : Int))) (fun hb=>?_) fun hb=>?_))
 replace h:=iteT hb h
 refine z4 ⟨[(1,.ptr 500000 0),(8,.ptr 500001 0),(102,s_Rect x0.Rects),(103,vI (x0.Rects.length : Int)),(104,vI s339),(112,s_Rect l442),(113,vI (l442.length : Int)),(114,vI s452)],[(500000,.box (c_Piece x0)),(500001,.box (c_Rect x440))]⟩ (zB (zC ?_))
 refine z7 ?_
 obtain ⟨x466,hx466,h⟩:=bindS h
 refine evs_op (st_idx (c:=c_Rect) (l:=l442) (i:=s452) (kd:=.i64) (sz:=4) (by kernel_rfl) hx466 rfl) (z1 3 ⟨[(1,.ptr 500000 0),(8,.ptr 500001 0),(10,.ptr 10 0),(102,s_Rect x0.Rects),(103,vI (x0.Rects.length : Int)),(104,vI s339),(112,s_Rect l442),(113,vI (l442.length : Int)),(114,vI s452)],[(10,.box (c_Rect x466)),(500000,.box (c_Piece x0)),(500001,.box (c_Rect x440))]⟩ (z7 ?_))
 refine zA 2 ?_
 obtain ⟨r468,hr468,h⟩:=bindS h
 refine evs_callP [] (by kernel_rfl) (W.geom_Overlap_ok hr468) (by kernel_rfl) (.inl rfl) (by kernel_rfl) (zP fun τ hτ=>?_)
 refine zE hτ ⟨[(1,.ptr 500000 0),(8,.ptr 500001 0),(102,s_Rect x0.Rects),(103,vI (x0.Rects.length : Int)),(104,vI s339),(112,s_Rect l442),(113,vI (l442.length : Int)),(114,vI s452),(120,vB r468)],[(500000,.box (c_Piece x0)),(500001,.box (c_Rect x440))]⟩ (zI r468 (fun hb=>?_) fun hb=>?_)
 replace h:=iteT hb h
 refine z8 1 ⟨[(2,vI 7)],[]⟩ fun τ hτ=>?_
 refine bl_ret (th_ret ?_)
 obtain rfl:=osi h
 exact zF hτ
 replace h:=iteF hb h
 refine zM fun τ hτ=>?_
 refine bl_normal (zE hτ ⟨[(1,.ptr 500000 0),(8,.ptr 500001 0),(102,s_Rect x0.Rects),(103,vI (x0.Rects.length : Int)),(104,vI s339),(112,s_Rect l442),(113,vI (l442.length : Int)),(114,vI s452)],[(500000,.box (c_Piece x0)),(500001,.box (c_Rect x440))]⟩ (zD ?_))
 refine z6 2 fun τ hτ=>?_
 obtain rfl:=osi h
 exact zH hτ
 replace h:=iteF hb h
 refine zL 5 fun τ hτ=>?_
 refine th_exit ?_
 obtain rfl:=osi h
 exact zF hτ
 intro x
 rcases x with _ | _ <;> rfl
 intro τ hτ
 rcases x469 with j470 | j471
 refine bl_ret (bl_ret (th_ret ?_))
 obtain rfl:=osi h
 exact zF hτ
 refine zQ (bl_normal (zE hτ ⟨[(1,.ptr 500000 0),(102,s_Rect x0.Rects),(103,vI (x0.Rects.length : Int)),(104,vI s339)],[(500000,.box (c_Piece x0))]⟩ ?_))
 refine zD (z6 2 fun τ hτ=>?_)
 obtain rfl:=osi h
 exact zH hτ
 replace h:=iteF hb h
 refine zL 3 fun τ hτ=>?_
 refine th_exit ?_
 obtain rfl:=osi h
 exact zF hτ
 intro x
 rcases x with _ | _ <;> rfl
 intro τ hτ
 rcases x472 with j473 | j474
 refine bl_ret (th_ret ?_)
 obtain rfl:=osi h
 exact zV hτ [(2,vI 7)]
 refine zQ (zE hτ ⟨[(1,.ptr 500000 0)],[(500000,.box (c_Piece x0))]⟩ (zB ?_))
 refine z7 (zA 2 ?_)
 obtain ⟨r478,hr478,h⟩:=bindS h
 refine evs_callP [] (by kernel_rfl) (W.nest_connected_ok hr478) (by kernel_rfl) (.inl rfl) (by kernel_rfl) (z1 1 ⟨[(1,.ptr 500000 0),(126,vB (!r478))],[(500000,.box (c_Piece x0))]⟩ (zI (!r478) (fun hb=>?_) fun hb=>?_))
 replace h:=iteT hb h
 refine z8 1 ⟨[(2,vI 6)],[]⟩ fun τ hτ=>?_
 refine th_ret ?_
 obtain rfl:=osi h
 exact zV hτ [(2,vI 6)]
 replace h:=iteF hb h
 refine z4 ⟨[(1,.ptr 500000 0)],[(500000,.box (c_Piece x0))]⟩ (z7 (zA 1 ?_))
 obtain ⟨r480,hr480,h⟩:=bindS h
 refine evs_callP [] (by kernel_rfl) (W.nest_inside_ok hr480) (by kernel_rfl) (.inl rfl) (by kernel_rfl) (z1 1 ⟨[(2,vI r480)],[]⟩ (zN fun τ hτ=>?_))
 obtain rfl:=osi h
 exact zV hτ [(2,vI r480)]
theorem W.flat_inRange_ok {s0 : Segment} {r : Bool} (h : flat_inRange s0 = some r) : PC G.P 144 [(.agg (c_Segment s0))] [] (vB r) []:=by
 refine zU G Tryz.func144 (zK ⟨[(0,.agg (c_Segment s0))],[]⟩ (z3 2 ⟨[(1,.ptr 1 0)],[(1,.box (c_Segment s0))]⟩ ?_))
 refine zB (z7 (zA 9 ?_))
 refine evs_op (st_len (c:=cI) (l:=[s0.X1,s0.Y1,s0.X2,s0.Y2]) (x:=(sI [s0.X1,s0.Y1,s0.X2,s0.Y2])) (by kernel_rfl) (by kernel_rfl)) (z1 1 ⟨[(13,sI [s0.X1,s0.Y1,s0.X2,s0.Y2]),(14,vI ([s0.X1,s0.Y1,s0.X2,s0.Y2].length : Int)),(15,vI 0)],[]⟩ (zC ?_))
 obtain ⟨x44,hx44,h⟩:=bindS h
 refine sem_loopS (fun (s31 : Int)=>⟨[(13,sI [s0.X1,s0.Y1,s0.X2,s0.Y2]),(14,vI ([s0.X1,s0.Y1,s0.X2,s0.Y2].length : Int)),(15,vI s31)],[]⟩) (fun (x44 : Unit ⊕ Unit)=>match x44 with | .inl j45=>(.ret,⟨[(2,vB false)],[]⟩) | .inr j46=>(.exit 0,⟨[],[]⟩)) (flat_inRange_l1 s0) 0 x44 (by kernel_rfl) (here (by kernel_rfl)) hx44 ?_ ?_ ?_
 intro s31 r h
 refine z3 1 ⟨[(13,sI [s0.X1,s0.Y1,s0.X2,s0.Y2]),(14,vI ([s0.X1,s0.Y1,s0.X2,s0.Y2].length : Int)),(15,vI s31),(16,vB (decide (s31 < ([s0.X1,s0.Y1,s0.X2,s0.Y2].length : Int))))],[]⟩ (zB (zI (decide (s31 < ([s0.X1,s0.Y1,s0.X2,s0.Y2].length : Int))) (fun hb=>?_) fun hb=>?_))
 replace h:=iteT hb h
 refine z4 ⟨[(13,sI [s0.X1,s0.Y1,s0.X2,s0.Y2]),(14,vI ([s0.X1,s0.Y1,s0.X2,s0.Y2].length : Int)),(15,vI s31)],[]⟩ (zB (zC ?_))
 refine z7 ?_
 obtain ⟨x42,hx42,h⟩:=bindS h
 refine evs_op (st_idx (c:=cI) (l:=[s0.X1,s0.Y1,s0.X2,s0.Y2]) (i:=s31) (kd:=.i64) (sz:=1) (by kernel_rfl) hx42 rfl) (z1 2 ⟨[(4,vI x42),(13,sI [s0.X1,s0.Y1,s0.X2,s0.Y2]),(14,vI ([s0.X1,s0.Y1,s0.X2,s0.Y2].length : Int)),(15,vI s31)],[]⟩ (zB ?_))
 obtain ⟨j43,hj43,h⟩:=bindS h
 refine zT ⟨[(13,sI [s0.X1,s0.Y1,s0.X2,s0.Y2]),(14,vI ([s0.X1,s0.Y1,s0.X2,s0.Y2].length : Int)),(15,vI s31),(24,vB j43)],[]⟩ ?_ fun τ hτ=>?_
 replace h:=hj43
 refine zA 3 (zS (decide (x42 < (-1048576))) (fun b0=>⟨[(4,vI x42),(13,sI [s0.X1,s0.Y1,s0.X2,s0.Y2]),(14,vI ([s0.X1,s0.Y1,s0.X2,s0.Y2].length : Int)),(15,vI s31),(21,vB b0)],[]⟩) (fun hb=>?_) fun hb=>?_)
 replace h:=iteT hb h
 refine z6 3 fun τ hτ=>?_
 obtain rfl:=osi h
 exact zG hτ
 replace h:=iteF hb h
 refine z6 3 fun τ hτ=>?_
 obtain rfl:=osi h
 exact zG hτ
 refine zE hτ ⟨[(13,sI [s0.X1,s0.Y1,s0.X2,s0.Y2]),(14,vI ([s0.X1,s0.Y1,s0.X2,s0.Y2].length : Int)),(15,vI s31),(24,vB j43)],[]⟩ (zI j43 (fun hb=>?_) fun hb=>?_)
 replace h:=iteT hb h
 refine z8 1 ⟨[(2,vB false)],[]⟩ fun τ hτ=>?_
 refine bl_ret (th_ret ?_)
 obtain rfl:=osi h
 exact zF hτ
 replace h:=iteF hb h
 refine zM fun τ hτ=>?_
 refine bl_normal (zE hτ ⟨[(13,sI [s0.X1,s0.Y1,s0.X2,s0.Y2]),(14,vI ([s0.X1,s0.Y1,s0.X2,s0.Y2].length : Int)),(15,vI s31)],[]⟩ (zD ?_))
 refine z6 2 fun τ hτ=>?_
 obtain rfl:=osi h
 exact zH hτ
 replace h:=iteF hb h
 refine zL 0 fun τ hτ=>?_
 refine th_exit ?_
 obtain rfl:=osi h
 exact zF hτ
 intro x
 rcases x with _ | _ <;> rfl
 intro τ hτ
 rcases x44 with j45 | j46
 refine bl_ret (th_ret ?_)
 obtain rfl:=osi h
 exact zV hτ [(2,vB false)]
 refine zQ (zE hτ ⟨[],[]⟩ (z8 1 ⟨[(2,vB true)],[]⟩ fun τ hτ=>?_))
 obtain rfl:=osi h
 exact zV hτ [(2,vB true)]
theorem W.flat_check_ok {f : Flat} {r : Int} (h : flat_check f = some r) : PC G.P 126 [(.agg (c_Flat f))] [] (vI r) []:=by
 refine zU G Tryz.func126 (zK ⟨[(0,.agg (c_Flat f))],[]⟩ (z3 2 ⟨[(1,.ptr 1 0)],[(1,.box (c_Flat f))]⟩ ?_))
 refine zB (z7 (zA 2 ?_))
 refine evs_op (st_len (c:=c_Rect) (l:=f.Rects) (x:=(s_Rect f.Rects)) (by kernel_rfl) (by kernel_rfl)) (z1 1 ⟨[(1,.ptr 1 0),(12,vB ((f.Rects.length : Int) == 0))],[(1,.box (c_Flat f))]⟩ (zI ((f.Rects.length : Int) == 0) (fun hb=>?_) fun hb=>?_))
 replace h:=iteT hb h
 refine z8 1 ⟨[(2,vI 1)],[]⟩ fun τ hτ=>?_
 refine th_ret ?_
 obtain rfl:=osi h
 exact zV hτ [(2,vI 1)]
 replace h:=iteF hb h
 refine z4 ⟨[(1,.ptr 1 0)],[(1,.box (c_Flat f))]⟩ (zB (z7 ?_))
 refine zA 7 (evs_op (st_len (c:=(cS c_Rect)) (l:=[f.Rects,f.Cuts,f.Forms]) (x:=(.sl (List.map (cS c_Rect) [f.Rects,f.Cuts,f.Forms]))) (by kernel_rfl) (by kernel_rfl)) (z1 1 ⟨[(1,.ptr 1 0),(19,.sl (List.map (cS c_Rect) [f.Rects,f.Cuts,f.Forms])),(20,vI ([f.Rects,f.Cuts,f.Forms].length : Int)),(21,vI 0)],[(1,.box (c_Flat f))]⟩ ?_))
 refine zC ?_
 obtain ⟨x380,hx380,h⟩:=bindS h
 refine sem_loopS (fun (s255 : Int)=>⟨[(1,.ptr 500000 0),(19,.sl (List.map (cS c_Rect) [f.Rects,f.Cuts,f.Forms])),(20,vI ([f.Rects,f.Cuts,f.Forms].length : Int)),(21,vI s255)],[(500000,.box (c_Flat f))]⟩) (fun (x380 : Unit ⊕ Unit)=>match x380 with | .inl j381=>(.ret,⟨[(2,vI 1)],[]⟩) | .inr j382=>(.exit 0,⟨[(1,.ptr 500000 0)],[(500000,.box (c_Flat f))]⟩)) (flat_check_l2 f) 0 x380 (by kernel_rfl) (subR_prep [] [(1,500000)] (by kernel_rfl) rfl rfl (by kernel_rfl)) hx380 ?_ ?_ ?_
 intro s255 r h
 refine z3 1 ⟨[(1,.ptr 500000 0),(19,.sl (List.map (cS c_Rect) [f.Rects,f.Cuts,f.Forms])),(20,vI ([f.Rects,f.Cuts,f.Forms].length : Int)),(21,vI s255),(22,vB (decide (s255 < ([f.Rects,f.Cuts,f.Forms].length : Int))))],[(500000,.box (c_Flat f))]⟩ (zB (zI (decide (s255 < ([f.Rects,f.Cuts,f.Forms].length : Int))) (fun hb=>?_) fun hb=>?_))
 replace h:=iteT hb h
 refine z4 ⟨[(1,.ptr 500000 0),(19,.sl (List.map (cS c_Rect) [f.Rects,f.Cuts,f.Forms])),(20,vI ([f.Rects,f.Cuts,f.Forms].length : Int)),(21,vI s255)],[(500000,.box (c_Flat f))]⟩ (zB (zC ?_))
 refine z7 ?_
 obtain ⟨x350,hx350,h⟩:=bindS h
 refine evs_op (st_idx (c:=(cS c_Rect)) (l:=[f.Rects,f.Cuts,f.Forms]) (i:=s255) (kd:=.i64) (sz:=1) (by kernel_rfl) hx350 rfl) (z1 2 ⟨[(1,.ptr 500000 0),(4,s_Rect x350),(19,.sl (List.map (cS c_Rect) [f.Rects,f.Cuts,f.Forms])),(20,vI ([f.Rects,f.Cuts,f.Forms].length : Int)),(21,vI s255)],[(500000,.box (c_Flat f))]⟩ (zB ?_))
 refine z7 (zA 1 (evs_op (st_len (c:=c_Rect) (l:=x350) (x:=(s_Rect x350)) (by kernel_rfl) (by kernel_rfl)) ?_))
 refine z1 1 ⟨[(1,.ptr 500000 0),(4,s_Rect x350),(19,.sl (List.map (cS c_Rect) [f.Rects,f.Cuts,f.Forms])),(20,vI ([f.Rects,f.Cuts,f.Forms].length : Int)),(21,vI s255),(27,vB (decide ((x350.length : Int) > 48)))],[(500000,.box (c_Flat f))]⟩ (zI (decide ((x350.length : Int) > 48)) (fun hb=>?_) fun hb=>?_)
 replace h:=iteT hb h
 refine z8 1 ⟨[(2,vI 1)],[]⟩ fun τ hτ=>?_
 refine th_ret (bl_ret (th_ret ?_))
 obtain rfl:=osi h
 exact zF hτ
 replace h:=iteF hb h
 refine z4 ⟨[(1,.ptr 500000 0),(4,s_Rect x350),(19,.sl (List.map (cS c_Rect) [f.Rects,f.Cuts,f.Forms])),(20,vI ([f.Rects,f.Cuts,f.Forms].length : Int)),(21,vI s255)],[(500000,.box (c_Flat f))]⟩ (z7 (zA 1 ?_))
 refine evs_op (st_len (c:=c_Rect) (l:=x350) (x:=(s_Rect x350)) (by kernel_rfl) (by kernel_rfl)) (z1 1 ⟨[(1,.ptr 500000 0),(19,.sl (List.map (cS c_Rect) [f.Rects,f.Cuts,f.Forms])),(20,vI ([f.Rects,f.Cuts,f.Forms].length : Int)),(21,vI s255),(28,s_Rect x350),(29,vI (x350.length : Int)),(30,vI 0)],[(500000,.box (c_Flat f))]⟩ (zC ?_))
 obtain ⟨x377,hx377,h⟩:=bindS h
 refine sem_loopS (fun (s360 : Int)=>⟨[(1,.ptr 500000 0),(19,.sl (List.map (cS c_Rect) [f.Rects,f.Cuts,f.Forms])),(20,vI ([f.Rects,f.Cuts,f.Forms].length : Int)),(21,vI s255),(28,s_Rect x350),(29,vI (x350.length : Int)),(30,vI s360)],[(500000,.box (c_Flat f))]⟩) (fun (x377 : Unit ⊕ Unit)=>match x377 with | .inl j378=>(.ret,⟨[(2,vI 1)],[]⟩) | .inr j379=>(.exit 2,⟨[(1,.ptr 500000 0),(19,.sl (List.map (cS c_Rect) [f.Rects,f.Cuts,f.Forms])),(20,vI ([f.Rects,f.Cuts,f.Forms].length : Int)),(21,vI s255)],[(500000,.box (c_Flat f))]⟩)) (flat_check_l1 x350) 0 x377 (by kernel_rfl) (here (by kernel_rfl)) hx377 ?_ ?_ ?_
 intro s360 r h
 refine z3 1 ⟨[(1,.ptr 500000 0),(19,.sl (List.map (cS c_Rect) [f.Rects,f.Cuts,f.Forms])),(20,vI ([f.Rects,f.Cuts,f.Forms].length : Int)),(21,vI s255),(28,s_Rect x350),(29,vI (x350.length : Int)),(30,vI s360),(31,vB (decide (s360 < (x350.length : Int))))],[(500000,.box (c_Flat f))]⟩ (zB (zI (decide (s360 < (x350.length : Int))) (fun hb=>?_) fun hb=>?_))
 replace h:=iteT hb h
 refine z4 ⟨[(1,.ptr 500000 0),(19,.sl (List.map (cS c_Rect) [f.Rects,f.Cuts,f.Forms])),(20,vI ([f.Rects,f.Cuts,f.Forms].length : Int)),(21,vI s255),(28,s_Rect x350),(29,vI (x350.length : Int)),(30,vI s360)],[(500000,.box (c_Flat f))]⟩ (zB (zC ?_))
 refine z7 ?_
 obtain ⟨x374,hx374,h⟩:=bindS h
 refine evs_op (st_idx (c:=c_Rect) (l:=x350) (i:=s360) (kd:=.i64) (sz:=4) (by kernel_rfl) hx374 rfl) (z1 3 ⟨[(1,.ptr 500000 0),(6,.ptr 6 0),(19,.sl (List.map (cS c_Rect) [f.Rects,f.Cuts,f.Forms])),(20,vI ([f.Rects,f.Cuts,f.Forms].length : Int)),(21,vI s255),(28,s_Rect x350),(29,vI (x350.length : Int)),(30,vI s360)],[(6,.box (c_Rect x374)),(500000,.box (c_Flat f))]⟩ (z7 ?_))
 refine zA 1 ?_
 obtain ⟨r376,hr376,h⟩:=bindS h
 refine evs_callP [] (by kernel_rfl) (W.geom_ValidRect_ok hr376) (by kernel_rfl) (.inl rfl) (by kernel_rfl) (z1 1 ⟨[(1,.ptr 500000 0),(19,.sl (List.map (cS c_Rect) [f.Rects,f.Cuts,f.Forms])),(20,vI ([f.Rects,f.Cuts,f.Forms].length : Int)),(21,vI s255),(28,s_Rect x350),(29,vI (x350.length : Int)),(30,vI s360),(36,vB (!r376))],[(500000,.box (c_Flat f))]⟩ (zI (!r376) (fun hb=>?_) fun hb=>?_))
 replace h:=iteT hb h
 refine z8 1 ⟨[(2,vI 1)],[]⟩ fun τ hτ=>?_
 refine bl_ret (th_ret ?_)
 obtain rfl:=osi h
 exact zF hτ
 replace h:=iteF hb h
 refine zM fun τ hτ=>?_
 refine bl_normal (zE hτ ⟨[(1,.ptr 500000 0),(19,.sl (List.map (cS c_Rect) [f.Rects,f.Cuts,f.Forms])),(20,vI ([f.Rects,f.Cuts,f.Forms].length : Int)),(21,vI s255),(28,s_Rect x350),(29,vI (x350.length : Int)),(30,vI s360)],[(500000,.box (c_Flat f))]⟩ (zD ?_))
 refine z6 2 fun τ hτ=>?_
 obtain rfl:=osi h
 exact zH hτ
 replace h:=iteF hb h
 refine zL 2 fun τ hτ=>?_
 refine th_exit ?_
 obtain rfl:=osi h
 exact zF hτ
 intro x
 rcases x with _ | _ <;> rfl
 intro τ hτ
 rcases x377 with j378 | j379
 refine bl_ret (bl_ret (th_ret ?_))
 obtain rfl:=osi h
 exact zF hτ
 refine zQ (bl_normal (zE hτ ⟨[(1,.ptr 500000 0),(19,.sl (List.map (cS c_Rect) [f.Rects,f.Cuts,f.Forms])),(20,vI ([f.Rects,f.Cuts,f.Forms].length : Int)),(21,vI s255)],[(500000,.box (c_Flat f))]⟩ ?_))
 refine zD (z6 2 fun τ hτ=>?_)
 obtain rfl:=osi h
 exact zH hτ
 replace h:=iteF hb h
 refine zL 0 fun τ hτ=>?_
 refine th_exit ?_
 obtain rfl:=osi h
 exact zF hτ
 intro x
 rcases x with _ | _ <;> rfl
 intro τ hτ
 rcases x380 with j381 | j382
 refine bl_ret (th_ret ?_)
 obtain rfl:=osi h
 exact zV hτ [(2,vI 1)]
 refine zQ (zE hτ ⟨[(1,.ptr 500000 0)],[(500000,.box (c_Flat f))]⟩ (zB ?_))
 refine z7 (zA 2 (evs_op (st_len (c:=c_BendLine) (l:=f.Bends) (x:=(s_BendLine f.Bends)) (by kernel_rfl) (by kernel_rfl)) ?_))
 refine z1 1 ⟨[(40,s_BendLine f.Bends),(41,vI (f.Bends.length : Int)),(42,vI 0)],[]⟩ (zC ?_)
 obtain ⟨x438,hx438,h⟩:=bindS h
 refine sem_loopS (fun (s421 : Int)=>⟨[(40,s_BendLine f.Bends),(41,vI (f.Bends.length : Int)),(42,vI s421)],[]⟩) (fun (x438 : Unit ⊕ Unit)=>match x438 with | .inl j439=>(.ret,⟨[(2,vI 1)],[]⟩) | .inr j440=>(.exit 4,⟨[],[]⟩)) (flat_check_l3 f) 0 x438 (by kernel_rfl) (here (by kernel_rfl)) hx438 ?_ ?_ ?_
 intro s421 r h
 refine z3 1 ⟨[(40,s_BendLine f.Bends),(41,vI (f.Bends.length : Int)),(42,vI s421),(43,vB (decide (s421 < (f.Bends.length : Int))))],[]⟩ (zB (zI (decide (s421 < (f.Bends.length : Int))) (fun hb=>?_) fun hb=>?_))
 replace h:=iteT hb h
 refine z4 ⟨[(40,s_BendLine f.Bends),(41,vI (f.Bends.length : Int)),(42,vI s421)],[]⟩ (zB (zC ?_))
 refine z7 ?_
 obtain ⟨x435,hx435,h⟩:=bindS h
 refine evs_op (st_idx (c:=c_BendLine) (l:=f.Bends) (i:=s421) (kd:=.i64) (sz:=8) (by kernel_rfl) hx435 rfl) (z1 3 ⟨[(8,.ptr 8 0),(40,s_BendLine f.Bends),(41,vI (f.Bends.length : Int)),(42,vI s421)],[(8,.box (c_BendLine x435))]⟩ (z7 ?_))
 refine zA 2 ?_
 obtain ⟨r437,hr437,h⟩:=bindS h
 refine evs_callP [] (by kernel_rfl) (W.flat_inRange_ok hr437) (by kernel_rfl) (.inl rfl) (by kernel_rfl) (z1 1 ⟨[(40,s_BendLine f.Bends),(41,vI (f.Bends.length : Int)),(42,vI s421),(49,vB (!r437))],[]⟩ (zI (!r437) (fun hb=>?_) fun hb=>?_))
 replace h:=iteT hb h
 refine z8 1 ⟨[(2,vI 1)],[]⟩ fun τ hτ=>?_
 refine bl_ret (th_ret ?_)
 obtain rfl:=osi h
 exact zF hτ
 replace h:=iteF hb h
 refine zM fun τ hτ=>?_
 refine bl_normal (zE hτ ⟨[(40,s_BendLine f.Bends),(41,vI (f.Bends.length : Int)),(42,vI s421)],[]⟩ (zD ?_))
 refine z6 2 fun τ hτ=>?_
 obtain rfl:=osi h
 exact zH hτ
 replace h:=iteF hb h
 refine zL 4 fun τ hτ=>?_
 refine th_exit ?_
 obtain rfl:=osi h
 exact zF hτ
 intro x
 rcases x with _ | _ <;> rfl
 intro τ hτ
 rcases x438 with j439 | j440
 refine bl_ret (th_ret ?_)
 obtain rfl:=osi h
 exact zV hτ [(2,vI 1)]
 refine zQ (zE hτ ⟨[],[]⟩ (z8 1 ⟨[(2,vI 0)],[]⟩ fun τ hτ=>?_))
 obtain rfl:=osi h
 exact zV hτ [(2,vI 0)]
theorem W.flat_quarter_1_ok {r0 : Rect} {r : Rect} (h : flat_quarter_1 r0 = some r) : PC G.P 146 [(.agg (c_Rect r0))] [] (.agg (c_Rect r)) [(0,.box [(vI (isub (ineg r0.Y) r0.H)),(vI r0.X),(vI r0.H),(vI r0.W)])]:=by
 refine zU G Tryz.func146 (zK ⟨[(0,.agg (c_Rect r0))],[]⟩ (z3 2 ⟨[(1,.ptr 1 0),(2,.ptr 2 0)],[(1,.box (c_Rect r0)),(2,.box [(vI 0),(vI 0),(vI 0),(vI 0)])]⟩ ?_))
 refine z8 14 ⟨[(2,.ptr 2 0)],[(2,.box [(vI (isub (ineg r0.Y) r0.H)),(vI r0.X),(vI r0.H),(vI r0.W)])]⟩ fun τ hτ=>?_
 obtain rfl:=osi h
 exact rk_ret hτ [(2,.ptr 0 0)] (subR_prep [] [(2,0)] (by kernel_rfl) rfl rfl (by kernel_rfl)) (by kernel_rfl)
theorem W.flat_mapped_1_ok {l : (List Rect)} {r : (List Rect)} (h : flat_mapped_1 l = some r) : PC G.P 163 [(.sl (List.map c_Rect l)),(.vptr [(.fn 146 [])] 0)] [] (.row (.top 0) 86) [(0,.row 86 [] (List.map c_Rect r))]:=by
 refine zU G Tryz.func163 (zK ⟨[(0,s_Rect l),(1,.vptr [(.fn 146 [])] 0)],[]⟩ (z3 1 ⟨[(0,s_Rect l),(1,.vptr [(.fn 146 [])] 0)],[]⟩ ?_))
 refine z3 1 ⟨[(0,s_Rect l),(1,.vptr [(.fn 146 [])] 0),(4,ro 4 86)],[(4,w_Rect 86 [])]⟩ (zB (z7 ?_))
 refine zA 1 (evs_op (st_len (c:=c_Rect) (l:=l) (x:=(s_Rect l)) (by kernel_rfl) (by kernel_rfl)) (z1 1 ⟨[(1,.vptr [(.fn 146 [])] 0),(4,ro 4 86),(7,s_Rect l),(8,vI (l.length : Int)),(9,vI 0)],[(4,w_Rect 86 [])]⟩ ?_))
 refine zC ?_
 obtain ⟨x78,hx78,h⟩:=bindS h
 refine sem_loopS (fun (s53 : Int × (List Rect))=>⟨[(1,.vptr [(.fn 146 [])] 0),(4,ro 500000 86),(7,s_Rect l),(8,vI (l.length : Int)),(9,vI s53.1)],[(500000,w_Rect 86 s53.2)]⟩) (fun (x78 : (List Rect))=>(.exit 0,⟨[(4,ro 500000 86)],[(500000,w_Rect 86 x78)]⟩)) (flat_mapped_1_l1 l) (0,[]) x78 (by kernel_rfl) (subR_prep [] [(4,500000)] (by kernel_rfl) rfl rfl (by kernel_rfl)) hx78 ?_ ?_ ?_
 intro s53 r h
 refine z3 1 ⟨[(1,.vptr [(.fn 146 [])] 0),(4,ro 500000 86),(7,s_Rect l),(8,vI (l.length : Int)),(9,vI s53.1),(10,vB (decide (s53.1 < (l.length : Int))))],[(500000,w_Rect 86 s53.2)]⟩ (zB (zI (decide (s53.1 < (l.length : Int))) (fun hb=>?_) fun hb=>?_))
 replace h:=iteT hb h
 refine z4 ⟨[(1,.vptr [(.fn 146 [])] 0),(4,ro 500000 86),(7,s_Rect l),(8,vI (l.length : Int)),(9,vI s53.1)],[(500000,w_Rect 86 s53.2)]⟩ (zB (zC ?_))
 refine z7 ?_
 obtain ⟨x73,hx73,h⟩:=bindS h
 refine evs_op (st_idx (c:=c_Rect) (l:=l) (i:=s53.1) (kd:=.i64) (sz:=4) (by kernel_rfl) hx73 rfl) (z1 3 ⟨[(1,.vptr [(.fn 146 [])] 0),(4,ro 500000 86),(6,.ptr 6 0),(7,s_Rect l),(8,vI (l.length : Int)),(9,vI s53.1)],[(6,.box (c_Rect x73)),(500000,w_Rect 86 s53.2)]⟩ (zD ?_))
 refine zA 3 ?_
 obtain ⟨r76,hr76,h⟩:=bindS h
 refine evs_callS [] [(0,700150)] [] (by kernel_rfl) (W.flat_quarter_1_ok hr76) (by kernel_rfl) (by kernel_rfl) (.inl rfl) (zA 1 ?_)
 obtain ⟨l77,hl77,h⟩:=bindS h
 refine evs_op (st_app (c:=c_Rect) (l:=s53.2) (l2:=[r76]) (x:=(s_Rect [r76])) (g:=500000) (e:=86) (sz:=4) (d:=18) (by kernel_rfl) (by kernel_rfl) (by kernel_rfl) (by kernel_rfl) (fun _=>rfl) rfl hl77) (z6 1 fun τ hτ=>?_)
 refine bl_normal (zE hτ ⟨[(1,.vptr [(.fn 146 [])] 0),(4,ro 500000 86),(7,s_Rect l),(8,vI (l.length : Int)),(9,vI s53.1)],[(500000,w_Rect 86 l77)]⟩ (zD ?_))
 refine z6 2 fun τ hτ=>?_
 obtain rfl:=osi h
 exact zH hτ
 replace h:=iteF hb h
 refine zL 0 fun τ hτ=>?_
 refine th_exit ?_
 obtain rfl:=osi h
 exact zF hτ
 intro x
 rfl
 intro τ hτ
 refine zQ (zE hτ ⟨[(4,ro 500000 86)],[(500000,w_Rect 86 x78)]⟩ (z8 2 ⟨[(3,ro 500000 86)],[(500000,w_Rect 86 x78)]⟩ fun τ hτ=>?_))
 obtain rfl:=osi h
 exact rk_ret hτ [(3,ro 0 86)] (subR_prep [] [(500000,0)] (by kernel_rfl) rfl rfl (by kernel_rfl)) (by kernel_rfl)
theorem W.flat_quarter_2_ok {s0 : Segment} {r : Segment} (h : flat_quarter_2 s0 = some r) : PC G.P 147 [(.agg (c_Segment s0))] [] (.agg (c_Segment r)) [(0,.box [(vI (ineg s0.Y1)),(vI s0.X1),(vI (ineg s0.Y2)),(vI s0.X2)])]:=by
 refine zU G Tryz.func147 (zK ⟨[(0,.agg (c_Segment s0))],[]⟩ (z3 2 ⟨[(1,.ptr 1 0),(2,.ptr 2 0)],[(1,.box (c_Segment s0)),(2,.box [(vI 0),(vI 0),(vI 0),(vI 0)])]⟩ ?_))
 refine z8 12 ⟨[(2,.ptr 2 0)],[(2,.box [(vI (ineg s0.Y1)),(vI s0.X1),(vI (ineg s0.Y2)),(vI s0.X2)])]⟩ fun τ hτ=>?_
 obtain rfl:=osi h
 exact rk_ret hτ [(2,.ptr 0 0)] (subR_prep [] [(2,0)] (by kernel_rfl) rfl rfl (by kernel_rfl)) (by kernel_rfl)
theorem W.flat_mapped__flat_quarter_1__flat_quarter_2_ok {f : Flat} {r : Flat} (h : flat_mapped__flat_quarter_1__flat_quarter_2 f = some r) : PC G.P 145 [(.agg (c_Flat f)),(.fn 146 []),(.fn 147 [])] [] (.agg [(.row (.top 1) 86),(.row (.top 2) 86),(.row (.top 3) 86),(.row (.top 4) 162)]) [(0,.box [(.row (.top 1) 86),(.row (.top 2) 86),(.row (.top 3) 86),(.row (.top 4) 162)]),(1,.row 86 [] (List.map c_Rect r.Rects)),(2,.row 86 [] (List.map c_Rect r.Cuts)),(3,.row 86 [] (List.map c_Rect r.Forms)),(4,.row 162 [] (List.map c_BendLine r.Bends))]:=by
 refine zU G Tryz.func145 (zK ⟨[(0,.agg (c_Flat f)),(1,.fn 146 []),(2,.fn 147 [])],[]⟩ (z3 3 ⟨[(2,.fn 147 []),(3,.ptr 3 0),(4,.ptr 4 0),(6,.ptr 6 0)],[(3,.box (c_Flat f)),(4,.box [(.fn 146 [])]),(6,.box [.nl,.nl,.nl,.nl])]⟩ ?_))
 refine z3 2 ⟨[(2,.fn 147 []),(3,.ptr 3 0),(6,.ptr 6 0),(7,.fn 163 [(.ptr 4 0)])],[(3,.box (c_Flat f)),(4,.box [(.fn 146 [])]),(6,.box [.nl,.nl,.nl,.nl])]⟩ (zB (sem_draw [(3,[700150]),(7,[700350]),(11,[700550]),(13,[8])] [(3,[700150]),(7,[700350]),(11,[700550]),(13,[8])] [(3,[4]),(7,[4]),(11,[4])] [(0,[8]),(1,[8]),(2,[8]),(3,[8]),(4,[700150,8]),(5,[700150,8]),(6,[700150,8]),(7,[8]),(8,[700150,700350,8]),(9,[700150,700350,8]),(10,[700150,700350,8]),(11,[8]),(12,[8]),(13,[700150,700350,700550])] [(0,[700150,700350,700550,8]),(1,[700150,700350,700550,8]),(2,[700150,700350,700550,8]),(3,[700350,700550,8]),(4,[700150,700350,700550,8]),(5,[700150,700350,700550,8]),(6,[700150,700350,700550,8]),(7,[700550,8]),(8,[700150,700350,700550,8]),(9,[700150,700350,700550,8]),(10,[700150,700350,700550,8]),(11,[8]),(12,[8]),(13,[700150,700350,700550])] 14 (by kernel_rfl) (by kernel_rfl) [700150,700350,700550,8] (by kernel_rfl) (by kernel_rfl) ?_))
 refine evd_run 3 (by kernel_rfl) ?_
 obtain ⟨r7,hr7,h⟩:=bindS h
 refine evd_callS [(0,700150)] [4] (by kernel_rfl) (by kernel_rfl) (W.flat_mapped_1_ok hr7) (by kernel_rfl) (.inr ⟨rfl,fun _ _=>ind_cons (ind_row fun _=>rfl) (fun _ _=>ind_nil)⟩) (by kernel_rfl) (by kernel_rfl) (evd_run 3 (by kernel_rfl) ?_)
 obtain ⟨r8,hr8,h⟩:=bindS h
 refine evd_callS [(0,700350)] [4] (by kernel_rfl) (by kernel_rfl) (W.flat_mapped_1_ok hr8) (by kernel_rfl) (.inr ⟨rfl,fun _ _=>ind_cons (ind_row fun _=>rfl) (fun _ _=>ind_nil)⟩) (by kernel_rfl) (by kernel_rfl) (evd_run 3 (by kernel_rfl) ?_)
 obtain ⟨r9,hr9,h⟩:=bindS h
 refine evd_callS [(0,700550)] [4] (by kernel_rfl) (by kernel_rfl) (W.flat_mapped_1_ok hr9) (by kernel_rfl) (.inr ⟨rfl,fun _ _=>ind_cons (ind_row fun _=>rfl) (fun _ _=>ind_nil)⟩) (by kernel_rfl) (by kernel_rfl) (evd_run 1 (by kernel_rfl) (evd_new (g:=8) (ob:=.box [.nl,.nl,.nl,.nl]) (v:=(.ptr 8 0)) (by kernel_rfl) (by kernel_rfl) (by kernel_rfl) (by kernel_rfl) (by kernel_rfl) (by kernel_rfl) ?_))
 refine evd_end (by kernel_rfl) (evo_run 1 (by kernel_rfl) (zO fun τ hτ=>?_))
 refine zE hτ ⟨[(2,.fn 147 []),(3,.ptr 3 0),(6,.ptr 6 0),(8,.ptr 8 0)],[(3,.box (c_Flat f)),(6,.box [.nl,.nl,.nl,.nl]),(8,.box [(ro 700150 86),(ro 700350 86),(ro 700550 86),.nl]),(700150,w_Rect 86 r7),(700350,w_Rect 86 r8),(700550,w_Rect 86 r9)]⟩ (zB (z7 ?_))
 refine zA 2 (evs_op (st_len (c:=c_BendLine) (l:=f.Bends) (x:=(s_BendLine f.Bends)) (by kernel_rfl) (by kernel_rfl)) (z1 1 ⟨[(2,.fn 147 []),(6,.ptr 6 0),(8,.ptr 8 0),(26,s_BendLine f.Bends),(27,vI (f.Bends.length : Int)),(28,vI 0)],[(6,.box [.nl,.nl,.nl,.nl]),(8,.box [(ro 700150 86),(ro 700350 86),(ro 700550 86),.nl]),(700150,w_Rect 86 r7),(700350,w_Rect 86 r8),(700550,w_Rect 86 r9)]⟩ ?_))
 refine zC ?_
 obtain ⟨x87,hx87,h⟩:=bindS h
 refine sem_loopS (fun (s62 : Int × (List BendLine))=>⟨[(2,.fn 147 []),(6,.ptr 500000 0),(8,.ptr 500001 0),(26,s_BendLine f.Bends),(27,vI (f.Bends.length : Int)),(28,vI s62.1)],[(500000,.box [.nl,.nl,.nl,.nl]),(500001,.box [(ro 500002 86),(ro 500003 86),(ro 500004 86),(ro 500005 162)]),(500002,w_Rect 86 r7),(500003,w_Rect 86 r8),(500004,w_Rect 86 r9),(500005,w_BendLine 162 s62.2)]⟩) (fun (x87 : (List BendLine))=>(.exit 0,⟨[(6,.ptr 500000 0),(8,.ptr 500001 0)],[(500000,.box [.nl,.nl,.nl,.nl]),(500001,.box [(ro 500002 86),(ro 500003 86),(ro 500004 86),(ro 500005 162)]),(500002,w_Rect 86 r7),(500003,w_Rect 86 r8),(500004,w_Rect 86 r9),(500005,w_BendLine 162 x87)]⟩)) (flat_mapped__flat_quarter_1__flat_quarter_2_l1 f) (0,[]) x87 (by kernel_rfl) (subR_prep [.row (.box 8 3) 800000 162 []] [(6,500000),(8,500001),(700150,500002),(700350,500003),(700550,500004),(800000,500005)] (by kernel_rfl) rfl rfl (by kernel_rfl)) hx87 ?_ ?_ ?_
 intro s62 r h
 refine z3 1 ⟨[(2,.fn 147 []),(6,.ptr 500000 0),(8,.ptr 500001 0),(26,s_BendLine f.Bends),(27,vI (f.Bends.length : Int)),(28,vI s62.1),(29,vB (decide (s62.1 < (f.Bends.length : Int))))],[(500000,.box [.nl,.nl,.nl,.nl]),(500001,.box [(ro 500002 86),(ro 500003 86),(ro 500004 86),(ro 500005 162)]),(500002,w_Rect 86 r7),(500003,w_Rect 86 r8),(500004,w_Rect 86 r9),(500005,w_BendLine 162 s62.2)]⟩ (zB (zI (decide (s62.1 < (f.Bends.length : Int))) (fun hb=>?_) fun hb=>?_))
 replace h:=iteT hb h
 refine z4 ⟨[(2,.fn 147 []),(6,.ptr 500000 0),(8,.ptr 500001 0),(26,s_BendLine f.Bends),(27,vI (f.Bends.length : Int)),(28,vI s62.1)],[(500000,.box [.nl,.nl,.nl,.nl]),(500001,.box [(ro 500002 86),(ro 500003 86),(ro 500004 86),(ro 500005 162)]),(500002,w_Rect 86 r7),(500003,w_Rect 86 r8),(500004,w_Rect 86 r9),(500005,w_BendLine 162 s62.2)]⟩ (zB (zC ?_))
 refine z7 ?_
 obtain ⟨x82,hx82,h⟩:=bindS h
 refine evs_op (st_idx (c:=c_BendLine) (l:=f.Bends) (i:=s62.1) (kd:=.i64) (sz:=8) (by kernel_rfl) hx82 rfl) (z1 3 ⟨[(2,.fn 147 []),(6,.ptr 500000 0),(8,.ptr 500001 0),(10,.ptr 10 0),(26,s_BendLine f.Bends),(27,vI (f.Bends.length : Int)),(28,vI s62.1)],[(10,.box (c_BendLine x82)),(500000,.box [.nl,.nl,.nl,.nl]),(500001,.box [(ro 500002 86),(ro 500003 86),(ro 500004 86),(ro 500005 162)]),(500002,w_Rect 86 r7),(500003,w_Rect 86 r8),(500004,w_Rect 86 r9),(500005,w_BendLine 162 s62.2)]⟩ (z7 ?_))
 refine zA 3 ?_
 obtain ⟨r84,hr84,h⟩:=bindS h
 refine evs_callS [] [(0,700150)] [] (by kernel_rfl) (W.flat_quarter_2_ok hr84) (by kernel_rfl) (by kernel_rfl) (.inl rfl) (z1 2 ⟨[(2,.fn 147 []),(6,.ptr 500000 0),(8,.ptr 500001 0),(10,.ptr 10 0),(26,s_BendLine f.Bends),(27,vI (f.Bends.length : Int)),(28,vI s62.1)],[(10,.box [(vI x82.Flange),(vI x82.Parent),(vI r84.X1),(vI r84.Y1),(vI r84.X2),(vI r84.Y2),(vI x82.Angle),(vI x82.Deduct)]),(500000,.box [.nl,.nl,.nl,.nl]),(500001,.box [(ro 500002 86),(ro 500003 86),(ro 500004 86),(ro 500005 162)]),(500002,w_Rect 86 r7),(500003,w_Rect 86 r8),(500004,w_Rect 86 r9),(500005,w_BendLine 162 s62.2)]⟩ (zD ?_))
 refine zA 4 ?_
 obtain ⟨l86,hl86,h⟩:=bindS h
 refine evs_op (st_app (c:=c_BendLine) (l:=s62.2) (l2:=[(BendLine.mk x82.Flange x82.Parent r84 x82.Angle x82.Deduct)]) (x:=(s_BendLine [(BendLine.mk x82.Flange x82.Parent r84 x82.Angle x82.Deduct)])) (g:=500005) (e:=162) (sz:=8) (d:=41) (by kernel_rfl) (by kernel_rfl) (by kernel_rfl) (by kernel_rfl) (fun _=>rfl) rfl hl86) (z6 2 fun τ hτ=>?_)
 refine bl_normal (zE hτ ⟨[(2,.fn 147 []),(6,.ptr 500000 0),(8,.ptr 500001 0),(26,s_BendLine f.Bends),(27,vI (f.Bends.length : Int)),(28,vI s62.1)],[(500000,.box [.nl,.nl,.nl,.nl]),(500001,.box [(ro 500002 86),(ro 500003 86),(ro 500004 86),(ro 500005 162)]),(500002,w_Rect 86 r7),(500003,w_Rect 86 r8),(500004,w_Rect 86 r9),(500005,w_BendLine 162 l86)]⟩ (zD ?_))
 refine z6 2 fun τ hτ=>?_
 obtain rfl:=osi h
 exact zH hτ
 replace h:=iteF hb h
 refine zL 0 fun τ hτ=>?_
 refine th_exit ?_
 obtain rfl:=osi h
 exact zF hτ
 intro x
 rfl
 intro τ hτ
 refine zQ (zE hτ ⟨[(6,.ptr 500000 0),(8,.ptr 500001 0)],[(500000,.box [.nl,.nl,.nl,.nl]),(500001,.box [(ro 500002 86),(ro 500003 86),(ro 500004 86),(ro 500005 162)]),(500002,w_Rect 86 r7),(500003,w_Rect 86 r8),(500004,w_Rect 86 r9),(500005,w_BendLine 162 x87)]⟩ (z8 2 ⟨[(6,.ptr 500000 0)],[(500000,.box [(ro 500002 86),(ro 500003 86),(ro 500004 86),(ro 500005 162)]),(500002,w_Rect 86 r7),(500003,w_Rect 86 r8),(500004,w_Rect 86 r9),(500005,w_BendLine 162 x87)]⟩ fun τ hτ=>?_))
 obtain rfl:=osi h
 exact rk_ret hτ [(6,.ptr 0 0)] (subR_prep [] [(500000,0),(500002,1),(500003,2),(500004,3),(500005,4)] (by kernel_rfl) rfl rfl (by kernel_rfl)) (by kernel_rfl)
theorem W.flat_quarter_ok {f : Flat} {r : Flat} (h : flat_quarter f = some r) : PC G.P 127 [(.agg (c_Flat f))] [] (.agg [(.row (.top 1) 86),(.row (.top 2) 86),(.row (.top 3) 86),(.row (.top 4) 162)]) [(0,.box [(.row (.top 1) 86),(.row (.top 2) 86),(.row (.top 3) 86),(.row (.top 4) 162)]),(1,.row 86 [] (List.map c_Rect r.Rects)),(2,.row 86 [] (List.map c_Rect r.Cuts)),(3,.row 86 [] (List.map c_Rect r.Forms)),(4,.row 162 [] (List.map c_BendLine r.Bends))]:=by
 refine zU G Tryz.func127 (zK ⟨[(0,.agg (c_Flat f))],[]⟩ (z3 2 ⟨[(1,.ptr 1 0),(2,.ptr 2 0)],[(1,.box (c_Flat f)),(2,.box [.nl,.nl,.nl,.nl])]⟩ ?_))
 refine z7 (zA 1 ?_)
 obtain ⟨r2,hr2,h⟩:=bindS h
 refine evs_callS [] [(0,700050),(1,700051),(2,700052),(3,700053),(4,700054)] [] (by kernel_rfl) (W.flat_mapped__flat_quarter_1__flat_quarter_2_ok hr2) (by kernel_rfl) (by kernel_rfl) (.inl rfl) (z1 1 ⟨[(2,.ptr 2 0)],[(2,.box [(ro 700051 86),(ro 700052 86),(ro 700053 86),(ro 700054 162)]),(700051,w_Rect 86 r2.Rects),(700052,w_Rect 86 r2.Cuts),(700053,w_Rect 86 r2.Forms),(700054,w_BendLine 162 r2.Bends)]⟩ (zN fun τ hτ=>?_))
 obtain rfl:=osi h
 exact rk_ret hτ [(2,.ptr 0 0)] (subR_prep [] [(2,0),(700051,1),(700052,2),(700053,3),(700054,4)] (by kernel_rfl) rfl rfl (by kernel_rfl)) (by kernel_rfl)
theorem W.flat_bounds_ok {l : (List Rect)} {r : Rect × Int × Int × Int × Int} (h : flat_bounds l = some r) : PC G.P 148 [(.sl (List.map c_Rect l))] [] (.agg (c_Rect r.1)) [(0,.box [(vI r.2.1),(vI r.2.2.1),(vI r.2.2.2.1),(vI r.2.2.2.2)])]:=by
 refine zU G Tryz.func148 (zK ⟨[(0,s_Rect l)],[]⟩ (z3 1 ⟨[(0,s_Rect l),(2,.ptr 2 0)],[(2,.box [(vI 0),(vI 0),(vI 0),(vI 0)])]⟩ ?_))
 refine z7 (zA 1 ?_)
 obtain ⟨x2,hx2,h⟩:=bindS h
 refine evs_op (st_idx (c:=c_Rect) (l:=l) (i:=0) (kd:=.i64) (sz:=4) (by kernel_rfl) hx2 rfl) (z1 3 ⟨[(0,s_Rect l),(2,.ptr 2 0),(3,.ptr 3 0)],[(2,.box [(vI 0),(vI 0),(vI 0),(vI 0)]),(3,.box (c_Rect x2))]⟩ (zB ?_))
 refine z7 (zA 1 ?_)
 obtain ⟨l21,hl21,h⟩:=bindS h
 refine evs_op (st_slL (c:=c_Rect) (l:=l) (sz:=4) (lo:=1) (k1:=.i64) (by kernel_rfl) (fun _=>rfl) hl21) (evs_op (st_len (c:=c_Rect) (l:=l21) (x:=(s_Rect l21)) (by kernel_rfl) (by kernel_rfl)) (z1 1 ⟨[(2,.ptr 2 0),(3,.ptr 3 0),(12,s_Rect l21),(13,vI (l21.length : Int)),(14,vI 0)],[(2,.box [(vI 0),(vI 0),(vI 0),(vI 0)]),(3,.box (c_Rect x2))]⟩ ?_))
 refine zC ?_
 obtain ⟨x36,hx36,h⟩:=bindS h
 refine sem_loopS (fun (s27 : Int × Int × Int × Int × Int)=>⟨[(2,.ptr 500000 0),(3,.ptr 500001 0),(12,s_Rect l21),(13,vI (l21.length : Int)),(14,vI s27.1)],[(500000,.box [(vI 0),(vI 0),(vI 0),(vI 0)]),(500001,.box [(vI s27.2.1),(vI s27.2.2.1),(vI s27.2.2.2.1),(vI s27.2.2.2.2)])]⟩) (fun (x36 : Int × Int × Int × Int)=>(.exit 0,⟨[(2,.ptr 500000 0),(3,.ptr 500001 0)],[(500000,.box [(vI 0),(vI 0),(vI 0),(vI 0)]),(500001,.box [(vI x36.1),(vI x36.2.1),(vI x36.2.2.1),(vI x36.2.2.2)])]⟩)) (flat_bounds_l1 l21) (0,x2.X,x2.Y,x2.W,x2.H) x36 (by kernel_rfl) (subR_prep [] [(2,500000),(3,500001)] (by kernel_rfl) rfl rfl (by kernel_rfl)) hx36 ?_ ?_ ?_
 intro s27 r h
 refine z3 1 ⟨[(2,.ptr 500000 0),(3,.ptr 500001 0),(12,s_Rect l21),(13,vI (l21.length : Int)),(14,vI s27.1),(15,vB (decide (s27.1 < (l21.length : Int))))],[(500000,.box [(vI 0),(vI 0),(vI 0),(vI 0)]),(500001,.box [(vI s27.2.1),(vI s27.2.2.1),(vI s27.2.2.2.1),(vI s27.2.2.2.2)])]⟩ (zB (zI (decide (s27.1 < (l21.length : Int))) (fun hb=>?_) fun hb=>?_))
 replace h:=iteT hb h
 refine z4 ⟨[(2,.ptr 500000 0),(3,.ptr 500001 0),(12,s_Rect l21),(13,vI (l21.length : Int)),(14,vI s27.1)],[(500000,.box [(vI 0),(vI 0),(vI 0),(vI 0)]),(500001,.box [(vI s27.2.1),(vI s27.2.2.1),(vI s27.2.2.2.1),(vI s27.2.2.2.2)])]⟩ (zB (zC ?_))
 refine z7 ?_
 obtain ⟨x35,hx35,h⟩:=bindS h
 refine evs_op (st_idx (c:=c_Rect) (l:=l21) (i:=s27.1) (kd:=.i64) (sz:=4) (by kernel_rfl) hx35 rfl) (z1 3 ⟨[(2,.ptr 500000 0),(3,.ptr 500001 0),(5,.ptr 5 0),(12,s_Rect l21),(13,vI (l21.length : Int)),(14,vI s27.1)],[(5,.box (c_Rect x35)),(500000,.box [(vI 0),(vI 0),(vI 0),(vI 0)]),(500001,.box [(vI s27.2.1),(vI s27.2.2.1),(vI s27.2.2.2.1),(vI s27.2.2.2.2)])]⟩ (zB ?_))
 refine sem_drawN [] [] [] [] [] 11 (by kernel_rfl) (by kernel_rfl) (by kernel_rfl) (evd_run 11 (by kernel_rfl) (evd_end (by kernel_rfl) ?_))
 refine evo_run 1 (by kernel_rfl) (zO fun τ hτ=>?_)
 refine zE hτ ⟨[(2,.ptr 500000 0),(3,.ptr 500001 0),(5,.ptr 5 0),(6,vI (imin s27.2.1 x35.X)),(7,vI (imin s27.2.2.1 x35.Y)),(12,s_Rect l21),(13,vI (l21.length : Int)),(14,vI s27.1)],[(5,.box (c_Rect x35)),(500000,.box [(vI 0),(vI 0),(vI 0),(vI 0)]),(500001,.box [(vI s27.2.1),(vI s27.2.2.1),(vI s27.2.2.2.1),(vI s27.2.2.2.2)])]⟩ (zB (sem_drawN [(27,[500001])] [] [] [(17,[500001]),(18,[500001]),(19,[500001]),(20,[500001]),(21,[500001]),(22,[500001]),(23,[500001]),(24,[500001]),(25,[500001])] [] 28 (by kernel_rfl) (by kernel_rfl) (by kernel_rfl) ?_))
 refine evd_run 27 (by kernel_rfl) (evd_set (g:=500001) (ob:=.box [(vI s27.2.1),(vI s27.2.2.1),(vI (isub (imax (iadd s27.2.1 s27.2.2.2.1) (iadd x35.X x35.W)) (imin s27.2.1 x35.X))),(vI s27.2.2.2.2)]) (v:=vU) (by kernel_rfl) (by kernel_rfl) (by kernel_rfl) (by kernel_rfl) (by kernel_rfl) (evd_end (by kernel_rfl) ?_))
 refine evo_run 2 (by kernel_rfl) (zO fun τ hτ=>?_)
 refine zE hτ ⟨[(2,.ptr 500000 0),(3,.ptr 500001 0),(6,vI (imin s27.2.1 x35.X)),(7,vI (imin s27.2.2.1 x35.Y)),(12,s_Rect l21),(13,vI (l21.length : Int)),(14,vI s27.1)],[(500000,.box [(vI 0),(vI 0),(vI 0),(vI 0)]),(500001,.box [(vI s27.2.1),(vI s27.2.2.1),(vI (isub (imax (iadd s27.2.1 s27.2.2.2.1) (iadd x35.X x35.W)) (imin s27.2.1 x35.X))),(vI (isub (imax (iadd s27.2.2.1 s27.2.2.2.2) (iadd x35.Y x35.H)) (imin s27.2.2.1 x35.Y)))])]⟩ (zD (z6 6 fun τ hτ=>?_))
 refine bl_normal (zE hτ ⟨[(2,.ptr 500000 0),(3,.ptr 500001 0),(12,s_Rect l21),(13,vI (l21.length : Int)),(14,vI s27.1)],[(500000,.box [(vI 0),(vI 0),(vI 0),(vI 0)]),(500001,.box [(vI (imin s27.2.1 x35.X)),(vI (imin s27.2.2.1 x35.Y)),(vI (isub (imax (iadd s27.2.1 s27.2.2.2.1) (iadd x35.X x35.W)) (imin s27.2.1 x35.X))),(vI (isub (imax (iadd s27.2.2.1 s27.2.2.2.2) (iadd x35.Y x35.H)) (imin s27.2.2.1 x35.Y)))])]⟩ (zD ?_))
 refine z6 2 fun τ hτ=>?_
 obtain rfl:=osi h
 exact zH hτ
 replace h:=iteF hb h
 refine zL 0 fun τ hτ=>?_
 refine th_exit ?_
 obtain rfl:=osi h
 exact zF hτ
 intro x
 rfl
 intro τ hτ
 refine zQ (zE hτ ⟨[(2,.ptr 500000 0),(3,.ptr 500001 0)],[(500000,.box [(vI 0),(vI 0),(vI 0),(vI 0)]),(500001,.box [(vI x36.1),(vI x36.2.1),(vI x36.2.2.1),(vI x36.2.2.2)])]⟩ (z8 2 ⟨[(2,.ptr 500000 0)],[(500000,.box [(vI x36.1),(vI x36.2.1),(vI x36.2.2.1),(vI x36.2.2.2)])]⟩ fun τ hτ=>?_))
 obtain rfl:=osi h
 exact rk_ret hτ [(2,.ptr 0 0)] (subR_prep [] [(500000,0)] (by kernel_rfl) rfl rfl (by kernel_rfl)) (by kernel_rfl)
theorem W.flat_settled_1_ok {r0 : Rect} {a_0 : Int} {a_1 : Int} {a_2 : Int} {a_3 : Int} {r : Rect} (h : flat_settled_1 r0 a_0 a_1 a_2 a_3 = some r) : PC G.P 149 [(.agg (c_Rect r0)),(.vptr [(vI a_0),(vI a_1),(vI a_2),(vI a_3)] 0)] [] (.agg (c_Rect r)) [(0,.box [(vI (isub r0.X a_0)),(vI (isub r0.Y a_1)),(vI r0.W),(vI r0.H)])]:=by
 refine zU G Tryz.func149 (zK ⟨[(0,.agg (c_Rect r0)),(1,.vptr [(vI a_0),(vI a_1),(vI a_2),(vI a_3)] 0)],[]⟩ (z3 2 ⟨[(1,.vptr [(vI a_0),(vI a_1),(vI a_2),(vI a_3)] 0),(2,.ptr 2 0),(3,.ptr 3 0)],[(2,.box (c_Rect r0)),(3,.box [(vI 0),(vI 0),(vI 0),(vI 0)])]⟩ ?_))
 refine zB (sem_drawN [(11,[2])] [] [] [(7,[2]),(8,[2]),(9,[2])] [] 12 (by kernel_rfl) (by kernel_rfl) (by kernel_rfl) (evd_run 11 (by kernel_rfl) ?_))
 refine evd_set (g:=2) (ob:=.box [(vI (isub r0.X a_0)),(vI r0.Y),(vI r0.W),(vI r0.H)]) (v:=vU) (by kernel_rfl) (by kernel_rfl) (by kernel_rfl) (by kernel_rfl) (by kernel_rfl) (evd_end (by kernel_rfl) (evo_run 2 (by kernel_rfl) ?_))
 refine zO fun τ hτ=>?_
 refine zE hτ ⟨[(2,.ptr 2 0),(3,.ptr 3 0)],[(2,.box [(vI (isub r0.X a_0)),(vI (isub r0.Y a_1)),(vI r0.W),(vI r0.H)]),(3,.box [(vI 0),(vI 0),(vI 0),(vI 0)])]⟩ (z8 2 ⟨[(3,.ptr 3 0)],[(3,.box [(vI (isub r0.X a_0)),(vI (isub r0.Y a_1)),(vI r0.W),(vI r0.H)])]⟩ fun τ hτ=>?_)
 obtain rfl:=osi h
 exact rk_ret hτ [(3,.ptr 0 0)] (subR_prep [] [(3,0)] (by kernel_rfl) rfl rfl (by kernel_rfl)) (by kernel_rfl)
theorem W.flat_mapped_1'_ok {l : (List Rect)} {a_0_0_0 : Int} {a_0_0_1 : Int} {a_0_0_2 : Int} {a_0_0_3 : Int} {r : (List Rect)} (h : flat_mapped_1' l a_0_0_0 a_0_0_1 a_0_0_2 a_0_0_3 = some r) : PC G.P 163 [(.sl (List.map c_Rect l)),(.vptr [(.fn 149 [(.vptr [(vI a_0_0_0),(vI a_0_0_1),(vI a_0_0_2),(vI a_0_0_3)] 0)])] 0)] [] (.row (.top 0) 86) [(0,.row 86 [] (List.map c_Rect r))]:=by
 refine zU G Tryz.func163 (zK ⟨[(0,s_Rect l),(1,.vptr [(.fn 149 [(.vptr [(vI a_0_0_0),(vI a_0_0_1),(vI a_0_0_2),(vI a_0_0_3)] 0)])] 0)],[]⟩ (z3 1 ⟨[(0,s_Rect l),(1,.vptr [(.fn 149 [(.vptr [(vI a_0_0_0),(vI a_0_0_1),(vI a_0_0_2),(vI a_0_0_3)] 0)])] 0)],[]⟩ ?_))
 refine z3 1 ⟨[(0,s_Rect l),(1,.vptr [(.fn 149 [(.vptr [(vI a_0_0_0),(vI a_0_0_1),(vI a_0_0_2),(vI a_0_0_3)] 0)])] 0),(4,ro 4 86)],[(4,w_Rect 86 [])]⟩ (zB (z7 ?_))
 refine zA 1 (evs_op (st_len (c:=c_Rect) (l:=l) (x:=(s_Rect l)) (by kernel_rfl) (by kernel_rfl)) (z1 1 ⟨[(1,.vptr [(.fn 149 [(.vptr [(vI a_0_0_0),(vI a_0_0_1),(vI a_0_0_2),(vI a_0_0_3)] 0)])] 0),(4,ro 4 86),(7,s_Rect l),(8,vI (l.length : Int)),(9,vI 0)],[(4,w_Rect 86 [])]⟩ ?_))
 refine zC ?_
 obtain ⟨x78,hx78,h⟩:=bindS h
 refine sem_loopS (fun (s53 : Int × (List Rect))=>⟨[(1,.vptr [(.fn 149 [(.vptr [(vI a_0_0_0),(vI a_0_0_1),(vI a_0_0_2),(vI a_0_0_3)] 0)])] 0),(4,ro 500000 86),(7,s_Rect l),(8,vI (l.length : Int)),(9,vI s53.1)],[(500000,w_Rect 86 s53.2)]⟩) (fun (x78 : (List Rect))=>(.exit 0,⟨[(4,ro 500000 86)],[(500000,w_Rect 86 x78)]⟩)) (flat_mapped_1'_l1 l a_0_0_0 a_0_0_1 a_0_0_2 a_0_0_3) (0,[]) x78 (by kernel_rfl) (subR_prep [] [(4,500000)] (by kernel_rfl) rfl rfl (by kernel_rfl)) hx78 ?_ ?_ ?_
 intro s53 r h
 refine z3 1 ⟨[(1,.vptr [(.fn 149 [(.vptr [(vI a_0_0_0),(vI a_0_0_1),(vI a_0_0_2),(vI a_0_0_3)] 0)])] 0),(4,ro 500000 86),(7,s_Rect l),(8,vI (l.length : Int)),(9,vI s53.1),(10,vB (decide (s53.1 < (l.length : Int))))],[(500000,w_Rect 86 s53.2)]⟩ (zB (zI (decide (s53.1 < (l.length : Int))) (fun hb=>?_) fun hb=>?_))
 replace h:=iteT hb h
 refine z4 ⟨[(1,.vptr [(.fn 149 [(.vptr [(vI a_0_0_0),(vI a_0_0_1),(vI a_0_0_2),(vI a_0_0_3)] 0)])] 0),(4,ro 500000 86),(7,s_Rect l),(8,vI (l.length : Int)),(9,vI s53.1)],[(500000,w_Rect 86 s53.2)]⟩ (zB (zC ?_))
 refine z7 ?_
 obtain ⟨x73,hx73,h⟩:=bindS h
 refine evs_op (st_idx (c:=c_Rect) (l:=l) (i:=s53.1) (kd:=.i64) (sz:=4) (by kernel_rfl) hx73 rfl) (z1 3 ⟨[(1,.vptr [(.fn 149 [(.vptr [(vI a_0_0_0),(vI a_0_0_1),(vI a_0_0_2),(vI a_0_0_3)] 0)])] 0),(4,ro 500000 86),(6,.ptr 6 0),(7,s_Rect l),(8,vI (l.length : Int)),(9,vI s53.1)],[(6,.box (c_Rect x73)),(500000,w_Rect 86 s53.2)]⟩ (zD ?_))
 refine zA 3 ?_
 obtain ⟨r76,hr76,h⟩:=bindS h
 refine evs_callS [] [(0,700150)] [] (by kernel_rfl) (W.flat_settled_1_ok hr76) (by kernel_rfl) (by kernel_rfl) (.inl rfl) (zA 1 ?_)
 obtain ⟨l77,hl77,h⟩:=bindS h
 refine evs_op (st_app (c:=c_Rect) (l:=s53.2) (l2:=[r76]) (x:=(s_Rect [r76])) (g:=500000) (e:=86) (sz:=4) (d:=18) (by kernel_rfl) (by kernel_rfl) (by kernel_rfl) (by kernel_rfl) (fun _=>rfl) rfl hl77) (z6 1 fun τ hτ=>?_)
 refine bl_normal (zE hτ ⟨[(1,.vptr [(.fn 149 [(.vptr [(vI a_0_0_0),(vI a_0_0_1),(vI a_0_0_2),(vI a_0_0_3)] 0)])] 0),(4,ro 500000 86),(7,s_Rect l),(8,vI (l.length : Int)),(9,vI s53.1)],[(500000,w_Rect 86 l77)]⟩ (zD ?_))
 refine z6 2 fun τ hτ=>?_
 obtain rfl:=osi h
 exact zH hτ
 replace h:=iteF hb h
 refine zL 0 fun τ hτ=>?_
 refine th_exit ?_
 obtain rfl:=osi h
 exact zF hτ
 intro x
 rfl
 intro τ hτ
 refine zQ (zE hτ ⟨[(4,ro 500000 86)],[(500000,w_Rect 86 x78)]⟩ (z8 2 ⟨[(3,ro 500000 86)],[(500000,w_Rect 86 x78)]⟩ fun τ hτ=>?_))
 obtain rfl:=osi h
 exact rk_ret hτ [(3,ro 0 86)] (subR_prep [] [(500000,0)] (by kernel_rfl) rfl rfl (by kernel_rfl)) (by kernel_rfl)
theorem W.flat_settled_2_ok {s0 : Segment} {a_0 : Int} {a_1 : Int} {a_2 : Int} {a_3 : Int} {r : Segment} (h : flat_settled_2 s0 a_0 a_1 a_2 a_3 = some r) : PC G.P 150 [(.agg (c_Segment s0)),(.vptr [(vI a_0),(vI a_1),(vI a_2),(vI a_3)] 0)] [] (.agg (c_Segment r)) [(0,.box [(vI (isub s0.X1 a_0)),(vI (isub s0.Y1 a_1)),(vI (isub s0.X2 a_0)),(vI (isub s0.Y2 a_1))])]:=by
 refine zU G Tryz.func150 (zK ⟨[(0,.agg (c_Segment s0)),(1,.vptr [(vI a_0),(vI a_1),(vI a_2),(vI a_3)] 0)],[]⟩ (z3 2 ⟨[(1,.vptr [(vI a_0),(vI a_1),(vI a_2),(vI a_3)] 0),(2,.ptr 2 0),(3,.ptr 3 0)],[(2,.box (c_Segment s0)),(3,.box [(vI 0),(vI 0),(vI 0),(vI 0)])]⟩ ?_))
 refine z8 22 ⟨[(3,.ptr 3 0)],[(3,.box [(vI (isub s0.X1 a_0)),(vI (isub s0.Y1 a_1)),(vI (isub s0.X2 a_0)),(vI (isub s0.Y2 a_1))])]⟩ fun τ hτ=>?_
 obtain rfl:=osi h
 exact rk_ret hτ [(3,.ptr 0 0)] (subR_prep [] [(3,0)] (by kernel_rfl) rfl rfl (by kernel_rfl)) (by kernel_rfl)
theorem W.flat_mapped__flat_settled_1__flat_settled_2_ok {f : Flat} {rect_0_0 : Int} {rect_0_1 : Int} {rect_0_2 : Int} {rect_0_3 : Int} {line_0_0 : Int} {line_0_1 : Int} {line_0_2 : Int} {line_0_3 : Int} {r : Flat} (h : flat_mapped__flat_settled_1__flat_settled_2 f rect_0_0 rect_0_1 rect_0_2 rect_0_3 line_0_0 line_0_1 line_0_2 line_0_3 = some r) : PC G.P 145 [(.agg (c_Flat f)),(.fn 149 [(.vptr [(vI rect_0_0),(vI rect_0_1),(vI rect_0_2),(vI rect_0_3)] 0)]),(.fn 150 [(.vptr [(vI line_0_0),(vI line_0_1),(vI line_0_2),(vI line_0_3)] 0)])] [] (.agg [(.row (.top 1) 86),(.row (.top 2) 86),(.row (.top 3) 86),(.row (.top 4) 162)]) [(0,.box [(.row (.top 1) 86),(.row (.top 2) 86),(.row (.top 3) 86),(.row (.top 4) 162)]),(1,.row 86 [] (List.map c_Rect r.Rects)),(2,.row 86 [] (List.map c_Rect r.Cuts)),(3,.row 86 [] (List.map c_Rect r.Forms)),(4,.row 162 [] (List.map c_BendLine r.Bends))]:=by
 refine zU G Tryz.func145 (zK ⟨[(0,.agg (c_Flat f)),(1,.fn 149 [(.vptr [(vI rect_0_0),(vI rect_0_1),(vI rect_0_2),(vI rect_0_3)] 0)]),(2,.fn 150 [(.vptr [(vI line_0_0),(vI line_0_1),(vI line_0_2),(vI line_0_3)] 0)])],[]⟩ (z3 3 ⟨[(2,.fn 150 [(.vptr [(vI line_0_0),(vI line_0_1),(vI line_0_2),(vI line_0_3)] 0)]),(3,.ptr 3 0),(4,.ptr 4 0),(6,.ptr 6 0)],[(3,.box (c_Flat f)),(4,.box [(.fn 149 [(.vptr [(vI rect_0_0),(vI rect_0_1),(vI rect_0_2),(vI rect_0_3)] 0)])]),(6,.box [.nl,.nl,.nl,.nl])]⟩ ?_))
 refine z3 2 ⟨[(2,.fn 150 [(.vptr [(vI line_0_0),(vI line_0_1),(vI line_0_2),(vI line_0_3)] 0)]),(3,.ptr 3 0),(6,.ptr 6 0),(7,.fn 163 [(.ptr 4 0)])],[(3,.box (c_Flat f)),(4,.box [(.fn 149 [(.vptr [(vI rect_0_0),(vI rect_0_1),(vI rect_0_2),(vI rect_0_3)] 0)])]),(6,.box [.nl,.nl,.nl,.nl])]⟩ (zB (sem_draw [(3,[700150]),(7,[700350]),(11,[700550]),(13,[8])] [(3,[700150]),(7,[700350]),(11,[700550]),(13,[8])] [(3,[4]),(7,[4]),(11,[4])] [(0,[8]),(1,[8]),(2,[8]),(3,[8]),(4,[700150,8]),(5,[700150,8]),(6,[700150,8]),(7,[8]),(8,[700150,700350,8]),(9,[700150,700350,8]),(10,[700150,700350,8]),(11,[8]),(12,[8]),(13,[700150,700350,700550])] [(0,[700150,700350,700550,8]),(1,[700150,700350,700550,8]),(2,[700150,700350,700550,8]),(3,[700350,700550,8]),(4,[700150,700350,700550,8]),(5,[700150,700350,700550,8]),(6,[700150,700350,700550,8]),(7,[700550,8]),(8,[700150,700350,700550,8]),(9,[700150,700350,700550,8]),(10,[700150,700350,700550,8]),(11,[8]),(12,[8]),(13,[700150,700350,700550])] 14 (by kernel_rfl) (by kernel_rfl) [700150,700350,700550,8] (by kernel_rfl) (by kernel_rfl) ?_))
 refine evd_run 3 (by kernel_rfl) ?_
 obtain ⟨r7,hr7,h⟩:=bindS h
 refine evd_callS [(0,700150)] [4] (by kernel_rfl) (by kernel_rfl) (W.flat_mapped_1'_ok hr7) (by kernel_rfl) (.inr ⟨rfl,fun _ _=>ind_cons (ind_row fun _=>rfl) (fun _ _=>ind_nil)⟩) (by kernel_rfl) (by kernel_rfl) (evd_run 3 (by kernel_rfl) ?_)
 obtain ⟨r8,hr8,h⟩:=bindS h
 refine evd_callS [(0,700350)] [4] (by kernel_rfl) (by kernel_rfl) (W.flat_mapped_1'_ok hr8) (by kernel_rfl) (.inr ⟨rfl,fun _ _=>ind_cons (ind_row fun _=>rfl) (fun _ _=>ind_nil)⟩) (by kernel_rfl) (by kernel_rfl) (evd_run 3 (by kernel_rfl) ?_)
 obtain ⟨r9,hr9,h⟩:=bindS h
 refine evd_callS [(0,700550)] [4] (by kernel_rfl) (by kernel_rfl) (W.flat_mapped_1'_ok hr9) (by kernel_rfl) (.inr ⟨rfl,fun _ _=>ind_cons (ind_row fun _=>rfl) (fun _ _=>ind_nil)⟩) (by kernel_rfl) (by kernel_rfl) (evd_run 1 (by kernel_rfl) (evd_new (g:=8) (ob:=.box [.nl,.nl,.nl,.nl]) (v:=(.ptr 8 0)) (by kernel_rfl) (by kernel_rfl) (by kernel_rfl) (by kernel_rfl) (by kernel_rfl) (by kernel_rfl) ?_))
 refine evd_end (by kernel_rfl) (evo_run 1 (by kernel_rfl) (zO fun τ hτ=>?_))
 refine zE hτ ⟨[(2,.fn 150 [(.vptr [(vI line_0_0),(vI line_0_1),(vI line_0_2),(vI line_0_3)] 0)]),(3,.ptr 3 0),(6,.ptr 6 0),(8,.ptr 8 0)],[(3,.box (c_Flat f)),(6,.box [.nl,.nl,.nl,.nl]),(8,.box [(ro 700150 86),(ro 700350 86),(ro 700550 86),.nl]),(700150,w_Rect 86 r7),(700350,w_Rect 86 r8),(700550,w_Rect 86 r9)]⟩ (zB (z7 ?_))
 refine zA 2 (evs_op (st_len (c:=c_BendLine) (l:=f.Bends) (x:=(s_BendLine f.Bends)) (by kernel_rfl) (by kernel_rfl)) (z1 1 ⟨[(2,.fn 150 [(.vptr [(vI line_0_0),(vI line_0_1),(vI line_0_2),(vI line_0_3)] 0)]),(6,.ptr 6 0),(8,.ptr 8 0),(26,s_BendLine f.Bends),(27,vI (f.Bends.length : Int)),(28,vI 0)],[(6,.box [.nl,.nl,.nl,.nl]),(8,.box [(ro 700150 86),(ro 700350 86),(ro 700550 86),.nl]),(700150,w_Rect 86 r7),(700350,w_Rect 86 r8),(700550,w_Rect 86 r9)]⟩ ?_))
 refine zC ?_
 obtain ⟨x87,hx87,h⟩:=bindS h
 refine sem_loopS (fun (s62 : Int × (List BendLine))=>⟨[(2,.fn 150 [(.vptr [(vI line_0_0),(vI line_0_1),(vI line_0_2),(vI line_0_3)] 0)]),(6,.ptr 500000 0),(8,.ptr 500001 0),(26,s_BendLine f.Bends),(27,vI (f.Bends.length : Int)),(28,vI s62.1)],[(500000,.box [.nl,.nl,.nl,.nl]),(500001,.box [(ro 500002 86),(ro 500003 86),(ro 500004 86),(ro 500005 162)]),(500002,w_Rect 86 r7),(500003,w_Rect 86 r8),(500004,w_Rect 86 r9),(500005,w_BendLine 162 s62.2)]⟩) (fun (x87 : (List BendLine))=>(.exit 0,⟨[(6,.ptr 500000 0),(8,.ptr 500001 0)],[(500000,.box [.nl,.nl,.nl,.nl]),(500001,.box [(ro 500002 86),(ro 500003 86),(ro 500004 86),(ro 500005 162)]),(500002,w_Rect 86 r7),(500003,w_Rect 86 r8),(500004,w_Rect 86 r9),(500005,w_BendLine 162 x87)]⟩)) (flat_mapped__flat_settled_1__flat_settled_2_l1 f line_0_0 line_0_1 line_0_2 line_0_3) (0,[]) x87 (by kernel_rfl) (subR_prep [.row (.box 8 3) 800000 162 []] [(6,500000),(8,500001),(700150,500002),(700350,500003),(700550,500004),(800000,500005)] (by kernel_rfl) rfl rfl (by kernel_rfl)) hx87 ?_ ?_ ?_
 intro s62 r h
 refine z3 1 ⟨[(2,.fn 150 [(.vptr [(vI line_0_0),(vI line_0_1),(vI line_0_2),(vI line_0_3)] 0)]),(6,.ptr 500000 0),(8,.ptr 500001 0),(26,s_BendLine f.Bends),(27,vI (f.Bends.length : Int)),(28,vI s62.1),(29,vB (decide (s62.1 < (f.Bends.length : Int))))],[(500000,.box [.nl,.nl,.nl,.nl]),(500001,.box [(ro 500002 86),(ro 500003 86),(ro 500004 86),(ro 500005 162)]),(500002,w_Rect 86 r7),(500003,w_Rect 86 r8),(500004,w_Rect 86 r9),(500005,w_BendLine 162 s62.2)]⟩ (zB (zI (decide (s62.1 < (f.Bends.length : Int))) (fun hb=>?_) fun hb=>?_))
 replace h:=iteT hb h
 refine z4 ⟨[(2,.fn 150 [(.vptr [(vI line_0_0),(vI line_0_1),(vI line_0_2),(vI line_0_3)] 0)]),(6,.ptr 500000 0),(8,.ptr 500001 0),(26,s_BendLine f.Bends),(27,vI (f.Bends.length : Int)),(28,vI s62.1)],[(500000,.box [.nl,.nl,.nl,.nl]),(500001,.box [(ro 500002 86),(ro 500003 86),(ro 500004 86),(ro 500005 162)]),(500002,w_Rect 86 r7),(500003,w_Rect 86 r8),(500004,w_Rect 86 r9),(500005,w_BendLine 162 s62.2)]⟩ (zB (zC ?_))
 refine z7 ?_
 obtain ⟨x82,hx82,h⟩:=bindS h
 refine evs_op (st_idx (c:=c_BendLine) (l:=f.Bends) (i:=s62.1) (kd:=.i64) (sz:=8) (by kernel_rfl) hx82 rfl) (z1 3 ⟨[(2,.fn 150 [(.vptr [(vI line_0_0),(vI line_0_1),(vI line_0_2),(vI line_0_3)] 0)]),(6,.ptr 500000 0),(8,.ptr 500001 0),(10,.ptr 10 0),(26,s_BendLine f.Bends),(27,vI (f.Bends.length : Int)),(28,vI s62.1)],[(10,.box (c_BendLine x82)),(500000,.box [.nl,.nl,.nl,.nl]),(500001,.box [(ro 500002 86),(ro 500003 86),(ro 500004 86),(ro 500005 162)]),(500002,w_Rect 86 r7),(500003,w_Rect 86 r8),(500004,w_Rect 86 r9),(500005,w_BendLine 162 s62.2)]⟩ (z7 ?_))
 refine zA 3 ?_
 obtain ⟨r84,hr84,h⟩:=bindS h
 refine evs_callS [] [(0,700150)] [] (by kernel_rfl) (W.flat_settled_2_ok hr84) (by kernel_rfl) (by kernel_rfl) (.inl rfl) (z1 2 ⟨[(2,.fn 150 [(.vptr [(vI line_0_0),(vI line_0_1),(vI line_0_2),(vI line_0_3)] 0)]),(6,.ptr 500000 0),(8,.ptr 500001 0),(10,.ptr 10 0),(26,s_BendLine f.Bends),(27,vI (f.Bends.length : Int)),(28,vI s62.1)],[(10,.box [(vI x82.Flange),(vI x82.Parent),(vI r84.X1),(vI r84.Y1),(vI r84.X2),(vI r84.Y2),(vI x82.Angle),(vI x82.Deduct)]),(500000,.box [.nl,.nl,.nl,.nl]),(500001,.box [(ro 500002 86),(ro 500003 86),(ro 500004 86),(ro 500005 162)]),(500002,w_Rect 86 r7),(500003,w_Rect 86 r8),(500004,w_Rect 86 r9),(500005,w_BendLine 162 s62.2)]⟩ (zD ?_))
 refine zA 4 ?_
 obtain ⟨l86,hl86,h⟩:=bindS h
 refine evs_op (st_app (c:=c_BendLine) (l:=s62.2) (l2:=[(BendLine.mk x82.Flange x82.Parent r84 x82.Angle x82.Deduct)]) (x:=(s_BendLine [(BendLine.mk x82.Flange x82.Parent r84 x82.Angle x82.Deduct)])) (g:=500005) (e:=162) (sz:=8) (d:=41) (by kernel_rfl) (by kernel_rfl) (by kernel_rfl) (by kernel_rfl) (fun _=>rfl) rfl hl86) (z6 2 fun τ hτ=>?_)
 refine bl_normal (zE hτ ⟨[(2,.fn 150 [(.vptr [(vI line_0_0),(vI line_0_1),(vI line_0_2),(vI line_0_3)] 0)]),(6,.ptr 500000 0),(8,.ptr 500001 0),(26,s_BendLine f.Bends),(27,vI (f.Bends.length : Int)),(28,vI s62.1)],[(500000,.box [.nl,.nl,.nl,.nl]),(500001,.box [(ro 500002 86),(ro 500003 86),(ro 500004 86),(ro 500005 162)]),(500002,w_Rect 86 r7),(500003,w_Rect 86 r8),(500004,w_Rect 86 r9),(500005,w_BendLine 162 l86)]⟩ (zD ?_))
 refine z6 2 fun τ hτ=>?_
 obtain rfl:=osi h
 exact zH hτ
 replace h:=iteF hb h
 refine zL 0 fun τ hτ=>?_
 refine th_exit ?_
 obtain rfl:=osi h
 exact zF hτ
 intro x
 rfl
 intro τ hτ
 refine zQ (zE hτ ⟨[(6,.ptr 500000 0),(8,.ptr 500001 0)],[(500000,.box [.nl,.nl,.nl,.nl]),(500001,.box [(ro 500002 86),(ro 500003 86),(ro 500004 86),(ro 500005 162)]),(500002,w_Rect 86 r7),(500003,w_Rect 86 r8),(500004,w_Rect 86 r9),(500005,w_BendLine 162 x87)]⟩ (z8 2 ⟨[(6,.ptr 500000 0)],[(500000,.box [(ro 500002 86),(ro 500003 86),(ro 500004 86),(ro 500005 162)]),(500002,w_Rect 86 r7),(500003,w_Rect 86 r8),(500004,w_Rect 86 r9),(500005,w_BendLine 162 x87)]⟩ fun τ hτ=>?_))
 obtain rfl:=osi h
 exact rk_ret hτ [(6,.ptr 0 0)] (subR_prep [] [(500000,0),(500002,1),(500003,2),(500004,3),(500005,4)] (by kernel_rfl) rfl rfl (by kernel_rfl)) (by kernel_rfl)
theorem W.flat_settled_ok {f : Flat} {r : Flat × Int} (h : flat_settled f = some r) : PC G.P 128 [(.agg (c_Flat f))] [] (.tup [(.agg [(.row (.top 1) 86),(.row (.top 2) 86),(.row (.top 3) 86),(.row (.top 4) 162)]),(vI r.2)]) [(0,.box [(.row (.top 1) 86),(.row (.top 2) 86),(.row (.top 3) 86),(.row (.top 4) 162)]),(1,.row 86 [] (List.map c_Rect r.1.Rects)),(2,.row 86 [] (List.map c_Rect r.1.Cuts)),(3,.row 86 [] (List.map c_Rect r.1.Forms)),(4,.row 162 [] (List.map c_BendLine r.1.Bends))]:=by
 refine zU G Tryz.func128 (zK ⟨[(0,.agg (c_Flat f))],[]⟩ (z3 3 ⟨[(1,.ptr 1 0),(2,.ptr 2 0)],[(1,.box (c_Flat f)),(2,.box [.nl,.nl,.nl,.nl])]⟩ ?_))
 refine z7 (zA 2 ?_)
 obtain ⟨r2,hr2,h⟩:=bindS h
 refine evs_callS [] [(0,700100)] [] (by kernel_rfl) (W.flat_bounds_ok hr2) (by kernel_rfl) (by kernel_rfl) (.inl rfl) (z1 2 ⟨[(1,.ptr 1 0),(2,.ptr 2 0),(4,.ptr 4 0)],[(1,.box (c_Flat f)),(2,.box [.nl,.nl,.nl,.nl]),(4,.box (c_Rect r2.1))]⟩ (z7 ?_))
 refine zA 3 ?_
 obtain ⟨r4,hr4,h⟩:=bindS h
 refine evs_callS [] [(0,700150),(1,700151),(2,700152),(3,700153),(4,700154)] [4] (by kernel_rfl) (W.flat_mapped__flat_settled_1__flat_settled_2_ok hr4) (by kernel_rfl) (by kernel_rfl) (.inr ⟨rfl,fun _ _=>ind_cons rfl (fun _ _=>ind_cons (ind_row fun _=>rfl) (fun _ _=>ind_cons (ind_row fun _=>rfl) (fun _ _=>ind_cons (ind_row fun _=>rfl) (fun _ _=>ind_cons (ind_row fun _=>rfl) (fun _ _=>ind_nil)))))⟩) (z1 2 ⟨[(2,.ptr 2 0),(5,.ptr 5 0)],[(2,.box [.nl,.nl,.nl,.nl]),(5,.box [(ro 700151 86),(ro 700152 86),(ro 700153 86),(ro 700154 162)]),(700151,w_Rect 86 r4.Rects),(700152,w_Rect 86 r4.Cuts),(700153,w_Rect 86 r4.Forms),(700154,w_BendLine 162 r4.Bends)]⟩ (zB ?_))
 refine z7 (zA 1 ?_)
 obtain ⟨r8,hr8,h⟩:=bindS h
 refine evs_callP [700151,700152,700153,700154] (by kernel_rfl) (W.flat_check_ok hr8) (by kernel_rfl) (.inr rfl) (by kernel_rfl) (z1 1 ⟨[(2,.ptr 2 0),(5,.ptr 5 0),(15,vB (r8 != 0))],[(2,.box [.nl,.nl,.nl,.nl]),(5,.box [(ro 700151 86),(ro 700152 86),(ro 700153 86),(ro 700154 162)]),(700151,w_Rect 86 r4.Rects),(700152,w_Rect 86 r4.Cuts),(700153,w_Rect 86 r4.Forms),(700154,w_BendLine 162 r4.Bends)]⟩ (zI (r8 != 0) (fun hb=>?_) fun hb=>?_))
 replace h:=iteT hb h
 refine z8 3 ⟨[(2,.ptr 2 0),(3,vI 4)],[(2,.box [.nl,.nl,.nl,.nl])]⟩ fun τ hτ=>?_
 refine th_ret ?_
 obtain rfl:=osi h
 exact rk_ret hτ [(2,.ptr 0 0),(3,vI 4)] (subR_prep [.row (.box 2 0) 800000 86 [],.row (.box 2 1) 800001 86 [],.row (.box 2 2) 800002 86 [],.row (.box 2 3) 800003 162 []] [(2,0),(800000,1),(800001,2),(800002,3),(800003,4)] (by kernel_rfl) rfl rfl (by kernel_rfl)) (by kernel_rfl)
 replace h:=iteF hb h
 refine z4 ⟨[(2,.ptr 2 0),(5,.ptr 5 0)],[(2,.box [.nl,.nl,.nl,.nl]),(5,.box [(ro 700151 86),(ro 700152 86),(ro 700153 86),(ro 700154 162)]),(700151,w_Rect 86 r4.Rects),(700152,w_Rect 86 r4.Cuts),(700153,w_Rect 86 r4.Forms),(700154,w_BendLine 162 r4.Bends)]⟩ (z8 3 ⟨[(2,.ptr 2 0),(3,vI 0)],[(2,.box [(ro 700151 86),(ro 700152 86),(ro 700153 86),(ro 700154 162)]),(700151,w_Rect 86 r4.Rects),(700152,w_Rect 86 r4.Cuts),(700153,w_Rect 86 r4.Forms),(700154,w_BendLine 162 r4.Bends)]⟩ fun τ hτ=>?_)
 obtain rfl:=osi h
 exact rk_ret hτ [(2,.ptr 0 0),(3,vI 0)] (subR_prep [] [(2,0),(700151,1),(700152,2),(700153,3),(700154,4)] (by kernel_rfl) rfl rfl (by kernel_rfl)) (by kernel_rfl)
theorem W.flat_Quarter_ok {f : Flat} {turns : Int} {r : Flat × Int} (h : flat_Quarter f turns = some r) : PC G.P 99 [(.agg (c_Flat f)),(vI turns)] [] (.tup [(.agg [(.row (.top 1) 86),(.row (.top 2) 86),(.row (.top 3) 86),(.row (.top 4) 162)]),(vI r.2)]) [(0,.box [(.row (.top 1) 86),(.row (.top 2) 86),(.row (.top 3) 86),(.row (.top 4) 162)]),(1,.row 86 [] (List.map c_Rect r.1.Rects)),(2,.row 86 [] (List.map c_Rect r.1.Cuts)),(3,.row 86 [] (List.map c_Rect r.1.Forms)),(4,.row 162 [] (List.map c_BendLine r.1.Bends))]:=by
 refine zU G Tryz.func99 (zK ⟨[(0,.agg (c_Flat f)),(1,vI turns)],[]⟩ (z3 3 ⟨[(1,vI turns),(2,.ptr 2 0),(4,.ptr 4 0)],[(2,.box (c_Flat f)),(4,.box [.nl,.nl,.nl,.nl])]⟩ ?_))
 refine zB (z7 (zA 1 ?_))
 obtain ⟨r5,hr5,h⟩:=bindS h
 refine evs_callP [] (by kernel_rfl) (W.flat_check_ok hr5) (by kernel_rfl) (.inl rfl) (by kernel_rfl) (z1 1 ⟨[(1,vI turns),(2,.ptr 2 0),(4,.ptr 4 0),(6,vI r5)],[(2,.box (c_Flat f)),(4,.box [.nl,.nl,.nl,.nl])]⟩ (zB ?_))
 obtain ⟨j6,hj6,h⟩:=bindS h
 refine zT ⟨[(1,vI turns),(2,.ptr 500000 0),(4,.ptr 500001 0),(22,vB j6)],[(500000,.box (c_Flat f)),(500001,.box [.nl,.nl,.nl,.nl])]⟩ ?_ fun τ hτ=>?_
 replace h:=hj6
 refine zA 3 (zS (r5 != 0) (fun b0=>⟨[(1,vI turns),(2,.ptr 2 0),(4,.ptr 4 0),(15,vB b0)],[(2,.box (c_Flat f)),(4,.box [.nl,.nl,.nl,.nl])]⟩) (fun hb=>?_) fun hb=>?_)
 replace h:=iteT hb h
 refine z6 7 fun τ hτ=>?_
 obtain rfl:=osi h
 exact leafC hτ (subR_prep [] [(2,500000),(4,500001)] (by kernel_rfl) rfl rfl (by kernel_rfl))
 replace h:=iteF hb h
 refine zA 4 (zS (decide (turns < 0)) (fun b0=>⟨[(1,vI turns),(2,.ptr 2 0),(4,.ptr 4 0),(19,vB b0)],[(2,.box (c_Flat f)),(4,.box [.nl,.nl,.nl,.nl])]⟩) (fun hb=>?_) fun hb=>?_)
 replace h:=iteT hb h
 refine z6 3 fun τ hτ=>?_
 obtain rfl:=osi h
 exact leafC hτ (subR_prep [] [(2,500000),(4,500001)] (by kernel_rfl) rfl rfl (by kernel_rfl))
 replace h:=iteF hb h
 refine z6 3 fun τ hτ=>?_
 obtain rfl:=osi h
 exact leafC hτ (subR_prep [] [(2,500000),(4,500001)] (by kernel_rfl) rfl rfl (by kernel_rfl))
 refine zE hτ ⟨[(1,vI turns),(2,.ptr 500000 0),(4,.ptr 500001 0),(22,vB j6)],[(500000,.box (c_Flat f)),(500001,.box [.nl,.nl,.nl,.nl])]⟩ (zI j6 (fun hb=>?_) fun hb=>?_)
 replace h:=iteT hb h
 refine z8 3 ⟨[(4,.ptr 500001 0),(5,vI 1)],[(500001,.box [.nl,.nl,.nl,.nl])]⟩ fun τ hτ=>?_
 refine th_ret ?_
 obtain rfl:=osi h
 exact rk_ret hτ [(4,.ptr 0 0),(5,vI 1)] (subR_prep [.row (.box 500001 0) 800000 86 [],.row (.box 500001 1) 800001 86 [],.row (.box 500001 2) 800002 86 [],.row (.box 500001 3) 800003 162 []] [(500001,0),(800000,1),(800001,2),(800002,3),(800003,4)] (by kernel_rfl) rfl rfl (by kernel_rfl)) (by kernel_rfl)
 replace h:=iteF hb h
 refine z4 ⟨[(1,vI turns),(2,.ptr 500000 0),(4,.ptr 500001 0)],[(500000,.box (c_Flat f)),(500001,.box [.nl,.nl,.nl,.nl])]⟩ (z3 3 ⟨[(1,vI turns),(2,.ptr 500000 0),(4,.ptr 500001 0),(7,.ptr 7 0)],[(7,.box (c_Flat f)),(500000,.box (c_Flat f)),(500001,.box [.nl,.nl,.nl,.nl])]⟩ (zB ?_))
 refine z3 2 ⟨[(1,vI turns),(2,.ptr 500000 0),(4,.ptr 500001 0),(7,.ptr 7 0),(25,vI turns),(26,vI 0)],[(7,.box (c_Flat f)),(500000,.box (c_Flat f)),(500001,.box [.nl,.nl,.nl,.nl])]⟩ (zC ?_)
 obtain ⟨x36,hx36,h⟩:=bindS h
 refine sem_loopS (fun (s27 : Int × (List Rect) × (List Rect) × (List Rect) × (List BendLine))=>⟨[(1,vI turns),(2,.ptr 500000 0),(4,.ptr 500001 0),(7,.ptr 500002 0),(25,vI turns),(26,vI s27.1)],[(500000,.box (c_Flat f)),(500001,.box [.nl,.nl,.nl,.nl]),(500002,.box [(s_Rect s27.2.1),(s_Rect s27.2.2.1),(s_Rect s27.2.2.2.1),(s_BendLine s27.2.2.2.2)])]⟩) (fun (x36 : (List Rect) × (List Rect) × (List Rect) × (List BendLine))=>(.exit 0,⟨[(1,vI turns),(2,.ptr 500000 0),(4,.ptr 500001 0),(7,.ptr 500002 0)],[(500000,.box (c_Flat f)),(500001,.box [.nl,.nl,.nl,.nl]),(500002,.box [(s_Rect x36.1),(s_Rect x36.2.1),(s_Rect x36.2.2.1),(s_BendLine x36.2.2.2)])]⟩)) (flat_Quarter_l1 turns) (0,f.Rects,f.Cuts,f.Forms,f.Bends) x36 (by kernel_rfl) (subR_prep [] [(7,500002),(500000,500000),(500001,500001)] (by kernel_rfl) rfl rfl (by kernel_rfl)) hx36 ?_ ?_ ?_
 intro s27 r h
 refine z3 1 ⟨[(1,vI turns),(2,.ptr 500000 0),(4,.ptr 500001 0),(7,.ptr 500002 0),(25,vI turns),(26,vI s27.1),(27,vB (decide (s27.1 < turns)))],[(500000,.box (c_Flat f)),(500001,.box [.nl,.nl,.nl,.nl]),(500002,.box [(s_Rect s27.2.1),(s_Rect s27.2.2.1),(s_Rect s27.2.2.2.1),(s_BendLine s27.2.2.2.2)])]⟩ (zB (zI (decide (s27.1 < turns)) (fun hb=>?_) fun hb=>?_))
 replace h:=iteT hb h
 refine z4 ⟨[(1,vI turns),(2,.ptr 500000 0),(4,.ptr 500001 0),(7,.ptr 500002 0),(25,vI turns),(26,vI s27.1)],[(500000,.box (c_Flat f)),(500001,.box [.nl,.nl,.nl,.nl]),(500002,.box [(s_Rect s27.2.1),(s_Rect s27.2.2.1),(s_Rect s27.2.2.2.1),(s_BendLine s27.2.2.2.2)])]⟩ (zB (zC ?_))
 refine zD (zA 1 ?_)
 obtain ⟨r35,hr35,h⟩:=bindS h
 refine evs_callS [] [(0,700050),(1,700051),(2,700052),(3,700053),(4,700054)] [] (by kernel_rfl) (W.flat_quarter_ok hr35) (by kernel_rfl) (by kernel_rfl) (.inl rfl) (z6 1 fun τ hτ=>?_)
 refine bl_normal (zE hτ ⟨[(1,vI turns),(2,.ptr 500000 0),(4,.ptr 500001 0),(7,.ptr 500002 0),(25,vI turns),(26,vI s27.1)],[(500000,.box (c_Flat f)),(500001,.box [.nl,.nl,.nl,.nl]),(500002,.box [(ro 700051 86),(ro 700052 86),(ro 700053 86),(ro 700054 162)]),(700051,w_Rect 86 r35.Rects),(700052,w_Rect 86 r35.Cuts),(700053,w_Rect 86 r35.Forms),(700054,w_BendLine 162 r35.Bends)]⟩ (zD ?_))
 refine z6 2 fun τ hτ=>?_
 obtain rfl:=osi h
 exact lk_nextS hτ (subR_prep [.frz 700051,.frz 700052,.frz 700053,.frz 700054] [(500000,500000),(500001,500001),(500002,500002)] (by kernel_rfl) rfl rfl (by kernel_rfl))
 replace h:=iteF hb h
 refine zL 0 fun τ hτ=>?_
 refine th_exit ?_
 obtain rfl:=osi h
 exact zF hτ
 intro x
 rfl
 intro τ hτ
 refine zQ (zE hτ ⟨[(1,vI turns),(2,.ptr 500000 0),(4,.ptr 500001 0),(7,.ptr 500002 0)],[(500000,.box (c_Flat f)),(500001,.box [.nl,.nl,.nl,.nl]),(500002,.box [(s_Rect x36.1),(s_Rect x36.2.1),(s_Rect x36.2.2.1),(s_BendLine x36.2.2.2)])]⟩ (zB ?_))
 refine z7 (zA 2 (evs_op (st_len (c:=c_BendLine) (l:=f.Bends) (x:=(s_BendLine f.Bends)) (by kernel_rfl) (by kernel_rfl)) ?_))
 refine z1 1 ⟨[(1,vI turns),(4,.ptr 500001 0),(7,.ptr 500002 0),(32,s_BendLine f.Bends),(33,vI (f.Bends.length : Int)),(34,vI 0)],[(500001,.box [.nl,.nl,.nl,.nl]),(500002,.box [(s_Rect x36.1),(s_Rect x36.2.1),(s_Rect x36.2.2.1),(s_BendLine x36.2.2.2)])]⟩ (zC ?_)
 obtain ⟨x40,hx40,h⟩:=bindS h
 refine sem_loopS (fun (s39 : Unit)=>⟨[(1,vI turns),(4,.ptr 500000 0),(7,.ptr 500001 0),(32,s_BendLine f.Bends),(33,vI (f.Bends.length : Int)),(34,vI 0)],[(500000,.box [.nl,.nl,.nl,.nl]),(500001,.box [(s_Rect x36.1),(s_Rect x36.2.1),(s_Rect x36.2.2.1),(s_BendLine x36.2.2.2)])]⟩) (fun (x40 : Unit)=>(.exit 2,⟨[(4,.ptr 500000 0),(7,.ptr 500001 0)],[(500000,.box [.nl,.nl,.nl,.nl]),(500001,.box [(s_Rect x36.1),(s_Rect x36.2.1),(s_Rect x36.2.2.1),(s_BendLine x36.2.2.2)])]⟩)) (flat_Quarter_l2 f) () x40 (by kernel_rfl) (subR_prep [] [(500001,500000),(500002,500001)] (by kernel_rfl) rfl rfl (by kernel_rfl)) hx40 ?_ ?_ ?_
 intro s39 r h
 refine z3 1 ⟨[(1,vI turns),(4,.ptr 500000 0),(7,.ptr 500001 0),(32,s_BendLine f.Bends),(33,vI (f.Bends.length : Int)),(34,vI 0),(35,vB (decide (0 < (f.Bends.length : Int))))],[(500000,.box [.nl,.nl,.nl,.nl]),(500001,.box [(s_Rect x36.1),(s_Rect x36.2.1),(s_Rect x36.2.2.1),(s_BendLine x36.2.2.2)])]⟩ (zB (zI (decide (0 < (f.Bends.length : Int))) (fun hb=>?_) fun hb=>?_))
 replace h:=iteT hb h
 exact nomatch h
 replace h:=iteF hb h
 refine zL 2 fun τ hτ=>?_
 refine th_exit ?_
 obtain rfl:=osi h
 exact zF hτ
 intro x
 rfl
 intro τ hτ
 refine zQ (zE hτ ⟨[(4,.ptr 500000 0),(7,.ptr 500001 0)],[(500000,.box [.nl,.nl,.nl,.nl]),(500001,.box [(s_Rect x36.1),(s_Rect x36.2.1),(s_Rect x36.2.2.1),(s_BendLine x36.2.2.2)])]⟩ (z7 ?_))
 refine zA 1 ?_
 obtain ⟨r42,hr42,h⟩:=bindS h
 refine evs_callS [] [(0,700050),(1,700051),(2,700052),(3,700053),(4,700054)] [] (by kernel_rfl) (W.flat_settled_ok hr42) (by kernel_rfl) (by kernel_rfl) (.inl rfl) (z1 4 ⟨[(4,.ptr 500000 0),(5,vI r42.2)],[(500000,.box [(ro 700051 86),(ro 700052 86),(ro 700053 86),(ro 700054 162)]),(700051,w_Rect 86 r42.1.Rects),(700052,w_Rect 86 r42.1.Cuts),(700053,w_Rect 86 r42.1.Forms),(700054,w_BendLine 162 r42.1.Bends)]⟩ (zN fun τ hτ=>?_))
 obtain rfl:=osi h
 exact rk_ret hτ [(4,.ptr 0 0),(5,vI r42.2)] (subR_prep [] [(500000,0),(700051,1),(700052,2),(700053,3),(700054,4)] (by kernel_rfl) rfl rfl (by kernel_rfl)) (by kernel_rfl)
theorem W.nest_moved_ok {l : (List Rect)} {x1 : Int} {y : Int} {r : (List Rect)} (h : nest_moved l x1 y = some r) : PC G.P 87 [(.sl (List.map c_Rect l)),(vI x1),(vI y)] [] (.row (.top 0) 86) [(0,.row 86 [] (List.map c_Rect r))]:=by
 refine zU G Tryz.func87 (zK ⟨[(0,s_Rect l),(1,vI x1),(2,vI y)],[]⟩ (z3 1 ⟨[(0,s_Rect l),(1,vI x1),(2,vI y)],[]⟩ ?_))
 refine z7 (zA 1 (evs_op (st_len (c:=c_Rect) (l:=l) (x:=(s_Rect l)) (by kernel_rfl) (by kernel_rfl)) ?_))
 obtain ⟨l2,hl2,h⟩:=bindS h
 refine evs_op (st_mk (c:=c_Rect) (z:=(Rect.mk 0 0 0 0)) (n:=(l.length : Int)) (e:=86) (d:=11) (zs:=[(vI 0),(vI 0),(vI 0),(vI 0)]) (k1:=.i64) (k2:=.i64) (by kernel_rfl) rfl hl2) (z1 1 ⟨[(0,s_Rect l),(1,vI x1),(2,vI y),(7,ro 11 86)],[(11,w_Rect 86 l2)]⟩ (z7 ?_))
 refine zA 2 (evs_at (at_copy (c:=c_Rect) (l:=l2) (l2:=l) (d:=(ro 11 86)) (x:=(s_Rect l)) (e:=86) (sz:=4) (g:=11) (lo:=0) (n:=l2.length) (by kernel_rfl) (by kernel_rfl) (by kernel_rfl) (Nat.le_of_eq (Nat.zero_add _)) (by kernel_rfl) (by kernel_rfl) (fun _=>rfl)) (zP fun τ hτ=>?_))
 refine zE hτ ⟨[(1,vI x1),(2,vI y),(7,ro 11 86)],[(11,w_Rect 86 (cpy l2 (0) (List.take (min l.length (l2.length)) l)))]⟩ (zB (z7 ?_))
 refine zA 1 (evs_op (st_len (c:=c_Rect) (l:=(cpy l2 (0) (List.take (min l.length (l2.length)) l))) (x:=(ro 11 86)) (by kernel_rfl) (by kernel_rfl)) (z1 1 ⟨[(1,vI x1),(2,vI y),(7,ro 11 86),(16,vI ((cpy l2 (0) (List.take (min l.length (l2.length)) l)).length : Int)),(17,vI 0)],[(11,w_Rect 86 (cpy l2 (0) (List.take (min l.length (l2.length)) l)))]⟩ ?_))
 refine zC ?_
 obtain ⟨x104,hx104,h⟩:=bindS h
 refine sem_loopS (fun (s71 : Int × (List Rect))=>⟨[(1,vI x1),(2,vI y),(7,ro 500000 86),(16,vI ((cpy l2 (0) (List.take (min l.length (l2.length)) l)).length : Int)),(17,vI s71.1)],[(500000,w_Rect 86 s71.2)]⟩) (fun (x104 : (List Rect))=>(.exit 0,⟨[(7,ro 500000 86)],[(500000,w_Rect 86 x104)]⟩)) (nest_moved_l1 l x1 y l2) (0,cpy l2 (0) (List.take (min l.length (l2.length)) l)) x104 (by kernel_rfl) (subR_prep [] [(11,500000)] (by kernel_rfl) rfl rfl (by kernel_rfl)) hx104 ?_ ?_ ?_
 intro s71 r h
 refine z3 1 ⟨[(1,vI x1),(2,vI y),(7,ro 500000 86),(16,vI ((cpy l2 (0) (List.take (min l.length (l2.length)) l)).length : Int)),(17,vI s71.1),(18,vB (decide (s71.1 < ((cpy l2 (0) (List.take (min l.length (l2.length)) l)).length : Int))))],[(500000,w_Rect 86 s71.2)]⟩ (zB (zI (decide (s71.1 < ((cpy l2 (0) (List.take (min l.length (l2.length)) l)).length : Int))) (fun hb=>?_) fun hb=>?_))
 replace h:=iteT hb h
 refine z4 ⟨[(1,vI x1),(2,vI y),(7,ro 500000 86),(16,vI ((cpy l2 (0) (List.take (min l.length (l2.length)) l)).length : Int)),(17,vI s71.1)],[(500000,w_Rect 86 s71.2)]⟩ (zB (zC ?_))
 refine z3 2 ⟨[(1,vI x1),(2,vI y),(7,ro 500000 86),(8,vI s71.1),(16,vI ((cpy l2 (0) (List.take (min l.length (l2.length)) l)).length : Int)),(17,vI s71.1)],[(500000,w_Rect 86 s71.2)]⟩ (z7 (zA 2 ?_))
 obtain ⟨x98,hx98,h⟩:=bindS h
 refine evs_op (st_idxO (c:=c_Rect) (l:=s71.2) (i:=s71.1) (kd:=.i64) (kk:=(.top 500000)) (e:=86) (sz:=4) (by kernel_rfl) (by kernel_rfl) hx98 rfl) (zA 1 (evs_op (st_ldO (c:=c_Rect) (l:=s71.2) (i:=(Int.toNat s71.1)) (v:=(vI x98.X)) (agg:=false) (sz:=1) (kk:=(.top 500000)) (e:=86) (off:=0) (J:=[]) (by kernel_rfl) (by kernel_rfl) (by kernel_rfl) ((idxS hx98).2) (by kernel_rfl)) ?_))
 refine zA 2 ?_
 obtain ⟨x99,hx99,h⟩:=bindS h
 refine evs_op (st_idxO (c:=c_Rect) (l:=s71.2) (i:=s71.1) (kd:=.i64) (kk:=(.top 500000)) (e:=86) (sz:=4) (by kernel_rfl) (by kernel_rfl) hx99 rfl) (zA 1 (evs_op (st_stO (c:=c_Rect) (l:=s71.2) (i:=(Int.toNat s71.1)) (x:=x99) (x':=(Rect.mk (iadd x98.X x1) x99.Y x99.W x99.H)) (v:=(vI (iadd x98.X x1))) (agg:=false) (sz:=1) (kk:=(.top 500000)) (e:=86) (off:=0) (J:=[]) (o:=w_Rect 86 (List.set s71.2 (Int.toNat s71.1) (Rect.mk (iadd x98.X x1) x99.Y x99.W x99.H))) (by kernel_rfl) (by kernel_rfl) (by kernel_rfl) ((idxS hx99).2) (by kernel_rfl) (by kernel_rfl) (by kernel_rfl)) ?_))
 refine zP fun τ hτ=>?_
 refine zE hτ ⟨[(1,vI x1),(2,vI y),(7,ro 500000 86),(8,vI s71.1),(16,vI ((cpy l2 (0) (List.take (min l.length (l2.length)) l)).length : Int)),(17,vI s71.1)],[(500000,w_Rect 86 (List.set s71.2 (Int.toNat s71.1) (Rect.mk (iadd x98.X x1) x99.Y x99.W x99.H)))]⟩ (zD (zA 2 ?_))
 obtain ⟨x102,hx102,h⟩:=bindS h
 refine evs_op (st_idxO (c:=c_Rect) (l:=(List.set s71.2 (Int.toNat s71.1) (Rect.mk (iadd x98.X x1) x99.Y x99.W x99.H))) (i:=s71.1) (kd:=.i64) (kk:=(.top 500000)) (e:=86) (sz:=4) (by kernel_rfl) (by kernel_rfl) hx102 rfl) (zA 1 (evs_op (st_ldO (c:=c_Rect) (l:=(List.set s71.2 (Int.toNat s71.1) (Rect.mk (iadd x98.X x1) x99.Y x99.W x99.H))) (i:=(Int.toNat s71.1)) (v:=(vI x102.Y)) (agg:=false) (sz:=1) (kk:=(.top 500000)) (e:=86) (off:=1) (J:=[]) (by kernel_rfl) (by kernel_rfl) (by kernel_rfl) ((idxS hx102).2) (by kernel_rfl)) ?_))
 refine zA 2 ?_
 obtain ⟨x103,hx103,h⟩:=bindS h
 refine evs_op (st_idxO (c:=c_Rect) (l:=(List.set s71.2 (Int.toNat s71.1) (Rect.mk (iadd x98.X x1) x99.Y x99.W x99.H))) (i:=s71.1) (kd:=.i64) (kk:=(.top 500000)) (e:=86) (sz:=4) (by kernel_rfl) (by kernel_rfl) hx103 rfl) (zA 1 (evs_op (st_stO (c:=c_Rect) (l:=(List.set s71.2 (Int.toNat s71.1) (Rect.mk (iadd x98.X x1) x99.Y x99.W x99.H))) (i:=(Int.toNat s71.1)) (x:=x103) (x':=(Rect.mk x103.X (iadd x102.Y y) x103.W x103.H)) (v:=(vI (iadd x102.Y y))) (agg:=false) (sz:=1) (kk:=(.top 500000)) (e:=86) (off:=1) (J:=[]) (o:=w_Rect 86 (List.set (List.set s71.2 (Int.toNat s71.1) (Rect.mk (iadd x98.X x1) x99.Y x99.W x99.H)) (Int.toNat s71.1) (Rect.mk x103.X (iadd x102.Y y) x103.W x103.H))) (by kernel_rfl) (by kernel_rfl) (by kernel_rfl) ((idxS hx103).2) (by kernel_rfl) (by kernel_rfl) (by kernel_rfl)) ?_))
 refine zP fun τ hτ=>?_
 refine bl_normal (zE hτ ⟨[(1,vI x1),(2,vI y),(7,ro 500000 86),(16,vI ((cpy l2 (0) (List.take (min l.length (l2.length)) l)).length : Int)),(17,vI s71.1)],[(500000,w_Rect 86 (List.set (List.set s71.2 (Int.toNat s71.1) (Rect.mk (iadd x98.X x1) x99.Y x99.W x99.H)) (Int.toNat s71.1) (Rect.mk x103.X (iadd x102.Y y) x103.W x103.H)))]⟩ (zD ?_))
 refine z6 2 fun τ hτ=>?_
 obtain rfl:=osi h
 exact zH hτ
 replace h:=iteF hb h
 refine zL 0 fun τ hτ=>?_
 refine th_exit ?_
 obtain rfl:=osi h
 exact zF hτ
 intro x
 rfl
 intro τ hτ
 refine zQ (zE hτ ⟨[(7,ro 500000 86)],[(500000,w_Rect 86 x104)]⟩ (z8 2 ⟨[(6,ro 500000 86)],[(500000,w_Rect 86 x104)]⟩ fun τ hτ=>?_))
 obtain rfl:=osi h
 exact rk_ret hτ [(6,ro 0 86)] (subR_prep [] [(500000,0)] (by kernel_rfl) rfl rfl (by kernel_rfl)) (by kernel_rfl)
theorem W.nest_put_ok {x0 : Piece} {at1 : Placement} {r : Piece × Int × ByteArray × ByteArray × Int × Int} (h : nest_put x0 at1 = some r) : PC G.P 68 [(.agg (c_Piece x0)),(.agg (c_Placement at1))] [] (.tup [(.agg [(vS r.1.Name),(vS r.1.Material),(vI r.1.Gauge),(vI r.1.Grain),(.row (.top 1) 86),(.row (.top 2) 86),(.row (.top 3) 86)]),(vI r.2.1)]) [(0,.box [(vS r.2.2.1),(vS r.2.2.2.1),(vI r.2.2.2.2.1),(vI r.2.2.2.2.2),(.row (.top 1) 86),(.row (.top 2) 86),(.row (.top 3) 86)]),(1,.row 86 [] (List.map c_Rect r.1.Rects)),(2,.row 86 [] (List.map c_Rect r.1.Cuts)),(3,.row 86 [] (List.map c_Rect r.1.Forms))]:=by
 refine zU G Tryz.func68 (zK ⟨[(0,.agg (c_Piece x0)),(1,.agg (c_Placement at1))],[]⟩ (z3 4 ⟨[(2,.ptr 2 0),(3,.ptr 3 0),(4,.ptr 4 0)],[(2,.box (c_Piece x0)),(3,.box (c_Placement at1)),(4,.box [(vS ByteArray.empty),(vS ByteArray.empty),(vI 0),(vI 0),.nl,.nl,.nl])]⟩ ?_))
 refine z7 (zA 9 ?_)
 obtain ⟨r2,hr2,h⟩:=bindS h
 refine evs_callS [] [(0,700450),(1,700451),(2,700452),(3,700453),(4,700454)] [] (by kernel_rfl) (W.flat_Quarter_ok hr2) (by kernel_rfl) (by kernel_rfl) (.inl rfl) (z1 6 ⟨[(2,.ptr 2 0),(3,.ptr 3 0),(4,.ptr 4 0),(6,.ptr 6 0),(7,vI r2.2)],[(2,.box (c_Piece x0)),(3,.box (c_Placement at1)),(4,.box [(vS ByteArray.empty),(vS ByteArray.empty),(vI 0),(vI 0),.nl,.nl,.nl]),(6,.box [(ro 700451 86),(ro 700452 86),(ro 700453 86),(ro 700454 162)]),(700451,w_Rect 86 r2.1.Rects),(700452,w_Rect 86 r2.1.Cuts),(700453,w_Rect 86 r2.1.Forms),(700454,w_BendLine 162 r2.1.Bends)]⟩ (zB ?_))
 refine z3 2 ⟨[(2,.ptr 2 0),(3,.ptr 3 0),(4,.ptr 4 0),(6,.ptr 6 0),(23,vB (r2.2 != 0))],[(2,.box (c_Piece x0)),(3,.box (c_Placement at1)),(4,.box [(vS ByteArray.empty),(vS ByteArray.empty),(vI 0),(vI 0),.nl,.nl,.nl]),(6,.box [(ro 700451 86),(ro 700452 86),(ro 700453 86),(ro 700454 162)]),(700451,w_Rect 86 r2.1.Rects),(700452,w_Rect 86 r2.1.Cuts),(700453,w_Rect 86 r2.1.Forms),(700454,w_BendLine 162 r2.1.Bends)]⟩ (zI (r2.2 != 0) (fun hb=>?_) fun hb=>?_)
 replace h:=iteT hb h
 refine z8 3 ⟨[(4,.ptr 4 0),(5,vI 4)],[(4,.box [(vS ByteArray.empty),(vS ByteArray.empty),(vI 0),(vI 0),.nl,.nl,.nl])]⟩ fun τ hτ=>?_
 refine th_ret ?_
 obtain rfl:=osi h
 exact rk_ret hτ [(4,.ptr 0 0),(5,vI 4)] (subR_prep [.row (.box 4 4) 800000 86 [],.row (.box 4 5) 800001 86 [],.row (.box 4 6) 800002 86 []] [(4,0),(800000,1),(800001,2),(800002,3)] (by kernel_rfl) rfl rfl (by kernel_rfl)) (by kernel_rfl)
 replace h:=iteF hb h
 refine z4 ⟨[(2,.ptr 2 0),(3,.ptr 3 0),(4,.ptr 4 0),(6,.ptr 6 0)],[(2,.box (c_Piece x0)),(3,.box (c_Placement at1)),(4,.box [(vS ByteArray.empty),(vS ByteArray.empty),(vI 0),(vI 0),.nl,.nl,.nl]),(6,.box [(ro 700451 86),(ro 700452 86),(ro 700453 86),(ro 700454 162)]),(700451,w_Rect 86 r2.1.Rects),(700452,w_Rect 86 r2.1.Cuts),(700453,w_Rect 86 r2.1.Forms),(700454,w_BendLine 162 r2.1.Bends)]⟩ (z3 3 ⟨[(3,.ptr 3 0),(4,.ptr 4 0),(6,.ptr 6 0),(8,.ptr 8 0)],[(3,.box (c_Placement at1)),(4,.box [(vS ByteArray.empty),(vS ByteArray.empty),(vI 0),(vI 0),.nl,.nl,.nl]),(6,.box [(ro 700451 86),(ro 700452 86),(ro 700453 86),(ro 700454 162)]),(8,.box (c_Piece x0)),(700451,w_Rect 86 r2.1.Rects),(700452,w_Rect 86 r2.1.Cuts),(700453,w_Rect 86 r2.1.Forms),(700454,w_BendLine 162 r2.1.Bends)]⟩ (zB ?_))
 refine sem_draw [(6,[700300]),(13,[700650]),(20,[701000])] [(6,[700300]),(13,[700650]),(20,[701000])] [(6,[700451]),(13,[700452]),(20,[700453])] [(7,[700300]),(8,[700300]),(9,[700300]),(10,[700300]),(11,[700300]),(12,[700300]),(14,[700300,700650]),(15,[700300,700650]),(16,[700300,700650]),(17,[700300,700650]),(18,[700300,700650]),(19,[700300,700650]),(21,[700650,701000])] [(0,[700300,700650,701000]),(1,[700300,700650,701000]),(2,[700300,700650,701000]),(3,[700300,700650,701000]),(4,[700300,700650,701000]),(5,[700300,700650,701000]),(6,[700650,701000]),(7,[700300,700650,701000]),(8,[700300,700650,701000]),(9,[700300,700650,701000]),(10,[700300,700650,701000]),(11,[700300,700650,701000]),(12,[700300,700650,701000]),(13,[701000]),(14,[700300,700650,701000]),(15,[700300,700650,701000]),(16,[700300,700650,701000]),(17,[700300,700650,701000]),(18,[700300,700650,701000]),(19,[700300,700650,701000]),(21,[700650,701000])] 22 (by kernel_rfl) (by kernel_rfl) [700300,700650,701000] (by kernel_rfl) (by kernel_rfl) (evd_run 6 (by kernel_rfl) ?_)
 obtain ⟨r9,hr9,h⟩:=bindS h
 refine evd_callS [(0,700300)] [700451] (by kernel_rfl) (by kernel_rfl) (W.nest_moved_ok hr9) (by kernel_rfl) (.inr ⟨rfl,fun _ _=>ind_cons (ind_row fun _=>rfl) (fun _ _=>ind_nil)⟩) (by kernel_rfl) (by kernel_rfl) (evd_run 6 (by kernel_rfl) ?_)
 obtain ⟨r10,hr10,h⟩:=bindS h
 refine evd_callS [(0,700650)] [700452] (by kernel_rfl) (by kernel_rfl) (W.nest_moved_ok hr10) (by kernel_rfl) (.inr ⟨rfl,fun _ _=>ind_cons (ind_row fun _=>rfl) (fun _ _=>ind_nil)⟩) (by kernel_rfl) (by kernel_rfl) (evd_run 6 (by kernel_rfl) ?_)
 obtain ⟨r11,hr11,h⟩:=bindS h
 refine evd_callS [(0,701000)] [700453] (by kernel_rfl) (by kernel_rfl) (W.nest_moved_ok hr11) (by kernel_rfl) (.inr ⟨rfl,fun _ _=>ind_cons (ind_row fun _=>rfl) (fun _ _=>ind_nil)⟩) (by kernel_rfl) (by kernel_rfl) (evd_run 1 (by kernel_rfl) (evd_end (by kernel_rfl) ?_))
 refine evo_run 5 (by kernel_rfl) (zO fun τ hτ=>?_)
 refine zE hτ ⟨[(4,.ptr 4 0),(8,.ptr 8 0)],[(4,.box [(vS ByteArray.empty),(vS ByteArray.empty),(vI 0),(vI 0),.nl,.nl,.nl]),(8,.box [(vS x0.Name),(vS x0.Material),(vI x0.Gauge),(vI x0.Grain),(ro 700300 86),(ro 700650 86),(ro 701000 86)]),(700300,w_Rect 86 r9),(700650,w_Rect 86 r10),(701000,w_Rect 86 r11)]⟩ (zB (zB ?_))
 obtain ⟨j22,hj22,h⟩:=bindS h
 refine zT ⟨[(4,.ptr 500000 0),(8,.ptr 500001 0),(65,vB j22)],[(500000,.box [(vS ByteArray.empty),(vS ByteArray.empty),(vI 0),(vI 0),.nl,.nl,.nl]),(500001,.box [(vS x0.Name),(vS x0.Material),(vI x0.Gauge),(vI x0.Grain),(ro 500002 86),(ro 500003 86),(ro 500004 86)]),(500002,w_Rect 86 r9),(500003,w_Rect 86 r10),(500004,w_Rect 86 r11)]⟩ ?_ fun τ hτ=>?_
 replace h:=hj22
 refine zA 2 ?_
 obtain ⟨r23,hr23,h⟩:=bindS h
 refine evs_callP [700300] (by kernel_rfl) (W.nest_valid_ok hr23) (by kernel_rfl) (.inr rfl) (by kernel_rfl) (zA 2 (zS r23 (fun b0=>⟨[(4,.ptr 4 0),(8,.ptr 8 0),(54,vB (!b0))],[(4,.box [(vS ByteArray.empty),(vS ByteArray.empty),(vI 0),(vI 0),.nl,.nl,.nl]),(8,.box [(vS x0.Name),(vS x0.Material),(vI x0.Gauge),(vI x0.Grain),(ro 700300 86),(ro 700650 86),(ro 701000 86)]),(700300,w_Rect 86 r9),(700650,w_Rect 86 r10),(701000,w_Rect 86 r11)]⟩) (fun hb=>?_) fun hb=>?_))
 replace h:=iteT hb h
 refine zA 2 ?_
 obtain ⟨r24,hr24,h⟩:=bindS h
 refine evs_callP [700650] (by kernel_rfl) (W.nest_valid_ok hr24) (by kernel_rfl) (.inr rfl) (by kernel_rfl) (zA 3 (zS r24 (fun b0=>⟨[(4,.ptr 4 0),(8,.ptr 8 0),(60,vB (!b0))],[(4,.box [(vS ByteArray.empty),(vS ByteArray.empty),(vI 0),(vI 0),.nl,.nl,.nl]),(8,.box [(vS x0.Name),(vS x0.Material),(vI x0.Gauge),(vI x0.Grain),(ro 700300 86),(ro 700650 86),(ro 701000 86)]),(700300,w_Rect 86 r9),(700650,w_Rect 86 r10),(701000,w_Rect 86 r11)]⟩) (fun hb=>?_) fun hb=>?_))
 replace h:=iteT hb h
 refine zA 2 ?_
 obtain ⟨r25,hr25,h⟩:=bindS h
 refine evs_callP [701000] (by kernel_rfl) (W.nest_valid_ok hr25) (by kernel_rfl) (.inr rfl) (by kernel_rfl) (z6 2 fun τ hτ=>?_)
 obtain rfl:=osi h
 exact leafC hτ (subR_prep [] [(4,500000),(8,500001),(700300,500002),(700650,500003),(701000,500004)] (by kernel_rfl) rfl rfl (by kernel_rfl))
 replace h:=iteF hb h
 refine z6 5 fun τ hτ=>?_
 obtain rfl:=osi h
 exact leafC hτ (subR_prep [] [(4,500000),(8,500001),(700300,500002),(700650,500003),(701000,500004)] (by kernel_rfl) rfl rfl (by kernel_rfl))
 replace h:=iteF hb h
 refine z6 11 fun τ hτ=>?_
 obtain rfl:=osi h
 exact leafC hτ (subR_prep [] [(4,500000),(8,500001),(700300,500002),(700650,500003),(701000,500004)] (by kernel_rfl) rfl rfl (by kernel_rfl))
 refine zE hτ ⟨[(4,.ptr 500000 0),(8,.ptr 500001 0),(65,vB j22)],[(500000,.box [(vS ByteArray.empty),(vS ByteArray.empty),(vI 0),(vI 0),.nl,.nl,.nl]),(500001,.box [(vS x0.Name),(vS x0.Material),(vI x0.Gauge),(vI x0.Grain),(ro 500002 86),(ro 500003 86),(ro 500004 86)]),(500002,w_Rect 86 r9),(500003,w_Rect 86 r10),(500004,w_Rect 86 r11)]⟩ (zI j22 (fun hb=>?_) fun hb=>?_)
 replace h:=iteT hb h
 refine z8 3 ⟨[(4,.ptr 500000 0),(5,vI 4)],[(500000,.box [(vS ByteArray.empty),(vS ByteArray.empty),(vI 0),(vI 0),.nl,.nl,.nl])]⟩ fun τ hτ=>?_
 refine th_ret ?_
 obtain rfl:=osi h
 exact rk_ret hτ [(4,.ptr 0 0),(5,vI 4)] (subR_prep [.row (.box 500000 4) 800000 86 [],.row (.box 500000 5) 800001 86 [],.row (.box 500000 6) 800002 86 []] [(500000,0),(800000,1),(800001,2),(800002,3)] (by kernel_rfl) rfl rfl (by kernel_rfl)) (by kernel_rfl)
 replace h:=iteF hb h
 refine z4 ⟨[(4,.ptr 500000 0),(8,.ptr 500001 0)],[(500000,.box [(vS ByteArray.empty),(vS ByteArray.empty),(vI 0),(vI 0),.nl,.nl,.nl]),(500001,.box [(vS x0.Name),(vS x0.Material),(vI x0.Gauge),(vI x0.Grain),(ro 500002 86),(ro 500003 86),(ro 500004 86)]),(500002,w_Rect 86 r9),(500003,w_Rect 86 r10),(500004,w_Rect 86 r11)]⟩ (z8 3 ⟨[(4,.ptr 500000 0),(5,vI 0)],[(500000,.box [(vS x0.Name),(vS x0.Material),(vI x0.Gauge),(vI x0.Grain),(ro 500002 86),(ro 500003 86),(ro 500004 86)]),(500002,w_Rect 86 r9),(500003,w_Rect 86 r10),(500004,w_Rect 86 r11)]⟩ fun τ hτ=>?_)
 obtain rfl:=osi h
 exact rk_ret hτ [(4,.ptr 0 0),(5,vI 0)] (subR_prep [] [(500000,0),(500002,1),(500003,2),(500004,3)] (by kernel_rfl) rfl rfl (by kernel_rfl)) (by kernel_rfl)
theorem W.nest_Put_ok {x0 : Piece} {at1 : Placement} {r : Piece × Int × ByteArray × ByteArray × Int × Int} (h : nest_Put x0 at1 = some r) : PC G.P 28 [(.agg (c_Piece x0)),(.agg (c_Placement at1))] [] (.tup [(.agg [(vS r.1.Name),(vS r.1.Material),(vI r.1.Gauge),(vI r.1.Grain),(.row (.top 1) 86),(.row (.top 2) 86),(.row (.top 3) 86)]),(vI r.2.1)]) [(0,.box [(vS r.2.2.1),(vS r.2.2.2.1),(vI r.2.2.2.2.1),(vI r.2.2.2.2.2),(.row (.top 1) 86),(.row (.top 2) 86),(.row (.top 3) 86)]),(1,.row 86 [] (List.map c_Rect r.1.Rects)),(2,.row 86 [] (List.map c_Rect r.1.Cuts)),(3,.row 86 [] (List.map c_Rect r.1.Forms))]:=by
 refine zU G Tryz.func28 (zK ⟨[(0,.agg (c_Piece x0)),(1,.agg (c_Placement at1))],[]⟩ (z3 4 ⟨[(2,.ptr 2 0),(3,.ptr 3 0),(4,.ptr 4 0)],[(2,.box (c_Piece x0)),(3,.box (c_Placement at1)),(4,.box [(vS ByteArray.empty),(vS ByteArray.empty),(vI 0),(vI 0),.nl,.nl,.nl])]⟩ ?_))
 refine zB (z7 (zA 1 ?_))
 obtain ⟨r4,hr4,h⟩:=bindS h
 refine evs_callP [] (by kernel_rfl) (W.nest_ValidatePiece_ok hr4) (by kernel_rfl) (.inl rfl) (by kernel_rfl) (z1 1 ⟨[(2,.ptr 2 0),(3,.ptr 3 0),(4,.ptr 4 0),(6,vI r4)],[(2,.box (c_Piece x0)),(3,.box (c_Placement at1)),(4,.box [(vS ByteArray.empty),(vS ByteArray.empty),(vI 0),(vI 0),.nl,.nl,.nl])]⟩ (z3 2 ⟨[(2,.ptr 2 0),(3,.ptr 3 0),(4,.ptr 4 0),(6,vI r4),(10,vB (r4 != 0))],[(2,.box (c_Piece x0)),(3,.box (c_Placement at1)),(4,.box [(vS ByteArray.empty),(vS ByteArray.empty),(vI 0),(vI 0),.nl,.nl,.nl])]⟩ ?_))
 refine zI (r4 != 0) (fun hb=>?_) fun hb=>?_
 replace h:=iteT hb h
 refine z8 4 ⟨[(4,.ptr 4 0),(5,vI r4)],[(4,.box [(vS ByteArray.empty),(vS ByteArray.empty),(vI 0),(vI 0),.nl,.nl,.nl])]⟩ fun τ hτ=>?_
 refine th_ret ?_
 obtain rfl:=osi h
 exact rk_ret hτ [(4,.ptr 0 0),(5,vI r4)] (subR_prep [.row (.box 4 4) 800000 86 [],.row (.box 4 5) 800001 86 [],.row (.box 4 6) 800002 86 []] [(4,0),(800000,1),(800001,2),(800002,3)] (by kernel_rfl) rfl rfl (by kernel_rfl)) (by kernel_rfl)
 replace h:=iteF hb h
 refine z4 ⟨[(2,.ptr 2 0),(3,.ptr 3 0),(4,.ptr 4 0)],[(2,.box (c_Piece x0)),(3,.box (c_Placement at1)),(4,.box [(vS ByteArray.empty),(vS ByteArray.empty),(vI 0),(vI 0),.nl,.nl,.nl])]⟩ (zB (z7 ?_))
 refine zA 2 ?_
 obtain ⟨r8,hr8,h⟩:=bindS h
 refine evs_callP [] (by kernel_rfl) (W.nest_from_ok hr8) (by kernel_rfl) (.inl rfl) (by kernel_rfl) (z1 1 ⟨[(2,.ptr 2 0),(3,.ptr 3 0),(4,.ptr 4 0),(16,vB (!r8))],[(2,.box (c_Piece x0)),(3,.box (c_Placement at1)),(4,.box [(vS ByteArray.empty),(vS ByteArray.empty),(vI 0),(vI 0),.nl,.nl,.nl])]⟩ (zI (!r8) (fun hb=>?_) fun hb=>?_))
 replace h:=iteT hb h
 refine z8 3 ⟨[(4,.ptr 4 0),(5,vI 1)],[(4,.box [(vS ByteArray.empty),(vS ByteArray.empty),(vI 0),(vI 0),.nl,.nl,.nl])]⟩ fun τ hτ=>?_
 refine th_ret ?_
 obtain rfl:=osi h
 exact rk_ret hτ [(4,.ptr 0 0),(5,vI 1)] (subR_prep [.row (.box 4 4) 800000 86 [],.row (.box 4 5) 800001 86 [],.row (.box 4 6) 800002 86 []] [(4,0),(800000,1),(800001,2),(800002,3)] (by kernel_rfl) rfl rfl (by kernel_rfl)) (by kernel_rfl)
 replace h:=iteF hb h
 refine z4 ⟨[(2,.ptr 2 0),(3,.ptr 3 0),(4,.ptr 4 0)],[(2,.box (c_Piece x0)),(3,.box (c_Placement at1)),(4,.box [(vS ByteArray.empty),(vS ByteArray.empty),(vI 0),(vI 0),.nl,.nl,.nl])]⟩ (zB (zB ?_))
 obtain ⟨j16,hj16,h⟩:=bindS h
 refine zT ⟨[(2,.ptr 500000 0),(3,.ptr 500001 0),(4,.ptr 500002 0),(27,vB j16)],[(500000,.box (c_Piece x0)),(500001,.box (c_Placement at1)),(500002,.box [(vS ByteArray.empty),(vS ByteArray.empty),(vI 0),(vI 0),.nl,.nl,.nl])]⟩ ?_ fun τ hτ=>?_
 replace h:=hj16
 refine zA 2 ?_
 obtain ⟨r17,hr17,h⟩:=bindS h
 refine evs_callP [] (by kernel_rfl) (W.nest_from_ok hr17) (by kernel_rfl) (.inl rfl) (by kernel_rfl) (zA 2 (zS r17 (fun b0=>⟨[(2,.ptr 2 0),(3,.ptr 3 0),(4,.ptr 4 0),(22,vB (!b0))],[(2,.box (c_Piece x0)),(3,.box (c_Placement at1)),(4,.box [(vS ByteArray.empty),(vS ByteArray.empty),(vI 0),(vI 0),.nl,.nl,.nl])]⟩) (fun hb=>?_) fun hb=>?_))
 replace h:=iteT hb h
 refine zA 2 ?_
 obtain ⟨r18,hr18,h⟩:=bindS h
 refine evs_callP [] (by kernel_rfl) (W.nest_from_ok hr18) (by kernel_rfl) (.inl rfl) (by kernel_rfl) (z6 2 fun τ hτ=>?_)
 obtain rfl:=osi h
 exact leafC hτ (subR_prep [] [(2,500000),(3,500001),(4,500002)] (by kernel_rfl) rfl rfl (by kernel_rfl))
 replace h:=iteF hb h
 refine z6 5 fun τ hτ=>?_
 obtain rfl:=osi h
 exact leafC hτ (subR_prep [] [(2,500000),(3,500001),(4,500002)] (by kernel_rfl) rfl rfl (by kernel_rfl))
 refine zE hτ ⟨[(2,.ptr 500000 0),(3,.ptr 500001 0),(4,.ptr 500002 0),(27,vB j16)],[(500000,.box (c_Piece x0)),(500001,.box (c_Placement at1)),(500002,.box [(vS ByteArray.empty),(vS ByteArray.empty),(vI 0),(vI 0),.nl,.nl,.nl])]⟩ (zI j16 (fun hb=>?_) fun hb=>?_)
 replace h:=iteT hb h
 refine z8 3 ⟨[(4,.ptr 500002 0),(5,vI 4)],[(500002,.box [(vS ByteArray.empty),(vS ByteArray.empty),(vI 0),(vI 0),.nl,.nl,.nl])]⟩ fun τ hτ=>?_
 refine th_ret ?_
 obtain rfl:=osi h
 exact rk_ret hτ [(4,.ptr 0 0),(5,vI 4)] (subR_prep [.row (.box 500002 4) 800000 86 [],.row (.box 500002 5) 800001 86 [],.row (.box 500002 6) 800002 86 []] [(500002,0),(800000,1),(800001,2),(800002,3)] (by kernel_rfl) rfl rfl (by kernel_rfl)) (by kernel_rfl)
 replace h:=iteF hb h
 refine z4 ⟨[(2,.ptr 500000 0),(3,.ptr 500001 0),(4,.ptr 500002 0)],[(500000,.box (c_Piece x0)),(500001,.box (c_Placement at1)),(500002,.box [(vS ByteArray.empty),(vS ByteArray.empty),(vI 0),(vI 0),.nl,.nl,.nl])]⟩ (z7 (zA 2 ?_))
 obtain ⟨r20,hr20,h⟩:=bindS h
 refine evs_callS [] [(0,700100),(1,700101),(2,700102),(3,700103)] [] (by kernel_rfl) (W.nest_put_ok hr20) (by kernel_rfl) (by kernel_rfl) (.inl rfl) (z1 4 ⟨[(4,.ptr 500002 0),(5,vI r20.2.1)],[(500002,.box [(vS r20.1.Name),(vS r20.1.Material),(vI r20.1.Gauge),(vI r20.1.Grain),(ro 700101 86),(ro 700102 86),(ro 700103 86)]),(700101,w_Rect 86 r20.1.Rects),(700102,w_Rect 86 r20.1.Cuts),(700103,w_Rect 86 r20.1.Forms)]⟩ (zN fun τ hτ=>?_))
 obtain rfl:=osi h
 exact rk_ret hτ [(4,.ptr 0 0),(5,vI r20.2.1)] (subR_prep [] [(500002,0),(700101,1),(700102,2),(700103,3)] (by kernel_rfl) rfl rfl (by kernel_rfl)) (by kernel_rfl)
theorem W.sheetmetalref06_SameRects_ok {a : (List Rect)} {b : (List Rect)} {r : Bool} (h : sheetmetalref06_SameRects a b = some r) : PC G.P 76 [(.sl (List.map c_Rect a)),(.sl (List.map c_Rect b))] [] (vB r) []:=by
 refine zU G Tryz.func76 (zK ⟨[(0,s_Rect a),(1,s_Rect b)],[]⟩ (z3 1 ⟨[(0,s_Rect a),(1,s_Rect b)],[]⟩ ?_))
 refine zB (z7 (zA 1 ?_))
 refine evs_op (st_len (c:=c_Rect) (l:=a) (x:=(s_Rect a)) (by kernel_rfl) (by kernel_rfl)) (zA 1 (evs_op (st_len (c:=c_Rect) (l:=b) (x:=(s_Rect b)) (by kernel_rfl) (by kernel_rfl)) ?_))
 refine z1 1 ⟨[(0,s_Rect a),(1,s_Rect b),(10,vB ((a.length : Int) != (b.length : Int)))],[]⟩ (zI ((a.length : Int) != (b.length : Int)) (fun hb=>?_) fun hb=>?_)
 replace h:=iteT hb h
 refine z8 1 ⟨[(4,vB false)],[]⟩ fun τ hτ=>?_
 refine th_ret ?_
 obtain rfl:=osi h
 exact zV hτ [(4,vB false)]
 replace h:=iteF hb h
 refine z4 ⟨[(0,s_Rect a),(1,s_Rect b)],[]⟩ (zB (z3 1 ⟨[(0,s_Rect a),(1,s_Rect b),(5,vI 0)],[]⟩ ?_))
 refine zC ?_
 obtain ⟨x80,hx80,h⟩:=bindS h
 refine sem_loopS (fun (s55 : Int)=>⟨[(0,s_Rect a),(1,s_Rect b),(5,vI s55)],[]⟩) (fun (x80 : Unit ⊕ Unit)=>match x80 with | .inl j81=>(.ret,⟨[(4,vB false)],[]⟩) | .inr j82=>(.exit 0,⟨[],[]⟩)) (sheetmetalref06_SameRects_l1 a b) 0 x80 (by kernel_rfl) (here (by kernel_rfl)) hx80 ?_ ?_ ?_
 intro s55 r h
 refine zB (z7 (zA 2 ?_))
 refine evs_op (st_len (c:=c_Rect) (l:=a) (x:=(s_Rect a)) (by kernel_rfl) (by kernel_rfl)) (z1 1 ⟨[(0,s_Rect a),(1,s_Rect b),(5,vI s55),(14,vB (decide (s55 < (a.length : Int))))],[]⟩ (zI (decide (s55 < (a.length : Int))) (fun hb=>?_) fun hb=>?_))
 replace h:=iteT hb h
 refine z4 ⟨[(0,s_Rect a),(1,s_Rect b),(5,vI s55)],[]⟩ (zB (zC ?_))
 refine zB (sem_drawN [] [] [] [] [] 8 (by kernel_rfl) (by kernel_rfl) (by kernel_rfl) (evd_run 2 (by kernel_rfl) ?_))
 obtain ⟨x78,hx78,h⟩:=bindS h
 refine evd_val (by kernel_rfl) (st_idx (c:=c_Rect) (l:=a) (i:=s55) (kd:=.i64) (sz:=4) (by kernel_rfl) hx78 rfl) (by kernel_rfl) (by kernel_rfl) (evd_run 3 (by kernel_rfl) ?_)
 obtain ⟨x79,hx79,h⟩:=bindS h
 refine evd_val (by kernel_rfl) (st_idx (c:=c_Rect) (l:=b) (i:=s55) (kd:=.i64) (sz:=4) (by kernel_rfl) hx79 rfl) (by kernel_rfl) (by kernel_rfl) (evd_run 1 (by kernel_rfl) (evd_end (by kernel_rfl) ?_))
 refine evo_run 1 (by kernel_rfl) (zO fun τ hτ=>?_)
 refine zE hτ ⟨[(0,s_Rect a),(1,s_Rect b),(5,vI s55),(25,vB (!((x78.X == x79.X) && ((x78.Y == x79.Y) && ((x78.W == x79.W) && ((x78.H == x79.H) && true))))))],[]⟩ (zI (!((x78.X == x79.X) && ((x78.Y == x79.Y) && ((x78.W == x79.W) && ((x78.H == x79.H) && true))))) (fun hb=>?_) fun hb=>?_)
 replace h:=iteT hb h
 refine z8 1 ⟨[(4,vB false)],[]⟩ fun τ hτ=>?_
 refine bl_ret (th_ret ?_)
 obtain rfl:=osi h
 exact zF hτ
 replace h:=iteF hb h
 refine zM fun τ hτ=>?_
 refine bl_normal (zE hτ ⟨[(0,s_Rect a),(1,s_Rect b),(5,vI s55)],[]⟩ (zD ?_))
 refine z6 3 fun τ hτ=>?_
 obtain rfl:=osi h
 exact zH hτ
 replace h:=iteF hb h
 refine zL 0 fun τ hτ=>?_
 refine th_exit ?_
 obtain rfl:=osi h
 exact zF hτ
 intro x
 rcases x with _ | _ <;> rfl
 intro τ hτ
 rcases x80 with j81 | j82
 refine bl_ret (th_ret ?_)
 obtain rfl:=osi h
 exact zV hτ [(4,vB false)]
 refine zQ (zE hτ ⟨[],[]⟩ (z8 1 ⟨[(4,vB true)],[]⟩ fun τ hτ=>?_))
 obtain rfl:=osi h
 exact zV hτ [(4,vB true)]
theorem W.sheetmetalref06_SamePiece_ok {a : Piece} {b : Piece} {r : Bool} (h : sheetmetalref06_SamePiece a b = some r) : PC G.P 30 [(.agg (c_Piece a)),(.agg (c_Piece b))] [] (vB r) []:=by
 refine zU G Tryz.func30 (zK ⟨[(0,.agg (c_Piece a)),(1,.agg (c_Piece b))],[]⟩ (z3 3 ⟨[(2,.ptr 2 0),(3,.ptr 3 0)],[(2,.box (c_Piece a)),(3,.box (c_Piece b))]⟩ ?_))
 refine zB ?_
 obtain ⟨j4,hj4,h⟩:=bindS h
 refine zT ⟨[(4,vB j4)],[]⟩ ?_ fun τ hτ=>?_
 replace h:=hj4
 refine zA 6 (zS (a.Name.toList == b.Name.toList) (fun b0=>⟨[(2,.ptr 2 0),(3,.ptr 3 0),(10,vB b0)],[(2,.box (c_Piece a)),(3,.box (c_Piece b))]⟩) (fun hb=>?_) fun hb=>?_)
 replace h:=iteT hb h
 refine zA 7 (zS (a.Material.toList == b.Material.toList) (fun b0=>⟨[(2,.ptr 2 0),(3,.ptr 3 0),(17,vB b0)],[(2,.box (c_Piece a)),(3,.box (c_Piece b))]⟩) (fun hb=>?_) fun hb=>?_)
 replace h:=iteT hb h
 refine zA 7 (zS (a.Gauge == b.Gauge) (fun b0=>⟨[(2,.ptr 2 0),(3,.ptr 3 0),(24,vB b0)],[(2,.box (c_Piece a)),(3,.box (c_Piece b))]⟩) (fun hb=>?_) fun hb=>?_)
 replace h:=iteT hb h
 refine zA 7 (zS (a.Grain == b.Grain) (fun b0=>⟨[(2,.ptr 2 0),(3,.ptr 3 0),(31,vB b0)],[(2,.box (c_Piece a)),(3,.box (c_Piece b))]⟩) (fun hb=>?_) fun hb=>?_)
 replace h:=iteT hb h
 refine zA 4 ?_
 obtain ⟨r5,hr5,h⟩:=bindS h
 refine evs_callP [] (by kernel_rfl) (W.sheetmetalref06_SameRects_ok hr5) (by kernel_rfl) (.inl rfl) (by kernel_rfl) (zA 2 (zS r5 (fun b0=>⟨[(2,.ptr 2 0),(3,.ptr 3 0),(38,vB b0)],[(2,.box (c_Piece a)),(3,.box (c_Piece b))]⟩) (fun hb=>?_) fun hb=>?_))
 replace h:=iteT hb h
 refine zA 4 ?_
 obtain ⟨r6,hr6,h⟩:=bindS h
 refine evs_callP [] (by kernel_rfl) (W.sheetmetalref06_SameRects_ok hr6) (by kernel_rfl) (.inl rfl) (by kernel_rfl) (zA 2 (zS r6 (fun b0=>⟨[(2,.ptr 2 0),(3,.ptr 3 0),(45,vB b0)],[(2,.box (c_Piece a)),(3,.box (c_Piece b))]⟩) (fun hb=>?_) fun hb=>?_))
 replace h:=iteT hb h
 refine zA 4 ?_
 obtain ⟨r7,hr7,h⟩:=bindS h
 refine evs_callP [] (by kernel_rfl) (W.sheetmetalref06_SameRects_ok hr7) (by kernel_rfl) (.inl rfl) (by kernel_rfl) (z6 2 fun τ hτ=>?_)
 obtain rfl:=osi h
 exact zG hτ
 replace h:=iteF hb h
 refine z6 7 fun τ hτ=>?_
 obtain rfl:=osi h
 exact zG hτ
 replace h:=iteF hb h
 refine z6 14 fun τ hτ=>?_
 obtain rfl:=osi h
 exact zG hτ
 replace h:=iteF hb h
 refine z6 21 fun τ hτ=>?_
 obtain rfl:=osi h
 exact zG hτ
 replace h:=iteF hb h
 refine z6 28 fun τ hτ=>?_
 obtain rfl:=osi h
 exact zG hτ
 replace h:=iteF hb h
 refine z6 35 fun τ hτ=>?_
 obtain rfl:=osi h
 exact zG hτ
 replace h:=iteF hb h
 refine z6 42 fun τ hτ=>?_
 obtain rfl:=osi h
 exact zG hτ
 refine zE hτ ⟨[(4,vB j4)],[]⟩ (zN fun τ hτ=>?_)
 obtain rfl:=osi h
 exact zV hτ [(4,vB j4)]
theorem W.sheetmetallaw06_NestTurns_ok {x0 : Piece} {a : Int} {b : Int} {r : Bool} (h : sheetmetallaw06_NestTurns x0 a b = some r) : PC G.P 8 [(.agg (c_Piece x0)),(vI a),(vI b)] [] (vB r) []:=by
 refine zU G Tryz.func8 (zK ⟨[(0,.agg (c_Piece x0)),(1,vI a),(2,vI b)],[]⟩ (z3 2 ⟨[(1,vI a),(2,vI b),(3,.ptr 3 0)],[(3,.box (c_Piece x0))]⟩ ?_))
 refine z7 (zA 3 ?_)
 obtain ⟨r2,hr2,h⟩:=bindS h
 refine evs_callS [] [(0,700150),(1,700151),(2,700152),(3,700153)] [] (by kernel_rfl) (W.nest_Put_ok hr2) (by kernel_rfl) (by kernel_rfl) (.inl rfl) (evs_prep [.frz 700151,.frz 700152,.frz 700153] (by kernel_rfl) (z1 6 ⟨[(1,vI a),(2,vI b),(3,.ptr 3 0),(7,.ptr 7 0),(8,vI r2.2.1)],[(3,.box (c_Piece x0)),(7,.box (c_Piece r2.1))]⟩ ?_))
 refine zB (z3 2 ⟨[(1,vI a),(2,vI b),(3,.ptr 3 0),(7,.ptr 7 0),(21,vB (r2.2.1 != 0))],[(3,.box (c_Piece x0)),(7,.box (c_Piece r2.1))]⟩ (zI (r2.2.1 != 0) (fun hb=>?_) fun hb=>?_))
 replace h:=iteT hb h
 refine z7 ?_
 obtain ⟨r6,hr6,h⟩:=bindS h
 refine evs_callP [] (by kernel_rfl) (W.sheetmetallaw06_known_k_ok hr6) (by kernel_rfl) (.inl rfl) (by kernel_rfl) (z1 1 ⟨[(6,vB r6)],[]⟩ (zN fun τ hτ=>?_))
 refine th_ret ?_
 obtain rfl:=osi h
 exact zV hτ [(6,vB r6)]
 replace h:=iteF hb h
 refine z4 ⟨[(1,vI a),(2,vI b),(3,.ptr 3 0),(7,.ptr 7 0)],[(3,.box (c_Piece x0)),(7,.box (c_Piece r2.1))]⟩ (z7 (zA 3 ?_))
 obtain ⟨r8,hr8,h⟩:=bindS h
 refine evs_callS [] [(0,700150),(1,700151),(2,700152),(3,700153)] [] (by kernel_rfl) (W.nest_Put_ok hr8) (by kernel_rfl) (by kernel_rfl) (.inl rfl) (evs_prep [.frz 700151,.frz 700152,.frz 700153] (by kernel_rfl) (z1 6 ⟨[(1,vI a),(2,vI b),(3,.ptr 3 0),(9,.ptr 9 0),(10,vI r8.2.1)],[(3,.box (c_Piece x0)),(9,.box (c_Piece r8.1))]⟩ ?_))
 refine zB (zB ?_)
 obtain ⟨j13,hj13,h⟩:=bindS h
 refine zT ⟨[(1,vI a),(2,vI b),(3,.ptr 500000 0),(9,.ptr 500001 0),(10,vI r8.2.1),(35,vB j13)],[(500000,.box (c_Piece x0)),(500001,.box (c_Piece r8.1))]⟩ ?_ fun τ hτ=>?_
 replace h:=hj13
 refine zA 3 (zS (decide (b < 0)) (fun b0=>⟨[(1,vI a),(2,vI b),(3,.ptr 3 0),(9,.ptr 9 0),(10,vI r8.2.1),(32,vB b0)],[(3,.box (c_Piece x0)),(9,.box (c_Piece r8.1))]⟩) (fun hb=>?_) fun hb=>?_)
 replace h:=iteT hb h
 refine z6 3 fun τ hτ=>?_
 obtain rfl:=osi h
 exact leafC hτ (subR_prep [] [(3,500000),(9,500001)] (by kernel_rfl) rfl rfl (by kernel_rfl))
 replace h:=iteF hb h
 refine z6 3 fun τ hτ=>?_
 obtain rfl:=osi h
 exact leafC hτ (subR_prep [] [(3,500000),(9,500001)] (by kernel_rfl) rfl rfl (by kernel_rfl))
 refine zE hτ ⟨[(1,vI a),(2,vI b),(3,.ptr 500000 0),(9,.ptr 500001 0),(10,vI r8.2.1),(35,vB j13)],[(500000,.box (c_Piece x0)),(500001,.box (c_Piece r8.1))]⟩ (zI j13 (fun hb=>?_) fun hb=>?_)
 replace h:=iteT hb h
 refine zB ?_
 obtain ⟨j15,hj15,h⟩:=bindS h
 refine zT ⟨[(6,vB j15)],[]⟩ ?_ fun τ hτ=>?_
 replace h:=hj15
 refine zA 3 (zS (r8.2.1 == 1) (fun b0=>⟨[(38,vB b0)],[]⟩) (fun hb=>?_) fun hb=>?_)
 replace h:=iteT hb h
 obtain ⟨r16,hr16,h⟩:=bindS h
 refine evs_callP [] (by kernel_rfl) (W.sheetmetallaw06_known_k_ok hr16) (by kernel_rfl) (.inl rfl) (by kernel_rfl) (z6 2 fun τ hτ=>?_)
 obtain rfl:=osi h
 exact zG hτ
 replace h:=iteF hb h
 refine z6 3 fun τ hτ=>?_
 obtain rfl:=osi h
 exact zG hτ
 refine zE hτ ⟨[(6,vB j15)],[]⟩ (zN fun τ hτ=>?_)
 refine th_ret ?_
 obtain rfl:=osi h
 exact zV hτ [(6,vB j15)]
 replace h:=iteF hb h
 refine z4 ⟨[(1,vI a),(2,vI b),(3,.ptr 500000 0),(9,.ptr 500001 0),(10,vI r8.2.1)],[(500000,.box (c_Piece x0)),(500001,.box (c_Piece r8.1))]⟩ (z7 (zA 6 ?_))
 obtain ⟨r18,hr18,h⟩:=bindS h
 refine evs_callS [] [(0,700300),(1,700301),(2,700302),(3,700303)] [] (by kernel_rfl) (W.nest_Put_ok hr18) (by kernel_rfl) (by kernel_rfl) (.inl rfl) (evs_prep [.frz 700301,.frz 700302,.frz 700303] (by kernel_rfl) (z1 6 ⟨[(9,.ptr 500001 0),(10,vI r8.2.1),(11,.ptr 11 0),(12,vI r18.2.1)],[(11,.box (c_Piece r18.1)),(500001,.box (c_Piece r8.1))]⟩ ?_))
 refine zB ?_
 obtain ⟨j21,hj21,h⟩:=bindS h
 refine zT ⟨[(6,vB j21)],[]⟩ ?_ fun τ hτ=>?_
 replace h:=hj21
 refine zA 3 (zS (r8.2.1 == 0) (fun b0=>⟨[(9,.ptr 500001 0),(11,.ptr 11 0),(12,vI r18.2.1),(53,vB b0)],[(11,.box (c_Piece r18.1)),(500001,.box (c_Piece r8.1))]⟩) (fun hb=>?_) fun hb=>?_)
 replace h:=iteT hb h
 refine zA 4 (zS (r18.2.1 == 0) (fun b0=>⟨[(9,.ptr 500001 0),(11,.ptr 11 0),(57,vB b0)],[(11,.box (c_Piece r18.1)),(500001,.box (c_Piece r8.1))]⟩) (fun hb=>?_) fun hb=>?_)
 replace h:=iteT hb h
 refine zA 2 ?_
 obtain ⟨r22,hr22,h⟩:=bindS h
 refine evs_callP [] (by kernel_rfl) (W.sheetmetalref06_SamePiece_ok hr22) (by kernel_rfl) (.inl rfl) (by kernel_rfl) (zA 2 (zS r22 (fun b0=>⟨[(62,vB b0)],[]⟩) (fun hb=>?_) fun hb=>?_))
 replace h:=iteT hb h
 obtain ⟨r23,hr23,h⟩:=bindS h
 refine evs_callP [] (by kernel_rfl) (W.sheetmetallaw06_known_k_ok hr23) (by kernel_rfl) (.inl rfl) (by kernel_rfl) (z6 2 fun τ hτ=>?_)
 obtain rfl:=osi h
 exact zG hτ
 replace h:=iteF hb h
 refine z6 3 fun τ hτ=>?_
 obtain rfl:=osi h
 exact zG hτ
 replace h:=iteF hb h
 refine z6 8 fun τ hτ=>?_
 obtain rfl:=osi h
 exact zG hτ
 replace h:=iteF hb h
 refine z6 12 fun τ hτ=>?_
 obtain rfl:=osi h
 exact zG hτ
 refine zE hτ ⟨[(6,vB j21)],[]⟩ (zN fun τ hτ=>?_)
 obtain rfl:=osi h
 exact zV hτ [(6,vB j21)]
end Go.Proofs.YtonmponhpfpokaaGreatR
