/- Each Go function does what its model says; written by a program out of the translation. -/
import Derived.Test.YtgfjbgoehhnaeaaGreatWL
import Derived.Test.YtgfjbgoehhnaeaaGreatCzML
set_option linter.unusedVariables false
set_option linter.unusedSimpArgs false
set_option linter.unusedSectionVars false
namespace Go.Proofs.YtgfjbgoehhnaeaaGreat
open Go Go.VI Go.SM Go.Proofs
set_option maxRecDepth 100000
set_option maxHeartbeats 4000000
theorem W.sheetmetalref06_Apart_ok {a : Rect} {b : Rect} {r : Int} (h : sheetmetalref06_Apart a b=some r) : PC G.P 102 [(.agg (c_Rect a)),(.agg (c_Rect b))] [] (vI r) []:=by
 refine zU G Tryz.func102 (yK [0,1] [] (y3 3 [2,3] [2,3] (zB (zB ?_))))
 obtain ⟨j8,hj8,h⟩:=bindS h
 refine zT ⟨[(2,.ptr 500000 0),(3,.ptr 500001 0),(14,vB j8)],[(500000,.box (c_Rect a)),(500001,.box (c_Rect b))]⟩ ?_ fun τ hτ=>?_
 replace h:=hj8
 refine zA 1 ?_
 obtain ⟨r9,hr9,h⟩:=bindS h
 refine evs_callP [] (by kernel_rfl) (W.sheetmetalref06_Right_ok hr9) (by kernel_rfl) (.inl rfl) (by kernel_rfl) (zA 2 (zS r9 (fun b0=>⟨[(2,.ptr 2 0),(3,.ptr 3 0),(10,vB (!b0))],[(2,.box (c_Rect a)),(3,.box (c_Rect b))]⟩) (fun hb=>?_) fun hb=>?_))
 replace h:=iteT hb h
 refine zA 1 ?_
 obtain ⟨r10,hr10,h⟩:=bindS h
 refine evs_callP [] (by kernel_rfl) (W.sheetmetalref06_Right_ok hr10) (by kernel_rfl) (.inl rfl) (by kernel_rfl) (z6 2 fun τ hτ=>?_)
 obtain rfl:=osi h
 exact leafC hτ (subR_prep [] [(2,500000),(3,500001)] (by kernel_rfl) rfl rfl (by kernel_rfl))
 replace h:=iteF hb h
 refine z6 4 fun τ hτ=>?_
 obtain rfl:=osi h
 exact leafC hτ (subR_prep [] [(2,500000),(3,500001)] (by kernel_rfl) rfl rfl (by kernel_rfl))
 refine yE hτ [2,3,14] [500000,500001] (zI j8 (fun hb=>?_) fun hb=>?_)
 replace h:=iteT hb h
 refine z8 1 ⟨[(4,vI 0)],[]⟩ fun τ hτ=>?_
 refine th_ret ?_
 obtain rfl:=osi h
 exact zV hτ [(4,vI 0)]
 replace h:=iteF hb h
 refine y4 [2,3] [500000,500001] (y3 18 [2,3,5] [500000,500001] (y3 18 [5,6] [] (z8 4 ⟨[(4,vI (imax (imax (imax 0 (isub (isub a.X b.X) b.W)) (isub (isub b.X a.X) a.W)) (imax (imax 0 (isub (isub a.Y b.Y) b.H)) (isub (isub b.Y a.Y) a.H))))],[]⟩ fun τ hτ=>?_)))
 obtain rfl:=osi h
 exact zV hτ [(4,vI (imax (imax (imax 0 (isub (isub a.X b.X) b.W)) (isub (isub b.X a.X) a.W)) (imax (imax 0 (isub (isub a.Y b.Y) b.H)) (isub (isub b.Y a.Y) a.H))))]
theorem W.sheetmetalref06_ValidatePiece_ok {x0 : Piece} {r : Int} (h : sheetmetalref06_ValidatePiece x0=some r) : PC G.P 46 [(.agg (c_Piece x0))] [] (vI r) []:=by
 refine zU G Tryz.func46 (yK [0] [] (y3 2 [1] [1] (z7 (zA 8 ?_))))
 obtain ⟨r2,hr2,h⟩:=bindS h
 refine evs_callP [] (by kernel_rfl) (W.sheetmetalref06_stuff_ok hr2) (by kernel_rfl) (.inl rfl) (by kernel_rfl) (y1 1 [1,3] [1] (zB (y3 2 [1,3,21] [1] (zI (r2 != 0) (fun hb=>?_) fun hb=>?_))))
 replace h:=iteT hb h
 refine z8 2 ⟨[(2,vI r2)],[]⟩ fun τ hτ=>?_
 refine th_ret ?_
 obtain rfl:=osi h
 exact zV hτ [(2,vI r2)]
 replace h:=iteF hb h
 refine y4 [1] [1] (zB (zB ?_))
 obtain ⟨j4,hj4,h⟩:=bindS h
 refine zT ⟨[(1,.ptr 500000 0),(38,vB j4)],[(500000,.box (c_Piece x0))]⟩ ?_ fun τ hτ=>?_
 replace h:=hj4
 refine zA 2 (evs_op (st_len (c:=c_Rect) (l:=x0.Rects) (x:=(s_Rect x0.Rects)) (by kernel_rfl) (by kernel_rfl)) (zA 2 (zS (decide ((x0.Rects.length : Int) > 12)) (fun b0=>⟨[(1,.ptr 1 0),(27,vB b0)],[(1,.box (c_Piece x0))]⟩) (fun hb=>?_) fun hb=>?_)))
 replace h:=iteT hb h
 refine z6 11 fun τ hτ=>?_
 obtain rfl:=osi h
 exact leafC hτ (subR_prep [] [(1,500000)] (by kernel_rfl) rfl rfl (by kernel_rfl))
 replace h:=iteF hb h
 refine zA 2 (evs_op (st_len (c:=c_Rect) (l:=x0.Cuts) (x:=(s_Rect x0.Cuts)) (by kernel_rfl) (by kernel_rfl)) (zA 3 (zS (decide ((x0.Cuts.length : Int) > 12)) (fun b0=>⟨[(1,.ptr 1 0),(33,vB b0)],[(1,.box (c_Piece x0))]⟩) (fun hb=>?_) fun hb=>?_)))
 replace h:=iteT hb h
 refine z6 5 fun τ hτ=>?_
 obtain rfl:=osi h
 exact leafC hτ (subR_prep [] [(1,500000)] (by kernel_rfl) rfl rfl (by kernel_rfl))
 replace h:=iteF hb h
 refine zA 2 (evs_op (st_len (c:=c_Rect) (l:=x0.Forms) (x:=(s_Rect x0.Forms)) (by kernel_rfl) (by kernel_rfl)) (z6 2 fun τ hτ=>?_))
 obtain rfl:=osi h
 exact leafC hτ (subR_prep [] [(1,500000)] (by kernel_rfl) rfl rfl (by kernel_rfl))
 refine yE hτ [1,38] [500000] (zI j4 (fun hb=>?_) fun hb=>?_)
 replace h:=iteT hb h
 refine z8 1 ⟨[(2,vI 4)],[]⟩ fun τ hτ=>?_
 refine th_ret ?_
 obtain rfl:=osi h
 exact zV hτ [(2,vI 4)]
 replace h:=iteF hb h
 refine y4 [1] [500000] (zB (zB ?_))
 obtain ⟨j15,hj15,h⟩:=bindS h
 refine zT ⟨[(1,.ptr 500000 0),(60,vB j15)],[(500000,.box (c_Piece x0))]⟩ ?_ fun τ hτ=>?_
 replace h:=hj15
 refine zA 2 (evs_op (st_len (c:=c_Rect) (l:=x0.Rects) (x:=(s_Rect x0.Rects)) (by kernel_rfl) (by kernel_rfl)) (zA 2 (zS ((x0.Rects.length : Int)==0) (fun b0=>⟨[(1,.ptr 500000 0),(43,vB b0)],[(500000,.box (c_Piece x0))]⟩) (fun hb=>?_) fun hb=>?_)))
 replace h:=iteT hb h
 refine z6 17 fun τ hτ=>?_
 obtain rfl:=osi h
 exact zG hτ
 replace h:=iteF hb h
 refine zA 2 ?_
 obtain ⟨r16,hr16,h⟩:=bindS h
 refine evs_callP [] (by kernel_rfl) (W.sheetmetalref06_Rights_ok hr16) (by kernel_rfl) (.inl rfl) (by kernel_rfl) (zA 3 (zS r16 (fun b0=>⟨[(1,.ptr 500000 0),(49,vB (!b0))],[(500000,.box (c_Piece x0))]⟩) (fun hb=>?_) fun hb=>?_))
 replace h:=iteT hb h
 refine zA 2 ?_
 obtain ⟨r17,hr17,h⟩:=bindS h
 refine evs_callP [] (by kernel_rfl) (W.sheetmetalref06_Rights_ok hr17) (by kernel_rfl) (.inl rfl) (by kernel_rfl) (zA 3 (zS r17 (fun b0=>⟨[(1,.ptr 500000 0),(55,vB (!b0))],[(500000,.box (c_Piece x0))]⟩) (fun hb=>?_) fun hb=>?_))
 replace h:=iteT hb h
 refine zA 2 ?_
 obtain ⟨r18,hr18,h⟩:=bindS h
 refine evs_callP [] (by kernel_rfl) (W.sheetmetalref06_Rights_ok hr18) (by kernel_rfl) (.inl rfl) (by kernel_rfl) (z6 2 fun τ hτ=>?_)
 obtain rfl:=osi h
 exact zG hτ
 replace h:=iteF hb h
 refine z6 5 fun τ hτ=>?_
 obtain rfl:=osi h
 exact zG hτ
 replace h:=iteF hb h
 refine z6 11 fun τ hτ=>?_
 obtain rfl:=osi h
 exact zG hτ
 refine yE hτ [1,60] [500000] (zI j15 (fun hb=>?_) fun hb=>?_)
 replace h:=iteT hb h
 refine z8 1 ⟨[(2,vI 1)],[]⟩ fun τ hτ=>?_
 refine th_ret ?_
 obtain rfl:=osi h
 exact zV hτ [(2,vI 1)]
 replace h:=iteF hb h
 refine y4 [1] [500000] (z7 (zA 2 ?_))
 obtain ⟨r20,hr20,h⟩:=bindS h
 refine evs_callP [] (by kernel_rfl) (W.sheetmetalref06_least_ok hr20) (by kernel_rfl) (.inl rfl) (by kernel_rfl) (y1 5 [1,4,5] [500000] (zB (zB ?_)))
 obtain ⟨j22,hj22,h⟩:=bindS h
 refine zT ⟨[(1,.ptr 500000 0),(72,vB j22)],[(500000,.box (c_Piece x0))]⟩ ?_ fun τ hτ=>?_
 replace h:=hj22
 refine zA 3 (zS (r20.1 != 0) (fun b0=>⟨[(1,.ptr 500000 0),(5,vI r20.2),(69,vB b0)],[(500000,.box (c_Piece x0))]⟩) (fun hb=>?_) fun hb=>?_)
 replace h:=iteT hb h
 refine z6 3 fun τ hτ=>?_
 obtain rfl:=osi h
 exact zG hτ
 replace h:=iteF hb h
 refine z6 3 fun τ hτ=>?_
 obtain rfl:=osi h
 exact zG hτ
 refine yE hτ [1,72] [500000] (zI j22 (fun hb=>?_) fun hb=>?_)
 replace h:=iteT hb h
 refine z8 1 ⟨[(2,vI 1)],[]⟩ fun τ hτ=>?_
 refine th_ret ?_
 obtain rfl:=osi h
 exact zV hτ [(2,vI 1)]
 replace h:=iteF hb h
 refine y4 [1] [500000] (zB (y3 1 [1,6] [500000] (zC ?_)))
 obtain ⟨x138,hx138,h⟩:=bindS h
 refine sem_loopS (fun (s101 : Int)=>⟨[(1,.ptr 500000 0),(6,vI s101)],[(500000,.box (c_Piece x0))]⟩) (fun (x138 : Unit ⊕ Unit)=>match x138 with | .inl j139=>(.ret,⟨[(2,vI 7)],[]⟩) | .inr j140=>(.exit 0,⟨[(1,.ptr 500000 0)],[(500000,.box (c_Piece x0))]⟩)) (sheetmetalref06_ValidatePiece_l1 x0) 0 x138 (by kernel_rfl) (here (by kernel_rfl)) hx138 ?_ ?_ ?_
 intro s101 r h
 refine zB (z7 (zA 3 (evs_op (st_len (c:=c_Rect) (l:=x0.Rects) (x:=(s_Rect x0.Rects)) (by kernel_rfl) (by kernel_rfl)) (y1 1 [1,6,77] [500000] (zI (decide (s101 < (x0.Rects.length : Int))) (fun hb=>?_) fun hb=>?_)))))
 replace h:=iteT hb h
 refine y4 [1,6] [500000] (zB (zC (zB (sem_drawN [] [] [] [] [] 9 (by kernel_rfl) (by kernel_rfl) (by kernel_rfl) (evd_run 3 (by kernel_rfl) ?_)))))
 obtain ⟨x135,hx135,h⟩:=bindS h
 refine evd_val (by kernel_rfl) (st_idx (c:=c_Rect) (l:=x0.Rects) (i:=s101) (kd:=.i64) (sz:=4) (by kernel_rfl) hx135 rfl) (by kernel_rfl) (by kernel_rfl) (evd_run 4 (by kernel_rfl) ?_)
 obtain ⟨l136,hl136,h⟩:=bindS h
 refine evd_val (by kernel_rfl) (st_slH (c:=c_Rect) (l:=x0.Rects) (sz:=4) (hi:=s101) (k2:=.i64) (by kernel_rfl) hl136) (by kernel_rfl) (by kernel_rfl) (evd_end (by kernel_rfl) ?_)
 obtain ⟨r137,hr137,h⟩:=bindS h
 refine evo_callP [] (by kernel_rfl) (W.sheetmetalref06_Meets_ok hr137) (by kernel_rfl) (.inl rfl) (by kernel_rfl) (zO fun τ hτ=>?_)
 refine yE hτ [1,6,89] [500000] (zI r137 (fun hb=>?_) fun hb=>?_)
 replace h:=iteT hb h
 refine z8 1 ⟨[(2,vI 7)],[]⟩ fun τ hτ=>?_
 refine bl_ret (th_ret ?_)
 obtain rfl:=osi h
 exact zF hτ
 replace h:=iteF hb h
 refine zM fun τ hτ=>?_
 refine bl_normal (yE hτ [1,6] [500000] (zD (z6 3 fun τ hτ=>?_)))
 obtain rfl:=osi h
 exact zH hτ
 replace h:=iteF hb h
 refine zL 0 fun τ hτ=>?_
 refine th_exit ?_
 obtain rfl:=osi h
 exact zF hτ
 intro x
 rcases x with _ | _ <;> rfl
 intro τ hτ
 rcases x138 with j139 | j140
 refine bl_ret (th_ret ?_)
 obtain rfl:=osi h
 exact zV hτ [(2,vI 7)]
 refine zQ (yE hτ [1] [500000] (zB (z7 (zA 2 ?_))))
 obtain ⟨r144,hr144,h⟩:=bindS h
 refine evs_callP [] (by kernel_rfl) (W.sheetmetalref06_connected_ok hr144) (by kernel_rfl) (.inl rfl) (by kernel_rfl) (y1 1 [1,93] [500000] (zI (!r144) (fun hb=>?_) fun hb=>?_))
 replace h:=iteT hb h
 refine z8 1 ⟨[(2,vI 6)],[]⟩ fun τ hτ=>?_
 refine th_ret ?_
 obtain rfl:=osi h
 exact zV hτ [(2,vI 6)]
 replace h:=iteF hb h
 refine y4 [1] [500000] (zB (sem_draw [(0,[94]),(3,[94,600003])] [(0,[94]),(3,[600003])] [] [(1,[94]),(2,[94]),(4,[94,600003]),(5,[94,600003])] [(0,[600003]),(1,[94,600003]),(2,[94,600003]),(4,[94,600003]),(5,[94,600003])] 6 (by kernel_rfl) (by kernel_rfl) [600003,94] (by kernel_rfl) (by kernel_rfl) (evd_build (e:=98) (d:=94) (es:=(List.map c_Rect [])) (by kernel_rfl) (by kernel_rfl) (by kernel_rfl) (by kernel_rfl) (by kernel_rfl) (by kernel_rfl) (evd_run 2 (by kernel_rfl) ?_))))
 obtain ⟨l149,hl149,h⟩:=bindS h
 refine evd_app (c:=c_Rect) (l:=[]) (l2:=x0.Cuts) (x:=(s_Rect x0.Cuts)) (g:=94) (g2:=600003) (e:=98) (sz:=4) (d:=97) (by kernel_rfl) (by kernel_rfl) (by kernel_rfl) (by kernel_rfl) (by kernel_rfl) (fun _=>rfl) hl149 (by kernel_rfl) (by kernel_rfl) (by kernel_rfl) (by kernel_rfl) (by kernel_rfl) (evd_run 2 (by kernel_rfl) (evd_end (by kernel_rfl) ?_))
 obtain ⟨l150,hl150,h⟩:=bindS h
 refine evo_op (st_app (c:=c_Rect) (l:=l149) (l2:=x0.Forms) (x:=(s_Rect x0.Forms)) (g:=600003) (e:=98) (sz:=4) (d:=100) (by kernel_rfl) (by kernel_rfl) (by kernel_rfl) (by kernel_rfl) (fun _=>rfl) rfl hl150) (evo_run 1 (by kernel_rfl) (zO fun τ hτ=>?_))
 refine yE hτ [1,7] [500000,600003] (zB (y3 1 [1,7,8] [500000,600003] (zC ?_)))
 obtain ⟨x314,hx314,h⟩:=bindS h
 refine sem_loopS (fun (s261 : Int)=>⟨[(1,.ptr 500000 0),(7,ro 500001 98),(8,vI s261)],[(500000,.box (c_Piece x0)),(500001,w_Rect 98 l150)]⟩) (fun (x314 : Unit ⊕ Unit)=>match x314 with | .inl j315=>(.ret,⟨[(2,vI 13)],[]⟩) | .inr j316=>(.exit 2,⟨[(7,ro 500000 98)],[(500000,w_Rect 98 l150)]⟩)) (sheetmetalref06_ValidatePiece_l2 x0 l150) 0 x314 (by kernel_rfl) (subR_prep [] [(500000,500000),(600003,500001)] (by kernel_rfl) rfl rfl (by kernel_rfl)) hx314 ?_ ?_ ?_
 intro s261 r h
 refine zB (z7 (zA 2 (evs_op (st_len (c:=c_Rect) (l:=l150) (x:=(ro 500001 98)) (by kernel_rfl) (by kernel_rfl)) (y1 1 [1,7,8,104] [500000,500001] (zI (decide (s261 < (l150.length : Int))) (fun hb=>?_) fun hb=>?_)))))
 replace h:=iteT hb h
 refine y4 [1,7,8] [500000,500001] (zB (zC (zB ?_)))
 obtain ⟨j309,hj309,h⟩:=bindS h
 refine sem_drawP ⟨[(1,.ptr 500000 0),(7,ro 500001 98),(8,vI s261),(137,vB j309)],[(500000,.box (c_Piece x0)),(500001,w_Rect 98 l150)]⟩ [] [] [] [] [] 24 (by kernel_rfl) (by kernel_rfl) (by kernel_rfl) ?_ fun τ hτ=>?_
 replace h:=hj309
 refine evd_run 2 (by kernel_rfl) ?_
 obtain ⟨x310,hx310,h⟩:=bindS h
 refine evd_val (by kernel_rfl) (st_idxO (c:=c_Rect) (l:=l150) (i:=s261) (kd:=.i64) (kk:=(.top 500001)) (e:=98) (sz:=4) (by kernel_rfl) (by kernel_rfl) hx310 rfl) (by kernel_rfl) (by kernel_rfl) (evd_val (by kernel_rfl) (st_ldO (c:=c_Rect) (l:=l150) (i:=(Int.toNat s261)) (v:=(.agg (c_Rect x310))) (agg:=true) (sz:=4) (kk:=(.top 500001)) (e:=98) (off:=0) (J:=[]) (by kernel_rfl) (by kernel_rfl) (by kernel_rfl) ((idxS hx310).2) (by kernel_rfl)) (by kernel_rfl) (by kernel_rfl) (evd_run 2 (by kernel_rfl) ?_))
 obtain ⟨r311,hr311,h⟩:=bindS h
 refine evd_callS [] [] (by kernel_rfl) (by kernel_rfl) (W.sheetmetalref06_deep_ok hr311) (by kernel_rfl) (.inl rfl) (by kernel_rfl) (by kernel_rfl) (evd_run 2 (by kernel_rfl) (evd_split r311 (fun b0=>⟨[(115,vB (!b0)),(114,vB (!b0)),(113,vB b0),(112,s_Rect x0.Rects),(111,.ptr 500000 4),(110,.agg (c_Rect x310)),(109,.rptr (.top 500001) 98 (Int.toNat s261) 0),(108,vI s261),(107,ro 500001 98),(1,.ptr 500000 0),(7,ro 500001 98),(8,vI s261)],[(500000,.box (c_Piece x0)),(500001,w_Rect 98 l150)]⟩) (by kernel_rfl) (fun hb=>?_) fun hb=>?_))
 replace h:=iteT hb h
 refine evd_run 3 (by kernel_rfl) (evd_val (by kernel_rfl) (st_len (c:=c_Rect) (l:=x0.Cuts) (x:=(s_Rect x0.Cuts)) (by kernel_rfl) (by kernel_rfl)) (by kernel_rfl) (by kernel_rfl) (evd_run 2 (by kernel_rfl) (evd_split (decide (s261 < (x0.Cuts.length : Int))) (fun b0=>⟨[(121,vB b0),(120,vB b0),(119,vI (x0.Cuts.length : Int)),(118,s_Rect x0.Cuts),(117,.ptr 500000 5),(116,vI s261),(115,vB false),(114,vB false),(113,vB true),(112,s_Rect x0.Rects),(111,.ptr 500000 4),(110,.agg (c_Rect x310)),(109,.rptr (.top 500001) 98 (Int.toNat s261) 0),(108,vI s261),(107,ro 500001 98),(1,.ptr 500000 0),(7,ro 500001 98),(8,vI s261)],[(500000,.box (c_Piece x0)),(500001,w_Rect 98 l150)]⟩) (by kernel_rfl) (fun hb=>?_) fun hb=>?_)))
 replace h:=iteT hb h
 refine evd_run 2 (by kernel_rfl) ?_
 obtain ⟨x312,hx312,h⟩:=bindS h
 refine evd_val (by kernel_rfl) (st_idxO (c:=c_Rect) (l:=l150) (i:=s261) (kd:=.i64) (kk:=(.top 500001)) (e:=98) (sz:=4) (by kernel_rfl) (by kernel_rfl) hx312 rfl) (by kernel_rfl) (by kernel_rfl) (evd_run 1 (by kernel_rfl) (evd_val (by kernel_rfl) (st_ldO (c:=c_Rect) (l:=l150) (i:=(Int.toNat s261)) (v:=(vI x312.W)) (agg:=false) (sz:=1) (kk:=(.top 500001)) (e:=98) (off:=2) (J:=[]) (by kernel_rfl) (by kernel_rfl) (by kernel_rfl) ((idxS hx312).2) (by kernel_rfl)) (by kernel_rfl) (by kernel_rfl) (evd_run 2 (by kernel_rfl) (evd_split (x312.W==1) (fun b0=>⟨[(128,vB b0),(127,vB b0),(126,vI x312.W),(125,.rptr (.top 500001) 98 (Int.toNat s261) 2),(124,.rptr (.top 500001) 98 (Int.toNat s261) 0),(123,vI s261),(122,ro 500001 98),(121,vB true),(120,vB true),(119,vI (x0.Cuts.length : Int)),(118,s_Rect x0.Cuts),(117,.ptr 500000 5),(116,vI s261),(115,vB false),(114,vB false),(113,vB true),(112,s_Rect x0.Rects),(111,.ptr 500000 4),(110,.agg (c_Rect x310)),(109,.rptr (.top 500001) 98 (Int.toNat s261) 0),(108,vI s261),(107,ro 500001 98),(1,.ptr 500000 0),(7,ro 500001 98),(8,vI s261)],[(500000,.box (c_Piece x0)),(500001,w_Rect 98 l150)]⟩) (by kernel_rfl) (fun hb=>?_) fun hb=>?_))))
 replace h:=iteT hb h
 refine evd_run 2 (by kernel_rfl) (evd_end (by kernel_rfl) (evo_run 7 (by kernel_rfl) (zO fun τ hτ=>?_)))
 obtain rfl:=osi h
 exact zG hτ
 replace h:=iteF hb h
 refine evd_run 2 (by kernel_rfl) (evd_end (by kernel_rfl) ?_)
 obtain ⟨x313,hx313,h⟩:=bindS h
 refine evo_op (st_idxO (c:=c_Rect) (l:=l150) (i:=s261) (kd:=.i64) (kk:=(.top 500001)) (e:=98) (sz:=4) (by kernel_rfl) (by kernel_rfl) hx313 rfl) (evo_run 1 (by kernel_rfl) (evo_op (st_ldO (c:=c_Rect) (l:=l150) (i:=(Int.toNat s261)) (v:=(vI x313.H)) (agg:=false) (sz:=1) (kk:=(.top 500001)) (e:=98) (off:=3) (J:=[]) (by kernel_rfl) (by kernel_rfl) (by kernel_rfl) ((idxS hx313).2) (by kernel_rfl)) (evo_run 4 (by kernel_rfl) (zO fun τ hτ=>?_))))
 obtain rfl:=osi h
 exact zG hτ
 replace h:=iteF hb h
 refine evd_run 9 (by kernel_rfl) (evd_end (by kernel_rfl) (evo_run 7 (by kernel_rfl) (zO fun τ hτ=>?_)))
 obtain rfl:=osi h
 exact zG hτ
 replace h:=iteF hb h
 refine evd_run 15 (by kernel_rfl) (evd_end (by kernel_rfl) (evo_run 7 (by kernel_rfl) (zO fun τ hτ=>?_)))
 obtain rfl:=osi h
 exact zG hτ
 refine yE hτ [1,7,8,137] [500000,500001] (zI j309 (fun hb=>?_) fun hb=>?_)
 replace h:=iteT hb h
 refine z8 1 ⟨[(2,vI 13)],[]⟩ fun τ hτ=>?_
 refine bl_ret (th_ret ?_)
 obtain rfl:=osi h
 exact zF hτ
 replace h:=iteF hb h
 refine zM fun τ hτ=>?_
 refine bl_normal (yE hτ [1,7,8] [500000,500001] (zD (z6 3 fun τ hτ=>?_)))
 obtain rfl:=osi h
 exact zH hτ
 replace h:=iteF hb h
 refine zL 2 fun τ hτ=>?_
 refine th_exit ?_
 obtain rfl:=osi h
 exact lk_outS hτ rfl (subR_prep [] [(500001,500000)] (by kernel_rfl) rfl rfl (by kernel_rfl))
 intro x
 rcases x with _ | _ <;> rfl
 intro τ hτ
 rcases x314 with j315 | j316
 refine bl_ret (th_ret ?_)
 obtain rfl:=osi h
 exact zV hτ [(2,vI 13)]
 refine zQ (yE hτ [7] [500000] (zB (y3 1 [7,9] [500000] (zC ?_))))
 obtain ⟨x804,hx804,h⟩:=bindS h
 refine sem_loopS (fun (s567 : Int)=>⟨[(7,ro 500000 98),(9,vI s567)],[(500000,w_Rect 98 l150)]⟩) (fun (x804 : Unit ⊕ Unit)=>match x804 with | .inl j805=>(.ret,⟨[(2,vI 7)],[]⟩) | .inr j806=>(.exit 4,⟨[],[]⟩)) (sheetmetalref06_ValidatePiece_l4 l150) 0 x804 (by kernel_rfl) (here (by kernel_rfl)) hx804 ?_ ?_ ?_
 intro s567 r h
 refine zB (z7 (zA 2 (evs_op (st_len (c:=c_Rect) (l:=l150) (x:=(ro 500000 98)) (by kernel_rfl) (by kernel_rfl)) (y1 1 [7,9,141] [500000] (zI (decide (s567 < (l150.length : Int))) (fun hb=>?_) fun hb=>?_)))))
 replace h:=iteT hb h
 refine y4 [7,9] [500000] (zB (zC (y3 1 [7,9,10] [500000] (zC ?_))))
 obtain ⟨x801,hx801,h⟩:=bindS h
 refine sem_loopS (fun (s764 : Int)=>⟨[(7,ro 500000 98),(9,vI s567),(10,vI s764)],[(500000,w_Rect 98 l150)]⟩) (fun (x801 : Unit ⊕ Unit)=>match x801 with | .inl j802=>(.ret,⟨[(2,vI 7)],[]⟩) | .inr j803=>(.exit 6,⟨[(7,ro 500000 98),(9,vI s567)],[(500000,w_Rect 98 l150)]⟩)) (sheetmetalref06_ValidatePiece_l3 l150 s567) 0 x801 (by kernel_rfl) (here (by kernel_rfl)) hx801 ?_ ?_ ?_
 intro s764 r h
 refine zB (y3 3 [7,9,10,146] [500000] (zI (decide (s764 < s567)) (fun hb=>?_) fun hb=>?_))
 replace h:=iteT hb h
 refine y4 [7,9,10] [500000] (zB (zC (zB (sem_drawN [] [] [] [] [] 8 (by kernel_rfl) (by kernel_rfl) (by kernel_rfl) (evd_run 2 (by kernel_rfl) ?_)))))
 obtain ⟨x798,hx798,h⟩:=bindS h
 refine evd_val (by kernel_rfl) (st_idxO (c:=c_Rect) (l:=l150) (i:=s567) (kd:=.i64) (kk:=(.top 500000)) (e:=98) (sz:=4) (by kernel_rfl) (by kernel_rfl) hx798 rfl) (by kernel_rfl) (by kernel_rfl) (evd_val (by kernel_rfl) (st_ldO (c:=c_Rect) (l:=l150) (i:=(Int.toNat s567)) (v:=(.agg (c_Rect x798))) (agg:=true) (sz:=4) (kk:=(.top 500000)) (e:=98) (off:=0) (J:=[]) (by kernel_rfl) (by kernel_rfl) (by kernel_rfl) ((idxS hx798).2) (by kernel_rfl)) (by kernel_rfl) (by kernel_rfl) (evd_run 2 (by kernel_rfl) ?_))
 obtain ⟨x799,hx799,h⟩:=bindS h
 refine evd_val (by kernel_rfl) (st_idxO (c:=c_Rect) (l:=l150) (i:=s764) (kd:=.i64) (kk:=(.top 500000)) (e:=98) (sz:=4) (by kernel_rfl) (by kernel_rfl) hx799 rfl) (by kernel_rfl) (by kernel_rfl) (evd_val (by kernel_rfl) (st_ldO (c:=c_Rect) (l:=l150) (i:=(Int.toNat s764)) (v:=(.agg (c_Rect x799))) (agg:=true) (sz:=4) (kk:=(.top 500000)) (e:=98) (off:=0) (J:=[]) (by kernel_rfl) (by kernel_rfl) (by kernel_rfl) ((idxS hx799).2) (by kernel_rfl)) (by kernel_rfl) (by kernel_rfl) (evd_end (by kernel_rfl) ?_))
 obtain ⟨r800,hr800,h⟩:=bindS h
 refine evo_callP [] (by kernel_rfl) (W.sheetmetalref06_Apart_ok hr800) (by kernel_rfl) (.inl rfl) (by kernel_rfl) (evo_run 1 (by kernel_rfl) (zO fun τ hτ=>?_))
 refine yE hτ [7,9,10,158] [500000] (zI (r800==0) (fun hb=>?_) fun hb=>?_)
 replace h:=iteT hb h
 refine z8 1 ⟨[(2,vI 7)],[]⟩ fun τ hτ=>?_
 refine bl_ret (th_ret ?_)
 obtain rfl:=osi h
 exact zF hτ
 replace h:=iteF hb h
 refine zM fun τ hτ=>?_
 refine bl_normal (yE hτ [7,9,10] [500000] (zD (z6 3 fun τ hτ=>?_)))
 obtain rfl:=osi h
 exact zH hτ
 replace h:=iteF hb h
 refine zL 6 fun τ hτ=>?_
 refine th_exit ?_
 obtain rfl:=osi h
 exact zF hτ
 intro x
 rcases x with _ | _ <;> rfl
 intro τ hτ
 rcases x801 with j802 | j803
 refine bl_ret (bl_ret (th_ret ?_))
 obtain rfl:=osi h
 exact zF hτ
 refine zQ (bl_normal (yE hτ [7,9] [500000] (zD (z6 3 fun τ hτ=>?_))))
 obtain rfl:=osi h
 exact zH hτ
 replace h:=iteF hb h
 refine zL 4 fun τ hτ=>?_
 refine th_exit ?_
 obtain rfl:=osi h
 exact zF hτ
 intro x
 rcases x with _ | _ <;> rfl
 intro τ hτ
 rcases x804 with j805 | j806
 refine bl_ret (th_ret ?_)
 obtain rfl:=osi h
 exact zV hτ [(2,vI 7)]
 refine zQ (yE hτ [] [] (z8 1 ⟨[(2,vI 0)],[]⟩ fun τ hτ=>?_))
 obtain rfl:=osi h
 exact zV hτ [(2,vI 0)]
theorem W.strings_Contains'_ok {s sub : ByteArray} {r : Bool} (h : strings_Contains' s sub=some r) : PC G.P 142 [vS s,vS sub] [] (vB r) []:=by
 unfold strings_Contains' at h
 split at h
 rename_i hs
 injection h with h; subst h
 exact pc_pure (args:=[.string s,.string sub]) (by kernel_rfl) 0 (by kernel_rfl) fun m w hm=>Any.strings_Contains Tryz.contains_lays s sub m w hs hm
 cases h
theorem W.part_ValidName_k_ok {s0 : ByteArray} {r : Bool} (h : part_ValidName_k s0=some r) : PC G.P 84 [(vS s0)] [] (vB r) []:=by
 refine zU G Tryz.func84 (yK [0] [] (y3 1 [0] [] (zB (z7 (zA 4 (zS (decide ((s0.size : Int) < 1)) (fun b0=>⟨[(0,vS s0),(8,vB b0)],[]⟩) (fun hb=>?_) fun hb=>?_))))))
 replace h:=iteT hb h
 exact nomatch h
 replace h:=iteF hb h
 refine zA 5 (zS (decide ((s0.size : Int) > 8)) (fun b0=>⟨[(0,vS s0),(13,vB b0)],[]⟩) (fun hb=>?_) fun hb=>?_)
 replace h:=iteT hb h
 exact nomatch h
 replace h:=iteF hb h
 refine zA 1 ?_
 obtain ⟨x7,hx7,h⟩:=bindS h
 refine evs_at (at_sidx (s:=s0) (i:=0) (kd:=.i64) (by kernel_rfl) hx7) (zA 3 (zS (decide (x7 < 97)) (fun b0=>⟨[(0,vS s0),(18,vB b0)],[]⟩) (fun hb=>?_) fun hb=>?_))
 replace h:=iteT hb h
 exact nomatch h
 replace h:=iteF hb h
 refine zA 1 ?_
 obtain ⟨x8,hx8,h⟩:=bindS h
 refine evs_at (at_sidx (s:=s0) (i:=0) (kd:=.i64) (by kernel_rfl) hx8) (y1 2 [0,22] [] (zI (decide (x8 > 122)) (fun hb=>?_) fun hb=>?_))
 replace h:=iteT hb h
 exact nomatch h
 replace h:=iteF hb h
 refine y4 [0] [] (zB (y3 3 [0,24,25] [] (zC ?_)))
 obtain ⟨x38,hx38,h⟩:=bindS h
 refine sem_loopS (fun (s29 : Int)=>⟨[(0,vS s0),(24,vI (s0.size : Int)),(25,vI s29)],[]⟩) (fun (x38 : Unit)=>(.exit 0,⟨[(0,vS s0)],[]⟩)) (part_ValidName_k_l1 s0) 0 x38 (by kernel_rfl) (here (by kernel_rfl)) (iter_loop hx38) ?_ ?_ ?_
 intro s29 r h
 refine y3 1 [0,24,25,26] [] (zB (zI (decide (s29 < (s0.size : Int))) (fun hb=>?_) fun hb=>?_))
 replace h:=iteT hb h
 refine y4 [0,24,25] [] (zB (zC (y3 2 [0,3,24,25] [] (z7 (zA 2 ?_)))))
 obtain ⟨x37,hx37,h⟩:=bindS h
 refine evs_at (at_sidx (s:=s0) (i:=s29) (kd:=.i64) (by kernel_rfl) hx37) (y1 1 [0,4,24,25] [] (z7 (zA 3 (zS (decide (x37 < 97)) (fun b0=>⟨[(0,vS s0),(4,vK .u8 x37),(24,vI (s0.size : Int)),(25,vI s29),(33,vB b0)],[]⟩) (fun hb=>?_) fun hb=>?_))))
 replace h:=iteT hb h
 exact nomatch h
 replace h:=iteF hb h
 refine zA 4 (zS (decide (x37 > 122)) (fun b0=>⟨[(0,vS s0),(4,vK .u8 x37),(24,vI (s0.size : Int)),(25,vI s29),(37,vB b0)],[]⟩) (fun hb=>?_) fun hb=>?_)
 replace h:=iteT hb h
 exact nomatch h
 replace h:=iteF hb h
 refine y1 7 [0,24,25,44] [] (sem_condF (by kernel_rfl) (by kernel_rfl) (zM fun τ hτ=>?_))
 refine bl_normal (yE hτ [0,24,25] [] (zD (z6 2 fun τ hτ=>?_)))
 obtain rfl:=osi h
 exact zH hτ
 replace h:=iteF hb h
 refine zL 0 fun τ hτ=>?_
 refine th_exit ?_
 obtain rfl:=osi h
 exact zF hτ
 intro x
 rfl
 intro τ hτ
 refine zQ (yE hτ [0] [] (z7 (zA 1 ?_)))
 obtain ⟨s42,hs42,h⟩:=bindS h
 refine evs_op (st_cat (a:=(ByteArray.mk #[32])) (b:=s0) (by kernel_rfl) hs42) ?_
 obtain ⟨s43,hs43,h⟩:=bindS h
 refine evs_op (st_cat (a:=s42) (b:=(ByteArray.mk #[32])) (by kernel_rfl) hs43) ?_
 obtain ⟨r44,hr44,h⟩:=bindS h
 refine evs_callP [] (by kernel_rfl) (W.strings_Contains'_ok hr44) (by kernel_rfl) (.inl rfl) (by kernel_rfl) (y1 2 [2] [] (zN fun τ hτ=>?_))
 obtain rfl:=osi h
 exact zV hτ [(2,vB (!r44))]
theorem W.nest_from_k_ok {n : Int} {lo : Int} {hi : Int} {r : Bool} (h : nest_from_k n lo hi=some r) : PC G.P 86 [(vI n),(vI lo),(vI hi)] [] (vB r) []:=by
 refine zU G Tryz.func86 (yK [0,1,2] [] (y3 1 [0,1,2] [] (z7 (zA 4 (zS (decide (lo≤n)) (fun b0=>⟨[(0,vI n),(2,vI hi),(10,vB b0)],[]⟩) (fun hb=>?_) fun hb=>?_)))))
 replace h:=iteT hb h
 refine y1 5 [6] [] (zN fun τ hτ=>?_)
 obtain rfl:=osi h
 exact zV hτ [(6,vB (decide (n≤hi)))]
 replace h:=iteF hb h
 exact nomatch h
theorem W.nest_plain_k_ok {gauge : Int} {grain : Int} {r : Bool} (h : nest_plain_k gauge grain=some r) : PC G.P 85 [(vI gauge),(vI grain)] [] (vB r) []:=by
 refine zU G Tryz.func85 (yK [0,1] [] (y3 1 [0,1] [] (z7 (zA 1 ?_))))
 obtain ⟨r3,hr3,h⟩:=bindS h
 refine evs_callP [] (by kernel_rfl) (W.nest_from_k_ok hr3) (by kernel_rfl) (.inl rfl) (by kernel_rfl) (zA 1 (zS r3 (fun b0=>⟨[(1,vI grain),(7,vB b0)],[]⟩) (fun hb=>?_) fun hb=>?_))
 replace h:=iteT hb h
 refine zA 1 ?_
 obtain ⟨r4,hr4,h⟩:=bindS h
 refine evs_callP [] (by kernel_rfl) (W.nest_from_k_ok hr4) (by kernel_rfl) (.inl rfl) (by kernel_rfl) (y1 2 [4] [] (zN fun τ hτ=>?_))
 obtain rfl:=osi h
 exact zV hτ [(4,vB r4)]
 replace h:=iteF hb h
 exact nomatch h
theorem W.geom_within_k_ok {n : Int} {most : Int} {r : Bool} (h : geom_within_k n most=some r) : PC G.P 144 [(vI n),(vI most)] [] (vB r) []:=by
 refine zU G Tryz.func144 (yK [0,1] [] (y3 1 [0,1] [] (z7 (zA 5 (zS (decide ((ineg most)≤n)) (fun b0=>⟨[(0,vI n),(1,vI most),(9,vB b0)],[]⟩) (fun hb=>?_) fun hb=>?_)))))
 replace h:=iteT hb h
 refine y1 5 [4] [] (zN fun τ hτ=>?_)
 obtain rfl:=osi h
 exact zV hτ [(4,vB (decide (n≤most)))]
 replace h:=iteF hb h
 exact nomatch h
theorem W.geom_ValidRect_1_k_ok {x0 : Int} {w : Int} {r : Bool} (h : geom_ValidRect_1_k x0 w=some r) : PC G.P 143 [(vI x0),(vI w)] [] (vB r) []:=by
 refine zU G Tryz.func143 (yK [0,1] [] (y3 1 [0,1] [] (z7 (zA 1 ?_))))
 obtain ⟨r2,hr2,h⟩:=bindS h
 refine evs_callP [] (by kernel_rfl) (W.geom_within_k_ok hr2) (by kernel_rfl) (.inl rfl) (by kernel_rfl) (zA 1 (zS r2 (fun b0=>⟨[(0,vI x0),(1,vI w),(7,vB b0)],[]⟩) (fun hb=>?_) fun hb=>?_))
 replace h:=iteT hb h
 refine zA 4 (zS (decide (w > 0)) (fun b0=>⟨[(0,vI x0),(1,vI w),(11,vB b0)],[]⟩) (fun hb=>?_) fun hb=>?_)
 replace h:=iteT hb h
 refine zA 4 (zS (decide (w≤2097152)) (fun b0=>⟨[(0,vI x0),(1,vI w),(15,vB b0)],[]⟩) (fun hb=>?_) fun hb=>?_)
 replace h:=iteT hb h
 refine y1 6 [4] [] (zN fun τ hτ=>?_)
 obtain rfl:=osi h
 exact zV hτ [(4,vB (decide ((iadd x0 w)≤1048576)))]
 replace h:=iteF hb h
 exact nomatch h
 replace h:=iteF hb h
 exact nomatch h
 replace h:=iteF hb h
 exact nomatch h
theorem W.geom_ValidRect_k_ok {r0 : Rect} {r : Bool} (h : geom_ValidRect_k r0=some r) : PC G.P 89 [(.agg (c_Rect r0))] [] (vB r) []:=by
 refine zU G Tryz.func89 (yK [0] [] (y3 2 [1] [1] (y3 1 [1,3] [1] (z7 (zA 5 ?_)))))
 obtain ⟨r3,hr3,h⟩:=bindS h
 refine evs_callP [] (by kernel_rfl) (W.geom_ValidRect_1_k_ok hr3) (by kernel_rfl) (.inl rfl) (by kernel_rfl) (zA 1 (zS r3 (fun b0=>⟨[(1,.ptr 1 0),(3,.fn 143 []),(10,vB b0)],[(1,.box (c_Rect r0))]⟩) (fun hb=>?_) fun hb=>?_))
 replace h:=iteT hb h
 refine zA 5 ?_
 obtain ⟨r4,hr4,h⟩:=bindS h
 refine evs_callP [] (by kernel_rfl) (W.geom_ValidRect_1_k_ok hr4) (by kernel_rfl) (.inl rfl) (by kernel_rfl) (y1 2 [2] [] (zN fun τ hτ=>?_))
 obtain rfl:=osi h
 exact zV hτ [(2,vB r4)]
 replace h:=iteF hb h
 exact nomatch h
theorem W.nest_valid_k_ok {l : (List Rect)} {r : Bool} (h : nest_valid_k l=some r) : PC G.P 87 [(.sl (List.map c_Rect l))] [] (vB r) []:=by
 refine zU G Tryz.func87 (yK [0] [] (y3 1 [0] [] (zB (z7 (zA 1 (evs_op (st_len (c:=c_Rect) (l:=l) (x:=(s_Rect l)) (by kernel_rfl) (by kernel_rfl)) ?_))))))
 refine y1 1 [5,6,7] [] (zC ?_)
 obtain ⟨x54,hx54,h⟩:=bindS h
 refine sem_loopS (fun (s37 : Int)=>⟨[(5,s_Rect l),(6,vI (l.length : Int)),(7,vI s37)],[]⟩) (fun (x54 : Unit)=>(.exit 0,⟨[],[]⟩)) (nest_valid_k_l1 l) 0 x54 (by kernel_rfl) (here (by kernel_rfl)) (iter_loop hx54) ?_ ?_ ?_
 intro s37 r h
 refine y3 1 [5,6,7,8] [] (zB (zI (decide (s37 < (l.length : Int))) (fun hb=>?_) fun hb=>?_))
 replace h:=iteT hb h
 refine y4 [5,6,7] [] (zB (zC (z7 ?_)))
 obtain ⟨x51,hx51,h⟩:=bindS h
 refine evs_op (st_idx (c:=c_Rect) (l:=l) (i:=s37) (kd:=.i64) (sz:=4) (by kernel_rfl) hx51 rfl) (y1 3 [4,5,6,7] [4] (z7 (zA 1 ?_)))
 obtain ⟨r53,hr53,h⟩:=bindS h
 refine evs_callP [] (by kernel_rfl) (W.geom_ValidRect_k_ok hr53) (by kernel_rfl) (.inl rfl) (by kernel_rfl) (y1 1 [5,6,7,13] [] (zI (!r53) (fun hb=>?_) fun hb=>?_))
 replace h:=iteT hb h
 exact nomatch h
 replace h:=iteF hb h
 refine zM fun τ hτ=>?_
 refine bl_normal (yE hτ [5,6,7] [] (zD (z6 2 fun τ hτ=>?_)))
 obtain rfl:=osi h
 exact zH hτ
 replace h:=iteF hb h
 refine zL 0 fun τ hτ=>?_
 refine th_exit ?_
 obtain rfl:=osi h
 exact zF hτ
 intro x
 rfl
 intro τ hτ
 refine zQ (yE hτ [] [] (z8 1 ⟨[(2,vB true)],[]⟩ fun τ hτ=>?_))
 obtain rfl:=osi h
 exact zV hτ [(2,vB true)]
theorem W.nest_inner_k_ok {s0 : Sheet} {margin : Int} {r : Rect×Bool} (h : nest_inner_k s0 margin=some r) : PC G.P 88 [(.agg (c_Sheet s0)),(vI margin)] [] (.tup [(.agg (c_Rect r.1)),(vB r.2)]) [(0,.box [(vI margin),(vI margin),(vI (isub s0.Width (imul 2 margin))),(vI (isub s0.Height (imul 2 margin)))])]:=by
 refine zU G Tryz.func88 (yK [0,1] [] (y3 3 [1,2,4] [2,4] (y3 15 [4,6] [4,6] (zB (sem_drawN [] [] [] [] [] 3 (by kernel_rfl) (by kernel_rfl) (by kernel_rfl) (evd_run 2 (by kernel_rfl) ?_))))))
 obtain ⟨r3,hr3,h⟩:=bindS h
 refine evd_callS [] [] (by kernel_rfl) (by kernel_rfl) (W.geom_ValidRect_k_ok hr3) (by kernel_rfl) (.inl rfl) (by kernel_rfl) (by kernel_rfl) (evd_end (by kernel_rfl) (evo_run 2 (by kernel_rfl) (zO fun τ hτ=>?_)))
 refine yE hτ [4,5] [4] (zN fun τ hτ=>?_)
 obtain rfl:=osi h
 exact rk_ret hτ [(4,.ptr 0 0),(5,vB r3)] (subR_prep [] [(4,0)] (by kernel_rfl) rfl rfl (by kernel_rfl)) (by kernel_rfl)
theorem W.nest_ValidateSheet_k_ok {s0 : Sheet} {r : Int} (h : nest_ValidateSheet_k s0=some r) : PC G.P 40 [(.agg (c_Sheet s0))] [] (vI r) []:=by
 refine zU G Tryz.func40 (yK [0] [] (y3 2 [1] [1] (zB (zC (z7 (zA 2 ?_))))))
 obtain ⟨r17,hr17,h⟩:=bindS h
 refine evs_callP [] (by kernel_rfl) (W.part_ValidName_k_ok hr17) (by kernel_rfl) (.inl rfl) (by kernel_rfl) (zA 2 (zS r17 (fun b0=>⟨[(1,.ptr 1 0),(14,vB (!b0))],[(1,.box (c_Sheet s0))]⟩) (fun hb=>?_) fun hb=>?_))
 replace h:=iteT hb h
 refine zA 2 ?_
 obtain ⟨r18,hr18,h⟩:=bindS h
 refine evs_callP [] (by kernel_rfl) (W.part_ValidName_k_ok hr18) (by kernel_rfl) (.inl rfl) (by kernel_rfl) (y1 3 [1,9] [1] (zI (!r18) (fun hb=>?_) fun hb=>?_))
 replace h:=iteT hb h
 exact nomatch h
 replace h:=iteF hb h
 refine z7 (zA 4 ?_)
 obtain ⟨r22,hr22,h⟩:=bindS h
 refine evs_callP [] (by kernel_rfl) (W.nest_plain_k_ok hr22) (by kernel_rfl) (.inl rfl) (by kernel_rfl) (zA 2 (zS r22 (fun b0=>⟨[(1,.ptr 1 0),(27,vB (!b0))],[(1,.box (c_Sheet s0))]⟩) (fun hb=>?_) fun hb=>?_))
 replace h:=iteT hb h
 refine zA 2 ?_
 obtain ⟨r23,hr23,h⟩:=bindS h
 refine evs_callP [] (by kernel_rfl) (W.nest_from_k_ok hr23) (by kernel_rfl) (.inl rfl) (by kernel_rfl) (zA 3 (zS r23 (fun b0=>⟨[(1,.ptr 1 0),(33,vB (!b0))],[(1,.box (c_Sheet s0))]⟩) (fun hb=>?_) fun hb=>?_))
 replace h:=iteT hb h
 refine zA 2 ?_
 obtain ⟨r24,hr24,h⟩:=bindS h
 refine evs_callP [] (by kernel_rfl) (W.nest_from_k_ok hr24) (by kernel_rfl) (.inl rfl) (by kernel_rfl) (y1 3 [1,20] [1] (zI (!r24) (fun hb=>?_) fun hb=>?_))
 replace h:=iteT hb h
 exact nomatch h
 replace h:=iteF hb h
 refine z7 (zA 2 (evs_op (st_len (c:=c_Rect) (l:=s0.Clamps) (x:=(s_Rect s0.Clamps)) (by kernel_rfl) (by kernel_rfl)) (zA 2 (zS (decide ((s0.Clamps.length : Int) > 4)) (fun b0=>⟨[(1,.ptr 1 0),(44,vB b0)],[(1,.box (c_Sheet s0))]⟩) (fun hb=>?_) fun hb=>?_))))
 replace h:=iteT hb h
 exact nomatch h
 replace h:=iteF hb h
 refine zA 2 (evs_op (st_len (c:=c_Rect) (l:=s0.Used) (x:=(s_Rect s0.Used)) (by kernel_rfl) (by kernel_rfl)) (y1 3 [1,39] [1] (zI (decide ((s0.Used.length : Int) > 48)) (fun hb=>?_) fun hb=>?_)))
 replace h:=iteT hb h
 exact nomatch h
 replace h:=iteF hb h
 refine z7 (zA 2 ?_)
 obtain ⟨r27,hr27,h⟩:=bindS h
 refine evs_callP [] (by kernel_rfl) (W.nest_valid_k_ok hr27) (by kernel_rfl) (.inl rfl) (by kernel_rfl) (zA 2 (zS r27 (fun b0=>⟨[(1,.ptr 1 0),(55,vB (!b0))],[(1,.box (c_Sheet s0))]⟩) (fun hb=>?_) fun hb=>?_))
 replace h:=iteT hb h
 refine zA 2 ?_
 obtain ⟨r28,hr28,h⟩:=bindS h
 refine evs_callP [] (by kernel_rfl) (W.nest_valid_k_ok hr28) (by kernel_rfl) (.inl rfl) (by kernel_rfl) (y1 3 [1,50] [1] (zI (!r28) (fun hb=>?_) fun hb=>?_))
 replace h:=iteT hb h
 exact nomatch h
 replace h:=iteF hb h
 refine zM fun τ hτ=>?_
 refine bl_normal (yE hτ [1] [1] (z7 (zA 1 ?_)))
 obtain ⟨r30,hr30,h⟩:=bindS h
 refine evs_callS [] [(0,700050)] [] (by kernel_rfl) (W.nest_inner_k_ok hr30) (by kernel_rfl) (by kernel_rfl) (.inl rfl) (y1 6 [1,3] [1,3] (zB (z7 (zA 5 (evs_op (st_len (c:=(cS c_Rect)) (l:=[s0.Clamps,s0.Used]) (x:=(.sl (List.map (cS c_Rect) [s0.Clamps,s0.Used]))) (by kernel_rfl) (by kernel_rfl)) (y1 1 [3,70,71,72] [3] ?_))))))
 refine zC ?_
 obtain ⟨x84,hx84,h⟩:=bindS h
 refine sem_loopS (fun (s67 : Int)=>⟨[(3,.ptr 500000 0),(70,.sl (List.map (cS c_Rect) [s0.Clamps,s0.Used])),(71,vI ([s0.Clamps,s0.Used].length : Int)),(72,vI s67)],[(500000,.box (c_Rect r30.1))]⟩) (fun (x84 : Unit)=>(.exit 1,⟨[],[]⟩)) (nest_ValidateSheet_k_l2 s0) 0 x84 (by kernel_rfl) (subR_prep [] [(3,500000)] (by kernel_rfl) rfl rfl (by kernel_rfl)) (iter_loop hx84) ?_ ?_ ?_
 intro s67 r h
 refine y3 1 [3,70,71,72,73] [500000] (zB (zI (decide (s67 < ([s0.Clamps,s0.Used].length : Int))) (fun hb=>?_) fun hb=>?_))
 replace h:=iteT hb h
 refine y4 [3,70,71,72] [500000] (zB (zC (z7 ?_)))
 obtain ⟨x81,hx81,h⟩:=bindS h
 refine evs_op (st_idx (c:=(cS c_Rect)) (l:=[s0.Clamps,s0.Used]) (i:=s67) (kd:=.i64) (sz:=1) (by kernel_rfl) hx81 rfl) (y1 2 [3,6,70,71,72] [500000] (z7 (zA 1 (evs_op (st_len (c:=c_Rect) (l:=x81) (x:=(s_Rect x81)) (by kernel_rfl) (by kernel_rfl)) (y1 1 [3,70,71,72,76,77,78] [500000] (zC ?_))))))
 obtain ⟨x83,hx83,h⟩:=bindS h
 refine sem_loopS (fun (s82 : Unit)=>⟨[(3,.ptr 500000 0),(70,.sl (List.map (cS c_Rect) [s0.Clamps,s0.Used])),(71,vI ([s0.Clamps,s0.Used].length : Int)),(72,vI s67),(76,s_Rect x81),(77,vI (x81.length : Int)),(78,vI 0)],[(500000,.box (c_Rect r30.1))]⟩) (fun (x83 : Unit)=>(.exit 3,⟨[(3,.ptr 500000 0),(70,.sl (List.map (cS c_Rect) [s0.Clamps,s0.Used])),(71,vI ([s0.Clamps,s0.Used].length : Int)),(72,vI s67)],[(500000,.box (c_Rect r30.1))]⟩)) (nest_ValidateSheet_k_l1 x81) () x83 (by kernel_rfl) (here (by kernel_rfl)) (iter_loop hx83) ?_ ?_ ?_
 intro s82 r h
 refine y3 1 [3,70,71,72,76,77,78,79] [500000] (zB (zI (decide (0 < (x81.length : Int))) (fun hb=>?_) fun hb=>?_))
 replace h:=iteT hb h
 exact nomatch h
 replace h:=iteF hb h
 refine zL 3 fun τ hτ=>?_
 refine th_exit ?_
 obtain rfl:=osi h
 exact zF hτ
 intro x
 rfl
 intro τ hτ
 refine zQ (bl_normal (yE hτ [3,70,71,72] [500000] (zD (z6 2 fun τ hτ=>?_))))
 obtain rfl:=osi h
 exact zH hτ
 replace h:=iteF hb h
 refine zL 1 fun τ hτ=>?_
 refine th_exit ?_
 obtain rfl:=osi h
 exact zF hτ
 intro x
 rfl
 intro τ hτ
 refine zQ (yE hτ [] [] (z8 1 ⟨[(2,vI 0)],[]⟩ fun τ hτ=>?_))
 obtain rfl:=osi h
 exact zV hτ [(2,vI 0)]
 replace h:=iteF hb h
 exact nomatch h
 replace h:=iteF hb h
 exact nomatch h
 replace h:=iteF hb h
 exact nomatch h
 replace h:=iteF hb h
 exact nomatch h
theorem W.slices_Clone_Lapi_Rect_api_Rect'_ok {s r : (List Rect)} (h : slices_Clone_Lapi_Rect_api_Rect' s=some r) : PC G.P 134 [.sl (List.map c_Rect s)] [] (.row (.top 0) 98) [(0,.row 98 [] (List.map c_Rect r))]:=by
 replace h : app [] s=some r:=h
 refine zU G Tryz.func134 (y3 1 [0] [] (zB (z7 (zA 1 (evs_isnil (es:=List.map c_Rect s) (by kernel_rfl) (fun hn=>?_) ?_)))))
 obtain rfl : s=[]:=List.map_eq_nil_iff.1 hn
 obtain rfl : []=r:=Option.some.inj ((app_eq (by simp [LIM])).symm.trans h)
 refine zP fun τ hτ=>?_
 refine yE hτ [0,4] [] (sem_condT (by kernel_rfl) (by kernel_rfl) (z8 1 ⟨[(2,ro 2 98)],[(2,w_Rect 98 [])]⟩ fun τ hτ=>?_))
 exact th_ret (rk_ret hτ [(2,ro 0 98)] (subR_of [(2,0)] rfl rfl (by kernel_rfl)) (by kernel_rfl))
 refine zP fun τ hτ=>?_
 refine yE hτ [0,4] [] (sem_condF (by kernel_rfl) (by kernel_rfl) (y4 [0] [] (z7 (evs_at (at_build (es:=List.map c_Rect []) (e:=98) (d:=5) (by kernel_rfl)) (zA 1 (evs_op (st_app (c:=c_Rect) (l:=[]) (l2:=s) (x:=s_Rect s) (g:=5) (e:=98) (sz:=4) (d:=7) (by kernel_rfl) (by kernel_rfl) (by kernel_rfl) (by kernel_rfl) (fun _=>rfl) rfl h) ?_))))))
 refine y1 1 [2] [5] (zN fun τ hτ=>?_)
 exact rk_ret hτ [(2,ro 0 98)] (subR_of [(5,0)] rfl rfl (by kernel_rfl)) (by kernel_rfl)
theorem W.cut_back_k_ok {l : (List Rect)} {x1 : Int} {y : Int} {r : (List Rect)} (h : cut_back_k l x1 y=some r) : PC G.P 91 [(.sl (List.map c_Rect l)),(vI x1),(vI y)] [] (.row (.top 0) 98) [(0,.row 98 [] (List.map c_Rect r))]:=by
 refine zU G Tryz.func91 (yK [0,1,2] [] (y3 1 [0,1,2] [] (z7 (zA 1 ?_))))
 obtain ⟨r2,hr2,h⟩:=bindS h
 refine evs_callS [] [(0,700050)] [] (by kernel_rfl) (W.slices_Clone_Lapi_Rect_api_Rect'_ok hr2) (by kernel_rfl) (by kernel_rfl) (.inl rfl) (y1 1 [1,2,7] [700050] (zB (z7 (zA 1 (evs_op (st_len (c:=c_Rect) (l:=r2) (x:=(ro 700050 98)) (by kernel_rfl) (by kernel_rfl)) (y1 1 [1,2,7,13,14] [700050] ?_))))))
 refine zC ?_
 obtain ⟨x32,hx32,h⟩:=bindS h
 refine sem_loopS (fun (s23 : Int×(List Rect))=>⟨[(1,vI x1),(2,vI y),(7,ro 500000 98),(13,vI (r2.length : Int)),(14,vI s23.1)],[(500000,w_Rect 98 s23.2)]⟩) (fun (x32 : (List Rect))=>(.exit 0,⟨[(7,ro 500000 98)],[(500000,w_Rect 98 x32)]⟩)) (cut_back_k_l1 x1 y r2) (0,r2) x32 (by kernel_rfl) (subR_prep [] [(700050,500000)] (by kernel_rfl) rfl rfl (by kernel_rfl)) (iter_loop hx32) ?_ ?_ ?_
 intro s23 r h
 refine y3 1 [1,2,7,13,14,15] [500000] (zB (zI (decide (s23.1 < (r2.length : Int))) (fun hb=>?_) fun hb=>?_))
 replace h:=iteT hb h
 refine y4 [1,2,7,13,14] [500000] (zB (zC (y3 2 [1,2,7,8,13,14] [500000] (z7 (zA 2 ?_)))))
 obtain ⟨x31,hx31,h⟩:=bindS h
 refine evs_op (st_idxO (c:=c_Rect) (l:=s23.2) (i:=s23.1) (kd:=.i64) (kk:=(.top 500000)) (e:=98) (sz:=4) (by kernel_rfl) (by kernel_rfl) hx31 rfl) (y1 1 [1,2,7,9,13,14] [500000] (zB (z7 (zA 3 (evs_op (st_ldO (c:=c_Rect) (l:=s23.2) (i:=(Int.toNat s23.1)) (v:=(vI x31.X)) (agg:=false) (sz:=1) (kk:=(.top 500000)) (e:=98) (off:=0) (J:=[]) (by kernel_rfl) (by kernel_rfl) (by kernel_rfl) ((idxS hx31).2) (by kernel_rfl)) (zA 2 ?_))))))
 refine zS (decide (x31.X < (-4194304))) (fun b0=>⟨[(1,vI x1),(2,vI y),(7,ro 500000 98),(9,.rptr (.top 500000) 98 (Int.toNat s23.1) 0),(13,vI (r2.length : Int)),(14,vI s23.1),(25,vB b0)],[(500000,w_Rect 98 s23.2)]⟩) (fun hb=>?_) fun hb=>?_
 replace h:=iteT hb h
 exact nomatch h
 replace h:=iteF hb h
 refine zA 3 (evs_op (st_ldO (c:=c_Rect) (l:=s23.2) (i:=(Int.toNat s23.1)) (v:=(vI x31.X)) (agg:=false) (sz:=1) (kk:=(.top 500000)) (e:=98) (off:=0) (J:=[]) (by kernel_rfl) (by kernel_rfl) (by kernel_rfl) ((idxS hx31).2) (by kernel_rfl)) (zA 3 (zS (decide (x31.X > 4194304)) (fun b0=>⟨[(1,vI x1),(2,vI y),(7,ro 500000 98),(9,.rptr (.top 500000) 98 (Int.toNat s23.1) 0),(13,vI (r2.length : Int)),(14,vI s23.1),(32,vB b0)],[(500000,w_Rect 98 s23.2)]⟩) (fun hb=>?_) fun hb=>?_)))
 replace h:=iteT hb h
 exact nomatch h
 replace h:=iteF hb h
 refine zA 3 (evs_op (st_ldO (c:=c_Rect) (l:=s23.2) (i:=(Int.toNat s23.1)) (v:=(vI x31.Y)) (agg:=false) (sz:=1) (kk:=(.top 500000)) (e:=98) (off:=1) (J:=[]) (by kernel_rfl) (by kernel_rfl) (by kernel_rfl) ((idxS hx31).2) (by kernel_rfl)) (zA 3 (zS (decide (x31.Y < (-4194304))) (fun b0=>⟨[(1,vI x1),(2,vI y),(7,ro 500000 98),(9,.rptr (.top 500000) 98 (Int.toNat s23.1) 0),(13,vI (r2.length : Int)),(14,vI s23.1),(39,vB b0)],[(500000,w_Rect 98 s23.2)]⟩) (fun hb=>?_) fun hb=>?_)))
 replace h:=iteT hb h
 exact nomatch h
 replace h:=iteF hb h
 refine zA 3 (evs_op (st_ldO (c:=c_Rect) (l:=s23.2) (i:=(Int.toNat s23.1)) (v:=(vI x31.Y)) (agg:=false) (sz:=1) (kk:=(.top 500000)) (e:=98) (off:=1) (J:=[]) (by kernel_rfl) (by kernel_rfl) (by kernel_rfl) ((idxS hx31).2) (by kernel_rfl)) (y1 2 [1,2,7,9,13,14,45] [500000] (zI (decide (x31.Y > 4194304)) (fun hb=>?_) fun hb=>?_)))
 replace h:=iteT hb h
 exact nomatch h
 replace h:=iteF hb h
 refine y4 [1,2,7,9,13,14] [500000] (z7 (zA 3 (evs_op (st_ldO (c:=c_Rect) (l:=s23.2) (i:=(Int.toNat s23.1)) (v:=(vI x31.X)) (agg:=false) (sz:=1) (kk:=(.top 500000)) (e:=98) (off:=0) (J:=[]) (by kernel_rfl) (by kernel_rfl) (by kernel_rfl) ((idxS hx31).2) (by kernel_rfl)) (zA 4 (evs_op (st_stO (c:=c_Rect) (l:=s23.2) (i:=(Int.toNat s23.1)) (x:=x31) (x':=(Rect.mk (isub x31.X x1) x31.Y x31.W x31.H)) (v:=(vI (isub x31.X x1))) (agg:=false) (sz:=1) (kk:=(.top 500000)) (e:=98) (off:=0) (J:=[]) (o:=w_Rect 98 (List.set s23.2 (Int.toNat s23.1) (Rect.mk (isub x31.X x1) x31.Y x31.W x31.H))) (by kernel_rfl) (by kernel_rfl) (by kernel_rfl) ((idxS hx31).2) (by kernel_rfl) (by kernel_rfl) (by kernel_rfl)) (zP fun τ hτ=>?_))))))
 refine yE hτ [1,2,7,9,13,14] [500000] (zD (zA 3 (evs_op (st_ldO (c:=c_Rect) (l:=(List.set s23.2 (Int.toNat s23.1) (Rect.mk (isub x31.X x1) x31.Y x31.W x31.H))) (i:=(Int.toNat s23.1)) (v:=(vI (((Rect.mk (isub x31.X x1) x31.Y x31.W x31.H)).Y))) (agg:=false) (sz:=1) (kk:=(.top 500000)) (e:=98) (off:=1) (J:=[]) (by kernel_rfl) (by kernel_rfl) (by kernel_rfl) (setget (((idxS hx31).2))) (by kernel_rfl)) (zA 4 (evs_op (st_stO (c:=c_Rect) (l:=(List.set s23.2 (Int.toNat s23.1) (Rect.mk (isub x31.X x1) x31.Y x31.W x31.H))) (i:=(Int.toNat s23.1)) (x:=(Rect.mk (isub x31.X x1) x31.Y x31.W x31.H)) (x':=(Rect.mk (((Rect.mk (isub x31.X x1) x31.Y x31.W x31.H)).X) (isub (((Rect.mk (isub x31.X x1) x31.Y x31.W x31.H)).Y) y) (((Rect.mk (isub x31.X x1) x31.Y x31.W x31.H)).W) (((Rect.mk (isub x31.X x1) x31.Y x31.W x31.H)).H))) (v:=(vI (isub (((Rect.mk (isub x31.X x1) x31.Y x31.W x31.H)).Y) y))) (agg:=false) (sz:=1) (kk:=(.top 500000)) (e:=98) (off:=1) (J:=[]) (o:=w_Rect 98 (List.set (List.set s23.2 (Int.toNat s23.1) (Rect.mk (isub x31.X x1) x31.Y x31.W x31.H)) (Int.toNat s23.1) (Rect.mk (((Rect.mk (isub x31.X x1) x31.Y x31.W x31.H)).X) (isub (((Rect.mk (isub x31.X x1) x31.Y x31.W x31.H)).Y) y) (((Rect.mk (isub x31.X x1) x31.Y x31.W x31.H)).W) (((Rect.mk (isub x31.X x1) x31.Y x31.W x31.H)).H)))) (by kernel_rfl) (by kernel_rfl) (by kernel_rfl) (setget (((idxS hx31).2))) (by kernel_rfl) (by kernel_rfl) (by kernel_rfl)) (zP fun τ hτ=>?_))))))
 refine bl_normal (yE hτ [1,2,7,13,14] [500000] (zD (z6 2 fun τ hτ=>?_)))
 obtain rfl:=osi h
 exact zH hτ
 replace h:=iteF hb h
 refine zL 0 fun τ hτ=>?_
 refine th_exit ?_
 obtain rfl:=osi h
 exact zF hτ
 intro x
 rfl
 intro τ hτ
 refine zQ (yE hτ [7] [500000] (z8 2 ⟨[(6,ro 500000 98)],[(500000,w_Rect 98 x32)]⟩ fun τ hτ=>?_))
 obtain rfl:=osi h
 exact rk_ret hτ [(6,ro 0 98)] (subR_prep [] [(500000,0)] (by kernel_rfl) rfl rfl (by kernel_rfl)) (by kernel_rfl)
theorem W.nest_connected_k_ok {l : (List Rect)} {r : Bool} (h : nest_connected_k l=some r) : PC G.P 145 [(.sl (List.map c_Rect l))] [] (vB r) []:=by
 refine zU G Tryz.func145 (yK [0] [] (y3 1 [0] [] (z7 (zA 1 (evs_op (st_len (c:=c_Rect) (l:=l) (x:=(s_Rect l)) (by kernel_rfl) (by kernel_rfl)) ?_)))))
 obtain ⟨l2,hl2,h⟩:=bindS h
 refine evs_op (st_mk (c:=cB) (z:=false) (n:=(l.length : Int)) (e:=4) (d:=11) (zs:=[(vB false)]) (k1:=.i64) (k2:=.i64) (by kernel_rfl) rfl hl2) (y1 1 [0,3] [11] (z7 (zA 1 ?_)))
 obtain ⟨x4,hx4,h⟩:=bindS h
 refine evs_op (st_idxO (c:=cB) (l:=l2) (i:=0) (kd:=.i64) (kk:=(.top 11)) (e:=4) (sz:=1) (by kernel_rfl) (by kernel_rfl) hx4 rfl) (evs_op (st_stO (c:=cB) (l:=l2) (i:=(Int.toNat 0)) (x:=x4) (x':=true) (v:=(vB true)) (agg:=false) (sz:=1) (kk:=(.top 11)) (e:=4) (off:=0) (J:=[]) (o:=wB 4 (List.set l2 (Int.toNat 0) true)) (by kernel_rfl) (by kernel_rfl) (by kernel_rfl) ((idxS hx4).2) (by kernel_rfl) (by kernel_rfl) (by kernel_rfl)) (zP fun τ hτ=>?_))
 refine yE hτ [0,3] [11] (z7 (evs_at (at_build (e:=3) (d:=14) (es:=(List.map cI [0])) (by kernel_rfl)) (evs_toTl (g:=14) (e:=3) (l:=[0]) (by kernel_rfl) (by kernel_rfl) (by kernel_rfl) (y1 1 [0,3,4] [11,14] (zB (zC ?_))))))
 obtain ⟨x148,hx148,h⟩:=bindS h
 refine sem_loopS (fun (s101 : (List Int))=>⟨[(0,s_Rect l),(3,ro 500000 4),(4,ro 500001 3)],[(500000,wB 4 (List.set l2 (Int.toNat 0) true)),(500001,.tl 3 s101)]⟩) (fun (x148 : Unit)=>(.exit 0,⟨[(3,ro 500000 4)],[(500000,wB 4 (List.set l2 (Int.toNat 0) true))]⟩)) (nest_connected_k_l2 l l2) [0] x148 (by kernel_rfl) (subR_prep [] [(11,500000),(14,500001)] (by kernel_rfl) rfl rfl (by kernel_rfl)) (iter_loop hx148) ?_ ?_ ?_
 intro s101 r h
 refine zB (z7 (zA 1 (evs_at (at_lenT (g:=500001) (e:=3) (l:=s101) (by kernel_rfl) (by kernel_rfl)) (y1 1 [0,3,4,17] [500000,500001] (zI (decide ((s101.length : Int) > 0)) (fun hb=>?_) fun hb=>?_)))))
 replace h:=iteT hb h
 refine y4 [0,3,4] [500000,500001] (zC (z7 (zA 1 ?_)))
 obtain ⟨x126,hx126,h⟩:=bindS h
 refine evs_getT (g:=500001) (e:=3) (d1:=19) (d2:=20) (l:=s101) (i:=0) (kd:=.i64) (by kernel_rfl) (by kernel_rfl) (by kernel_rfl) hx126 (y1 1 [0,3,4,5] [500000,500001] (z7 (zA 1 ?_)))
 obtain ⟨hb1,h⟩:=iteN h
 refine evs_at (at_dropT (g:=500001) (e:=3) (n:=1) (kd:=.i64) (l:=s101) (by kernel_rfl) (by kernel_rfl) (by kernel_rfl) hb1) (y1 1 [0,3,4,5] [500000,500001] (z7 (zA 1 (evs_op (st_len (c:=c_Rect) (l:=l) (x:=(s_Rect l)) (by kernel_rfl) (by kernel_rfl)) (y1 1 [0,3,4,5,24,25] [500000,500001] (zC ?_))))))
 obtain ⟨x147,hx147,h⟩:=bindS h
 refine sem_loopS (fun (s134 : Int)=>⟨[(0,s_Rect l),(3,ro 500000 4),(4,ro 500001 3),(5,vI x126),(24,vI (l.length : Int)),(25,vI s134)],[(500000,wB 4 (List.set l2 (Int.toNat 0) true)),(500001,.tl 3 (List.drop 1 s101))]⟩) (fun (x147 : Unit)=>(.exit 2,⟨[(0,s_Rect l),(3,ro 500000 4),(4,ro 500001 3)],[(500000,wB 4 (List.set l2 (Int.toNat 0) true)),(500001,.tl 3 (List.drop 1 s101))]⟩)) (nest_connected_k_l1 l l2) 0 x147 (by kernel_rfl) (here (by kernel_rfl)) (iter_loop hx147) ?_ ?_ ?_
 intro s134 r h
 refine y3 1 [0,3,4,5,24,25,26] [500000,500001] (zB (zI (decide (s134 < (l.length : Int))) (fun hb=>?_) fun hb=>?_))
 replace h:=iteT hb h
 refine y4 [0,3,4,5,24,25] [500000,500001] (zB (zC (y3 2 [0,3,4,5,6,24,25] [500000,500001] (zB (sem_drawN [] [] [] [] [] 14 (by kernel_rfl) (by kernel_rfl) (by kernel_rfl) (evd_run 2 (by kernel_rfl) ?_))))))
 obtain ⟨x146,hx146,h⟩:=bindS h
 refine evd_val (by kernel_rfl) (st_idxO (c:=cB) (l:=(List.set l2 (Int.toNat 0) true)) (i:=s134) (kd:=.i64) (kk:=(.top 500000)) (e:=4) (sz:=1) (by kernel_rfl) (by kernel_rfl) hx146 rfl) (by kernel_rfl) (by kernel_rfl) (evd_val (by kernel_rfl) (st_ldO (c:=cB) (l:=(List.set l2 (Int.toNat 0) true)) (i:=(Int.toNat s134)) (v:=(vB x146)) (agg:=false) (sz:=1) (kk:=(.top 500000)) (e:=4) (off:=0) (J:=[]) (by kernel_rfl) (by kernel_rfl) (by kernel_rfl) ((idxS hx146).2) (by kernel_rfl)) (by kernel_rfl) (by kernel_rfl) (evd_run 2 (by kernel_rfl) (evd_split x146 (fun b0=>⟨[(33,vB (!b0)),(32,vB (!b0)),(31,vB b0),(30,.rptr (.top 500000) 4 (Int.toNat s134) 0),(29,vI s134),(28,ro 500000 4),(0,s_Rect l),(3,ro 500000 4),(4,ro 500001 3),(5,vI x126),(6,vI s134),(24,vI (l.length : Int)),(25,vI s134)],[(500000,wB 4 (List.set l2 (Int.toNat 0) true)),(500001,.tl 3 (List.drop 1 s101))]⟩) (by kernel_rfl) (fun hb=>?_) fun hb=>?_)))
 replace h:=iteT hb h
 refine evd_run 8 (by kernel_rfl) (evd_end (by kernel_rfl) (evo_run 2 (by kernel_rfl) (zO fun τ hτ=>?_)))
 refine yE hτ [0,3,4,5,6,24,25,43] [500000,500001] (sem_condF (by kernel_rfl) (by kernel_rfl) (zM fun τ hτ=>?_))
 refine bl_normal (yE hτ [0,3,4,5,24,25] [500000,500001] (zD (z6 2 fun τ hτ=>?_)))
 obtain rfl:=osi h
 exact zH hτ
 replace h:=iteF hb h
 exact nomatch h
 replace h:=iteF hb h
 refine zL 2 fun τ hτ=>?_
 refine th_exit ?_
 obtain rfl:=osi h
 exact zF hτ
 intro x
 rfl
 intro τ hτ
 refine zQ (bl_normal ?_)
 obtain rfl:=osi h
 exact zH hτ
 replace h:=iteF hb h
 refine zL 0 fun τ hτ=>?_
 refine th_exit ?_
 obtain rfl:=osi h
 exact zF hτ
 intro x
 rfl
 intro τ hτ
 refine zQ (yE hτ [3] [500000] (zB (z7 (zA 1 (evs_op (st_len (c:=cB) (l:=(List.set l2 (Int.toNat 0) true)) (x:=(ro 500000 4)) (by kernel_rfl) (by kernel_rfl)) (y1 1 [52,53,54] [500000] ?_))))))
 refine zC ?_
 obtain ⟨x178,hx178,h⟩:=bindS h
 refine sem_loopS (fun (s169 : Int)=>⟨[(52,ro 500000 4),(53,vI ((List.set l2 (Int.toNat 0) true).length : Int)),(54,vI s169)],[(500000,wB 4 (List.set l2 (Int.toNat 0) true))]⟩) (fun (x178 : Unit)=>(.exit 4,⟨[],[]⟩)) (nest_connected_k_l3 l2) 0 x178 (by kernel_rfl) (here (by kernel_rfl)) (iter_loop hx178) ?_ ?_ ?_
 intro s169 r h
 refine y3 1 [52,53,54,55] [500000] (zB (zI (decide (s169 < ((List.set l2 (Int.toNat 0) true).length : Int))) (fun hb=>?_) fun hb=>?_))
 replace h:=iteT hb h
 refine y4 [52,53,54] [500000] (zB (zC (z7 ?_)))
 obtain ⟨x177,hx177,h⟩:=bindS h
 refine evs_op (st_idxO (c:=cB) (l:=(List.set l2 (Int.toNat 0) true)) (i:=s169) (kd:=.i64) (kk:=(.top 500000)) (e:=4) (sz:=1) (by kernel_rfl) (by kernel_rfl) hx177 rfl) (evs_op (st_ldO (c:=cB) (l:=(List.set l2 (Int.toNat 0) true)) (i:=(Int.toNat s169)) (v:=(vB x177)) (agg:=false) (sz:=1) (kk:=(.top 500000)) (e:=4) (off:=0) (J:=[]) (by kernel_rfl) (by kernel_rfl) (by kernel_rfl) ((idxS hx177).2) (by kernel_rfl)) (y1 1 [8,52,53,54] [500000] (y3 2 [52,53,54,59] [500000] (zI (!x177) (fun hb=>?_) fun hb=>?_))))
 replace h:=iteT hb h
 exact nomatch h
 replace h:=iteF hb h
 refine zM fun τ hτ=>?_
 refine bl_normal (yE hτ [52,53,54] [500000] (zD (z6 2 fun τ hτ=>?_)))
 obtain rfl:=osi h
 exact zH hτ
 replace h:=iteF hb h
 refine zL 4 fun τ hτ=>?_
 refine th_exit ?_
 obtain rfl:=osi h
 exact zF hτ
 intro x
 rfl
 intro τ hτ
 refine zQ (yE hτ [] [] (z8 1 ⟨[(2,vB true)],[]⟩ fun τ hτ=>?_))
 obtain rfl:=osi h
 exact zV hτ [(2,vB true)]
theorem W.nest_inside_k_ok {x0 : Piece} {r : Int} (h : nest_inside_k x0=some r) : PC G.P 146 [(.agg (c_Piece x0))] [] (vI r) []:=by
 refine zU G Tryz.func146 (yK [0] [] (y3 2 [1] [1] (zB (sem_draw [(2,[12])] [(2,[12])] [] [(3,[12]),(4,[12])] [(0,[12]),(1,[12]),(3,[12]),(4,[12])] 5 (by kernel_rfl) (by kernel_rfl) [12] (by kernel_rfl) (by kernel_rfl) (evd_run 2 (by kernel_rfl) ?_)))))
 obtain ⟨l5,hl5,h⟩:=bindS h
 refine evd_new (by kernel_rfl) (st_appN (c:=c_Rect) (l2:=x0.Cuts) (x:=(s_Rect x0.Cuts)) (e:=98) (sz:=4) (d:=12) (by kernel_rfl) (by kernel_rfl) (by kernel_rfl) (fun _=>rfl) hl5) (by kernel_rfl) (by kernel_rfl) (by kernel_rfl) (by kernel_rfl) (evd_run 2 (by kernel_rfl) (evd_end (by kernel_rfl) ?_))
 obtain ⟨l6,hl6,h⟩:=bindS h
 refine evo_op (st_app (c:=c_Rect) (l:=l5) (l2:=x0.Forms) (x:=(s_Rect x0.Forms)) (g:=12) (e:=98) (sz:=4) (d:=15) (by kernel_rfl) (by kernel_rfl) (by kernel_rfl) (by kernel_rfl) (fun _=>rfl) rfl hl6) (evo_run 1 (by kernel_rfl) (zO fun τ hτ=>?_))
 refine yE hτ [1,3] [1,12] (zB (z7 (zA 1 (evs_op (st_len (c:=c_Rect) (l:=l6) (x:=(ro 12 98)) (by kernel_rfl) (by kernel_rfl)) (y1 1 [1,3,16,17,18] [1,12] (zC ?_))))))
 obtain ⟨x10,hx10,h⟩:=bindS h
 refine sem_loopS (fun (s9 : Unit)=>⟨[(1,.ptr 500000 0),(3,ro 500001 98),(16,ro 500001 98),(17,vI (l6.length : Int)),(18,vI 0)],[(500000,.box (c_Piece x0)),(500001,w_Rect 98 l6)]⟩) (fun (x10 : Unit)=>(.exit 0,⟨[(3,ro 500000 98)],[(500000,w_Rect 98 l6)]⟩)) (nest_inside_k_l1 l6) () x10 (by kernel_rfl) (subR_prep [] [(1,500000),(12,500001)] (by kernel_rfl) rfl rfl (by kernel_rfl)) (iter_loop hx10) ?_ ?_ ?_
 intro s9 r h
 refine y3 1 [1,3,16,17,18,19] [500000,500001] (zB (zI (decide (0 < (l6.length : Int))) (fun hb=>?_) fun hb=>?_))
 replace h:=iteT hb h
 exact nomatch h
 replace h:=iteF hb h
 refine zL 0 fun τ hτ=>?_
 refine th_exit ?_
 obtain rfl:=osi h
 exact lk_outS hτ rfl (subR_prep [] [(500001,500000)] (by kernel_rfl) rfl rfl (by kernel_rfl))
 intro x
 rfl
 intro τ hτ
 refine zQ (yE hτ [3] [500000] (zB (z7 (zA 1 (evs_op (st_len (c:=c_Rect) (l:=l6) (x:=(ro 500000 98)) (by kernel_rfl) (by kernel_rfl)) (y1 1 [3,46,47,48] [500000] ?_))))))
 refine zC ?_
 obtain ⟨x14,hx14,h⟩:=bindS h
 refine sem_loopS (fun (s13 : Unit)=>⟨[(3,ro 500000 98),(46,ro 500000 98),(47,vI (l6.length : Int)),(48,vI 0)],[(500000,w_Rect 98 l6)]⟩) (fun (x14 : Unit)=>(.exit 2,⟨[],[]⟩)) (nest_inside_k_l2 l6) () x14 (by kernel_rfl) (here (by kernel_rfl)) (iter_loop hx14) ?_ ?_ ?_
 intro s13 r h
 refine y3 1 [3,46,47,48,49] [500000] (zB (zI (decide (0 < (l6.length : Int))) (fun hb=>?_) fun hb=>?_))
 replace h:=iteT hb h
 exact nomatch h
 replace h:=iteF hb h
 refine zL 2 fun τ hτ=>?_
 refine th_exit ?_
 obtain rfl:=osi h
 exact zF hτ
 intro x
 rfl
 intro τ hτ
 refine zQ (yE hτ [] [] (z8 1 ⟨[(2,vI 0)],[]⟩ fun τ hτ=>?_))
 obtain rfl:=osi h
 exact zV hτ [(2,vI 0)]
theorem W.nest_ValidatePiece_k_ok {x0 : Piece} {r : Int} (h : nest_ValidatePiece_k x0=some r) : PC G.P 90 [(.agg (c_Piece x0))] [] (vI r) []:=by
 refine zU G Tryz.func90 (yK [0] [] (y3 2 [1] [1] (zB (zC (z7 (zA 2 ?_))))))
 obtain ⟨r15,hr15,h⟩:=bindS h
 refine evs_callP [] (by kernel_rfl) (W.part_ValidName_k_ok hr15) (by kernel_rfl) (.inl rfl) (by kernel_rfl) (zA 2 (zS r15 (fun b0=>⟨[(1,.ptr 1 0),(16,vB (!b0))],[(1,.box (c_Piece x0))]⟩) (fun hb=>?_) fun hb=>?_))
 replace h:=iteT hb h
 refine zA 2 ?_
 obtain ⟨r16,hr16,h⟩:=bindS h
 refine evs_callP [] (by kernel_rfl) (W.part_ValidName_k_ok hr16) (by kernel_rfl) (.inl rfl) (by kernel_rfl) (y1 3 [1,11] [1] (zI (!r16) (fun hb=>?_) fun hb=>?_))
 replace h:=iteT hb h
 exact nomatch h
 replace h:=iteF hb h
 refine z7 (zA 4 ?_)
 obtain ⟨r18,hr18,h⟩:=bindS h
 refine evs_callP [] (by kernel_rfl) (W.nest_plain_k_ok hr18) (by kernel_rfl) (.inl rfl) (by kernel_rfl) (y1 2 [1,22] [1] (zI (!r18) (fun hb=>?_) fun hb=>?_))
 replace h:=iteT hb h
 exact nomatch h
 replace h:=iteF hb h
 refine z7 (zA 2 (evs_op (st_len (c:=c_Rect) (l:=x0.Rects) (x:=(s_Rect x0.Rects)) (by kernel_rfl) (by kernel_rfl)) (zA 2 (zS (decide ((x0.Rects.length : Int) > 12)) (fun b0=>⟨[(1,.ptr 1 0),(34,vB b0)],[(1,.box (c_Piece x0))]⟩) (fun hb=>?_) fun hb=>?_))))
 replace h:=iteT hb h
 exact nomatch h
 replace h:=iteF hb h
 refine zA 2 (evs_op (st_len (c:=c_Rect) (l:=x0.Cuts) (x:=(s_Rect x0.Cuts)) (by kernel_rfl) (by kernel_rfl)) (zA 3 (zS (decide ((x0.Cuts.length : Int) > 12)) (fun b0=>⟨[(1,.ptr 1 0),(40,vB b0)],[(1,.box (c_Piece x0))]⟩) (fun hb=>?_) fun hb=>?_)))
 replace h:=iteT hb h
 exact nomatch h
 replace h:=iteF hb h
 refine zA 2 (evs_op (st_len (c:=c_Rect) (l:=x0.Forms) (x:=(s_Rect x0.Forms)) (by kernel_rfl) (by kernel_rfl)) (y1 3 [1,29] [1] (zI (decide ((x0.Forms.length : Int) > 12)) (fun hb=>?_) fun hb=>?_)))
 replace h:=iteT hb h
 exact nomatch h
 replace h:=iteF hb h
 refine z7 (zA 2 (evs_op (st_len (c:=c_Rect) (l:=x0.Rects) (x:=(s_Rect x0.Rects)) (by kernel_rfl) (by kernel_rfl)) (zA 2 (zS ((x0.Rects.length : Int)==0) (fun b0=>⟨[(1,.ptr 1 0),(51,vB b0)],[(1,.box (c_Piece x0))]⟩) (fun hb=>?_) fun hb=>?_))))
 replace h:=iteT hb h
 exact nomatch h
 replace h:=iteF hb h
 refine zA 2 ?_
 obtain ⟨r22,hr22,h⟩:=bindS h
 refine evs_callP [] (by kernel_rfl) (W.nest_valid_k_ok hr22) (by kernel_rfl) (.inl rfl) (by kernel_rfl) (zA 3 (zS r22 (fun b0=>⟨[(1,.ptr 1 0),(57,vB (!b0))],[(1,.box (c_Piece x0))]⟩) (fun hb=>?_) fun hb=>?_))
 replace h:=iteT hb h
 refine zA 2 ?_
 obtain ⟨r23,hr23,h⟩:=bindS h
 refine evs_callP [] (by kernel_rfl) (W.nest_valid_k_ok hr23) (by kernel_rfl) (.inl rfl) (by kernel_rfl) (zA 3 (zS r23 (fun b0=>⟨[(1,.ptr 1 0),(63,vB (!b0))],[(1,.box (c_Piece x0))]⟩) (fun hb=>?_) fun hb=>?_))
 replace h:=iteT hb h
 refine zA 2 ?_
 obtain ⟨r24,hr24,h⟩:=bindS h
 refine evs_callP [] (by kernel_rfl) (W.nest_valid_k_ok hr24) (by kernel_rfl) (.inl rfl) (by kernel_rfl) (y1 3 [1,46] [1] (zI (!r24) (fun hb=>?_) fun hb=>?_))
 replace h:=iteT hb h
 exact nomatch h
 replace h:=iteF hb h
 refine zM fun τ hτ=>?_
 refine bl_normal (yE hτ [1] [1] (zB (sem_drawN [] [] [] [] [] 11 (by kernel_rfl) (by kernel_rfl) (by kernel_rfl) (evd_run 2 (by kernel_rfl) ?_))))
 obtain ⟨x29,hx29,h⟩:=bindS h
 refine evd_val (by kernel_rfl) (st_idx (c:=c_Rect) (l:=x0.Rects) (i:=0) (kd:=.i64) (sz:=4) (by kernel_rfl) hx29 rfl) (by kernel_rfl) (by kernel_rfl) (evd_run 4 (by kernel_rfl) ?_)
 obtain ⟨x30,hx30,h⟩:=bindS h
 refine evd_val (by kernel_rfl) (st_idx (c:=c_Rect) (l:=x0.Rects) (i:=0) (kd:=.i64) (sz:=4) (by kernel_rfl) hx30 rfl) (by kernel_rfl) (by kernel_rfl) (evd_run 3 (by kernel_rfl) (evd_end (by kernel_rfl) (evo_run 1 (by kernel_rfl) (zO fun τ hτ=>?_))))
 refine yE hτ [1,3,4] [1] (zB (z7 (zA 2 (evs_op (st_len (c:=c_Rect) (l:=x0.Rects) (x:=(s_Rect x0.Rects)) (by kernel_rfl) (by kernel_rfl)) (y1 1 [1,3,4,80,81,82] [1] (zC ?_))))))
 obtain ⟨x60,hx60,h⟩:=bindS h
 refine sem_loopS (fun (s51 : Int×Int×Int)=>⟨[(1,.ptr 500000 0),(3,vI s51.1),(4,vI s51.2.1),(80,s_Rect x0.Rects),(81,vI (x0.Rects.length : Int)),(82,vI s51.2.2)],[(500000,.box (c_Piece x0))]⟩) (fun (x60 : Int×Int)=>(.exit 1,⟨[(1,.ptr 500000 0),(3,vI x60.1),(4,vI x60.2)],[(500000,.box (c_Piece x0))]⟩)) (nest_ValidatePiece_k_l1 x0) (x29.X,x30.Y,0) x60 (by kernel_rfl) (subR_prep [] [(1,500000)] (by kernel_rfl) rfl rfl (by kernel_rfl)) (iter_loop hx60) ?_ ?_ ?_
 intro s51 r h
 refine y3 1 [1,3,4,80,81,82,83] [500000] (zB (zI (decide (s51.2.2 < (x0.Rects.length : Int))) (fun hb=>?_) fun hb=>?_))
 replace h:=iteT hb h
 refine y4 [1,3,4,80,81,82] [500000] (zB (zC (z7 ?_)))
 obtain ⟨x59,hx59,h⟩:=bindS h
 refine evs_op (st_idx (c:=c_Rect) (l:=x0.Rects) (i:=s51.2.2) (kd:=.i64) (sz:=4) (by kernel_rfl) hx59 rfl) (y1 3 [1,3,4,6,80,81,82] [6,500000] (sem_drawN [] [] [] [] [] 9 (by kernel_rfl) (by kernel_rfl) (by kernel_rfl) (evd_run 9 (by kernel_rfl) (evd_end (by kernel_rfl) (evo_run 1 (by kernel_rfl) (zO fun τ hτ=>?_))))))
 refine bl_normal (yE hτ [1,3,4,80,81,82] [500000] (zD (z6 2 fun τ hτ=>?_)))
 obtain rfl:=osi h
 exact zH hτ
 replace h:=iteF hb h
 refine zL 1 fun τ hτ=>?_
 refine th_exit ?_
 obtain rfl:=osi h
 exact zF hτ
 intro x
 rfl
 intro τ hτ
 refine zQ (yE hτ [1,3,4] [500000] (zB (z7 (zA 3 (zS (x60.1 != 0) (fun b0=>⟨[(1,.ptr 500000 0),(4,vI x60.2),(97,vB b0)],[(500000,.box (c_Piece x0))]⟩) (fun hb=>?_) fun hb=>?_)))))
 replace h:=iteT hb h
 exact nomatch h
 replace h:=iteF hb h
 refine y1 3 [1,100] [500000] (zI (x60.2 != 0) (fun hb=>?_) fun hb=>?_)
 replace h:=iteT hb h
 exact nomatch h
 replace h:=iteF hb h
 refine y4 [1] [500000] (zB (z7 (zA 2 (evs_op (st_len (c:=c_Rect) (l:=x0.Rects) (x:=(s_Rect x0.Rects)) (by kernel_rfl) (by kernel_rfl)) (y1 1 [1,102,103,104] [500000] (zC ?_))))))
 obtain ⟨x138,hx138,h⟩:=bindS h
 refine sem_loopS (fun (s113 : Int)=>⟨[(1,.ptr 500000 0),(102,s_Rect x0.Rects),(103,vI (x0.Rects.length : Int)),(104,vI s113)],[(500000,.box (c_Piece x0))]⟩) (fun (x138 : Unit)=>(.exit 3,⟨[(1,.ptr 500000 0)],[(500000,.box (c_Piece x0))]⟩)) (nest_ValidatePiece_k_l3 x0) 0 x138 (by kernel_rfl) (here (by kernel_rfl)) (iter_loop hx138) ?_ ?_ ?_
 intro s113 r h
 refine y3 1 [1,102,103,104,105] [500000] (zB (zI (decide (s113 < (x0.Rects.length : Int))) (fun hb=>?_) fun hb=>?_))
 replace h:=iteT hb h
 refine y4 [1,102,103,104] [500000] (zB (zC (z7 (zA 1 ?_))))
 obtain ⟨x133,hx133,h⟩:=bindS h
 refine evs_op (st_idx (c:=c_Rect) (l:=x0.Rects) (i:=s113) (kd:=.i64) (sz:=4) (by kernel_rfl) hx133 rfl) (y1 4 [1,7,8,102,103,104] [8,500000] (z7 (zA 3 ?_)))
 obtain ⟨l135,hl135,h⟩:=bindS h
 refine evs_op (st_slH (c:=c_Rect) (l:=x0.Rects) (sz:=4) (hi:=s113) (k2:=.i64) (by kernel_rfl) hl135) (evs_op (st_len (c:=c_Rect) (l:=l135) (x:=(s_Rect l135)) (by kernel_rfl) (by kernel_rfl)) (y1 1 [1,8,102,103,104,112,113,114] [8,500000] (zC ?_)))
 obtain ⟨x137,hx137,h⟩:=bindS h
 refine sem_loopS (fun (s136 : Unit)=>⟨[(1,.ptr 500000 0),(8,.ptr 500001 0),(102,s_Rect x0.Rects),(103,vI (x0.Rects.length : Int)),(104,vI s113),(112,s_Rect l135),(113,vI (l135.length : Int)),(114,vI 0)],[(500000,.box (c_Piece x0)),(500001,.box (c_Rect x133))]⟩) (fun (x137 : Unit)=>(.exit 5,⟨[(1,.ptr 500000 0),(102,s_Rect x0.Rects),(103,vI (x0.Rects.length : Int)),(104,vI s113)],[(500000,.box (c_Piece x0))]⟩)) (nest_ValidatePiece_k_l2 l135) () x137 (by kernel_rfl) (subR_prep [] [(8,500001),(500000,500000)] (by kernel_rfl) rfl rfl (by kernel_rfl)) (iter_loop hx137) ?_ ?_ ?_
 intro s136 r h
 refine y3 1 [1,8,102,103,104,112,113,114,115] [500000,500001] (zB (zI (decide (0 < (l135.length : Int))) (fun hb=>?_) fun hb=>?_))
 replace h:=iteT hb h
 exact nomatch h
 replace h:=iteF hb h
 refine zL 5 fun τ hτ=>?_
 refine th_exit ?_
 obtain rfl:=osi h
 exact zF hτ
 intro x
 rfl
 intro τ hτ
 refine zQ (bl_normal (yE hτ [1,102,103,104] [500000] (zD (z6 2 fun τ hτ=>?_))))
 obtain rfl:=osi h
 exact zH hτ
 replace h:=iteF hb h
 refine zL 3 fun τ hτ=>?_
 refine th_exit ?_
 obtain rfl:=osi h
 exact zF hτ
 intro x
 rfl
 intro τ hτ
 refine zQ (yE hτ [1] [500000] (zB (z7 (zA 2 ?_))))
 obtain ⟨r142,hr142,h⟩:=bindS h
 refine evs_callP [] (by kernel_rfl) (W.nest_connected_k_ok hr142) (by kernel_rfl) (.inl rfl) (by kernel_rfl) (y1 1 [1,126] [500000] (zI (!r142) (fun hb=>?_) fun hb=>?_))
 replace h:=iteT hb h
 exact nomatch h
 replace h:=iteF hb h
 refine y4 [1] [500000] (z7 (zA 1 ?_))
 obtain ⟨r144,hr144,h⟩:=bindS h
 refine evs_callP [] (by kernel_rfl) (W.nest_inside_k_ok hr144) (by kernel_rfl) (.inl rfl) (by kernel_rfl) (y1 1 [2] [] (zN fun τ hτ=>?_))
 obtain rfl:=osi h
 exact zV hτ [(2,vI r144)]
 replace h:=iteF hb h
 exact nomatch h
 replace h:=iteF hb h
 exact nomatch h
 replace h:=iteF hb h
 exact nomatch h
theorem W.cut_pieceError_k_ok {x0 : Piece} {r : Int} (h : cut_pieceError_k x0=some r) : PC G.P 41 [(.agg (c_Piece x0))] [] (vI r) []:=by
 refine zU G Tryz.func41 (yK [0] [] (y3 2 [1] [1] (zB (z7 (zA 2 (evs_op (st_len (c:=c_Rect) (l:=x0.Rects) (x:=(s_Rect x0.Rects)) (by kernel_rfl) (by kernel_rfl)) ?_))))))
 refine y1 1 [1,10,11,12] [1] (zC ?_)
 obtain ⟨x54,hx54,h⟩:=bindS h
 refine sem_loopS (fun (s37 : Int)=>⟨[(1,.ptr 500000 0),(10,s_Rect x0.Rects),(11,vI (x0.Rects.length : Int)),(12,vI s37)],[(500000,.box (c_Piece x0))]⟩) (fun (x54 : Unit)=>(.exit 0,⟨[(1,.ptr 500000 0)],[(500000,.box (c_Piece x0))]⟩)) (cut_pieceError_k_l1 x0) 0 x54 (by kernel_rfl) (subR_prep [] [(1,500000)] (by kernel_rfl) rfl rfl (by kernel_rfl)) (iter_loop hx54) ?_ ?_ ?_
 intro s37 r h
 refine y3 1 [1,10,11,12,13] [500000] (zB (zI (decide (s37 < (x0.Rects.length : Int))) (fun hb=>?_) fun hb=>?_))
 replace h:=iteT hb h
 refine y4 [1,10,11,12] [500000] (zB (zC (z7 ?_)))
 obtain ⟨x51,hx51,h⟩:=bindS h
 refine evs_op (st_idx (c:=c_Rect) (l:=x0.Rects) (i:=s37) (kd:=.i64) (sz:=4) (by kernel_rfl) hx51 rfl) (y1 3 [1,4,10,11,12] [4,500000] (z7 (zA 1 ?_)))
 obtain ⟨r53,hr53,h⟩:=bindS h
 refine evs_callP [] (by kernel_rfl) (W.geom_ValidRect_k_ok hr53) (by kernel_rfl) (.inl rfl) (by kernel_rfl) (y1 1 [1,10,11,12,18] [500000] (zI (!r53) (fun hb=>?_) fun hb=>?_))
 replace h:=iteT hb h
 exact nomatch h
 replace h:=iteF hb h
 refine zM fun τ hτ=>?_
 refine bl_normal (yE hτ [1,10,11,12] [500000] (zD (z6 2 fun τ hτ=>?_)))
 obtain rfl:=osi h
 exact zH hτ
 replace h:=iteF hb h
 refine zL 0 fun τ hτ=>?_
 refine th_exit ?_
 obtain rfl:=osi h
 exact zF hτ
 intro x
 rfl
 intro τ hτ
 refine zQ (yE hτ [1] [500000] (zB (z7 (zA 2 (evs_op (st_len (c:=c_Rect) (l:=x0.Rects) (x:=(s_Rect x0.Rects)) (by kernel_rfl) (by kernel_rfl)) (y1 1 [1,23] [500000] ?_))))))
 refine zI ((x0.Rects.length : Int)==0) (fun hb=>?_) fun hb=>?_
 replace h:=iteT hb h
 exact nomatch h
 replace h:=iteF hb h
 refine y4 [1] [500000] (zB (sem_drawN [] [] [] [] [] 11 (by kernel_rfl) (by kernel_rfl) (by kernel_rfl) (evd_run 2 (by kernel_rfl) ?_)))
 obtain ⟨x59,hx59,h⟩:=bindS h
 refine evd_val (by kernel_rfl) (st_idx (c:=c_Rect) (l:=x0.Rects) (i:=0) (kd:=.i64) (sz:=4) (by kernel_rfl) hx59 rfl) (by kernel_rfl) (by kernel_rfl) (evd_run 4 (by kernel_rfl) ?_)
 obtain ⟨x60,hx60,h⟩:=bindS h
 refine evd_val (by kernel_rfl) (st_idx (c:=c_Rect) (l:=x0.Rects) (i:=0) (kd:=.i64) (sz:=4) (by kernel_rfl) hx60 rfl) (by kernel_rfl) (by kernel_rfl) (evd_run 3 (by kernel_rfl) (evd_end (by kernel_rfl) (evo_run 1 (by kernel_rfl) (zO fun τ hτ=>?_))))
 refine yE hτ [1,5,6] [500000] (zB (z7 (zA 2 (evs_op (st_len (c:=c_Rect) (l:=x0.Rects) (x:=(s_Rect x0.Rects)) (by kernel_rfl) (by kernel_rfl)) (y1 1 [1,5,6,37,38,39] [500000] (zC ?_))))))
 obtain ⟨x90,hx90,h⟩:=bindS h
 refine sem_loopS (fun (s81 : Int×Int×Int)=>⟨[(1,.ptr 500000 0),(5,vI s81.1),(6,vI s81.2.1),(37,s_Rect x0.Rects),(38,vI (x0.Rects.length : Int)),(39,vI s81.2.2)],[(500000,.box (c_Piece x0))]⟩) (fun (x90 : Int×Int)=>(.exit 2,⟨[(1,.ptr 500000 0),(5,vI x90.1),(6,vI x90.2)],[(500000,.box (c_Piece x0))]⟩)) (cut_pieceError_k_l2 x0) (x59.X,x60.Y,0) x90 (by kernel_rfl) (here (by kernel_rfl)) (iter_loop hx90) ?_ ?_ ?_
 intro s81 r h
 refine y3 1 [1,5,6,37,38,39,40] [500000] (zB (zI (decide (s81.2.2 < (x0.Rects.length : Int))) (fun hb=>?_) fun hb=>?_))
 replace h:=iteT hb h
 refine y4 [1,5,6,37,38,39] [500000] (zB (zC (z7 ?_)))
 obtain ⟨x89,hx89,h⟩:=bindS h
 refine evs_op (st_idx (c:=c_Rect) (l:=x0.Rects) (i:=s81.2.2) (kd:=.i64) (sz:=4) (by kernel_rfl) hx89 rfl) (y1 3 [1,5,6,8,37,38,39] [8,500000] (sem_drawN [] [] [] [] [] 9 (by kernel_rfl) (by kernel_rfl) (by kernel_rfl) (evd_run 9 (by kernel_rfl) (evd_end (by kernel_rfl) (evo_run 1 (by kernel_rfl) (zO fun τ hτ=>?_))))))
 refine bl_normal (yE hτ [1,5,6,37,38,39] [500000] (zD (z6 2 fun τ hτ=>?_)))
 obtain rfl:=osi h
 exact zH hτ
 replace h:=iteF hb h
 refine zL 2 fun τ hτ=>?_
 refine th_exit ?_
 obtain rfl:=osi h
 exact zF hτ
 intro x
 rfl
 intro τ hτ
 refine zQ (yE hτ [1,5,6] [500000] (zB (sem_draw [(4,[700200]),(9,[700450]),(14,[700700])] [(4,[700200]),(9,[700450]),(14,[700700])] [] [(5,[700200]),(6,[700200]),(7,[700200]),(8,[700200]),(10,[700200,700450]),(11,[700200,700450]),(12,[700200,700450]),(13,[700200,700450]),(15,[700450,700700])] [(0,[700200,700450,700700]),(1,[700200,700450,700700]),(2,[700200,700450,700700]),(3,[700200,700450,700700]),(4,[700450,700700]),(5,[700200,700450,700700]),(6,[700200,700450,700700]),(7,[700200,700450,700700]),(8,[700200,700450,700700]),(9,[700700]),(10,[700200,700450,700700]),(11,[700200,700450,700700]),(12,[700200,700450,700700]),(13,[700200,700450,700700]),(15,[700450,700700])] 16 (by kernel_rfl) (by kernel_rfl) [700200,700450,700700] (by kernel_rfl) (by kernel_rfl) (evd_run 4 (by kernel_rfl) ?_))))
 obtain ⟨r97,hr97,h⟩:=bindS h
 refine evd_callS [(0,700200)] [] (by kernel_rfl) (by kernel_rfl) (W.cut_back_k_ok hr97) (by kernel_rfl) (.inl rfl) (by kernel_rfl) (by kernel_rfl) (evd_run 4 (by kernel_rfl) ?_)
 obtain ⟨r98,hr98,h⟩:=bindS h
 refine evd_callS [(0,700450)] [] (by kernel_rfl) (by kernel_rfl) (W.cut_back_k_ok hr98) (by kernel_rfl) (.inl rfl) (by kernel_rfl) (by kernel_rfl) (evd_run 4 (by kernel_rfl) ?_)
 obtain ⟨r99,hr99,h⟩:=bindS h
 refine evd_callS [(0,700700)] [] (by kernel_rfl) (by kernel_rfl) (W.cut_back_k_ok hr99) (by kernel_rfl) (.inl rfl) (by kernel_rfl) (by kernel_rfl) (evd_run 1 (by kernel_rfl) (evd_end (by kernel_rfl) (evo_run 5 (by kernel_rfl) (zO fun τ hτ=>?_))))
 refine yE hτ [1] [500000,700200,700450,700700] (z7 (zA 1 ?_))
 obtain ⟨r101,hr101,h⟩:=bindS h
 refine evs_callP [700200,700450,700700] (by kernel_rfl) (W.nest_ValidatePiece_k_ok hr101) (by kernel_rfl) (.inr rfl) (by kernel_rfl) (y1 1 [2] [] (zN fun τ hτ=>?_))
 obtain rfl:=osi h
 exact zV hτ [(2,vI r101)]
theorem W.geom_Inside_k_ok {a : Rect} {b : Rect} {r : Bool} (h : geom_Inside_k a b=some r) : PC G.P 42 [(.agg (c_Rect a)),(.agg (c_Rect b))] [] (vB r) []:=by
 refine zU G Tryz.func42 (yK [0,1] [] (y3 3 [2,3] [2,3] (zB ?_)))
 obtain ⟨j3,hj3,h⟩:=bindS h
 refine zT ⟨[(4,vB j3)],[]⟩ ?_ fun τ hτ=>?_
 replace h:=hj3
 refine zA 1 ?_
 obtain ⟨r4,hr4,h⟩:=bindS h
 refine evs_callP [] (by kernel_rfl) (W.geom_ValidRect_k_ok hr4) (by kernel_rfl) (.inl rfl) (by kernel_rfl) (zA 1 (zS r4 (fun b0=>⟨[(2,.ptr 2 0),(3,.ptr 3 0),(7,vB b0)],[(2,.box (c_Rect a)),(3,.box (c_Rect b))]⟩) (fun hb=>?_) fun hb=>?_))
 replace h:=iteT hb h
 refine zA 1 ?_
 obtain ⟨r5,hr5,h⟩:=bindS h
 refine evs_callP [] (by kernel_rfl) (W.geom_ValidRect_k_ok hr5) (by kernel_rfl) (.inl rfl) (by kernel_rfl) (zA 2 (zS r5 (fun b0=>⟨[(2,.ptr 2 0),(3,.ptr 3 0),(11,vB b0)],[(2,.box (c_Rect a)),(3,.box (c_Rect b))]⟩) (fun hb=>?_) fun hb=>?_))
 replace h:=iteT hb h
 refine zA 7 (zS (decide (b.X≤a.X)) (fun b0=>⟨[(2,.ptr 2 0),(3,.ptr 3 0),(18,vB b0)],[(2,.box (c_Rect a)),(3,.box (c_Rect b))]⟩) (fun hb=>?_) fun hb=>?_)
 replace h:=iteT hb h
 refine zA 13 (zS (decide ((iadd a.X a.W)≤(iadd b.X b.W))) (fun b0=>⟨[(2,.ptr 2 0),(3,.ptr 3 0),(31,vB b0)],[(2,.box (c_Rect a)),(3,.box (c_Rect b))]⟩) (fun hb=>?_) fun hb=>?_)
 replace h:=iteT hb h
 refine zA 7 (zS (decide (b.Y≤a.Y)) (fun b0=>⟨[(2,.ptr 2 0),(3,.ptr 3 0),(38,vB b0)],[(2,.box (c_Rect a)),(3,.box (c_Rect b))]⟩) (fun hb=>?_) fun hb=>?_)
 replace h:=iteT hb h
 refine z6 13 fun τ hτ=>?_
 obtain rfl:=osi h
 exact zG hτ
 replace h:=iteF hb h
 refine z6 13 fun τ hτ=>?_
 obtain rfl:=osi h
 exact zG hτ
 replace h:=iteF hb h
 refine z6 20 fun τ hτ=>?_
 obtain rfl:=osi h
 exact zG hτ
 replace h:=iteF hb h
 refine z6 33 fun τ hτ=>?_
 obtain rfl:=osi h
 exact zG hτ
 replace h:=iteF hb h
 exact nomatch h
 replace h:=iteF hb h
 exact nomatch h
 refine yE hτ [4] [] (zN fun τ hτ=>?_)
 obtain rfl:=osi h
 exact zV hτ [(4,vB j3)]
theorem W.geom_Overlap_k_ok {a : Rect} {b : Rect} {r : Bool} (h : geom_Overlap_k a b=some r) : PC G.P 94 [(.agg (c_Rect a)),(.agg (c_Rect b))] [] (vB r) []:=by
 refine zU G Tryz.func94 (yK [0,1] [] (y3 3 [2,3] [2,3] (z7 (zA 1 ?_))))
 obtain ⟨r3,hr3,h⟩:=bindS h
 refine evs_callP [] (by kernel_rfl) (W.geom_ValidRect_k_ok hr3) (by kernel_rfl) (.inl rfl) (by kernel_rfl) (zA 1 (zS r3 (fun b0=>⟨[(2,.ptr 2 0),(3,.ptr 3 0),(7,vB b0)],[(2,.box (c_Rect a)),(3,.box (c_Rect b))]⟩) (fun hb=>?_) fun hb=>?_))
 replace h:=iteT hb h
 refine zA 1 ?_
 obtain ⟨r4,hr4,h⟩:=bindS h
 refine evs_callP [] (by kernel_rfl) (W.geom_ValidRect_k_ok hr4) (by kernel_rfl) (.inl rfl) (by kernel_rfl) (zA 2 (zS r4 (fun b0=>⟨[(2,.ptr 2 0),(3,.ptr 3 0),(11,vB b0)],[(2,.box (c_Rect a)),(3,.box (c_Rect b))]⟩) (fun hb=>?_) fun hb=>?_))
 replace h:=iteT hb h
 refine zA 10 (zS (decide (a.X < (iadd b.X b.W))) (fun b0=>⟨[(2,.ptr 2 0),(3,.ptr 3 0),(21,vB b0)],[(2,.box (c_Rect a)),(3,.box (c_Rect b))]⟩) (fun hb=>?_) fun hb=>?_)
 replace h:=iteT hb h
 exact nomatch h
 replace h:=iteF hb h
 refine y1 30 [4] [] (zN fun τ hτ=>?_)
 obtain rfl:=osi h
 exact zV hτ [(4,vB false)]
 replace h:=iteF hb h
 exact nomatch h
 replace h:=iteF hb h
 exact nomatch h
theorem W.cut_meets_1_k_ok {x0 : Rect} {a_0 : Int} {a_1 : Int} {a_2 : Int} {a_3 : Int} {r : Bool} (h : cut_meets_1_k x0 a_0 a_1 a_2 a_3=some r) : PC G.P 93 [(.agg (c_Rect x0)),(.vptr [(vI a_0),(vI a_1),(vI a_2),(vI a_3)] 0)] [] (vB r) []:=by
 refine zU G Tryz.func93 (yK [0,1] [] (y3 2 [1,2] [2] (z7 (zA 2 ?_))))
 obtain ⟨r2,hr2,h⟩:=bindS h
 refine evs_callP [] (by kernel_rfl) (W.geom_Overlap_k_ok hr2) (by kernel_rfl) (.inl rfl) (by kernel_rfl) (y1 1 [3] [] (zN fun τ hτ=>?_))
 obtain rfl:=osi h
 exact zV hτ [(3,vB r2)]
theorem W.slices_IndexFunc_Lapi_Rect_api_Rect__cut_meets_1_k_ok {s0 : (List Rect)} {f_0_0 : Int} {f_0_1 : Int} {f_0_2 : Int} {f_0_3 : Int} {r : Int} (h : slices_IndexFunc_Lapi_Rect_api_Rect__cut_meets_1_k s0 f_0_0 f_0_1 f_0_2 f_0_3=some r) : PC G.P 147 [(.sl (List.map c_Rect s0)),(.fn 93 [(.vptr [(vI f_0_0),(vI f_0_1),(vI f_0_2),(vI f_0_3)] 0)])] [] (vI r) []:=by
 refine zU G Tryz.func147 (yK [0,1] [] (y3 1 [0,1] [] (zB (z7 (zA 1 (evs_op (st_len (c:=c_Rect) (l:=s0) (x:=(s_Rect s0)) (by kernel_rfl) (by kernel_rfl)) ?_))))))
 refine y1 1 [0,1,7,8] [] (zC ?_)
 obtain ⟨x54,hx54,h⟩:=bindS h
 refine sem_loopS (fun (s37 : Int)=>⟨[(0,s_Rect s0),(1,.fn 93 [(.vptr [(vI f_0_0),(vI f_0_1),(vI f_0_2),(vI f_0_3)] 0)]),(7,vI (s0.length : Int)),(8,vI s37)],[]⟩) (fun (x54 : Unit)=>(.exit 0,⟨[],[]⟩)) (slices_IndexFunc_Lapi_Rect_api_Rect__cut_meets_1_k_l1 s0 f_0_0 f_0_1 f_0_2 f_0_3) 0 x54 (by kernel_rfl) (here (by kernel_rfl)) (iter_loop hx54) ?_ ?_ ?_
 intro s37 r h
 refine y3 1 [0,1,7,8,9] [] (zB (zI (decide (s37 < (s0.length : Int))) (fun hb=>?_) fun hb=>?_))
 replace h:=iteT hb h
 refine y4 [0,1,7,8] [] (zB (zC (y3 2 [0,1,5,7,8] [] (z7 (zA 3 ?_)))))
 obtain ⟨x52,hx52,h⟩:=bindS h
 refine evs_op (st_idx (c:=c_Rect) (l:=s0) (i:=s37) (kd:=.i64) (sz:=4) (by kernel_rfl) hx52 rfl) (zA 1 ?_)
 obtain ⟨r53,hr53,h⟩:=bindS h
 refine evs_callP [] (by kernel_rfl) (W.cut_meets_1_k_ok hr53) (by kernel_rfl) (.inl rfl) (by kernel_rfl) (zP fun τ hτ=>?_)
 refine yE hτ [0,1,5,7,8,16] [] (zI r53 (fun hb=>?_) fun hb=>?_)
 replace h:=iteT hb h
 exact nomatch h
 replace h:=iteF hb h
 refine zM fun τ hτ=>?_
 refine bl_normal (yE hτ [0,1,7,8] [] (zD (z6 2 fun τ hτ=>?_)))
 obtain rfl:=osi h
 exact zH hτ
 replace h:=iteF hb h
 refine zL 0 fun τ hτ=>?_
 refine th_exit ?_
 obtain rfl:=osi h
 exact zF hτ
 intro x
 rfl
 intro τ hτ
 refine zQ (yE hτ [] [] (z8 1 ⟨[(4,vI (-1))],[]⟩ fun τ hτ=>?_))
 obtain rfl:=osi h
 exact zV hτ [(4,vI (-1))]
theorem W.slices_ContainsFunc_Lapi_Rect_api_Rect__cut_meets_1_k_ok {s0 : (List Rect)} {f_0_0 : Int} {f_0_1 : Int} {f_0_2 : Int} {f_0_3 : Int} {r : Bool} (h : slices_ContainsFunc_Lapi_Rect_api_Rect__cut_meets_1_k s0 f_0_0 f_0_1 f_0_2 f_0_3=some r) : PC G.P 92 [(.sl (List.map c_Rect s0)),(.fn 93 [(.vptr [(vI f_0_0),(vI f_0_1),(vI f_0_2),(vI f_0_3)] 0)])] [] (vB r) []:=by
 refine zU G Tryz.func92 (yK [0,1] [] (y3 1 [0,1] [] (z7 (zA 2 ?_))))
 obtain ⟨r2,hr2,h⟩:=bindS h
 refine evs_callP [] (by kernel_rfl) (W.slices_IndexFunc_Lapi_Rect_api_Rect__cut_meets_1_k_ok hr2) (by kernel_rfl) (.inl rfl) (by kernel_rfl) (y1 2 [4] [] (zN fun τ hτ=>?_))
 obtain rfl:=osi h
 exact zV hτ [(4,vB (decide (r2 ≥ 0)))]
theorem W.cut_meets_k_ok {r0 : Rect} {l : (List Rect)} {r : Bool} (h : cut_meets_k r0 l=some r) : PC G.P 43 [(.agg (c_Rect r0)),(.sl (List.map c_Rect l))] [] (vB r) []:=by
 refine zU G Tryz.func43 (yK [0,1] [] (y3 2 [1,2] [2] (z7 (zA 2 ?_))))
 obtain ⟨r2,hr2,h⟩:=bindS h
 refine evs_callP [2] (by kernel_rfl) (W.slices_ContainsFunc_Lapi_Rect_api_Rect__cut_meets_1_k_ok hr2) (by kernel_rfl) (.inr rfl) (by kernel_rfl) (y1 1 [4] [] (zN fun τ hτ=>?_))
 obtain rfl:=osi h
 exact zV hτ [(4,vB r2)]
theorem W.cut_Validate_k_ok {l : LayoutT} {r : Int} (h : cut_Validate_k l=some r) : PC G.P 11 [(.agg (c_LayoutT l))] [] (vI r) []:=by
 refine zU G Tryz.func11 (yK [0] [] (y3 2 [1] [1] (zB (z7 (zA 2 ?_)))))
 obtain ⟨r4,hr4,h⟩:=bindS h
 refine evs_callP [] (by kernel_rfl) (W.nest_ValidateSheet_k_ok hr4) (by kernel_rfl) (.inl rfl) (by kernel_rfl) (y1 1 [1,3] [1] (y3 2 [1,3,22] [1] (zI (r4 != 0) (fun hb=>?_) fun hb=>?_)))
 replace h:=iteT hb h
 exact nomatch h
 replace h:=iteF hb h
 refine y4 [1] [1] (zB (z7 (zA 2 (evs_op (st_len (c:=c_Piece) (l:=l.Pieces) (x:=(s_Piece l.Pieces)) (by kernel_rfl) (by kernel_rfl)) (y1 1 [1,27] [1] (zI (decide ((l.Pieces.length : Int) > 8)) (fun hb=>?_) fun hb=>?_))))))
 replace h:=iteT hb h
 exact nomatch h
 replace h:=iteF hb h
 refine y4 [1] [1] (zB (z7 (zA 2 (evs_op (st_len (c:=c_Piece) (l:=l.Pieces) (x:=(s_Piece l.Pieces)) (by kernel_rfl) (by kernel_rfl)) (y1 1 [1,29,30,31] [1] (zC ?_))))))
 obtain ⟨x58,hx58,h⟩:=bindS h
 refine sem_loopS (fun (s41 : Int)=>⟨[(1,.ptr 500000 0),(29,s_Piece l.Pieces),(30,vI (l.Pieces.length : Int)),(31,vI s41)],[(500000,.box (c_LayoutT l))]⟩) (fun (x58 : Unit)=>(.exit 0,⟨[(1,.ptr 500000 0)],[(500000,.box (c_LayoutT l))]⟩)) (cut_Validate_k_l1 l) 0 x58 (by kernel_rfl) (subR_prep [] [(1,500000)] (by kernel_rfl) rfl rfl (by kernel_rfl)) (iter_loop hx58) ?_ ?_ ?_
 intro s41 r h
 refine y3 1 [1,29,30,31,32] [500000] (zB (zI (decide (s41 < (l.Pieces.length : Int))) (fun hb=>?_) fun hb=>?_))
 replace h:=iteT hb h
 refine y4 [1,29,30,31] [500000] (zB (zC (z7 ?_)))
 obtain ⟨x55,hx55,h⟩:=bindS h
 refine evs_op (st_idx (c:=c_Piece) (l:=l.Pieces) (i:=s41) (kd:=.i64) (sz:=7) (by kernel_rfl) hx55 rfl) (y1 3 [1,5,29,30,31] [5,500000] (z7 (zA 1 ?_)))
 obtain ⟨r57,hr57,h⟩:=bindS h
 refine evs_callP [] (by kernel_rfl) (W.cut_pieceError_k_ok hr57) (by kernel_rfl) (.inl rfl) (by kernel_rfl) (y1 1 [1,6,29,30,31] [500000] (y3 2 [1,6,29,30,31,38] [500000] (zI (r57 != 0) (fun hb=>?_) fun hb=>?_)))
 replace h:=iteT hb h
 exact nomatch h
 replace h:=iteF hb h
 refine zM fun τ hτ=>?_
 refine bl_normal (yE hτ [1,29,30,31] [500000] (zD (z6 2 fun τ hτ=>?_)))
 obtain rfl:=osi h
 exact zH hτ
 replace h:=iteF hb h
 refine zL 0 fun τ hτ=>?_
 refine th_exit ?_
 obtain rfl:=osi h
 exact zF hτ
 intro x
 rfl
 intro τ hτ
 refine zQ (yE hτ [1] [500000] (y3 9 [1,7] [7,500000] (zB (z7 (zA 2 (evs_op (st_len (c:=c_Piece) (l:=l.Pieces) (x:=(s_Piece l.Pieces)) (by kernel_rfl) (by kernel_rfl)) ?_))))))
 refine y1 1 [1,7,49,50,51] [7,500000] (zC ?_)
 obtain ⟨x700,hx700,h⟩:=bindS h
 refine sem_loopS (fun (s487 : Int)=>⟨[(1,.ptr 500000 0),(7,.ptr 500001 0),(49,s_Piece l.Pieces),(50,vI (l.Pieces.length : Int)),(51,vI s487)],[(500000,.box (c_LayoutT l)),(500001,.box [(vI 0),(vI 0),(vI l.Sheet.Width),(vI l.Sheet.Height)])]⟩) (fun (x700 : Unit)=>(.exit 2,⟨[(1,.ptr 500000 0)],[(500000,.box (c_LayoutT l))]⟩)) (cut_Validate_k_l3 l) 0 x700 (by kernel_rfl) (subR_prep [] [(7,500001),(500000,500000)] (by kernel_rfl) rfl rfl (by kernel_rfl)) (iter_loop hx700) ?_ ?_ ?_
 intro s487 r h
 refine y3 1 [1,7,49,50,51,52] [500000,500001] (zB (zI (decide (s487 < (l.Pieces.length : Int))) (fun hb=>?_) fun hb=>?_))
 replace h:=iteT hb h
 refine y4 [1,7,49,50,51] [500000,500001] (zB (zC (z7 ?_)))
 obtain ⟨x648,hx648,h⟩:=bindS h
 refine evs_op (st_idx (c:=c_Piece) (l:=l.Pieces) (i:=s487) (kd:=.i64) (sz:=7) (by kernel_rfl) hx648 rfl) (y1 3 [1,7,9,49,50,51] [9,500000,500001] (z7 (zA 2 (evs_op (st_len (c:=c_Rect) (l:=x648.Rects) (x:=(s_Rect x648.Rects)) (by kernel_rfl) (by kernel_rfl)) (y1 1 [1,7,49,50,51,56,57,58] [500000,500001] (zC ?_))))))
 obtain ⟨x699,hx699,h⟩:=bindS h
 refine sem_loopS (fun (s666 : Int)=>⟨[(1,.ptr 500000 0),(7,.ptr 500001 0),(49,s_Piece l.Pieces),(50,vI (l.Pieces.length : Int)),(51,vI s487),(56,s_Rect x648.Rects),(57,vI (x648.Rects.length : Int)),(58,vI s666)],[(500000,.box (c_LayoutT l)),(500001,.box [(vI 0),(vI 0),(vI l.Sheet.Width),(vI l.Sheet.Height)])]⟩) (fun (x699 : Unit)=>(.exit 4,⟨[(1,.ptr 500000 0),(7,.ptr 500001 0),(49,s_Piece l.Pieces),(50,vI (l.Pieces.length : Int)),(51,vI s487)],[(500000,.box (c_LayoutT l)),(500001,.box [(vI 0),(vI 0),(vI l.Sheet.Width),(vI l.Sheet.Height)])]⟩)) (cut_Validate_k_l2 l x648) 0 x699 (by kernel_rfl) (here (by kernel_rfl)) (iter_loop hx699) ?_ ?_ ?_
 intro s666 r h
 refine y3 1 [1,7,49,50,51,56,57,58,59] [500000,500001] (zB (zI (decide (s666 < (x648.Rects.length : Int))) (fun hb=>?_) fun hb=>?_))
 replace h:=iteT hb h
 refine y4 [1,7,49,50,51,56,57,58] [500000,500001] (zB (zC (z7 ?_)))
 obtain ⟨x692,hx692,h⟩:=bindS h
 refine evs_op (st_idx (c:=c_Rect) (l:=x648.Rects) (i:=s666) (kd:=.i64) (sz:=4) (by kernel_rfl) hx692 rfl) (y1 3 [1,7,11,49,50,51,56,57,58] [11,500000,500001] (z7 (zA 2 ?_)))
 obtain ⟨r696,hr696,h⟩:=bindS h
 refine evs_callP [] (by kernel_rfl) (W.geom_Inside_k_ok hr696) (by kernel_rfl) (.inl rfl) (by kernel_rfl) (zA 2 (zS r696 (fun b0=>⟨[(1,.ptr 500000 0),(7,.ptr 500001 0),(11,.ptr 11 0),(49,s_Piece l.Pieces),(50,vI (l.Pieces.length : Int)),(51,vI s487),(56,s_Rect x648.Rects),(57,vI (x648.Rects.length : Int)),(58,vI s666),(66,vB (!b0))],[(11,.box (c_Rect x692)),(500000,.box (c_LayoutT l)),(500001,.box [(vI 0),(vI 0),(vI l.Sheet.Width),(vI l.Sheet.Height)])]⟩) (fun hb=>?_) fun hb=>?_))
 replace h:=iteT hb h
 refine zA 4 ?_
 obtain ⟨r697,hr697,h⟩:=bindS h
 refine evs_callP [] (by kernel_rfl) (W.cut_meets_k_ok hr697) (by kernel_rfl) (.inl rfl) (by kernel_rfl) (zA 2 (zS r697 (fun b0=>⟨[(1,.ptr 500000 0),(7,.ptr 500001 0),(11,.ptr 11 0),(49,s_Piece l.Pieces),(50,vI (l.Pieces.length : Int)),(51,vI s487),(56,s_Rect x648.Rects),(57,vI (x648.Rects.length : Int)),(58,vI s666),(73,vB b0)],[(11,.box (c_Rect x692)),(500000,.box (c_LayoutT l)),(500001,.box [(vI 0),(vI 0),(vI l.Sheet.Width),(vI l.Sheet.Height)])]⟩) (fun hb=>?_) fun hb=>?_))
 replace h:=iteT hb h
 exact nomatch h
 replace h:=iteF hb h
 refine zA 4 ?_
 obtain ⟨r698,hr698,h⟩:=bindS h
 refine evs_callP [] (by kernel_rfl) (W.cut_meets_k_ok hr698) (by kernel_rfl) (.inl rfl) (by kernel_rfl) (y1 1 [1,7,49,50,51,56,57,58,79] [500000,500001] (zI r698 (fun hb=>?_) fun hb=>?_))
 replace h:=iteT hb h
 exact nomatch h
 replace h:=iteF hb h
 refine zM fun τ hτ=>?_
 refine bl_normal (yE hτ [1,7,49,50,51,56,57,58] [500000,500001] (zD (z6 2 fun τ hτ=>?_)))
 obtain rfl:=osi h
 exact zH hτ
 replace h:=iteF hb h
 exact nomatch h
 replace h:=iteF hb h
 refine zL 4 fun τ hτ=>?_
 refine th_exit ?_
 obtain rfl:=osi h
 exact zF hτ
 intro x
 rfl
 intro τ hτ
 refine zQ (bl_normal (yE hτ [1,7,49,50,51] [500000,500001] (zD (z6 2 fun τ hτ=>?_))))
 obtain rfl:=osi h
 exact zH hτ
 replace h:=iteF hb h
 refine zL 2 fun τ hτ=>?_
 refine th_exit ?_
 obtain rfl:=osi h
 exact zF hτ
 intro x
 rfl
 intro τ hτ
 refine zQ (yE hτ [1] [500000] (zB (z7 (zA 2 (evs_op (st_len (c:=c_Piece) (l:=l.Pieces) (x:=(s_Piece l.Pieces)) (by kernel_rfl) (by kernel_rfl)) (y1 1 [1,83,84,85] [500000] ?_))))))
 refine zC ?_
 obtain ⟨x2878,hx2878,h⟩:=bindS h
 refine sem_loopS (fun (s2153 : Int)=>⟨[(1,.ptr 500000 0),(83,s_Piece l.Pieces),(84,vI (l.Pieces.length : Int)),(85,vI s2153)],[(500000,.box (c_LayoutT l))]⟩) (fun (x2878 : Unit)=>(.exit 6,⟨[],[]⟩)) (cut_Validate_k_l6 l) 0 x2878 (by kernel_rfl) (here (by kernel_rfl)) (iter_loop hx2878) ?_ ?_ ?_
 intro s2153 r h
 refine y3 1 [1,83,84,85,86] [500000] (zB (zI (decide (s2153 < (l.Pieces.length : Int))) (fun hb=>?_) fun hb=>?_))
 replace h:=iteT hb h
 refine y4 [1,83,84,85] [500000] (zB (zC (z7 (zA 1 ?_))))
 obtain ⟨x2698,hx2698,h⟩:=bindS h
 refine evs_op (st_idx (c:=c_Piece) (l:=l.Pieces) (i:=s2153) (kd:=.i64) (sz:=7) (by kernel_rfl) hx2698 rfl) (y1 4 [1,12,13,83,84,85] [13,500000] (z7 (zA 3 ?_)))
 obtain ⟨l2700,hl2700,h⟩:=bindS h
 refine evs_op (st_slH (c:=c_Piece) (l:=l.Pieces) (sz:=7) (hi:=s2153) (k2:=.i64) (by kernel_rfl) hl2700) (evs_op (st_len (c:=c_Piece) (l:=l2700) (x:=(s_Piece l2700)) (by kernel_rfl) (by kernel_rfl)) (y1 1 [1,13,83,84,85,93,94,95] [13,500000] (zC ?_)))
 obtain ⟨x2877,hx2877,h⟩:=bindS h
 refine sem_loopS (fun (s2760 : Int)=>⟨[(1,.ptr 500000 0),(13,.ptr 500001 0),(83,s_Piece l.Pieces),(84,vI (l.Pieces.length : Int)),(85,vI s2153),(93,s_Piece l2700),(94,vI (l2700.length : Int)),(95,vI s2760)],[(500000,.box (c_LayoutT l)),(500001,.box (c_Piece x2698))]⟩) (fun (x2877 : Unit)=>(.exit 8,⟨[(1,.ptr 500000 0),(83,s_Piece l.Pieces),(84,vI (l.Pieces.length : Int)),(85,vI s2153)],[(500000,.box (c_LayoutT l))]⟩)) (cut_Validate_k_l5 x2698 l2700) 0 x2877 (by kernel_rfl) (subR_prep [] [(13,500001),(500000,500000)] (by kernel_rfl) rfl rfl (by kernel_rfl)) (iter_loop hx2877) ?_ ?_ ?_
 intro s2760 r h
 refine y3 1 [1,13,83,84,85,93,94,95,96] [500000,500001] (zB (zI (decide (s2760 < (l2700.length : Int))) (fun hb=>?_) fun hb=>?_))
 replace h:=iteT hb h
 refine y4 [1,13,83,84,85,93,94,95] [500000,500001] (zB (zC (z7 ?_)))
 obtain ⟨x2849,hx2849,h⟩:=bindS h
 refine evs_op (st_idx (c:=c_Piece) (l:=l2700) (i:=s2760) (kd:=.i64) (sz:=7) (by kernel_rfl) hx2849 rfl) (y1 3 [1,13,15,83,84,85,93,94,95] [15,500000,500001] (z7 (zA 2 (evs_op (st_len (c:=c_Rect) (l:=x2698.Rects) (x:=(s_Rect x2698.Rects)) (by kernel_rfl) (by kernel_rfl)) (y1 1 [1,13,15,83,84,85,93,94,95,100,101,102] [15,500000,500001] (zC ?_))))))
 obtain ⟨x2876,hx2876,h⟩:=bindS h
 refine sem_loopS (fun (s2859 : Int)=>⟨[(1,.ptr 500000 0),(13,.ptr 500001 0),(15,.ptr 500002 0),(83,s_Piece l.Pieces),(84,vI (l.Pieces.length : Int)),(85,vI s2153),(93,s_Piece l2700),(94,vI (l2700.length : Int)),(95,vI s2760),(100,s_Rect x2698.Rects),(101,vI (x2698.Rects.length : Int)),(102,vI s2859)],[(500000,.box (c_LayoutT l)),(500001,.box (c_Piece x2698)),(500002,.box (c_Piece x2849))]⟩) (fun (x2876 : Unit)=>(.exit 10,⟨[(1,.ptr 500000 0),(13,.ptr 500001 0),(83,s_Piece l.Pieces),(84,vI (l.Pieces.length : Int)),(85,vI s2153),(93,s_Piece l2700),(94,vI (l2700.length : Int)),(95,vI s2760)],[(500000,.box (c_LayoutT l)),(500001,.box (c_Piece x2698))]⟩)) (cut_Validate_k_l4 x2698 x2849) 0 x2876 (by kernel_rfl) (subR_prep [] [(15,500002),(500000,500000),(500001,500001)] (by kernel_rfl) rfl rfl (by kernel_rfl)) (iter_loop hx2876) ?_ ?_ ?_
 intro s2859 r h
 refine y3 1 [1,13,15,83,84,85,93,94,95,100,101,102,103] [500000,500001,500002] (zB (zI (decide (s2859 < (x2698.Rects.length : Int))) (fun hb=>?_) fun hb=>?_))
 replace h:=iteT hb h
 refine y4 [1,13,15,83,84,85,93,94,95,100,101,102] [500000,500001,500002] (zB (zC (z7 ?_)))
 obtain ⟨x2873,hx2873,h⟩:=bindS h
 refine evs_op (st_idx (c:=c_Rect) (l:=x2698.Rects) (i:=s2859) (kd:=.i64) (sz:=4) (by kernel_rfl) hx2873 rfl) (y1 3 [1,13,15,17,83,84,85,93,94,95,100,101,102] [17,500000,500001,500002] (z7 (zA 3 ?_)))
 obtain ⟨r2875,hr2875,h⟩:=bindS h
 refine evs_callP [] (by kernel_rfl) (W.cut_meets_k_ok hr2875) (by kernel_rfl) (.inl rfl) (by kernel_rfl) (zP fun τ hτ=>?_)
 refine yE hτ [1,13,15,83,84,85,93,94,95,100,101,102,109] [500000,500001,500002] (zI r2875 (fun hb=>?_) fun hb=>?_)
 replace h:=iteT hb h
 exact nomatch h
 replace h:=iteF hb h
 refine zM fun τ hτ=>?_
 refine bl_normal (yE hτ [1,13,15,83,84,85,93,94,95,100,101,102] [500000,500001,500002] (zD (z6 2 fun τ hτ=>?_)))
 obtain rfl:=osi h
 exact zH hτ
 replace h:=iteF hb h
 refine zL 10 fun τ hτ=>?_
 refine th_exit ?_
 obtain rfl:=osi h
 exact zF hτ
 intro x
 rfl
 intro τ hτ
 refine zQ (bl_normal (yE hτ [1,13,83,84,85,93,94,95] [500000,500001] (zD (z6 2 fun τ hτ=>?_))))
 obtain rfl:=osi h
 exact zH hτ
 replace h:=iteF hb h
 refine zL 8 fun τ hτ=>?_
 refine th_exit ?_
 obtain rfl:=osi h
 exact zF hτ
 intro x
 rfl
 intro τ hτ
 refine zQ (bl_normal (yE hτ [1,83,84,85] [500000] (zD (z6 2 fun τ hτ=>?_))))
 obtain rfl:=osi h
 exact zH hτ
 replace h:=iteF hb h
 refine zL 6 fun τ hτ=>?_
 refine th_exit ?_
 obtain rfl:=osi h
 exact zF hτ
 intro x
 rfl
 intro τ hτ
 refine zQ (yE hτ [] [] (z8 1 ⟨[(2,vI 0)],[]⟩ fun τ hτ=>?_))
 obtain rfl:=osi h
 exact zV hτ [(2,vI 0)]
theorem W.bits_Len64_k_ok {x0 : Int} {r : Int} (h : bits_Len64_k x0=some r) : PC G.P 199 [(vK .u64 x0)] [] (vI r) []:=by
 refine zU G Tryz.func199 (yK [0] [] (y3 1 [0,2] [] (zB (y3 2 [0,2,4] [] (zI (decide (x0 ≥ 4294967296)) (fun hb=>?_) fun hb=>?_)))))
 replace h:=iteT hb h
 exact nomatch h
 replace h:=iteF hb h
 refine y4 [0,2] [] (zB (y3 2 [0,2,8] [] (zI (decide (x0 ≥ 65536)) (fun hb=>?_) fun hb=>?_)))
 replace h:=iteT hb h
 exact nomatch h
 replace h:=iteF hb h
 refine y4 [0,2] [] (zB (y3 2 [0,2,14] [] (zI (decide (x0 ≥ 256)) (fun hb=>?_) fun hb=>?_)))
 replace h:=iteT hb h
 exact nomatch h
 replace h:=iteF hb h
 refine y4 [0,2] [] (z7 (zA 3 ?_))
 obtain ⟨x2,hx2,h⟩:=bindS h
 refine evs_at (at_sidx (s:=(ByteArray.mk #[0,1,2,2,3,3,3,3,4,4,4,4,4,4,4,4,5,5,5,5,5,5,5,5,5,5,5,5,5,5,5,5,6,6,6,6,6,6,6,6,6,6,6,6,6,6,6,6,6,6,6,6,6,6,6,6,6,6,6,6,6,6,6,6,7,7,7,7,7,7,7,7,7,7,7,7,7,7,7,7,7,7,7,7,7,7,7,7,7,7,7,7,7,7,7,7,7,7,7,7,7,7,7,7,7,7,7,7,7,7,7,7,7,7,7,7,7,7,7,7,7,7,7,7,7,7,7,7,8,8,8,8,8,8,8,8,8,8,8,8,8,8,8,8,8,8,8,8,8,8,8,8,8,8,8,8,8,8,8,8,8,8,8,8,8,8,8,8,8,8,8,8,8,8,8,8,8,8,8,8,8,8,8,8,8,8,8,8,8,8,8,8,8,8,8,8,8,8,8,8,8,8,8,8,8,8,8,8,8,8,8,8,8,8,8,8,8,8,8,8,8,8,8,8,8,8,8,8,8,8,8,8,8,8,8,8,8,8,8,8,8,8,8,8,8,8,8,8,8,8,8,8,8,8,8,8])) (i:=(IntKind.wrap .u8 x0)) (kd:=.u8) (by kernel_rfl) hx2) (y1 3 [2] [] (zN fun τ hτ=>?_))
 obtain rfl:=osi h
 exact zV hτ [(2,vI (iadd 0 (IntKind.wrap .i64 x2)))]
theorem W.bits_Len_k_ok {x0 : Int} {r : Int} (h : bits_Len_k x0=some r) : PC G.P 181 [(vK .u64 x0)] [] (vI r) []:=by
 refine zU G Tryz.func181 (yK [0] [] (y3 1 [0] [] (zB (sem_condF (by kernel_rfl) (by kernel_rfl) (y4 [0] [] (z7 ?_))))))
 refine zA 1 ?_
 obtain ⟨r2,hr2,h⟩:=bindS h
 refine evs_callP [] (by kernel_rfl) (W.bits_Len64_k_ok hr2) (by kernel_rfl) (.inl rfl) (by kernel_rfl) (y1 1 [2] [] (zN fun τ hτ=>?_))
 obtain rfl:=osi h
 exact zV hτ [(2,vI r2)]
theorem W.cmp_isNaN_int_k_ok {x0 : Int} {r : Bool} (h : cmp_isNaN_int_k x0=some r) : PC G.P 165 [(vI x0)] [] (vB r) []:=by
 refine zU G Tryz.func165 (yK [0] [] (y3 1 [0] [] (z8 4 ⟨[(2,vB (x0 != x0))],[]⟩ fun τ hτ=>?_)))
 obtain rfl:=osi h
 exact zV hτ [(2,vB (x0 != x0))]
theorem W.cmp_Compare_int_k_ok {x0 : Int} {y : Int} {r : Int} (h : cmp_Compare_int_k x0 y=some r) : PC G.P 129 [(vI x0),(vI y)] [] (vI r) []:=by
 refine zU G Tryz.func129 (yK [0,1] [] (y3 1 [0,1] [] (z7 (zA 1 ?_))))
 obtain ⟨r2,hr2,h⟩:=bindS h
 refine evs_callP [] (by kernel_rfl) (W.cmp_isNaN_int_k_ok hr2) (by kernel_rfl) (.inl rfl) (by kernel_rfl) (y1 1 [0,1,5] [] (z7 (zA 1 ?_)))
 obtain ⟨r4,hr4,h⟩:=bindS h
 refine evs_callP [] (by kernel_rfl) (W.cmp_isNaN_int_k_ok hr4) (by kernel_rfl) (.inl rfl) (by kernel_rfl) (y1 1 [0,1,5,6] [] (zB (y3 1 [0,1,6,11] [] (zI r2 (fun hb=>?_) fun hb=>?_))))
 replace h:=iteT hb h
 exact nomatch h
 replace h:=iteF hb h
 refine y4 [0,1,6] [] (zB (y3 1 [0,1,13] [] (zI r4 (fun hb=>?_) fun hb=>?_)))
 replace h:=iteT hb h
 exact nomatch h
 replace h:=iteF hb h
 refine y4 [0,1] [] (zB (y3 3 [0,1,16] [] (zI (decide (x0 < y)) (fun hb=>?_) fun hb=>?_)))
 replace h:=iteT hb h
 refine z8 1 ⟨[(4,vI (-1))],[]⟩ fun τ hτ=>?_
 refine th_ret ?_
 obtain rfl:=osi h
 exact zV hτ [(4,vI (-1))]
 replace h:=iteF hb h
 refine y4 [0,1] [] (zB (y3 3 [19] [] (zI (decide (x0 > y)) (fun hb=>?_) fun hb=>?_)))
 replace h:=iteT hb h
 refine z8 1 ⟨[(4,vI 1)],[]⟩ fun τ hτ=>?_
 refine th_ret ?_
 obtain rfl:=osi h
 exact zV hτ [(4,vI 1)]
 replace h:=iteF hb h
 refine y4 [] [] (z8 1 ⟨[(4,vI 0)],[]⟩ fun τ hτ=>?_)
 obtain rfl:=osi h
 exact zV hτ [(4,vI 0)]
theorem W.slices_insertionSortCmpFunc_int__cmp_Compare_int_k_ok {a : Int} {b : Int} {h0 : (List Int)} {r : (List Int)} (h : slices_insertionSortCmpFunc_int__cmp_Compare_int_k a b h0=some r) : PC G.P 190 [(.row (.top 1000000) 3),(vI a),(vI b),(.fn 129 [])] [(1000000,.row 3 [] (List.map cI h0))] (.tup []) [(1000000,.row 3 [] (List.map cI r))]:=by
 refine zU G Tryz.func190 (yK [0,1,2,3] [1000000] (y3 3 [0,1,2,3,8] [1000000] (zC ?_)))
 obtain ⟨x777,hx777,h⟩:=bindS h
 refine sem_loopS (fun (s260 : Int×(List Int))=>⟨[(0,ro 1000000 3),(1,vI a),(2,vI b),(3,.fn 129 []),(8,vI s260.1)],[(1000000,wI 3 s260.2)]⟩) (fun (x777 : (List Int))=>(.exit 0,⟨[],[(1000000,wI 3 x777)]⟩)) (slices_insertionSortCmpFunc_int__cmp_Compare_int_k_l2 a b) ((iadd a 1),h0) x777 (by kernel_rfl) (here (by kernel_rfl)) (iter_loop hx777) ?_ ?_ ?_
 intro s260 r h
 refine zB (y3 3 [0,1,2,3,8,14] [1000000] (zI (decide (s260.1 < b)) (fun hb=>?_) fun hb=>?_))
 replace h:=iteT hb h
 refine y4 [0,1,2,3,8] [1000000] (zB (zC (y3 2 [0,1,2,3,8,9] [1000000] (zC ?_))))
 obtain ⟨x776,hx776,h⟩:=bindS h
 refine sem_loopS (fun (s691 : Int×(List Int))=>⟨[(0,ro 1000000 3),(1,vI a),(2,vI b),(3,.fn 129 []),(8,vI s260.1),(9,vI s691.1)],[(1000000,wI 3 s691.2)]⟩) (fun (x776 : (List Int))=>(.exit 2,⟨[(0,ro 1000000 3),(1,vI a),(2,vI b),(3,.fn 129 []),(8,vI s260.1)],[(1000000,wI 3 x776)]⟩)) (slices_insertionSortCmpFunc_int__cmp_Compare_int_k_l1 a) (s260.1,s260.2) x776 (by kernel_rfl) (here (by kernel_rfl)) (iter_loop hx776) ?_ ?_ ?_
 intro s691 r h
 refine zB (zB (sem_drawN [] [] [] [] [] 14 (by kernel_rfl) (by kernel_rfl) (by kernel_rfl) (evd_run 4 (by kernel_rfl) (evd_split (decide (s691.1 > a)) (fun b0=>⟨[(21,vB b0),(20,vB b0),(19,vI a),(18,vI s691.1),(0,ro 1000000 3),(1,vI a),(2,vI b),(3,.fn 129 []),(8,vI s260.1),(9,vI s691.1)],[(1000000,wI 3 s691.2)]⟩) (by kernel_rfl) (fun hb=>?_) fun hb=>?_))))
 replace h:=iteT hb h
 refine evd_run 3 (by kernel_rfl) ?_
 obtain ⟨x749,hx749,h⟩:=bindS h
 refine evd_val (by kernel_rfl) (st_idxO (c:=cI) (l:=s691.2) (i:=s691.1) (kd:=.i64) (kk:=(.top 1000000)) (e:=3) (sz:=1) (by kernel_rfl) (by kernel_rfl) hx749 rfl) (by kernel_rfl) (by kernel_rfl) (evd_val (by kernel_rfl) (st_ldO (c:=cI) (l:=s691.2) (i:=(Int.toNat s691.1)) (v:=(vI x749)) (agg:=false) (sz:=1) (kk:=(.top 1000000)) (e:=3) (off:=0) (J:=[]) (by kernel_rfl) (by kernel_rfl) (by kernel_rfl) ((idxS hx749).2) (by kernel_rfl)) (by kernel_rfl) (by kernel_rfl) (evd_run 3 (by kernel_rfl) ?_))
 obtain ⟨x750,hx750,h⟩:=bindS h
 refine evd_val (by kernel_rfl) (st_idxO (c:=cI) (l:=s691.2) (i:=(isub s691.1 1)) (kd:=.i64) (kk:=(.top 1000000)) (e:=3) (sz:=1) (by kernel_rfl) (by kernel_rfl) hx750 rfl) (by kernel_rfl) (by kernel_rfl) (evd_val (by kernel_rfl) (st_ldO (c:=cI) (l:=s691.2) (i:=(Int.toNat (isub s691.1 1))) (v:=(vI x750)) (agg:=false) (sz:=1) (kk:=(.top 1000000)) (e:=3) (off:=0) (J:=[]) (by kernel_rfl) (by kernel_rfl) (by kernel_rfl) ((idxS hx750).2) (by kernel_rfl)) (by kernel_rfl) (by kernel_rfl) (evd_end (by kernel_rfl) ?_))
 obtain ⟨r751,hr751,h⟩:=bindS h
 refine evo_callP [] (by kernel_rfl) (W.cmp_Compare_int_k_ok hr751) (by kernel_rfl) (.inl rfl) (by kernel_rfl) (evo_run 2 (by kernel_rfl) (zO fun τ hτ=>?_))
 refine yE hτ [0,1,2,3,8,9,34] [1000000] (zI (decide (r751 < 0)) (fun hb=>?_) fun hb=>?_)
 replace h:=iteT hb h
 refine y4 [0,1,2,3,8,9] [1000000] (zB (zC (sem_drawN [(15,[1000000])] [] [] [(2,[1000000]),(3,[1000000]),(4,[1000000])] [] 16 (by kernel_rfl) (by kernel_rfl) (by kernel_rfl) (evd_run 8 (by kernel_rfl) ?_))))
 obtain ⟨x772,hx772,h⟩:=bindS h
 refine evd_val (by kernel_rfl) (st_idxO (c:=cI) (l:=s691.2) (i:=(isub s691.1 1)) (kd:=.i64) (kk:=(.top 1000000)) (e:=3) (sz:=1) (by kernel_rfl) (by kernel_rfl) hx772 rfl) (by kernel_rfl) (by kernel_rfl) (evd_val (by kernel_rfl) (st_ldO (c:=cI) (l:=s691.2) (i:=(Int.toNat (isub s691.1 1))) (v:=(vI x772)) (agg:=false) (sz:=1) (kk:=(.top 1000000)) (e:=3) (off:=0) (J:=[]) (by kernel_rfl) (by kernel_rfl) (by kernel_rfl) ((idxS hx772).2) (by kernel_rfl)) (by kernel_rfl) (by kernel_rfl) (evd_run 2 (by kernel_rfl) ?_))
 obtain ⟨x773,hx773,h⟩:=bindS h
 refine evd_val (by kernel_rfl) (st_idxO (c:=cI) (l:=s691.2) (i:=s691.1) (kd:=.i64) (kk:=(.top 1000000)) (e:=3) (sz:=1) (by kernel_rfl) (by kernel_rfl) hx773 rfl) (by kernel_rfl) (by kernel_rfl) (evd_val (by kernel_rfl) (st_ldO (c:=cI) (l:=s691.2) (i:=(Int.toNat s691.1)) (v:=(vI x773)) (agg:=false) (sz:=1) (kk:=(.top 1000000)) (e:=3) (off:=0) (J:=[]) (by kernel_rfl) (by kernel_rfl) (by kernel_rfl) ((idxS hx773).2) (by kernel_rfl)) (by kernel_rfl) (by kernel_rfl) ?_)
 obtain ⟨x774,hx774,h⟩:=bindS h
 refine evd_val (by kernel_rfl) (st_idxO (c:=cI) (l:=s691.2) (i:=s691.1) (kd:=.i64) (kk:=(.top 1000000)) (e:=3) (sz:=1) (by kernel_rfl) (by kernel_rfl) hx774 rfl) (by kernel_rfl) (by kernel_rfl) (evd_set (by kernel_rfl) (st_stO (c:=cI) (l:=s691.2) (i:=(Int.toNat s691.1)) (x:=x774) (x':=x772) (v:=(vI x772)) (agg:=false) (sz:=1) (kk:=(.top 1000000)) (e:=3) (off:=0) (J:=[]) (o:=wI 3 (List.set s691.2 (Int.toNat s691.1) x772)) (by kernel_rfl) (by kernel_rfl) (by kernel_rfl) ((idxS hx774).2) (by kernel_rfl) (by kernel_rfl) (by kernel_rfl)) (by kernel_rfl) (by kernel_rfl) (by kernel_rfl) (evd_end (by kernel_rfl) ?_))
 obtain ⟨x775,hx775,h⟩:=bindS h
 refine evo_op (st_idxO (c:=cI) (l:=(List.set s691.2 (Int.toNat s691.1) x772)) (i:=(isub s691.1 1)) (kd:=.i64) (kk:=(.top 1000000)) (e:=3) (sz:=1) (by kernel_rfl) (by kernel_rfl) hx775 rfl) (evo_op (st_stO (c:=cI) (l:=(List.set s691.2 (Int.toNat s691.1) x772)) (i:=(Int.toNat (isub s691.1 1))) (x:=x775) (x':=x773) (v:=(vI x773)) (agg:=false) (sz:=1) (kk:=(.top 1000000)) (e:=3) (off:=0) (J:=[]) (o:=wI 3 (List.set (List.set s691.2 (Int.toNat s691.1) x772) (Int.toNat (isub s691.1 1)) x773)) (by kernel_rfl) (by kernel_rfl) (by kernel_rfl) ((idxS hx775).2) (by kernel_rfl) (by kernel_rfl) (by kernel_rfl)) (zO fun τ hτ=>?_))
 refine bl_normal (yE hτ [0,1,2,3,8,9] [1000000] (zD (z6 3 fun τ hτ=>?_)))
 obtain rfl:=osi h
 exact zH hτ
 replace h:=iteF hb h
 refine zL 2 fun τ hτ=>?_
 refine th_exit ?_
 obtain rfl:=osi h
 exact zF hτ
 replace h:=iteF hb h
 exact nomatch h
 intro x
 rfl
 intro τ hτ
 refine zQ (bl_normal (yE hτ [0,1,2,3,8] [1000000] (zD (z6 3 fun τ hτ=>?_))))
 obtain rfl:=osi h
 exact zH hτ
 replace h:=iteF hb h
 refine zL 0 fun τ hτ=>?_
 refine th_exit ?_
 obtain rfl:=osi h
 exact zF hτ
 intro x
 rfl
 intro τ hτ
 refine zQ ?_
 obtain rfl:=osi h
 exact rk_normal hτ [] (here (by kernel_rfl)) (by kernel_rfl)
theorem W.slices_pdqsortCmpFunc_int__cmp_Compare_int_k_ok {a : Int} {b : Int} {limit : Int} {h0 : (List Int)} {r : (List Int)} (h : slices_pdqsortCmpFunc_int__cmp_Compare_int_k a b limit h0=some r) : PC G.P 180 [(.row (.top 1000000) 3),(vI a),(vI b),(vI limit),(.fn 129 [])] [(1000000,.row 3 [] (List.map cI h0))] (.tup []) [(1000000,.row 3 [] (List.map cI r))]:=by
 refine zU G Tryz.func180 (yK [0,1,2,3,4] [1000000] (y3 1 [0,1,2,3,4,10] [1000000] (y3 1 [0,1,2,3,4,10,11] [1000000] (zC ?_))))
 obtain ⟨x10,hx10,h⟩:=bindS h
 refine sem_loopS (fun (s1 : Unit)=>⟨[(0,ro 1000000 3),(1,vI a),(2,vI b),(3,vI limit),(4,.fn 129 []),(10,vB true),(11,vB true)],[(1000000,wI 3 h0)]⟩) (fun (x10 : (List Int))=>(.ret,⟨[],[(1000000,wI 3 x10)]⟩)) (slices_pdqsortCmpFunc_int__cmp_Compare_int_k_l1 a b h0) () x10 (by kernel_rfl) (here (by kernel_rfl)) (iter_loop hx10) ?_ ?_ ?_
 intro s1 r h
 refine zC (y3 4 [0,1,2,3,4,10,11,12] [1000000] (zB (y3 2 [0,1,2,3,4,10,11,12,25] [1000000] (zI (decide ((isub b a)≤12)) (fun hb=>?_) fun hb=>?_))))
 replace h:=iteT hb h
 refine z7 (zA 4 ?_)
 obtain ⟨r9,hr9,h⟩:=bindS h
 refine evs_callS [(1000000,1000000)] [] [] (by kernel_rfl) (W.slices_insertionSortCmpFunc_int__cmp_Compare_int_k_ok hr9) (by kernel_rfl) (by kernel_rfl) (.inl rfl) (zP fun τ hτ=>?_)
 refine yE hτ [] [1000000] (zN fun τ hτ=>?_)
 refine th_ret (bl_ret ?_)
 obtain rfl:=osi h
 exact zF hτ
 replace h:=iteF hb h
 exact nomatch h
 intro x
 rfl
 intro τ hτ
 refine bl_ret ?_
 obtain rfl:=osi h
 exact zV hτ []
theorem W.slices_SortFunc_Lint_int__cmp_Compare_int_k_ok {h0 : (List Int)} {r : (List Int)} (h : slices_SortFunc_Lint_int__cmp_Compare_int_k h0=some r) : PC G.P 151 [(.row (.top 1000000) 3),(.fn 129 [])] [(1000000,.row 3 [] (List.map cI h0))] (.tup []) [(1000000,.row 3 [] (List.map cI r))]:=by
 refine zU G Tryz.func151 (yK [0,1] [1000000] (z7 (zA 1 (evs_op (st_len (c:=cI) (l:=h0) (x:=(ro 1000000 3)) (by kernel_rfl) (by kernel_rfl)) (y1 1 [0,1,4] [1000000] (zD ?_))))))
 refine zA 4 ?_
 obtain ⟨r3,hr3,h⟩:=bindS h
 refine evs_callP [] (by kernel_rfl) (W.bits_Len_k_ok hr3) (by kernel_rfl) (.inl rfl) (by kernel_rfl) (zA 1 ?_)
 obtain ⟨r4,hr4,h⟩:=bindS h
 refine evs_callS [(1000000,1000000)] [] [] (by kernel_rfl) (W.slices_pdqsortCmpFunc_int__cmp_Compare_int_k_ok hr4) (by kernel_rfl) (by kernel_rfl) (.inl rfl) (zP fun τ hτ=>?_)
 obtain rfl:=osi h
 exact rk_normal hτ [] (here (by kernel_rfl)) (by kernel_rfl)
theorem W.slices_Compact_Lint_int_k_ok {h0 : (List Int)} {r : (List Int)} (h : slices_Compact_Lint_int_k h0=some r) : PC G.P 152 [(.row (.top 300000) 3)] [(300000,.row 3 [] (List.map cI h0))] (.row (.top 0) 3) [(0,.row 3 [] (List.map cI r))]:=by
 refine zU G Tryz.func152 (yK [0] [300000] (y3 1 [0] [300000] (zB (z7 (zA 1 (evs_op (st_len (c:=cI) (l:=h0) (x:=(ro 300000 3)) (by kernel_rfl) (by kernel_rfl)) ?_))))))
 refine y1 1 [0,8] [300000] (zI (decide ((h0.length : Int) < 2)) (fun hb=>?_) fun hb=>?_)
 replace h:=iteT hb h
 exact nomatch h
 replace h:=iteF hb h
 refine y4 [0] [300000] (zB (y3 1 [0,3] [300000] (zC ?_)))
 obtain ⟨x1686,hx1686,h⟩:=bindS h
 refine sem_loopS (fun (s1125 : Int)=>⟨[(0,ro 500000 3),(3,vI s1125)],[(500000,wI 3 h0)]⟩) (fun (x1686 : (List Int))=>(.ret,⟨[(2,ro 500000 3)],[(500000,wI 3 x1686)]⟩)) (slices_Compact_Lint_int_k_l3 h0) 1 x1686 (by kernel_rfl) (subR_prep [] [(300000,500000)] (by kernel_rfl) rfl rfl (by kernel_rfl)) (iter_loop hx1686) ?_ ?_ ?_
 intro s1125 r h
 refine zB (z7 (zA 2 (evs_op (st_len (c:=cI) (l:=h0) (x:=(ro 500000 3)) (by kernel_rfl) (by kernel_rfl)) (y1 1 [0,3,13] [500000] (zI (decide (s1125 < (h0.length : Int))) (fun hb=>?_) fun hb=>?_)))))
 replace h:=iteT hb h
 refine y4 [0,3] [500000] (zB (zC (zB (sem_drawN [] [] [] [] [] 9 (by kernel_rfl) (by kernel_rfl) (by kernel_rfl) (evd_run 2 (by kernel_rfl) ?_)))))
 obtain ⟨x1550,hx1550,h⟩:=bindS h
 refine evd_val (by kernel_rfl) (st_idxO (c:=cI) (l:=h0) (i:=s1125) (kd:=.i64) (kk:=(.top 500000)) (e:=3) (sz:=1) (by kernel_rfl) (by kernel_rfl) hx1550 rfl) (by kernel_rfl) (by kernel_rfl) (evd_val (by kernel_rfl) (st_ldO (c:=cI) (l:=h0) (i:=(Int.toNat s1125)) (v:=(vI x1550)) (agg:=false) (sz:=1) (kk:=(.top 500000)) (e:=3) (off:=0) (J:=[]) (by kernel_rfl) (by kernel_rfl) (by kernel_rfl) ((idxS hx1550).2) (by kernel_rfl)) (by kernel_rfl) (by kernel_rfl) (evd_run 3 (by kernel_rfl) ?_))
 obtain ⟨x1551,hx1551,h⟩:=bindS h
 refine evd_val (by kernel_rfl) (st_idxO (c:=cI) (l:=h0) (i:=(isub s1125 1)) (kd:=.i64) (kk:=(.top 500000)) (e:=3) (sz:=1) (by kernel_rfl) (by kernel_rfl) hx1551 rfl) (by kernel_rfl) (by kernel_rfl) (evd_val (by kernel_rfl) (st_ldO (c:=cI) (l:=h0) (i:=(Int.toNat (isub s1125 1))) (v:=(vI x1551)) (agg:=false) (sz:=1) (kk:=(.top 500000)) (e:=3) (off:=0) (J:=[]) (by kernel_rfl) (by kernel_rfl) (by kernel_rfl) ((idxS hx1551).2) (by kernel_rfl)) (by kernel_rfl) (by kernel_rfl) (evd_end (by kernel_rfl) (evo_run 1 (by kernel_rfl) (zO fun τ hτ=>?_))))
 refine yE hτ [0,3,25] [500000] (zI (x1550==x1551) (fun hb=>?_) fun hb=>?_)
 replace h:=iteT hb h
 refine z7 (zA 2 ?_)
 obtain ⟨hp2,h⟩:=iteN h
 refine evs_op (st_slPL (c:=cI) (l:=h0) (kk:=(.top 500000)) (e:=3) (sz:=1) (lo:=s1125) (k1:=.i64) (by kernel_rfl) (by kernel_rfl) (fun _=>rfl) hp2) (y1 1 [0,3,4] [500000] (zB (y3 1 [0,3,4,5] [500000] (zC ?_))))
 obtain ⟨x1683,hx1683,h⟩:=bindS h
 refine sem_loopS (fun (s1640 : Int×Int×(List Int))=>⟨[(0,ro 500000 3),(3,vI s1640.1),(4,.part (.top 500000) 3 (Int.toNat s1125) (Int.toNat (h0.length : Int) - Int.toNat s1125)),(5,vI s1640.2.1)],[(500000,wI 3 s1640.2.2)]⟩) (fun (x1683 : Int×(List Int))=>(.exit 2,⟨[(0,ro 500000 3),(3,vI x1683.1)],[(500000,wI 3 x1683.2)]⟩)) (slices_Compact_Lint_int_k_l2 h0 s1125) (s1125,1,h0) x1683 (by kernel_rfl) (here (by kernel_rfl)) (iter_loop hx1683) ?_ ?_ ?_
 intro s1640 r h
 refine zB (z7 (zA 2 (evs_op (st_lenP (kk:=(.top 500000)) (e:=3) (lo:=(Int.toNat s1125)) (n:=(Int.toNat (h0.length : Int) - Int.toNat s1125)) (by kernel_rfl)) (y1 1 [0,3,4,5,32] [500000] (zI (decide (s1640.2.1 < ((Int.toNat (h0.length : Int) - Int.toNat s1125 : Nat) : Int))) (fun hb=>?_) fun hb=>?_)))))
 replace h:=iteT hb h
 refine y4 [0,3,4,5] [500000] (sem_seqJ (fun (j1672 : Int×(List Int))=>⟨[(0,ro 500000 3),(3,vI j1672.1),(4,.part (.top 500000) 3 (Int.toNat s1125) (Int.toNat (h0.length : Int) - Int.toNat s1125)),(5,vI s1640.2.1)],[(500000,wI 3 j1672.2)]⟩) (slices_Compact_Lint_int_k_k1 s1640) r (by kernel_rfl) (fun j1672 h=>?_) ?_)
 refine zD (z6 3 fun τ hτ=>?_)
 obtain rfl:=osi h
 exact zH hτ
 refine zC (zB (sem_drawN [] [] [] [] [] 9 (by kernel_rfl) (by kernel_rfl) (by kernel_rfl) (evd_run 2 (by kernel_rfl) ?_)))
 obtain ⟨x1677,hx1677,h⟩:=bindS h
 refine evd_val (by kernel_rfl) (st_idxP (c:=cI) (l:=s1640.2.2) (i:=s1640.2.1) (kd:=.i64) (kk:=(.top 500000)) (e:=3) (sz:=1) (lo:=(Int.toNat s1125)) (n:=(Int.toNat (h0.length : Int) - Int.toNat s1125)) (by kernel_rfl) (by kernel_rfl) hx1677 rfl) (by kernel_rfl) (by kernel_rfl) (evd_val (by kernel_rfl) (st_ldO (c:=cI) (l:=s1640.2.2) (i:=((Int.toNat s1125)+Int.toNat s1640.2.1)) (v:=(vI x1677)) (agg:=false) (sz:=1) (kk:=(.top 500000)) (e:=3) (off:=0) (J:=[]) (by kernel_rfl) (by kernel_rfl) (by kernel_rfl) (idx_part hx1677) (by kernel_rfl)) (by kernel_rfl) (by kernel_rfl) (evd_run 3 (by kernel_rfl) ?_))
 obtain ⟨x1678,hx1678,h⟩:=bindS h
 refine evd_val (by kernel_rfl) (st_idxP (c:=cI) (l:=s1640.2.2) (i:=(isub s1640.2.1 1)) (kd:=.i64) (kk:=(.top 500000)) (e:=3) (sz:=1) (lo:=(Int.toNat s1125)) (n:=(Int.toNat (h0.length : Int) - Int.toNat s1125)) (by kernel_rfl) (by kernel_rfl) hx1678 rfl) (by kernel_rfl) (by kernel_rfl) (evd_val (by kernel_rfl) (st_ldO (c:=cI) (l:=s1640.2.2) (i:=((Int.toNat s1125)+Int.toNat (isub s1640.2.1 1))) (v:=(vI x1678)) (agg:=false) (sz:=1) (kk:=(.top 500000)) (e:=3) (off:=0) (J:=[]) (by kernel_rfl) (by kernel_rfl) (by kernel_rfl) (idx_part hx1678) (by kernel_rfl)) (by kernel_rfl) (by kernel_rfl) (evd_end (by kernel_rfl) (evo_run 1 (by kernel_rfl) (zO fun τ hτ=>?_))))
 refine yE hτ [0,3,4,5,44] [500000] (zI (x1677 != x1678) (fun hb=>?_) fun hb=>?_)
 replace h:=iteT hb h
 refine z7 (zA 4 ?_)
 obtain ⟨x1681,hx1681,h⟩:=bindS h
 refine evs_op (st_idxP (c:=cI) (l:=s1640.2.2) (i:=s1640.2.1) (kd:=.i64) (kk:=(.top 500000)) (e:=3) (sz:=1) (lo:=(Int.toNat s1125)) (n:=(Int.toNat (h0.length : Int) - Int.toNat s1125)) (by kernel_rfl) (by kernel_rfl) hx1681 rfl) (evs_op (st_ldO (c:=cI) (l:=s1640.2.2) (i:=((Int.toNat s1125)+Int.toNat s1640.2.1)) (v:=(vI x1681)) (agg:=false) (sz:=1) (kk:=(.top 500000)) (e:=3) (off:=0) (J:=[]) (by kernel_rfl) (by kernel_rfl) (by kernel_rfl) (idx_part hx1681) (by kernel_rfl)) ?_)
 obtain ⟨x1682,hx1682,h⟩:=bindS h
 refine evs_op (st_idxO (c:=cI) (l:=s1640.2.2) (i:=s1640.1) (kd:=.i64) (kk:=(.top 500000)) (e:=3) (sz:=1) (by kernel_rfl) (by kernel_rfl) hx1682 rfl) (evs_op (st_stO (c:=cI) (l:=s1640.2.2) (i:=(Int.toNat s1640.1)) (x:=x1682) (x':=x1681) (v:=(vI x1681)) (agg:=false) (sz:=1) (kk:=(.top 500000)) (e:=3) (off:=0) (J:=[]) (o:=wI 3 (List.set s1640.2.2 (Int.toNat s1640.1) x1681)) (by kernel_rfl) (by kernel_rfl) (by kernel_rfl) ((idxS hx1682).2) (by kernel_rfl) (by kernel_rfl) (by kernel_rfl)) (zP fun τ hτ=>?_))
 refine yE hτ [0,3,4,5] [500000] (zD (z6 3 fun τ hτ=>?_))
 exact bl_normal (jk_normal ((iadd s1640.1 1),(List.set s1640.2.2 (Int.toNat s1640.1) x1681)) h hτ (here (by kernel_rfl)))
 replace h:=iteF hb h
 refine zM fun τ hτ=>?_
 exact bl_normal (jk_normal (s1640.1,s1640.2.2) h hτ (here (by kernel_rfl)))
 replace h:=iteF hb h
 refine zL 2 fun τ hτ=>?_
 refine th_exit ?_
 obtain rfl:=osi h
 exact zF hτ
 intro x
 rfl
 intro τ hτ
 refine zQ (yE hτ [0,3] [500000] (z7 (zA 2 ?_)))
 obtain ⟨hp2,h⟩:=iteN h
 refine evs_op (st_slPL (c:=cI) (l:=x1683.2) (kk:=(.top 500000)) (e:=3) (sz:=1) (lo:=x1683.1) (k1:=.i64) (by kernel_rfl) (by kernel_rfl) (fun _=>rfl) hp2) (evs_at (at_clear (c:=cI) (l:=x1683.2) (z:=0) (d:=(.part (.top 500000) 3 (Int.toNat x1683.1) (Int.toNat (x1683.2.length : Int) - Int.toNat x1683.1))) (e:=3) (g:=500000) (lo:=(Int.toNat x1683.1)) (n:=(Int.toNat (x1683.2.length : Int) - Int.toNat x1683.1)) (zs:=[(vI 0)]) (by kernel_rfl) (by kernel_rfl) (by kernel_rfl) (part_fit hp2) rfl) (zP fun τ hτ=>?_))
 refine yE hτ [0,3] [500000] (z7 (zA 2 ?_))
 obtain ⟨l1685,hl1685,h⟩:=bindS h
 refine evs_at (at_cut (J:=[]) (c:=cI) (l:=(cpy x1683.2 (Int.toNat x1683.1) (List.replicate (Int.toNat (x1683.2.length : Int) - Int.toNat x1683.1) 0))) (e:=3) (g:=500000) (hi:=x1683.1) (k2:=.i64) (by kernel_rfl) (by kernel_rfl) rfl hl1685) (y1 1 [2] [500000] (zN fun τ hτ=>?_))
 refine bl_ret (th_ret ?_)
 obtain rfl:=osi h
 exact zF hτ
 replace h:=iteF hb h
 refine zM fun τ hτ=>?_
 refine bl_normal (yE hτ [0,3] [500000] (zD (z6 3 fun τ hτ=>?_)))
 obtain rfl:=osi h
 exact zH hτ
 replace h:=iteF hb h
 exact nomatch h
 intro x
 rfl
 intro τ hτ
 refine bl_ret (th_ret ?_)
 obtain rfl:=osi h
 exact rk_ret hτ [(2,ro 0 3)] (subR_prep [] [(500000,0)] (by kernel_rfl) rfl rfl (by kernel_rfl)) (by kernel_rfl)
theorem W.cut_set_k_ok {h0 : (List Int)} {r : (List Int)} (h : cut_set_k h0=some r) : PC G.P 105 [(.row (.top 300000) 3)] [(300000,.row 3 [] (List.map cI h0))] (.row (.top 0) 3) [(0,.row 3 [] (List.map cI r))]:=by
 refine zU G Tryz.func105 (yK [0] [300000] (y3 1 [0] [300000] (z7 (zA 1 ?_))))
 obtain ⟨r2,hr2,h⟩:=bindS h
 refine evs_callS [(1000000,300000)] [] [] (by kernel_rfl) (W.slices_SortFunc_Lint_int__cmp_Compare_int_k_ok hr2) (by kernel_rfl) (by kernel_rfl) (.inl rfl) (zP fun τ hτ=>?_)
 refine yE hτ [0] [300000] (z7 (zA 1 ?_))
 obtain ⟨r4,hr4,h⟩:=bindS h
 refine evs_callS [(300000,300000)] [(0,700050)] [] (by kernel_rfl) (W.slices_Compact_Lint_int_k_ok hr4) (by kernel_rfl) (by kernel_rfl) (.inl rfl) (y1 1 [2] [700050] (zN fun τ hτ=>?_))
 obtain rfl:=osi h
 exact rk_ret hτ [(2,ro 0 3)] (subR_prep [] [(700050,0)] (by kernel_rfl) rfl rfl (by kernel_rfl)) (by kernel_rfl)
theorem W.cut_at_k_ok {l : LayoutT} {x1 : Int} {y : Int} {r : (Option Int)} (h : cut_at_k l x1 y=some r) : PC G.P 108 [(.agg (c_LayoutT l)),(vI x1),(vI y)] [] (vF 198 194 r) []:=by
 refine zU G Tryz.func108 (yK [0,1,2] [] (y3 2 [1,2,3] [3] (zB (z7 (zA 2 (evs_op (st_len (c:=c_Piece) (l:=l.Pieces) (x:=(s_Piece l.Pieces)) (by kernel_rfl) (by kernel_rfl)) ?_))))))
 refine y1 1 [1,2,12,13,14] [] (zC ?_)
 obtain ⟨x308,hx308,h⟩:=bindS h
 refine sem_loopS (fun (s207 : Int)=>⟨[(1,vI x1),(2,vI y),(12,s_Piece l.Pieces),(13,vI (l.Pieces.length : Int)),(14,vI s207)],[]⟩) (fun (x308 : (Option Int) ⊕ Unit)=>match x308 with | .inl j309=>(.ret,⟨[(6,vF 198 194 j309)],[]⟩) | .inr j310=>(.exit 0,⟨[],[]⟩)) (cut_at_k_l2 l x1 y) 0 x308 (by kernel_rfl) (here (by kernel_rfl)) (iter_loop hx308) ?_ ?_ ?_
 intro s207 r h
 refine y3 1 [1,2,12,13,14,15] [] (zB (zI (decide (s207 < (l.Pieces.length : Int))) (fun hb=>?_) fun hb=>?_))
 replace h:=iteT hb h
 refine y4 [1,2,12,13,14] [] (zB (zC (z7 (zA 1 ?_))))
 obtain ⟨x284,hx284,h⟩:=bindS h
 refine evs_op (st_idx (c:=c_Piece) (l:=l.Pieces) (i:=s207) (kd:=.i64) (sz:=7) (by kernel_rfl) hx284 rfl) (y1 4 [1,2,7,8,12,13,14] [8] (z7 (zA 2 (evs_op (st_len (c:=c_Rect) (l:=x284.Rects) (x:=(s_Rect x284.Rects)) (by kernel_rfl) (by kernel_rfl)) (y1 1 [1,2,7,12,13,14,20,21,22] [] (zC ?_))))))
 obtain ⟨x305,hx305,h⟩:=bindS h
 refine sem_loopS (fun (s292 : Int)=>⟨[(1,vI x1),(2,vI y),(7,vI s207),(12,s_Piece l.Pieces),(13,vI (l.Pieces.length : Int)),(14,vI s207),(20,s_Rect x284.Rects),(21,vI (x284.Rects.length : Int)),(22,vI s292)],[]⟩) (fun (x305 : Unit ⊕ Unit)=>match x305 with | .inl j306=>(.ret,⟨[(6,vF 198 194 (some s207))],[]⟩) | .inr j307=>(.exit 2,⟨[(1,vI x1),(2,vI y),(12,s_Piece l.Pieces),(13,vI (l.Pieces.length : Int)),(14,vI s207)],[]⟩)) (cut_at_k_l1 x1 y x284) 0 x305 (by kernel_rfl) (here (by kernel_rfl)) (iter_loop hx305) ?_ ?_ ?_
 intro s292 r h
 refine y3 1 [1,2,7,12,13,14,20,21,22,23] [] (zB (zI (decide (s292 < (x284.Rects.length : Int))) (fun hb=>?_) fun hb=>?_))
 replace h:=iteT hb h
 refine y4 [1,2,7,12,13,14,20,21,22] [] (zB (zC (z7 ?_)))
 obtain ⟨x303,hx303,h⟩:=bindS h
 refine evs_op (st_idx (c:=c_Rect) (l:=x284.Rects) (i:=s292) (kd:=.i64) (sz:=4) (by kernel_rfl) hx303 rfl) (y1 3 [1,2,7,10,12,13,14,20,21,22] [10] (zB ?_))
 obtain ⟨j304,hj304,h⟩:=bindS h
 refine zT ⟨[(1,vI x1),(2,vI y),(7,vI s207),(12,s_Piece l.Pieces),(13,vI (l.Pieces.length : Int)),(14,vI s207),(20,s_Rect x284.Rects),(21,vI (x284.Rects.length : Int)),(22,vI s292),(53,vB j304)],[]⟩ ?_ fun τ hτ=>?_
 replace h:=hj304
 refine zA 5 (zS (decide (x303.X≤x1)) (fun b0=>⟨[(1,vI x1),(2,vI y),(7,vI s207),(10,.ptr 10 0),(12,s_Piece l.Pieces),(13,vI (l.Pieces.length : Int)),(14,vI s207),(20,s_Rect x284.Rects),(21,vI (x284.Rects.length : Int)),(22,vI s292),(30,vB b0)],[(10,.box (c_Rect x303))]⟩) (fun hb=>?_) fun hb=>?_)
 replace h:=iteT hb h
 refine zA 9 (zS (decide (x1 < (iadd x303.X x303.W))) (fun b0=>⟨[(1,vI x1),(2,vI y),(7,vI s207),(10,.ptr 10 0),(12,s_Piece l.Pieces),(13,vI (l.Pieces.length : Int)),(14,vI s207),(20,s_Rect x284.Rects),(21,vI (x284.Rects.length : Int)),(22,vI s292),(39,vB b0)],[(10,.box (c_Rect x303))]⟩) (fun hb=>?_) fun hb=>?_)
 replace h:=iteT hb h
 refine zA 6 (zS (decide (x303.Y≤y)) (fun b0=>⟨[(1,vI x1),(2,vI y),(7,vI s207),(10,.ptr 10 0),(12,s_Piece l.Pieces),(13,vI (l.Pieces.length : Int)),(14,vI s207),(20,s_Rect x284.Rects),(21,vI (x284.Rects.length : Int)),(22,vI s292),(45,vB b0)],[(10,.box (c_Rect x303))]⟩) (fun hb=>?_) fun hb=>?_)
 replace h:=iteT hb h
 refine z6 8 fun τ hτ=>?_
 obtain rfl:=osi h
 exact zG hτ
 replace h:=iteF hb h
 refine z6 8 fun τ hτ=>?_
 obtain rfl:=osi h
 exact zG hτ
 replace h:=iteF hb h
 refine z6 14 fun τ hτ=>?_
 obtain rfl:=osi h
 exact zG hτ
 replace h:=iteF hb h
 refine z6 23 fun τ hτ=>?_
 obtain rfl:=osi h
 exact zG hτ
 refine yE hτ [1,2,7,12,13,14,20,21,22,53] [] (zI j304 (fun hb=>?_) fun hb=>?_)
 replace h:=iteT hb h
 refine z7 (zA 1 (evs_at (at_mkif (x:=(some s207)) ifc_ (by kernel_rfl)) (y1 1 [6] [] (zN fun τ hτ=>?_))))
 refine bl_ret (th_ret ?_)
 obtain rfl:=osi h
 exact zF hτ
 replace h:=iteF hb h
 refine zM fun τ hτ=>?_
 refine bl_normal (yE hτ [1,2,7,12,13,14,20,21,22] [] (zD (z6 2 fun τ hτ=>?_)))
 obtain rfl:=osi h
 exact zH hτ
 replace h:=iteF hb h
 refine zL 2 fun τ hτ=>?_
 refine th_exit ?_
 obtain rfl:=osi h
 exact zF hτ
 intro x
 rcases x with _ | _ <;> rfl
 intro τ hτ
 rcases x305 with j306 | j307
 refine bl_ret (bl_ret (th_ret ?_))
 obtain rfl:=osi h
 exact zF hτ
 refine zQ (bl_normal (yE hτ [1,2,12,13,14] [] (zD (z6 2 fun τ hτ=>?_))))
 obtain rfl:=osi h
 exact zH hτ
 replace h:=iteF hb h
 refine zL 0 fun τ hτ=>?_
 refine th_exit ?_
 obtain rfl:=osi h
 exact zF hτ
 intro x
 rcases x with _ | _ <;> rfl
 intro τ hτ
 rcases x308 with j309 | j310
 refine bl_ret (th_ret ?_)
 obtain rfl:=osi h
 exact zV hτ [(6,vF 198 194 j309)]
 refine zQ (yE hτ [] [] (z7 (zA 1 (evs_at (at_mkif (x:=none) ifc_ (by kernel_rfl)) (y1 1 [6] [] (zN fun τ hτ=>?_))))))
 obtain rfl:=osi h
 exact zV hτ [(6,vF 198 194 none)]
theorem W.cut_edges_1_k_ok {x0 : Int} {a_0 : ByteArray} {a_1 : ByteArray} {a_2 : Int} {a_3 : Int} {a_4 : Int} {a_5 : Int} {a_6 : (List Rect)} {a_7 : (List Rect)} {a_8 : (List Piece)} {a2_0 : Int} {r : (Option Int)×(Option Int)} (h : cut_edges_1_k x0 a_0 a_1 a_2 a_3 a_4 a_5 a_6 a_7 a_8 a2_0=some r) : PC G.P 107 [(vI x0),(.vptr [(vS a_0),(vS a_1),(vI a_2),(vI a_3),(vI a_4),(vI a_5),(.sl (List.map c_Rect a_6)),(.sl (List.map c_Rect a_7)),(.sl (List.map c_Piece a_8))] 0),(.vptr [(vI a2_0)] 0)] [] (.tup [(vF 198 194 r.1),(vF 198 194 r.2)]) []:=by
 refine zU G Tryz.func107 (yK [0,1,2] [] (y3 2 [0,1,2] [] (zB (sem_drawN [] [] [] [] [] 8 (by kernel_rfl) (by kernel_rfl) (by kernel_rfl) (evd_run 3 (by kernel_rfl) ?_)))))
 obtain ⟨r5,hr5,h⟩:=bindS h
 refine evd_callS [] [] (by kernel_rfl) (by kernel_rfl) (W.cut_at_k_ok hr5) (by kernel_rfl) (.inl rfl) (by kernel_rfl) (by kernel_rfl) (evd_run 4 (by kernel_rfl) (evd_end (by kernel_rfl) ?_))
 obtain ⟨r6,hr6,h⟩:=bindS h
 refine evo_callP [] (by kernel_rfl) (W.cut_at_k_ok hr6) (by kernel_rfl) (.inl rfl) (by kernel_rfl) (evo_run 2 (by kernel_rfl) (zO fun τ hτ=>?_))
 refine yE hτ [4,5] [] (zN fun τ hτ=>?_)
 obtain rfl:=osi h
 exact zV hτ [(4,vF 198 194 r5),(5,vF 198 194 r6)]
theorem W.cut_pieceNo_solid_k_ok {a : Int} {r : Bool} (h : cut_pieceNo_solid_k a=some r) : PC G.P 237 [(vI a)] [] (vB r) []:=by
 refine zU G Tryz.func237 (yK [] [] (y3 1 [] [] (z8 1 ⟨[(2,vB true)],[]⟩ fun τ hτ=>?_)))
 obtain rfl:=osi h
 exact zV hτ [(2,vB true)]
theorem W.cut_nothing_solid_k_ok {a : cut_nothing} {r : Bool} (h : cut_nothing_solid_k a=some r) : PC G.P 236 [(.agg [])] [] (vB r) []:=by
 refine zU G Tryz.func236 (yK [0] [] (y3 2 [] [] (z8 1 ⟨[(2,vB false)],[]⟩ fun τ hτ=>?_)))
 obtain rfl:=osi h
 exact zV hτ [(2,vB false)]
theorem W.cut_edges_2_k_ok {from0 : Int} {to1 : Int} {a_0 : Int} {r : Segment} (h : cut_edges_2_k from0 to1 a_0=some r) : PC G.P 109 [(vI from0),(vI to1),(.vptr [(vI a_0)] 0)] [] (.agg (c_Segment r)) [(0,.box [(vI from0),(vI a_0),(vI to1),(vI a_0)])]:=by
 refine zU G Tryz.func109 (yK [0,1,2] [] (y3 1 [0,1,2,5] [5] (z8 6 ⟨[(5,.ptr 5 0)],[(5,.box [(vI from0),(vI a_0),(vI to1),(vI a_0)])]⟩ fun τ hτ=>?_)))
 obtain rfl:=osi h
 exact rk_ret hτ [(5,.ptr 0 0)] (subR_prep [] [(5,0)] (by kernel_rfl) rfl rfl (by kernel_rfl)) (by kernel_rfl)
theorem W.cut_number_k_ok {t : (Option Int)} {r : Int} (h : cut_number_k t=some r) : PC G.P 154 [(vF 198 194 t)] [] (vI r) []:=by
 refine zU G Tryz.func154 (yK [0] [] (y3 1 [0] [] (y3 1 [5] [] (zC (z7 (evs_at (at_tas (x:=t) ifc_ (by kernel_rfl)) ?_))))))
 refine y1 2 [5,7,8] [] (zI (Option.isSome t) (fun hb=>?_) fun hb=>?_)
 replace h:=iteT hb h
 refine y3 1 [3] [] (z8 2 ⟨[(2,vI (Option.getD t 0))],[]⟩ fun τ hτ=>?_)
 refine bl_ret ?_
 obtain rfl:=osi h
 exact zV hτ [(2,vI (Option.getD t 0))]
 replace h:=iteF hb h
 refine y3 1 [] [] (z8 1 ⟨[(2,vI (-1))],[]⟩ fun τ hτ=>?_)
 refine bl_ret ?_
 obtain rfl:=osi h
 exact zV hτ [(2,vI (-1))]
theorem W.cut_edge_k_ok {s0 : Segment} {a : Int} {b : Int} {r : EdgeT×Int×Int} (h : cut_edge_k s0 a b=some r) : PC G.P 153 [(.agg (c_Segment s0)),(vI a),(vI b)] [] (.agg (c_EdgeT r.1)) [(0,.box [(vI s0.X1),(vI s0.Y1),(vI s0.X2),(vI s0.Y2),(vI r.2.1),(vI r.2.2)])]:=by
 refine zU G Tryz.func153 (yK [0,1,2] [] (y3 2 [1,2,3,6] [3,6] (sem_seqJ (fun (j2 : Int×Int)=>⟨[(1,vI j2.1),(2,vI j2.2),(3,.ptr 500000 0),(6,.ptr 500001 0)],[(500000,.box (c_Segment s0)),(500001,.box [(vI 0),(vI 0),(vI 0),(vI 0),(vI 0),(vI 0)])]⟩) (cut_edge_k_k1 s0) r (by kernel_rfl) (fun j2 h=>?_) ?_)))
 refine z8 5 ⟨[(6,.ptr 500001 0)],[(500001,.box [(vI s0.X1),(vI s0.Y1),(vI s0.X2),(vI s0.Y2),(vI j2.1),(vI j2.2)])]⟩ fun τ hτ=>?_
 obtain rfl:=osi h
 exact rk_ret hτ [(6,.ptr 0 0)] (subR_prep [] [(500001,0)] (by kernel_rfl) rfl rfl (by kernel_rfl)) (by kernel_rfl)
 refine zB ?_
 obtain ⟨j3,hj3,h⟩:=bindS h
 refine zT ⟨[(1,vI a),(2,vI b),(3,.ptr 500000 0),(6,.ptr 500001 0),(17,vB j3)],[(500000,.box (c_Segment s0)),(500001,.box [(vI 0),(vI 0),(vI 0),(vI 0),(vI 0),(vI 0)])]⟩ ?_ fun τ hτ=>?_
 replace h:=hj3
 refine zA 3 (zS (decide (a < 0)) (fun b0=>⟨[(1,vI a),(2,vI b),(3,.ptr 3 0),(6,.ptr 6 0),(9,vB b0)],[(3,.box (c_Segment s0)),(6,.box [(vI 0),(vI 0),(vI 0),(vI 0),(vI 0),(vI 0)])]⟩) (fun hb=>?_) fun hb=>?_)
 replace h:=iteT hb h
 refine z6 8 fun τ hτ=>?_
 obtain rfl:=osi h
 exact leafC hτ (subR_prep [] [(3,500000),(6,500001)] (by kernel_rfl) rfl rfl (by kernel_rfl))
 replace h:=iteF hb h
 refine zA 3 (zS (decide (b ≥ 0)) (fun b0=>⟨[(1,vI a),(2,vI b),(3,.ptr 3 0),(6,.ptr 6 0),(9,vB false),(12,vB b0)],[(3,.box (c_Segment s0)),(6,.box [(vI 0),(vI 0),(vI 0),(vI 0),(vI 0),(vI 0)])]⟩) (fun hb=>?_) fun hb=>?_)
 replace h:=iteT hb h
 refine z6 5 fun τ hτ=>?_
 obtain rfl:=osi h
 exact leafC hτ (subR_prep [] [(3,500000),(6,500001)] (by kernel_rfl) rfl rfl (by kernel_rfl))
 replace h:=iteF hb h
 refine z6 5 fun τ hτ=>?_
 obtain rfl:=osi h
 exact leafC hτ (subR_prep [] [(3,500000),(6,500001)] (by kernel_rfl) rfl rfl (by kernel_rfl))
 refine yE hτ [1,2,3,6,17] [500000,500001] (zI j3 (fun hb=>?_) fun hb=>?_)
 replace h:=iteT hb h
 refine zD (z6 4 fun τ hτ=>?_)
 exact jk_normal (b,a) h hτ (here (by kernel_rfl))
 replace h:=iteF hb h
 refine zM fun τ hτ=>?_
 exact jk_normal (a,b) h hτ (here (by kernel_rfl))
theorem W.cut_along__cut_edges_1__cut_edges_2_k_ok {ends : (List Int)} {sides_0_0 : ByteArray} {sides_0_1 : ByteArray} {sides_0_2 : Int} {sides_0_3 : Int} {sides_0_4 : Int} {sides_0_5 : Int} {sides_0_6 : (List Rect)} {sides_0_7 : (List Rect)} {sides_0_8 : (List Piece)} {sides_1_0 : Int} {line_0_0 : Int} {r : (List EdgeT)} (h : cut_along__cut_edges_1__cut_edges_2_k ends sides_0_0 sides_0_1 sides_0_2 sides_0_3 sides_0_4 sides_0_5 sides_0_6 sides_0_7 sides_0_8 sides_1_0 line_0_0=some r) : PC G.P 106 [(.sl (List.map cI ends)),(.fn 107 [(.vptr [(vS sides_0_0),(vS sides_0_1),(vI sides_0_2),(vI sides_0_3),(vI sides_0_4),(vI sides_0_5),(.sl (List.map c_Rect sides_0_6)),(.sl (List.map c_Rect sides_0_7)),(.sl (List.map c_Piece sides_0_8))] 0),(.vptr [(vI sides_1_0)] 0)]),(.fn 109 [(.vptr [(vI line_0_0)] 0)])] [] (.row (.top 0) 74) [(0,.row 74 [] (List.map c_EdgeT r))]:=by
 refine zU G Tryz.func106 (yK [0,1,2] [] (y3 1 [0,1,2] [] (y3 1 [0,1,2,7] [7] (y3 1 [0,1,2,7,8] [7] (z7 (zA 1 ?_))))))
 refine evs_at (at_mkif (x:=none) ifc_ (by kernel_rfl)) (zA 1 (evs_at (at_mkif (x:=none) ifc_ (by kernel_rfl)) (y1 2 [0,1,2,7,8,9,10] [7] (zB (z7 (zA 1 ?_))))))
 refine evs_op (st_len (c:=cI) (l:=ends) (x:=(sI ends)) (by kernel_rfl) (by kernel_rfl)) (y1 1 [0,1,2,7,8,9,10,19,20,21] [7] (zC ?_))
 obtain ⟨x486,hx486,h⟩:=bindS h
 refine sem_loopS (fun (s325 : Int×(Option Int)×(Option Int)×Int×(List EdgeT))=>⟨[(0,sI ends),(1,.fn 107 [(.vptr [(vS sides_0_0),(vS sides_0_1),(vI sides_0_2),(vI sides_0_3),(vI sides_0_4),(vI sides_0_5),(s_Rect sides_0_6),(s_Rect sides_0_7),(s_Piece sides_0_8)] 0),(.vptr [(vI sides_1_0)] 0)]),(2,.fn 109 [(.vptr [(vI line_0_0)] 0)]),(7,ro 500000 74),(8,vI s325.1),(9,vF 198 194 s325.2.1),(10,vF 198 194 s325.2.2.1),(19,sI ends),(20,vI (ends.length : Int)),(21,vI s325.2.2.2.1)],[(500000,w_EdgeT 74 s325.2.2.2.2)]⟩) (fun (x486 : (List EdgeT))=>(.exit 0,⟨[(7,ro 500000 74)],[(500000,w_EdgeT 74 x486)]⟩)) (cut_along__cut_edges_1__cut_edges_2_k_l3 ends sides_0_0 sides_0_1 sides_0_2 sides_0_3 sides_0_4 sides_0_5 sides_0_6 sides_0_7 sides_0_8 sides_1_0 line_0_0) (0,none,none,0,[]) x486 (by kernel_rfl) (subR_prep [] [(7,500000)] (by kernel_rfl) rfl rfl (by kernel_rfl)) (iter_loop hx486) ?_ ?_ ?_
 intro s325 r h
 refine y3 1 [0,1,2,7,8,9,10,19,20,21,22] [500000] (zB (zI (decide (s325.2.2.2.1 < (ends.length : Int))) (fun hb=>?_) fun hb=>?_))
 replace h:=iteT hb h
 refine y4 [0,1,2,7,8,9,10,19,20,21] [500000] (zB (zC (z7 (zA 1 ?_))))
 obtain ⟨x447,hx447,h⟩:=bindS h
 refine evs_op (st_idx (c:=cI) (l:=ends) (i:=s325.2.2.2.1) (kd:=.i64) (sz:=1) (by kernel_rfl) hx447 rfl) (y1 3 [0,1,2,7,8,9,10,11,12,19,20,21] [500000] (z7 (zA 1 (evs_at (at_mkif (x:=none) ifc_ (by kernel_rfl)) (zA 1 (evs_at (at_mkif (x:=none) ifc_ (by kernel_rfl)) ?_))))))
 refine y1 2 [0,1,2,7,8,9,10,11,12,13,14,19,20,21] [500000] (sem_seqJ (fun (j450 : (Option Int)×(Option Int))=>⟨[(0,sI ends),(1,.fn 107 [(.vptr [(vS sides_0_0),(vS sides_0_1),(vI sides_0_2),(vI sides_0_3),(vI sides_0_4),(vI sides_0_5),(s_Rect sides_0_6),(s_Rect sides_0_7),(s_Piece sides_0_8)] 0),(.vptr [(vI sides_1_0)] 0)]),(2,.fn 109 [(.vptr [(vI line_0_0)] 0)]),(7,ro 500000 74),(8,vI s325.1),(9,vF 198 194 s325.2.1),(10,vF 198 194 s325.2.2.1),(12,vI x447),(13,vF 198 194 j450.1),(14,vF 198 194 j450.2),(19,sI ends),(20,vI (ends.length : Int)),(21,vI s325.2.2.2.1)],[(500000,w_EdgeT 74 s325.2.2.2.2)]⟩) (cut_along__cut_edges_1__cut_edges_2_k_k2 line_0_0 s325 x447) r (by kernel_rfl) (fun j450 h=>?_) ?_)
 refine zB (zB ?_)
 obtain ⟨j452,hj452,h⟩:=bindS h
 refine zT ⟨[(0,sI ends),(1,.fn 107 [(.vptr [(vS sides_0_0),(vS sides_0_1),(vI sides_0_2),(vI sides_0_3),(vI sides_0_4),(vI sides_0_5),(s_Rect sides_0_6),(s_Rect sides_0_7),(s_Piece sides_0_8)] 0),(.vptr [(vI sides_1_0)] 0)]),(2,.fn 109 [(.vptr [(vI line_0_0)] 0)]),(7,ro 500000 74),(8,vI s325.1),(9,vF 198 194 s325.2.1),(10,vF 198 194 s325.2.2.1),(12,vI x447),(13,vF 198 194 j450.1),(14,vF 198 194 j450.2),(19,sI ends),(20,vI (ends.length : Int)),(21,vI s325.2.2.2.1),(48,vB j452)],[(500000,w_EdgeT 74 s325.2.2.2.2)]⟩ ?_ fun τ hτ=>?_
 replace h:=hj452
 refine zA 2 (evs_at (at_ife (x:=j450.1) (y:=s325.2.1) ifc_ (by kernel_rfl)) (zA 1 (zS (j450.1==s325.2.1) (fun b0=>⟨[(0,sI ends),(1,.fn 107 [(.vptr [(vS sides_0_0),(vS sides_0_1),(vI sides_0_2),(vI sides_0_3),(vI sides_0_4),(vI sides_0_5),(s_Rect sides_0_6),(s_Rect sides_0_7),(s_Piece sides_0_8)] 0),(.vptr [(vI sides_1_0)] 0)]),(2,.fn 109 [(.vptr [(vI line_0_0)] 0)]),(7,ro 500000 74),(8,vI s325.1),(9,vF 198 194 s325.2.1),(10,vF 198 194 s325.2.2.1),(12,vI x447),(13,vF 198 194 j450.1),(14,vF 198 194 j450.2),(19,sI ends),(20,vI (ends.length : Int)),(21,vI s325.2.2.2.1),(44,vB b0)],[(500000,w_EdgeT 74 s325.2.2.2.2)]⟩) (fun hb=>?_) fun hb=>?_)))
 replace h:=iteT hb h
 refine zA 2 (evs_at (at_ife (x:=j450.2) (y:=s325.2.2.1) ifc_ (by kernel_rfl)) (z6 1 fun τ hτ=>?_))
 obtain rfl:=osi h
 exact zG hτ
 replace h:=iteF hb h
 refine z6 4 fun τ hτ=>?_
 obtain rfl:=osi h
 exact zG hτ
 refine yE hτ [0,1,2,7,8,9,10,12,13,14,19,20,21,48] [500000] (zI j452 (fun hb=>?_) fun hb=>?_)
 replace h:=iteT hb h
 exact nomatch h
 replace h:=iteF hb h
 refine y4 [0,1,2,7,8,9,10,12,13,14,19,20,21] [500000] (sem_seqJ (fun (j468 : (List EdgeT))=>⟨[(0,sI ends),(1,.fn 107 [(.vptr [(vS sides_0_0),(vS sides_0_1),(vI sides_0_2),(vI sides_0_3),(vI sides_0_4),(vI sides_0_5),(s_Rect sides_0_6),(s_Rect sides_0_7),(s_Piece sides_0_8)] 0),(.vptr [(vI sides_1_0)] 0)]),(2,.fn 109 [(.vptr [(vI line_0_0)] 0)]),(7,ro 500000 74),(12,vI x447),(13,vF 198 194 j450.1),(14,vF 198 194 j450.2),(19,sI ends),(20,vI (ends.length : Int)),(21,vI s325.2.2.2.1)],[(500000,w_EdgeT 74 j468)]⟩) (cut_along__cut_edges_1__cut_edges_2_k_k1 s325 x447 j450) r (by kernel_rfl) (fun j468 h=>?_) ?_)
 refine zD (z6 6 fun τ hτ=>?_)
 refine bl_normal (yE hτ [0,1,2,7,8,9,10,19,20,21] [500000] (zD (z6 2 fun τ hτ=>?_)))
 obtain rfl:=osi h
 exact zH hτ
 refine zB ?_
 obtain ⟨j471,hj471,h⟩:=bindS h
 refine zT ⟨[(0,sI ends),(1,.fn 107 [(.vptr [(vS sides_0_0),(vS sides_0_1),(vI sides_0_2),(vI sides_0_3),(vI sides_0_4),(vI sides_0_5),(s_Rect sides_0_6),(s_Rect sides_0_7),(s_Piece sides_0_8)] 0),(.vptr [(vI sides_1_0)] 0)]),(2,.fn 109 [(.vptr [(vI line_0_0)] 0)]),(7,ro 500000 74),(8,vI s325.1),(9,vF 198 194 s325.2.1),(10,vF 198 194 s325.2.2.1),(12,vI x447),(13,vF 198 194 j450.1),(14,vF 198 194 j450.2),(19,sI ends),(20,vI (ends.length : Int)),(21,vI s325.2.2.2.1),(59,vB j471)],[(500000,w_EdgeT 74 s325.2.2.2.2)]⟩ ?_ fun τ hτ=>?_
 replace h:=hj471
 refine zA 2 (evs_at (at_ifn (x:=s325.2.1) (y:=s325.2.2.1) ifc_ (by kernel_rfl)) (zA 1 (zS (s325.2.1==s325.2.2.1) (fun b0=>⟨[(0,sI ends),(1,.fn 107 [(.vptr [(vS sides_0_0),(vS sides_0_1),(vI sides_0_2),(vI sides_0_3),(vI sides_0_4),(vI sides_0_5),(s_Rect sides_0_6),(s_Rect sides_0_7),(s_Piece sides_0_8)] 0),(.vptr [(vI sides_1_0)] 0)]),(2,.fn 109 [(.vptr [(vI line_0_0)] 0)]),(7,ro 500000 74),(8,vI s325.1),(9,vF 198 194 s325.2.1),(10,vF 198 194 s325.2.2.1),(12,vI x447),(13,vF 198 194 j450.1),(14,vF 198 194 j450.2),(19,sI ends),(20,vI (ends.length : Int)),(21,vI s325.2.2.2.1),(52,vB (!b0))],[(500000,w_EdgeT 74 s325.2.2.2.2)]⟩) (fun hb=>?_) fun hb=>?_)))
 replace h:=iteT hb h
 refine z6 7 fun τ hτ=>?_
 obtain rfl:=osi h
 exact zG hτ
 replace h:=iteF hb h
 refine zA 1 ?_
 obtain ⟨b472,hb472,h⟩:=bindS h
 refine evs_inv (x:=s325.2.1) (r:=b472) ifc_ (by kernel_rfl) (inv_pc hb472 (fun n h=>W.cut_pieceNo_solid_k_ok h) (fun h=>W.cut_nothing_solid_k_ok h)) (zA 1 (zS b472 (fun b0=>⟨[(0,sI ends),(1,.fn 107 [(.vptr [(vS sides_0_0),(vS sides_0_1),(vI sides_0_2),(vI sides_0_3),(vI sides_0_4),(vI sides_0_5),(s_Rect sides_0_6),(s_Rect sides_0_7),(s_Piece sides_0_8)] 0),(.vptr [(vI sides_1_0)] 0)]),(2,.fn 109 [(.vptr [(vI line_0_0)] 0)]),(7,ro 500000 74),(8,vI s325.1),(9,vF 198 194 s325.2.1),(10,vF 198 194 s325.2.2.1),(12,vI x447),(13,vF 198 194 j450.1),(14,vF 198 194 j450.2),(19,sI ends),(20,vI (ends.length : Int)),(21,vI s325.2.2.2.1),(52,vB true),(55,vB b0)],[(500000,w_EdgeT 74 s325.2.2.2.2)]⟩) (fun hb=>?_) fun hb=>?_))
 replace h:=iteT hb h
 refine z6 4 fun τ hτ=>?_
 obtain rfl:=osi h
 exact zG hτ
 replace h:=iteF hb h
 refine zA 1 ?_
 obtain ⟨b473,hb473,h⟩:=bindS h
 refine evs_inv (x:=s325.2.2.1) (r:=b473) ifc_ (by kernel_rfl) (inv_pc hb473 (fun n h=>W.cut_pieceNo_solid_k_ok h) (fun h=>W.cut_nothing_solid_k_ok h)) (z6 2 fun τ hτ=>?_)
 obtain rfl:=osi h
 exact zG hτ
 refine yE hτ [0,1,2,7,8,9,10,12,13,14,19,20,21,59] [500000] (zI j471 (fun hb=>?_) fun hb=>?_)
 replace h:=iteT hb h
 refine zD (zA 4 ?_)
 obtain ⟨r479,hr479,h⟩:=bindS h
 refine evs_callS [] [(0,700200)] [] (by kernel_rfl) (W.cut_edges_2_k_ok hr479) (by kernel_rfl) (by kernel_rfl) (.inl rfl) (zA 1 ?_)
 obtain ⟨r480,hr480,h⟩:=bindS h
 refine evs_callP [] (by kernel_rfl) (W.cut_number_k_ok hr480) (by kernel_rfl) (.inl rfl) (by kernel_rfl) (zA 1 ?_)
 obtain ⟨r481,hr481,h⟩:=bindS h
 refine evs_callP [] (by kernel_rfl) (W.cut_number_k_ok hr481) (by kernel_rfl) (.inl rfl) (by kernel_rfl) ?_
 obtain ⟨r482,hr482,h⟩:=bindS h
 refine evs_callS [] [(0,700450)] [] (by kernel_rfl) (W.cut_edge_k_ok hr482) (by kernel_rfl) (by kernel_rfl) (.inl rfl) (zA 1 ?_)
 obtain ⟨l483,hl483,h⟩:=bindS h
 refine evs_op (st_app (c:=c_EdgeT) (l:=s325.2.2.2.2) (l2:=[(EdgeT.mk (Segment.mk r482.1.Line.X1 r482.1.Line.Y1 r482.1.Line.X2 r482.1.Line.Y2) r482.1.A r482.1.B)]) (x:=(s_EdgeT [(EdgeT.mk (Segment.mk r482.1.Line.X1 r482.1.Line.Y1 r482.1.Line.X2 r482.1.Line.Y2) r482.1.A r482.1.B)])) (g:=500000) (e:=74) (sz:=6) (d:=71) (by kernel_rfl) (by kernel_rfl) (by kernel_rfl) (by kernel_rfl) (fun _=>rfl) rfl hl483) (z6 1 fun τ hτ=>?_)
 exact jk_normal l483 h hτ (here (by kernel_rfl))
 replace h:=iteF hb h
 refine zM fun τ hτ=>?_
 exact jk_normal s325.2.2.2.2 h hτ (here (by kernel_rfl))
 refine z7 (zA 3 (evs_op (st_len (c:=cI) (l:=ends) (x:=(sI ends)) (by kernel_rfl) (by kernel_rfl)) (y1 1 [0,1,2,7,8,9,10,12,13,14,19,20,21,34] [500000] (zI (decide ((iadd s325.2.2.2.1 1) < (ends.length : Int))) (fun hb=>?_) fun hb=>?_))))
 replace h:=iteT hb h
 refine zD (zA 2 ?_)
 obtain ⟨r485,hr485,h⟩:=bindS h
 refine evs_callP [] (by kernel_rfl) (W.cut_edges_1_k_ok hr485) (by kernel_rfl) (.inl rfl) (by kernel_rfl) (z6 5 fun τ hτ=>?_)
 exact jk_normal (r485.1,r485.2) h hτ (here (by kernel_rfl))
 replace h:=iteF hb h
 refine zM fun τ hτ=>?_
 exact jk_normal (none,none) h hτ (here (by kernel_rfl))
 replace h:=iteF hb h
 refine zL 0 fun τ hτ=>?_
 refine th_exit ?_
 obtain rfl:=osi h
 exact zF hτ
 intro x
 rfl
 intro τ hτ
 refine zQ (yE hτ [7] [500000] (z8 2 ⟨[(6,ro 500000 74)],[(500000,w_EdgeT 74 x486)]⟩ fun τ hτ=>?_))
 obtain rfl:=osi h
 exact rk_ret hτ [(6,ro 0 74)] (subR_prep [] [(500000,0)] (by kernel_rfl) rfl rfl (by kernel_rfl)) (by kernel_rfl)
theorem W.cut_edges_3_k_ok {y : Int} {a_0 : ByteArray} {a_1 : ByteArray} {a_2 : Int} {a_3 : Int} {a_4 : Int} {a_5 : Int} {a_6 : (List Rect)} {a_7 : (List Rect)} {a_8 : (List Piece)} {a2_0 : Int} {r : (Option Int)×(Option Int)} (h : cut_edges_3_k y a_0 a_1 a_2 a_3 a_4 a_5 a_6 a_7 a_8 a2_0=some r) : PC G.P 110 [(vI y),(.vptr [(vS a_0),(vS a_1),(vI a_2),(vI a_3),(vI a_4),(vI a_5),(.sl (List.map c_Rect a_6)),(.sl (List.map c_Rect a_7)),(.sl (List.map c_Piece a_8))] 0),(.vptr [(vI a2_0)] 0)] [] (.tup [(vF 198 194 r.1),(vF 198 194 r.2)]) []:=by
 refine zU G Tryz.func110 (yK [0,1,2] [] (y3 2 [0,1,2] [] (zB (sem_drawN [] [] [] [] [] 8 (by kernel_rfl) (by kernel_rfl) (by kernel_rfl) (evd_run 3 (by kernel_rfl) ?_)))))
 obtain ⟨r5,hr5,h⟩:=bindS h
 refine evd_callS [] [] (by kernel_rfl) (by kernel_rfl) (W.cut_at_k_ok hr5) (by kernel_rfl) (.inl rfl) (by kernel_rfl) (by kernel_rfl) (evd_run 4 (by kernel_rfl) (evd_end (by kernel_rfl) ?_))
 obtain ⟨r6,hr6,h⟩:=bindS h
 refine evo_callP [] (by kernel_rfl) (W.cut_at_k_ok hr6) (by kernel_rfl) (.inl rfl) (by kernel_rfl) (evo_run 2 (by kernel_rfl) (zO fun τ hτ=>?_))
 refine yE hτ [4,5] [] (zN fun τ hτ=>?_)
 obtain rfl:=osi h
 exact zV hτ [(4,vF 198 194 r5),(5,vF 198 194 r6)]
theorem W.cut_edges_4_k_ok {from0 : Int} {to1 : Int} {a_0 : Int} {r : Segment} (h : cut_edges_4_k from0 to1 a_0=some r) : PC G.P 111 [(vI from0),(vI to1),(.vptr [(vI a_0)] 0)] [] (.agg (c_Segment r)) [(0,.box [(vI a_0),(vI from0),(vI a_0),(vI to1)])]:=by
 refine zU G Tryz.func111 (yK [0,1,2] [] (y3 1 [0,1,2,5] [5] (z8 6 ⟨[(5,.ptr 5 0)],[(5,.box [(vI a_0),(vI from0),(vI a_0),(vI to1)])]⟩ fun τ hτ=>?_)))
 obtain rfl:=osi h
 exact rk_ret hτ [(5,.ptr 0 0)] (subR_prep [] [(5,0)] (by kernel_rfl) rfl rfl (by kernel_rfl)) (by kernel_rfl)
theorem W.cut_along__cut_edges_3__cut_edges_4_k_ok {ends : (List Int)} {sides_0_0 : ByteArray} {sides_0_1 : ByteArray} {sides_0_2 : Int} {sides_0_3 : Int} {sides_0_4 : Int} {sides_0_5 : Int} {sides_0_6 : (List Rect)} {sides_0_7 : (List Rect)} {sides_0_8 : (List Piece)} {sides_1_0 : Int} {line_0_0 : Int} {r : (List EdgeT)} (h : cut_along__cut_edges_3__cut_edges_4_k ends sides_0_0 sides_0_1 sides_0_2 sides_0_3 sides_0_4 sides_0_5 sides_0_6 sides_0_7 sides_0_8 sides_1_0 line_0_0=some r) : PC G.P 106 [(.sl (List.map cI ends)),(.fn 110 [(.vptr [(vS sides_0_0),(vS sides_0_1),(vI sides_0_2),(vI sides_0_3),(vI sides_0_4),(vI sides_0_5),(.sl (List.map c_Rect sides_0_6)),(.sl (List.map c_Rect sides_0_7)),(.sl (List.map c_Piece sides_0_8))] 0),(.vptr [(vI sides_1_0)] 0)]),(.fn 111 [(.vptr [(vI line_0_0)] 0)])] [] (.row (.top 0) 74) [(0,.row 74 [] (List.map c_EdgeT r))]:=by
 refine zU G Tryz.func106 (yK [0,1,2] [] (y3 1 [0,1,2] [] (y3 1 [0,1,2,7] [7] (y3 1 [0,1,2,7,8] [7] (z7 (zA 1 ?_))))))
 refine evs_at (at_mkif (x:=none) ifc_ (by kernel_rfl)) (zA 1 (evs_at (at_mkif (x:=none) ifc_ (by kernel_rfl)) (y1 2 [0,1,2,7,8,9,10] [7] (zB (z7 (zA 1 ?_))))))
 refine evs_op (st_len (c:=cI) (l:=ends) (x:=(sI ends)) (by kernel_rfl) (by kernel_rfl)) (y1 1 [0,1,2,7,8,9,10,19,20,21] [7] (zC ?_))
 obtain ⟨x486,hx486,h⟩:=bindS h
 refine sem_loopS (fun (s325 : Int×(Option Int)×(Option Int)×Int×(List EdgeT))=>⟨[(0,sI ends),(1,.fn 110 [(.vptr [(vS sides_0_0),(vS sides_0_1),(vI sides_0_2),(vI sides_0_3),(vI sides_0_4),(vI sides_0_5),(s_Rect sides_0_6),(s_Rect sides_0_7),(s_Piece sides_0_8)] 0),(.vptr [(vI sides_1_0)] 0)]),(2,.fn 111 [(.vptr [(vI line_0_0)] 0)]),(7,ro 500000 74),(8,vI s325.1),(9,vF 198 194 s325.2.1),(10,vF 198 194 s325.2.2.1),(19,sI ends),(20,vI (ends.length : Int)),(21,vI s325.2.2.2.1)],[(500000,w_EdgeT 74 s325.2.2.2.2)]⟩) (fun (x486 : (List EdgeT))=>(.exit 0,⟨[(7,ro 500000 74)],[(500000,w_EdgeT 74 x486)]⟩)) (cut_along__cut_edges_3__cut_edges_4_k_l3 ends sides_0_0 sides_0_1 sides_0_2 sides_0_3 sides_0_4 sides_0_5 sides_0_6 sides_0_7 sides_0_8 sides_1_0 line_0_0) (0,none,none,0,[]) x486 (by kernel_rfl) (subR_prep [] [(7,500000)] (by kernel_rfl) rfl rfl (by kernel_rfl)) (iter_loop hx486) ?_ ?_ ?_
 intro s325 r h
 refine y3 1 [0,1,2,7,8,9,10,19,20,21,22] [500000] (zB (zI (decide (s325.2.2.2.1 < (ends.length : Int))) (fun hb=>?_) fun hb=>?_))
 replace h:=iteT hb h
 refine y4 [0,1,2,7,8,9,10,19,20,21] [500000] (zB (zC (z7 (zA 1 ?_))))
 obtain ⟨x447,hx447,h⟩:=bindS h
 refine evs_op (st_idx (c:=cI) (l:=ends) (i:=s325.2.2.2.1) (kd:=.i64) (sz:=1) (by kernel_rfl) hx447 rfl) (y1 3 [0,1,2,7,8,9,10,11,12,19,20,21] [500000] (z7 (zA 1 (evs_at (at_mkif (x:=none) ifc_ (by kernel_rfl)) (zA 1 (evs_at (at_mkif (x:=none) ifc_ (by kernel_rfl)) ?_))))))
 refine y1 2 [0,1,2,7,8,9,10,11,12,13,14,19,20,21] [500000] (sem_seqJ (fun (j450 : (Option Int)×(Option Int))=>⟨[(0,sI ends),(1,.fn 110 [(.vptr [(vS sides_0_0),(vS sides_0_1),(vI sides_0_2),(vI sides_0_3),(vI sides_0_4),(vI sides_0_5),(s_Rect sides_0_6),(s_Rect sides_0_7),(s_Piece sides_0_8)] 0),(.vptr [(vI sides_1_0)] 0)]),(2,.fn 111 [(.vptr [(vI line_0_0)] 0)]),(7,ro 500000 74),(8,vI s325.1),(9,vF 198 194 s325.2.1),(10,vF 198 194 s325.2.2.1),(12,vI x447),(13,vF 198 194 j450.1),(14,vF 198 194 j450.2),(19,sI ends),(20,vI (ends.length : Int)),(21,vI s325.2.2.2.1)],[(500000,w_EdgeT 74 s325.2.2.2.2)]⟩) (cut_along__cut_edges_3__cut_edges_4_k_k2 line_0_0 s325 x447) r (by kernel_rfl) (fun j450 h=>?_) ?_)
 refine zB (zB ?_)
 obtain ⟨j452,hj452,h⟩:=bindS h
 refine zT ⟨[(0,sI ends),(1,.fn 110 [(.vptr [(vS sides_0_0),(vS sides_0_1),(vI sides_0_2),(vI sides_0_3),(vI sides_0_4),(vI sides_0_5),(s_Rect sides_0_6),(s_Rect sides_0_7),(s_Piece sides_0_8)] 0),(.vptr [(vI sides_1_0)] 0)]),(2,.fn 111 [(.vptr [(vI line_0_0)] 0)]),(7,ro 500000 74),(8,vI s325.1),(9,vF 198 194 s325.2.1),(10,vF 198 194 s325.2.2.1),(12,vI x447),(13,vF 198 194 j450.1),(14,vF 198 194 j450.2),(19,sI ends),(20,vI (ends.length : Int)),(21,vI s325.2.2.2.1),(48,vB j452)],[(500000,w_EdgeT 74 s325.2.2.2.2)]⟩ ?_ fun τ hτ=>?_
 replace h:=hj452
 refine zA 2 (evs_at (at_ife (x:=j450.1) (y:=s325.2.1) ifc_ (by kernel_rfl)) (zA 1 (zS (j450.1==s325.2.1) (fun b0=>⟨[(0,sI ends),(1,.fn 110 [(.vptr [(vS sides_0_0),(vS sides_0_1),(vI sides_0_2),(vI sides_0_3),(vI sides_0_4),(vI sides_0_5),(s_Rect sides_0_6),(s_Rect sides_0_7),(s_Piece sides_0_8)] 0),(.vptr [(vI sides_1_0)] 0)]),(2,.fn 111 [(.vptr [(vI line_0_0)] 0)]),(7,ro 500000 74),(8,vI s325.1),(9,vF 198 194 s325.2.1),(10,vF 198 194 s325.2.2.1),(12,vI x447),(13,vF 198 194 j450.1),(14,vF 198 194 j450.2),(19,sI ends),(20,vI (ends.length : Int)),(21,vI s325.2.2.2.1),(44,vB b0)],[(500000,w_EdgeT 74 s325.2.2.2.2)]⟩) (fun hb=>?_) fun hb=>?_)))
 replace h:=iteT hb h
 refine zA 2 (evs_at (at_ife (x:=j450.2) (y:=s325.2.2.1) ifc_ (by kernel_rfl)) (z6 1 fun τ hτ=>?_))
 obtain rfl:=osi h
 exact zG hτ
 replace h:=iteF hb h
 refine z6 4 fun τ hτ=>?_
 obtain rfl:=osi h
 exact zG hτ
 refine yE hτ [0,1,2,7,8,9,10,12,13,14,19,20,21,48] [500000] (zI j452 (fun hb=>?_) fun hb=>?_)
 replace h:=iteT hb h
 exact nomatch h
 replace h:=iteF hb h
 refine y4 [0,1,2,7,8,9,10,12,13,14,19,20,21] [500000] (sem_seqJ (fun (j468 : (List EdgeT))=>⟨[(0,sI ends),(1,.fn 110 [(.vptr [(vS sides_0_0),(vS sides_0_1),(vI sides_0_2),(vI sides_0_3),(vI sides_0_4),(vI sides_0_5),(s_Rect sides_0_6),(s_Rect sides_0_7),(s_Piece sides_0_8)] 0),(.vptr [(vI sides_1_0)] 0)]),(2,.fn 111 [(.vptr [(vI line_0_0)] 0)]),(7,ro 500000 74),(12,vI x447),(13,vF 198 194 j450.1),(14,vF 198 194 j450.2),(19,sI ends),(20,vI (ends.length : Int)),(21,vI s325.2.2.2.1)],[(500000,w_EdgeT 74 j468)]⟩) (cut_along__cut_edges_3__cut_edges_4_k_k1 s325 x447 j450) r (by kernel_rfl) (fun j468 h=>?_) ?_)
 refine zD (z6 6 fun τ hτ=>?_)
 refine bl_normal (yE hτ [0,1,2,7,8,9,10,19,20,21] [500000] (zD (z6 2 fun τ hτ=>?_)))
 obtain rfl:=osi h
 exact zH hτ
 refine zB ?_
 obtain ⟨j471,hj471,h⟩:=bindS h
 refine zT ⟨[(0,sI ends),(1,.fn 110 [(.vptr [(vS sides_0_0),(vS sides_0_1),(vI sides_0_2),(vI sides_0_3),(vI sides_0_4),(vI sides_0_5),(s_Rect sides_0_6),(s_Rect sides_0_7),(s_Piece sides_0_8)] 0),(.vptr [(vI sides_1_0)] 0)]),(2,.fn 111 [(.vptr [(vI line_0_0)] 0)]),(7,ro 500000 74),(8,vI s325.1),(9,vF 198 194 s325.2.1),(10,vF 198 194 s325.2.2.1),(12,vI x447),(13,vF 198 194 j450.1),(14,vF 198 194 j450.2),(19,sI ends),(20,vI (ends.length : Int)),(21,vI s325.2.2.2.1),(59,vB j471)],[(500000,w_EdgeT 74 s325.2.2.2.2)]⟩ ?_ fun τ hτ=>?_
 replace h:=hj471
 refine zA 2 (evs_at (at_ifn (x:=s325.2.1) (y:=s325.2.2.1) ifc_ (by kernel_rfl)) (zA 1 (zS (s325.2.1==s325.2.2.1) (fun b0=>⟨[(0,sI ends),(1,.fn 110 [(.vptr [(vS sides_0_0),(vS sides_0_1),(vI sides_0_2),(vI sides_0_3),(vI sides_0_4),(vI sides_0_5),(s_Rect sides_0_6),(s_Rect sides_0_7),(s_Piece sides_0_8)] 0),(.vptr [(vI sides_1_0)] 0)]),(2,.fn 111 [(.vptr [(vI line_0_0)] 0)]),(7,ro 500000 74),(8,vI s325.1),(9,vF 198 194 s325.2.1),(10,vF 198 194 s325.2.2.1),(12,vI x447),(13,vF 198 194 j450.1),(14,vF 198 194 j450.2),(19,sI ends),(20,vI (ends.length : Int)),(21,vI s325.2.2.2.1),(52,vB (!b0))],[(500000,w_EdgeT 74 s325.2.2.2.2)]⟩) (fun hb=>?_) fun hb=>?_)))
 replace h:=iteT hb h
 refine z6 7 fun τ hτ=>?_
 obtain rfl:=osi h
 exact zG hτ
 replace h:=iteF hb h
 refine zA 1 ?_
 obtain ⟨b472,hb472,h⟩:=bindS h
 refine evs_inv (x:=s325.2.1) (r:=b472) ifc_ (by kernel_rfl) (inv_pc hb472 (fun n h=>W.cut_pieceNo_solid_k_ok h) (fun h=>W.cut_nothing_solid_k_ok h)) (zA 1 (zS b472 (fun b0=>⟨[(0,sI ends),(1,.fn 110 [(.vptr [(vS sides_0_0),(vS sides_0_1),(vI sides_0_2),(vI sides_0_3),(vI sides_0_4),(vI sides_0_5),(s_Rect sides_0_6),(s_Rect sides_0_7),(s_Piece sides_0_8)] 0),(.vptr [(vI sides_1_0)] 0)]),(2,.fn 111 [(.vptr [(vI line_0_0)] 0)]),(7,ro 500000 74),(8,vI s325.1),(9,vF 198 194 s325.2.1),(10,vF 198 194 s325.2.2.1),(12,vI x447),(13,vF 198 194 j450.1),(14,vF 198 194 j450.2),(19,sI ends),(20,vI (ends.length : Int)),(21,vI s325.2.2.2.1),(52,vB true),(55,vB b0)],[(500000,w_EdgeT 74 s325.2.2.2.2)]⟩) (fun hb=>?_) fun hb=>?_))
 replace h:=iteT hb h
 refine z6 4 fun τ hτ=>?_
 obtain rfl:=osi h
 exact zG hτ
 replace h:=iteF hb h
 refine zA 1 ?_
 obtain ⟨b473,hb473,h⟩:=bindS h
 refine evs_inv (x:=s325.2.2.1) (r:=b473) ifc_ (by kernel_rfl) (inv_pc hb473 (fun n h=>W.cut_pieceNo_solid_k_ok h) (fun h=>W.cut_nothing_solid_k_ok h)) (z6 2 fun τ hτ=>?_)
 obtain rfl:=osi h
 exact zG hτ
 refine yE hτ [0,1,2,7,8,9,10,12,13,14,19,20,21,59] [500000] (zI j471 (fun hb=>?_) fun hb=>?_)
 replace h:=iteT hb h
 refine zD (zA 4 ?_)
 obtain ⟨r479,hr479,h⟩:=bindS h
 refine evs_callS [] [(0,700200)] [] (by kernel_rfl) (W.cut_edges_4_k_ok hr479) (by kernel_rfl) (by kernel_rfl) (.inl rfl) (zA 1 ?_)
 obtain ⟨r480,hr480,h⟩:=bindS h
 refine evs_callP [] (by kernel_rfl) (W.cut_number_k_ok hr480) (by kernel_rfl) (.inl rfl) (by kernel_rfl) (zA 1 ?_)
 obtain ⟨r481,hr481,h⟩:=bindS h
 refine evs_callP [] (by kernel_rfl) (W.cut_number_k_ok hr481) (by kernel_rfl) (.inl rfl) (by kernel_rfl) ?_
 obtain ⟨r482,hr482,h⟩:=bindS h
 refine evs_callS [] [(0,700450)] [] (by kernel_rfl) (W.cut_edge_k_ok hr482) (by kernel_rfl) (by kernel_rfl) (.inl rfl) (zA 1 ?_)
 obtain ⟨l483,hl483,h⟩:=bindS h
 refine evs_op (st_app (c:=c_EdgeT) (l:=s325.2.2.2.2) (l2:=[(EdgeT.mk (Segment.mk r482.1.Line.X1 r482.1.Line.Y1 r482.1.Line.X2 r482.1.Line.Y2) r482.1.A r482.1.B)]) (x:=(s_EdgeT [(EdgeT.mk (Segment.mk r482.1.Line.X1 r482.1.Line.Y1 r482.1.Line.X2 r482.1.Line.Y2) r482.1.A r482.1.B)])) (g:=500000) (e:=74) (sz:=6) (d:=71) (by kernel_rfl) (by kernel_rfl) (by kernel_rfl) (by kernel_rfl) (fun _=>rfl) rfl hl483) (z6 1 fun τ hτ=>?_)
 exact jk_normal l483 h hτ (here (by kernel_rfl))
 replace h:=iteF hb h
 refine zM fun τ hτ=>?_
 exact jk_normal s325.2.2.2.2 h hτ (here (by kernel_rfl))
 refine z7 (zA 3 (evs_op (st_len (c:=cI) (l:=ends) (x:=(sI ends)) (by kernel_rfl) (by kernel_rfl)) (y1 1 [0,1,2,7,8,9,10,12,13,14,19,20,21,34] [500000] (zI (decide ((iadd s325.2.2.2.1 1) < (ends.length : Int))) (fun hb=>?_) fun hb=>?_))))
 replace h:=iteT hb h
 refine zD (zA 2 ?_)
 obtain ⟨r485,hr485,h⟩:=bindS h
 refine evs_callP [] (by kernel_rfl) (W.cut_edges_3_k_ok hr485) (by kernel_rfl) (.inl rfl) (by kernel_rfl) (z6 5 fun τ hτ=>?_)
 exact jk_normal (r485.1,r485.2) h hτ (here (by kernel_rfl))
 replace h:=iteF hb h
 refine zM fun τ hτ=>?_
 exact jk_normal (none,none) h hτ (here (by kernel_rfl))
 replace h:=iteF hb h
 refine zL 0 fun τ hτ=>?_
 refine th_exit ?_
 obtain rfl:=osi h
 exact zF hτ
 intro x
 rfl
 intro τ hτ
 refine zQ (yE hτ [7] [500000] (z8 2 ⟨[(6,ro 500000 74)],[(500000,w_EdgeT 74 x486)]⟩ fun τ hτ=>?_))
 obtain rfl:=osi h
 exact rk_ret hτ [(6,ro 0 74)] (subR_prep [] [(500000,0)] (by kernel_rfl) rfl rfl (by kernel_rfl)) (by kernel_rfl)
end Go.Proofs.YtgfjbgoehhnaeaaGreat
