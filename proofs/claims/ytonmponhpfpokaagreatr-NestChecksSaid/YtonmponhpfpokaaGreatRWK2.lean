/- Each Go function does what its model says; written by a program out of the translation. -/
import Derived.Test.YtonmponhpfpokaaGreatRWK1
import Derived.Test.YtonmponhpfpokaaGreatRNeMK
set_option linter.unusedVariables false
set_option linter.unusedSimpArgs false
set_option linter.unusedSectionVars false
namespace Go.Proofs.YtonmponhpfpokaaGreatR
open Go Go.VI Go.SM Go.Proofs
set_option maxRecDepth 100000
set_option maxHeartbeats 4000000
theorem W.nest_plain_ok {gauge : Int} {grain : Int} {r : Bool} (h : nest_plain gauge grain = some r) : PC G.P 50 [(vI gauge),(vI grain)] [] (vB r) []:=by
 refine zU G Tryz.func50 (zK ⟨[(0,vI gauge),(1,vI grain)],[]⟩ (z3 1 ⟨[(0,vI gauge),(1,vI grain)],[]⟩ ?_))
 refine zB ?_
 obtain ⟨j3,hj3,h⟩:=bindS h
 refine zT ⟨[(4,vB j3)],[]⟩ ?_ fun τ hτ=>?_
 replace h:=hj3
 refine zA 1 ?_
 obtain ⟨r4,hr4,h⟩:=bindS h
 refine evs_callP [] (by kernel_rfl) (W.nest_from_ok hr4) (by kernel_rfl) (.inl rfl) (by kernel_rfl) (zA 1 (zS r4 (fun b0=>⟨[(1,vI grain),(7,vB b0)],[]⟩) (fun hb=>?_) fun hb=>?_))
 replace h:=iteT hb h
 refine zA 1 ?_
 obtain ⟨r5,hr5,h⟩:=bindS h
 refine evs_callP [] (by kernel_rfl) (W.nest_from_ok hr5) (by kernel_rfl) (.inl rfl) (by kernel_rfl) (z6 2 fun τ hτ=>?_)
 obtain rfl:=osi h
 exact zG hτ
 replace h:=iteF hb h
 refine z6 4 fun τ hτ=>?_
 obtain rfl:=osi h
 exact zG hτ
 refine zE hτ ⟨[(4,vB j3)],[]⟩ (zN fun τ hτ=>?_)
 obtain rfl:=osi h
 exact zV hτ [(4,vB j3)]
theorem W.nest_valid_ok {l : (List Rect)} {r : Bool} (h : nest_valid l = some r) : PC G.P 52 [(.sl (List.map c_Rect l))] [] (vB r) []:=by
 refine zU G Tryz.func52 (zK ⟨[(0,s_Rect l)],[]⟩ (z3 1 ⟨[(0,s_Rect l)],[]⟩ ?_))
 refine zB (z7 (zA 1 ?_))
 refine evs_op (st_len (c:=c_Rect) (l:=l) (x:=(s_Rect l)) (by kernel_rfl) (by kernel_rfl)) (z1 1 ⟨[(5,s_Rect l),(6,vI (l.length : Int)),(7,vI 0)],[]⟩ (zC ?_))
 obtain ⟨x56,hx56,h⟩:=bindS h
 refine sem_loopS (fun (s39 : Int)=>⟨[(5,s_Rect l),(6,vI (l.length : Int)),(7,vI s39)],[]⟩) (fun (x56 : Unit ⊕ Unit)=>match x56 with | .inl j57=>(.ret,⟨[(2,vB false)],[]⟩) | .inr j58=>(.exit 0,⟨[],[]⟩)) (nest_valid_l1 l) 0 x56 (by kernel_rfl) (here (by kernel_rfl)) hx56 ?_ ?_ ?_
 intro s39 r h
 refine z3 1 ⟨[(5,s_Rect l),(6,vI (l.length : Int)),(7,vI s39),(8,vB (decide (s39 < (l.length : Int))))],[]⟩ (zB (zI (decide (s39 < (l.length : Int))) (fun hb=>?_) fun hb=>?_))
 replace h:=iteT hb h
 refine z4 ⟨[(5,s_Rect l),(6,vI (l.length : Int)),(7,vI s39)],[]⟩ (zB (zC ?_))
 refine z7 ?_
 obtain ⟨x53,hx53,h⟩:=bindS h
 refine evs_op (st_idx (c:=c_Rect) (l:=l) (i:=s39) (kd:=.i64) (sz:=4) (by kernel_rfl) hx53 rfl) (z1 3 ⟨[(4,.ptr 4 0),(5,s_Rect l),(6,vI (l.length : Int)),(7,vI s39)],[(4,.box (c_Rect x53))]⟩ (z7 ?_))
 refine zA 1 ?_
 obtain ⟨r55,hr55,h⟩:=bindS h
 refine evs_callP [] (by kernel_rfl) (W.geom_ValidRect_ok hr55) (by kernel_rfl) (.inl rfl) (by kernel_rfl) (z1 1 ⟨[(5,s_Rect l),(6,vI (l.length : Int)),(7,vI s39),(13,vB (!r55))],[]⟩ (zI (!r55) (fun hb=>?_) fun hb=>?_))
 replace h:=iteT hb h
 refine z8 1 ⟨[(2,vB false)],[]⟩ fun τ hτ=>?_
 refine bl_ret (th_ret ?_)
 obtain rfl:=osi h
 exact zF hτ
 replace h:=iteF hb h
 refine zM fun τ hτ=>?_
 refine bl_normal (zE hτ ⟨[(5,s_Rect l),(6,vI (l.length : Int)),(7,vI s39)],[]⟩ (zD ?_))
 refine z6 2 fun τ hτ=>?_
 obtain rfl:=osi h
 exact zH hτ
 replace h:=iteF hb h
 refine zL 0 fun τ hτ=>?_
 refine th_exit ?_
 obtain rfl:=osi h
 exact zF hτ
 intro x
 rcases x with _ | _ <;> rfl
 intro τ hτ
 rcases x56 with j57 | j58
 refine bl_ret (th_ret ?_)
 obtain rfl:=osi h
 exact zV hτ [(2,vB false)]
 refine zQ (zE hτ ⟨[],[]⟩ (z8 1 ⟨[(2,vB true)],[]⟩ fun τ hτ=>?_))
 obtain rfl:=osi h
 exact zV hτ [(2,vB true)]
theorem W.nest_inner_ok {s0 : Sheet} {margin : Int} {r : Rect × Bool} (h : nest_inner s0 margin = some r) : PC G.P 53 [(.agg (c_Sheet s0)),(vI margin)] [] (.tup [(.agg (c_Rect r.1)),(vB r.2)]) [(0,.box [(vI margin),(vI margin),(vI (isub s0.Width (imul 2 margin))),(vI (isub s0.Height (imul 2 margin)))])]:=by
 refine zU G Tryz.func53 (zK ⟨[(0,.agg (c_Sheet s0)),(1,vI margin)],[]⟩ (z3 3 ⟨[(1,vI margin),(2,.ptr 2 0),(4,.ptr 4 0)],[(2,.box (c_Sheet s0)),(4,.box [(vI 0),(vI 0),(vI 0),(vI 0)])]⟩ ?_))
 refine z3 15 ⟨[(4,.ptr 4 0),(6,.ptr 6 0)],[(4,.box [(vI 0),(vI 0),(vI 0),(vI 0)]),(6,.box [(vI margin),(vI margin),(vI (isub s0.Width (imul 2 margin))),(vI (isub s0.Height (imul 2 margin)))])]⟩ (zB (sem_drawN [] [] [] [] [] 3 (by kernel_rfl) (by kernel_rfl) (by kernel_rfl) ?_))
 refine evd_run 2 (by kernel_rfl) ?_
 obtain ⟨r3,hr3,h⟩:=bindS h
 refine evd_callS [] [] (by kernel_rfl) (by kernel_rfl) (W.geom_ValidRect_ok hr3) (by kernel_rfl) (.inl rfl) (by kernel_rfl) (by kernel_rfl) (evd_end (by kernel_rfl) (evo_run 2 (by kernel_rfl) ?_))
 refine zO fun τ hτ=>?_
 refine zE hτ ⟨[(4,.ptr 4 0),(5,vB r3)],[(4,.box [(vI margin),(vI margin),(vI (isub s0.Width (imul 2 margin))),(vI (isub s0.Height (imul 2 margin)))])]⟩ (zN fun τ hτ=>?_)
 obtain rfl:=osi h
 exact rk_ret hτ [(4,.ptr 0 0),(5,vB r3)] (subR_prep [] [(4,0)] (by kernel_rfl) rfl rfl (by kernel_rfl)) (by kernel_rfl)
theorem W.geom_Inside_ok {a : Rect} {b : Rect} {r : Bool} (h : geom_Inside a b = some r) : PC G.P 54 [(.agg (c_Rect a)),(.agg (c_Rect b))] [] (vB r) []:=by
 refine zU G Tryz.func54 (zK ⟨[(0,.agg (c_Rect a)),(1,.agg (c_Rect b))],[]⟩ (z3 3 ⟨[(2,.ptr 2 0),(3,.ptr 3 0)],[(2,.box (c_Rect a)),(3,.box (c_Rect b))]⟩ ?_))
 refine zB ?_
 obtain ⟨j3,hj3,h⟩:=bindS h
 refine zT ⟨[(4,vB j3)],[]⟩ ?_ fun τ hτ=>?_
 replace h:=hj3
 refine zA 1 ?_
 obtain ⟨r4,hr4,h⟩:=bindS h
 refine evs_callP [] (by kernel_rfl) (W.geom_ValidRect_ok hr4) (by kernel_rfl) (.inl rfl) (by kernel_rfl) (zA 1 (zS r4 (fun b0=>⟨[(2,.ptr 2 0),(3,.ptr 3 0),(7,vB b0)],[(2,.box (c_Rect a)),(3,.box (c_Rect b))]⟩) (fun hb=>?_) fun hb=>?_))
 replace h:=iteT hb h
 refine zA 1 ?_
 obtain ⟨r5,hr5,h⟩:=bindS h
 refine evs_callP [] (by kernel_rfl) (W.geom_ValidRect_ok hr5) (by kernel_rfl) (.inl rfl) (by kernel_rfl) (zA 2 (zS r5 (fun b0=>⟨[(2,.ptr 2 0),(3,.ptr 3 0),(11,vB b0)],[(2,.box (c_Rect a)),(3,.box (c_Rect b))]⟩) (fun hb=>?_) fun hb=>?_))
 replace h:=iteT hb h
 refine zA 7 (zS (decide (b.X ≤ a.X)) (fun b0=>⟨[(2,.ptr 2 0),(3,.ptr 3 0),(18,vB b0)],[(2,.box (c_Rect a)),(3,.box (c_Rect b))]⟩) (fun hb=>?_) fun hb=>?_)
 replace h:=iteT hb h
 refine zA 13 (zS (decide ((iadd a.X a.W) ≤ (iadd b.X b.W))) (fun b0=>⟨[(2,.ptr 2 0),(3,.ptr 3 0),(31,vB b0)],[(2,.box (c_Rect a)),(3,.box (c_Rect b))]⟩) (fun hb=>?_) fun hb=>?_)
 replace h:=iteT hb h
 refine zA 7 (zS (decide (b.Y ≤ a.Y)) (fun b0=>⟨[(2,.ptr 2 0),(3,.ptr 3 0),(38,vB b0)],[(2,.box (c_Rect a)),(3,.box (c_Rect b))]⟩) (fun hb=>?_) fun hb=>?_)
 replace h:=iteT hb h
 refine z6 13 fun τ hτ=>?_
 obtain rfl:=osi h
 exact zG hτ
 replace h:=iteF hb h
 refine z6 13 fun τ hτ=>?_
 obtain rfl:=osi h
 exact zG hτ
 replace h:=iteF hb h
 refine z6 20 fun τ hτ=>?_
 obtain rfl:=osi h
 exact zG hτ
 replace h:=iteF hb h
 refine z6 33 fun τ hτ=>?_
 obtain rfl:=osi h
 exact zG hτ
 replace h:=iteF hb h
 refine z6 40 fun τ hτ=>?_
 obtain rfl:=osi h
 exact zG hτ
 replace h:=iteF hb h
 refine z6 44 fun τ hτ=>?_
 obtain rfl:=osi h
 exact zG hτ
 refine zE hτ ⟨[(4,vB j3)],[]⟩ (zN fun τ hτ=>?_)
 obtain rfl:=osi h
 exact zV hτ [(4,vB j3)]
theorem W.nest_ValidateSheet_ok {s0 : Sheet} {r : Int} (h : nest_ValidateSheet s0 = some r) : PC G.P 15 [(.agg (c_Sheet s0))] [] (vI r) []:=by
 refine zU G Tryz.func15 (zK ⟨[(0,.agg (c_Sheet s0))],[]⟩ (z3 2 ⟨[(1,.ptr 1 0)],[(1,.box (c_Sheet s0))]⟩ ?_))
 refine zB (zC (zB ?_))
 obtain ⟨j21,hj21,h⟩:=bindS h
 refine zT ⟨[(1,.ptr 500000 0),(9,vB j21)],[(500000,.box (c_Sheet s0))]⟩ ?_ fun τ hτ=>?_
 replace h:=hj21
 refine zA 2 ?_
 obtain ⟨r22,hr22,h⟩:=bindS h
 refine evs_callP [] (by kernel_rfl) (W.part_ValidName_ok hr22) (by kernel_rfl) (.inl rfl) (by kernel_rfl) (zA 2 (zS r22 (fun b0=>⟨[(1,.ptr 1 0),(14,vB (!b0))],[(1,.box (c_Sheet s0))]⟩) (fun hb=>?_) fun hb=>?_))
 replace h:=iteT hb h
 refine zA 2 ?_
 obtain ⟨r23,hr23,h⟩:=bindS h
 refine evs_callP [] (by kernel_rfl) (W.part_ValidName_ok hr23) (by kernel_rfl) (.inl rfl) (by kernel_rfl) (z6 3 fun τ hτ=>?_)
 obtain rfl:=osi h
 exact leafC hτ (subR_prep [] [(1,500000)] (by kernel_rfl) rfl rfl (by kernel_rfl))
 replace h:=iteF hb h
 refine z6 6 fun τ hτ=>?_
 obtain rfl:=osi h
 exact leafC hτ (subR_prep [] [(1,500000)] (by kernel_rfl) rfl rfl (by kernel_rfl))
 refine zE hτ ⟨[(1,.ptr 500000 0),(9,vB j21)],[(500000,.box (c_Sheet s0))]⟩ (zI j21 (fun hb=>?_) fun hb=>?_)
 replace h:=iteT hb h
 refine z8 1 ⟨[(2,vI 2)],[]⟩ fun τ hτ=>?_
 refine bl_ret (th_ret ?_)
 obtain rfl:=osi h
 exact zV hτ [(2,vI 2)]
 replace h:=iteF hb h
 refine zB ?_
 obtain ⟨j27,hj27,h⟩:=bindS h
 refine zT ⟨[(1,.ptr 500000 0),(20,vB j27)],[(500000,.box (c_Sheet s0))]⟩ ?_ fun τ hτ=>?_
 replace h:=hj27
 refine zA 4 ?_
 obtain ⟨r28,hr28,h⟩:=bindS h
 refine evs_callP [] (by kernel_rfl) (W.nest_plain_ok hr28) (by kernel_rfl) (.inl rfl) (by kernel_rfl) (zA 2 (zS r28 (fun b0=>⟨[(1,.ptr 500000 0),(27,vB (!b0))],[(500000,.box (c_Sheet s0))]⟩) (fun hb=>?_) fun hb=>?_))
 replace h:=iteT hb h
 refine zA 2 ?_
 obtain ⟨r29,hr29,h⟩:=bindS h
 refine evs_callP [] (by kernel_rfl) (W.nest_from_ok hr29) (by kernel_rfl) (.inl rfl) (by kernel_rfl) (zA 3 (zS r29 (fun b0=>⟨[(1,.ptr 500000 0),(33,vB (!b0))],[(500000,.box (c_Sheet s0))]⟩) (fun hb=>?_) fun hb=>?_))
 replace h:=iteT hb h
 refine zA 2 ?_
 obtain ⟨r30,hr30,h⟩:=bindS h
 refine evs_callP [] (by kernel_rfl) (W.nest_from_ok hr30) (by kernel_rfl) (.inl rfl) (by kernel_rfl) (z6 3 fun τ hτ=>?_)
 obtain rfl:=osi h
 exact zG hτ
 replace h:=iteF hb h
 refine z6 6 fun τ hτ=>?_
 obtain rfl:=osi h
 exact zG hτ
 replace h:=iteF hb h
 refine z6 12 fun τ hτ=>?_
 obtain rfl:=osi h
 exact zG hτ
 refine zE hτ ⟨[(1,.ptr 500000 0),(20,vB j27)],[(500000,.box (c_Sheet s0))]⟩ (zI j27 (fun hb=>?_) fun hb=>?_)
 replace h:=iteT hb h
 refine z8 1 ⟨[(2,vI 1)],[]⟩ fun τ hτ=>?_
 refine bl_ret (th_ret ?_)
 obtain rfl:=osi h
 exact zV hτ [(2,vI 1)]
 replace h:=iteF hb h
 refine zB ?_
 obtain ⟨j31,hj31,h⟩:=bindS h
 refine zT ⟨[(1,.ptr 500000 0),(39,vB j31)],[(500000,.box (c_Sheet s0))]⟩ ?_ fun τ hτ=>?_
 replace h:=hj31
 refine zA 2 (evs_op (st_len (c:=c_Rect) (l:=s0.Clamps) (x:=(s_Rect s0.Clamps)) (by kernel_rfl) (by kernel_rfl)) (zA 2 ?_))
 refine zS (decide ((s0.Clamps.length : Int) > 4)) (fun b0=>⟨[(1,.ptr 500000 0),(44,vB b0)],[(500000,.box (c_Sheet s0))]⟩) (fun hb=>?_) fun hb=>?_
 replace h:=iteT hb h
 refine z6 6 fun τ hτ=>?_
 obtain rfl:=osi h
 exact zG hτ
 replace h:=iteF hb h
 refine zA 2 (evs_op (st_len (c:=c_Rect) (l:=s0.Used) (x:=(s_Rect s0.Used)) (by kernel_rfl) (by kernel_rfl)) (z6 3 fun τ hτ=>?_))
 obtain rfl:=osi h
 exact zG hτ
 refine zE hτ ⟨[(1,.ptr 500000 0),(39,vB j31)],[(500000,.box (c_Sheet s0))]⟩ (zI j31 (fun hb=>?_) fun hb=>?_)
 replace h:=iteT hb h
 refine z8 1 ⟨[(2,vI 4)],[]⟩ fun τ hτ=>?_
 refine bl_ret (th_ret ?_)
 obtain rfl:=osi h
 exact zV hτ [(2,vI 4)]
 replace h:=iteF hb h
 refine zB ?_
 obtain ⟨j34,hj34,h⟩:=bindS h
 refine zT ⟨[(1,.ptr 500000 0),(50,vB j34)],[(500000,.box (c_Sheet s0))]⟩ ?_ fun τ hτ=>?_
 replace h:=hj34
 refine zA 2 ?_
 obtain ⟨r35,hr35,h⟩:=bindS h
 refine evs_callP [] (by kernel_rfl) (W.nest_valid_ok hr35) (by kernel_rfl) (.inl rfl) (by kernel_rfl) (zA 2 (zS r35 (fun b0=>⟨[(1,.ptr 500000 0),(55,vB (!b0))],[(500000,.box (c_Sheet s0))]⟩) (fun hb=>?_) fun hb=>?_))
 replace h:=iteT hb h
 refine zA 2 ?_
 obtain ⟨r36,hr36,h⟩:=bindS h
 refine evs_callP [] (by kernel_rfl) (W.nest_valid_ok hr36) (by kernel_rfl) (.inl rfl) (by kernel_rfl) (z6 3 fun τ hτ=>?_)
 obtain rfl:=osi h
 exact zG hτ
 replace h:=iteF hb h
 refine z6 6 fun τ hτ=>?_
 obtain rfl:=osi h
 exact zG hτ
 refine zE hτ ⟨[(1,.ptr 500000 0),(50,vB j34)],[(500000,.box (c_Sheet s0))]⟩ (zI j34 (fun hb=>?_) fun hb=>?_)
 replace h:=iteT hb h
 refine z8 1 ⟨[(2,vI 1)],[]⟩ fun τ hτ=>?_
 refine bl_ret (th_ret ?_)
 obtain rfl:=osi h
 exact zV hτ [(2,vI 1)]
 replace h:=iteF hb h
 refine zM fun τ hτ=>?_
 refine bl_normal (zE hτ ⟨[(1,.ptr 500000 0)],[(500000,.box (c_Sheet s0))]⟩ (z7 ?_))
 refine zA 1 ?_
 obtain ⟨r38,hr38,h⟩:=bindS h
 refine evs_callS [] [(0,700050)] [] (by kernel_rfl) (W.nest_inner_ok hr38) (by kernel_rfl) (by kernel_rfl) (.inl rfl) (z1 6 ⟨[(1,.ptr 500000 0),(3,.ptr 3 0)],[(3,.box (c_Rect r38.1)),(500000,.box (c_Sheet s0))]⟩ (zB ?_))
 refine z7 (zA 5 (evs_op (st_len (c:=(cS c_Rect)) (l:=[s0.Clamps,s0.Used]) (x:=(.sl (List.map (cS c_Rect) [s0.Clamps,s0.Used]))) (by kernel_rfl) (by kernel_rfl)) ?_))
 refine z1 1 ⟨[(3,.ptr 3 0),(70,.sl (List.map (cS c_Rect) [s0.Clamps,s0.Used])),(71,vI ([s0.Clamps,s0.Used].length : Int)),(72,vI 0)],[(3,.box (c_Rect r38.1))]⟩ (zC ?_)
 obtain ⟨x418,hx418,h⟩:=bindS h
 refine sem_loopS (fun (s293 : Int)=>⟨[(3,.ptr 500000 0),(70,.sl (List.map (cS c_Rect) [s0.Clamps,s0.Used])),(71,vI ([s0.Clamps,s0.Used].length : Int)),(72,vI s293)],[(500000,.box (c_Rect r38.1))]⟩) (fun (x418 : Unit ⊕ Unit)=>match x418 with | .inl j419=>(.ret,⟨[(2,vI 13)],[]⟩) | .inr j420=>(.exit 1,⟨[],[]⟩)) (nest_ValidateSheet_l2 s0 r38) 0 x418 (by kernel_rfl) (subR_prep [] [(3,500000)] (by kernel_rfl) rfl rfl (by kernel_rfl)) hx418 ?_ ?_ ?_
 intro s293 r h
 refine z3 1 ⟨[(3,.ptr 500000 0),(70,.sl (List.map (cS c_Rect) [s0.Clamps,s0.Used])),(71,vI ([s0.Clamps,s0.Used].length : Int)),(72,vI s293),(73,vB (decide (s293 < ([s0.Clamps,s0.Used].length : Int))))],[(500000,.box (c_Rect r38.1))]⟩ (zB (zI (decide (s293 < ([s0.Clamps,s0.Used].length : Int))) (fun hb=>?_) fun hb=>?_))
 replace h:=iteT hb h
 refine z4 ⟨[(3,.ptr 500000 0),(70,.sl (List.map (cS c_Rect) [s0.Clamps,s0.Used])),(71,vI ([s0.Clamps,s0.Used].length : Int)),(72,vI s293)],[(500000,.box (c_Rect r38.1))]⟩ (zB (zC ?_))
 refine z7 ?_
 obtain ⟨x388,hx388,h⟩:=bindS h
 refine evs_op (st_idx (c:=(cS c_Rect)) (l:=[s0.Clamps,s0.Used]) (i:=s293) (kd:=.i64) (sz:=1) (by kernel_rfl) hx388 rfl) (z1 2 ⟨[(3,.ptr 500000 0),(6,s_Rect x388),(70,.sl (List.map (cS c_Rect) [s0.Clamps,s0.Used])),(71,vI ([s0.Clamps,s0.Used].length : Int)),(72,vI s293)],[(500000,.box (c_Rect r38.1))]⟩ (z7 ?_))
 refine zA 1 (evs_op (st_len (c:=c_Rect) (l:=x388) (x:=(s_Rect x388)) (by kernel_rfl) (by kernel_rfl)) (z1 1 ⟨[(3,.ptr 500000 0),(70,.sl (List.map (cS c_Rect) [s0.Clamps,s0.Used])),(71,vI ([s0.Clamps,s0.Used].length : Int)),(72,vI s293),(76,s_Rect x388),(77,vI (x388.length : Int)),(78,vI 0)],[(500000,.box (c_Rect r38.1))]⟩ ?_))
 refine zC ?_
 obtain ⟨x415,hx415,h⟩:=bindS h
 refine sem_loopS (fun (s398 : Int)=>⟨[(3,.ptr 500000 0),(70,.sl (List.map (cS c_Rect) [s0.Clamps,s0.Used])),(71,vI ([s0.Clamps,s0.Used].length : Int)),(72,vI s293),(76,s_Rect x388),(77,vI (x388.length : Int)),(78,vI s398)],[(500000,.box (c_Rect r38.1))]⟩) (fun (x415 : Unit ⊕ Unit)=>match x415 with | .inl j416=>(.ret,⟨[(2,vI 13)],[]⟩) | .inr j417=>(.exit 3,⟨[(3,.ptr 500000 0),(70,.sl (List.map (cS c_Rect) [s0.Clamps,s0.Used])),(71,vI ([s0.Clamps,s0.Used].length : Int)),(72,vI s293)],[(500000,.box (c_Rect r38.1))]⟩)) (nest_ValidateSheet_l1 r38 x388) 0 x415 (by kernel_rfl) (here (by kernel_rfl)) hx415 ?_ ?_ ?_
 intro s398 r h
 refine z3 1 ⟨[(3,.ptr 500000 0),(70,.sl (List.map (cS c_Rect) [s0.Clamps,s0.Used])),(71,vI ([s0.Clamps,s0.Used].length : Int)),(72,vI s293),(76,s_Rect x388),(77,vI (x388.length : Int)),(78,vI s398),(79,vB (decide (s398 < (x388.length : Int))))],[(500000,.box (c_Rect r38.1))]⟩ (zB (zI (decide (s398 < (x388.length : Int))) (fun hb=>?_) fun hb=>?_))
 replace h:=iteT hb h
 refine z4 ⟨[(3,.ptr 500000 0),(70,.sl (List.map (cS c_Rect) [s0.Clamps,s0.Used])),(71,vI ([s0.Clamps,s0.Used].length : Int)),(72,vI s293),(76,s_Rect x388),(77,vI (x388.length : Int)),(78,vI s398)],[(500000,.box (c_Rect r38.1))]⟩ (zB (zC ?_))
 refine z7 ?_
 obtain ⟨x412,hx412,h⟩:=bindS h
 refine evs_op (st_idx (c:=c_Rect) (l:=x388) (i:=s398) (kd:=.i64) (sz:=4) (by kernel_rfl) hx412 rfl) (z1 3 ⟨[(3,.ptr 500000 0),(8,.ptr 8 0),(70,.sl (List.map (cS c_Rect) [s0.Clamps,s0.Used])),(71,vI ([s0.Clamps,s0.Used].length : Int)),(72,vI s293),(76,s_Rect x388),(77,vI (x388.length : Int)),(78,vI s398)],[(8,.box (c_Rect x412)),(500000,.box (c_Rect r38.1))]⟩ (z7 ?_))
 refine zA 2 ?_
 obtain ⟨r414,hr414,h⟩:=bindS h
 refine evs_callP [] (by kernel_rfl) (W.geom_Inside_ok hr414) (by kernel_rfl) (.inl rfl) (by kernel_rfl) (z1 1 ⟨[(3,.ptr 500000 0),(70,.sl (List.map (cS c_Rect) [s0.Clamps,s0.Used])),(71,vI ([s0.Clamps,s0.Used].length : Int)),(72,vI s293),(76,s_Rect x388),(77,vI (x388.length : Int)),(78,vI s398),(85,vB (!r414))],[(500000,.box (c_Rect r38.1))]⟩ (zI (!r414) (fun hb=>?_) fun hb=>?_))
 replace h:=iteT hb h
 refine z8 1 ⟨[(2,vI 13)],[]⟩ fun τ hτ=>?_
 refine bl_ret (th_ret ?_)
 obtain rfl:=osi h
 exact zF hτ
 replace h:=iteF hb h
 refine zM fun τ hτ=>?_
 refine bl_normal (zE hτ ⟨[(3,.ptr 500000 0),(70,.sl (List.map (cS c_Rect) [s0.Clamps,s0.Used])),(71,vI ([s0.Clamps,s0.Used].length : Int)),(72,vI s293),(76,s_Rect x388),(77,vI (x388.length : Int)),(78,vI s398)],[(500000,.box (c_Rect r38.1))]⟩ (zD ?_))
 refine z6 2 fun τ hτ=>?_
 obtain rfl:=osi h
 exact zH hτ
 replace h:=iteF hb h
 refine zL 3 fun τ hτ=>?_
 refine th_exit ?_
 obtain rfl:=osi h
 exact zF hτ
 intro x
 rcases x with _ | _ <;> rfl
 intro τ hτ
 rcases x415 with j416 | j417
 refine bl_ret (bl_ret (th_ret ?_))
 obtain rfl:=osi h
 exact zF hτ
 refine zQ (bl_normal (zE hτ ⟨[(3,.ptr 500000 0),(70,.sl (List.map (cS c_Rect) [s0.Clamps,s0.Used])),(71,vI ([s0.Clamps,s0.Used].length : Int)),(72,vI s293)],[(500000,.box (c_Rect r38.1))]⟩ ?_))
 refine zD (z6 2 fun τ hτ=>?_)
 obtain rfl:=osi h
 exact zH hτ
 replace h:=iteF hb h
 refine zL 1 fun τ hτ=>?_
 refine th_exit ?_
 obtain rfl:=osi h
 exact zF hτ
 intro x
 rcases x with _ | _ <;> rfl
 intro τ hτ
 rcases x418 with j419 | j420
 refine bl_ret (th_ret ?_)
 obtain rfl:=osi h
 exact zV hτ [(2,vI 13)]
 refine zQ (zE hτ ⟨[],[]⟩ (z8 1 ⟨[(2,vI 0)],[]⟩ fun τ hτ=>?_))
 obtain rfl:=osi h
 exact zV hτ [(2,vI 0)]
theorem W.sheetmetalref02_within_ok {n : Int} {lo : Int} {hi : Int} {r : Bool} (h : sheetmetalref02_within n lo hi = some r) : PC G.P 123 [(vI n),(vI lo),(vI hi)] [] (vB r) []:=by
 refine zU G Tryz.func123 (zK ⟨[(0,vI n),(1,vI lo),(2,vI hi)],[]⟩ (z3 1 ⟨[(0,vI n),(1,vI lo),(2,vI hi)],[]⟩ ?_))
 refine zB ?_
 obtain ⟨j1,hj1,h⟩:=bindS h
 refine zT ⟨[(6,vB j1)],[]⟩ ?_ fun τ hτ=>?_
 replace h:=hj1
 refine zA 4 (zS (decide (n ≥ lo)) (fun b0=>⟨[(0,vI n),(2,vI hi),(10,vB b0)],[]⟩) (fun hb=>?_) fun hb=>?_)
 replace h:=iteT hb h
 refine z6 5 fun τ hτ=>?_
 obtain rfl:=osi h
 exact zG hτ
 replace h:=iteF hb h
 refine z6 5 fun τ hτ=>?_
 obtain rfl:=osi h
 exact zG hτ
 refine zE hτ ⟨[(6,vB j1)],[]⟩ (zN fun τ hτ=>?_)
 obtain rfl:=osi h
 exact zV hτ [(6,vB j1)]
theorem W.sheetmetalref02_reserved_ok {r : ByteArray} (h : sheetmetalref02_reserved = some r) : PC G.P 125 [] [] (vS r) []:=by
 refine zU G Tryz.func125 (zK ⟨[],[]⟩ (z3 1 ⟨[],[]⟩ ?_))
 refine z8 1 ⟨[(0,vS (ByteArray.mk #[32,112,97,114,116,32,109,97,116,101,114,105,97,108,32,98,97,115,101,32,102,108,97,110,103,101,32,104,111,108,101,32,99,117,116,32,102,111,114,109,32,101,97,115,116,32,115,111,117,116,104,32,119,101,115,116,32,110,111,114,116,104,32,117,112,32,100,111,119,110,32,99,108,111,115,101,117,112,32,99,108,111,115,101,100,111,119,110,32,103,114,97,105,110,32,120,32,121,32,116,97,98,108,101,32,97,110,103,108,101,32,109,97,99,104,105,110,101,32,112,117,110,99,104,32,100,105,101,32,102,114,97,109,101,32,103,97,117,103,101,32,112,111,108,121,32,115,116,97,116,105,111,110,115,32]))],[]⟩ fun τ hτ=>?_
 obtain rfl:=osi h
 exact zV hτ [(0,vS (ByteArray.mk #[32,112,97,114,116,32,109,97,116,101,114,105,97,108,32,98,97,115,101,32,102,108,97,110,103,101,32,104,111,108,101,32,99,117,116,32,102,111,114,109,32,101,97,115,116,32,115,111,117,116,104,32,119,101,115,116,32,110,111,114,116,104,32,117,112,32,100,111,119,110,32,99,108,111,115,101,117,112,32,99,108,111,115,101,100,111,119,110,32,103,114,97,105,110,32,120,32,121,32,116,97,98,108,101,32,97,110,103,108,101,32,109,97,99,104,105,110,101,32,112,117,110,99,104,32,100,105,101,32,102,114,97,109,101,32,103,97,117,103,101,32,112,111,108,121,32,115,116,97,116,105,111,110,115,32]))]
theorem W.sheetmetalref02_isWord_ok {text : ByteArray} {s1 : ByteArray} {r : Bool} (h : sheetmetalref02_isWord text s1 = some r) : PC G.P 124 [(vS text),(vS s1)] [] (vB r) []:=by
 refine zU G Tryz.func124 (zK ⟨[(0,vS text),(1,vS s1)],[]⟩ (z3 1 ⟨[(0,vS text),(1,vS s1)],[]⟩ ?_))
 refine zB (z3 1 ⟨[(0,vS text),(1,vS s1),(5,vI 0)],[]⟩ (zC ?_))
 obtain ⟨x80,hx80,h⟩:=bindS h
 refine sem_loopS (fun (s55 : Int)=>⟨[(0,vS text),(1,vS s1),(5,vI s55)],[]⟩) (fun (x80 : Unit ⊕ Unit)=>match x80 with | .inl j81=>(.ret,⟨[(4,vB true)],[]⟩) | .inr j82=>(.exit 0,⟨[],[]⟩)) (sheetmetalref02_isWord_l1 text s1) 0 x80 (by kernel_rfl) (here (by kernel_rfl)) hx80 ?_ ?_ ?_
 intro s55 r h
 refine zB (z3 8 ⟨[(0,vS text),(1,vS s1),(5,vI s55),(13,vB (decide ((iadd (iadd s55 (s1.size : Int)) 2) ≤ (text.size : Int))))],[]⟩ (zI (decide ((iadd (iadd s55 (s1.size : Int)) 2) ≤ (text.size : Int))) (fun hb=>?_) fun hb=>?_))
 replace h:=iteT hb h
 refine z4 ⟨[(0,vS text),(1,vS s1),(5,vI s55)],[]⟩ (zB (zC ?_))
 refine z7 (zA 7 ?_)
 obtain ⟨s77,hs77,h⟩:=bindS h
 refine evs_at (at_ssl (s:=text) (lo:=s55) (hi:=(iadd (iadd s55 (s1.size : Int)) 2)) (k1:=.i64) (k2:=.i64) (by kernel_rfl) hs77) (zA 1 ?_)
 obtain ⟨s78,hs78,h⟩:=bindS h
 refine evs_op (st_cat (a:=(ByteArray.mk #[32])) (b:=s1) (by kernel_rfl) hs78) ?_
 obtain ⟨s79,hs79,h⟩:=bindS h
 refine evs_op (st_cat (a:=s78) (b:=(ByteArray.mk #[32])) (by kernel_rfl) hs79) (z1 1 ⟨[(0,vS text),(1,vS s1),(5,vI s55),(27,vB (s77.toList == s79.toList))],[]⟩ (zI (s77.toList == s79.toList) (fun hb=>?_) fun hb=>?_))
 replace h:=iteT hb h
 refine z8 1 ⟨[(4,vB true)],[]⟩ fun τ hτ=>?_
 refine bl_ret (th_ret ?_)
 obtain rfl:=osi h
 exact zF hτ
 replace h:=iteF hb h
 refine zM fun τ hτ=>?_
 refine bl_normal (zE hτ ⟨[(0,vS text),(1,vS s1),(5,vI s55)],[]⟩ (zD ?_))
 refine z6 3 fun τ hτ=>?_
 obtain rfl:=osi h
 exact zH hτ
 replace h:=iteF hb h
 refine zL 0 fun τ hτ=>?_
 refine th_exit ?_
 obtain rfl:=osi h
 exact zF hτ
 intro x
 rcases x with _ | _ <;> rfl
 intro τ hτ
 rcases x80 with j81 | j82
 refine bl_ret (th_ret ?_)
 obtain rfl:=osi h
 exact zV hτ [(4,vB true)]
 refine zQ (zE hτ ⟨[],[]⟩ (z8 1 ⟨[(4,vB false)],[]⟩ fun τ hτ=>?_))
 obtain rfl:=osi h
 exact zV hτ [(4,vB false)]
theorem W.sheetmetalref02_ValidName_ok {s0 : ByteArray} {r : Bool} (h : sheetmetalref02_ValidName s0 = some r) : PC G.P 93 [(vS s0)] [] (vB r) []:=by
 refine zU G Tryz.func93 (zK ⟨[(0,vS s0)],[]⟩ (z3 1 ⟨[(0,vS s0)],[]⟩ ?_))
 refine zB (zB ?_)
 obtain ⟨j11,hj11,h⟩:=bindS h
 refine zT ⟨[(0,vS s0),(18,vB j11)],[]⟩ ?_ fun τ hτ=>?_
 replace h:=hj11
 refine zA 2 ?_
 obtain ⟨r12,hr12,h⟩:=bindS h
 refine evs_callP [] (by kernel_rfl) (W.sheetmetalref02_within_ok hr12) (by kernel_rfl) (.inl rfl) (by kernel_rfl) (zA 2 (zS r12 (fun b0=>⟨[(0,vS s0),(9,vB (!b0))],[]⟩) (fun hb=>?_) fun hb=>?_))
 replace h:=iteT hb h
 refine zA 1 ?_
 obtain ⟨x13,hx13,h⟩:=bindS h
 refine evs_at (at_sidx (s:=s0) (i:=0) (kd:=.i64) (by kernel_rfl) hx13) (zA 3 (zS (decide (x13 < 97)) (fun b0=>⟨[(0,vS s0),(14,vB b0)],[]⟩) (fun hb=>?_) fun hb=>?_))
 replace h:=iteT hb h
 refine z6 4 fun τ hτ=>?_
 obtain rfl:=osi h
 exact zG hτ
 replace h:=iteF hb h
 refine zA 1 ?_
 obtain ⟨x14,hx14,h⟩:=bindS h
 refine evs_at (at_sidx (s:=s0) (i:=0) (kd:=.i64) (by kernel_rfl) hx14) (z6 2 fun τ hτ=>?_)
 obtain rfl:=osi h
 exact zG hτ
 replace h:=iteF hb h
 refine z6 9 fun τ hτ=>?_
 obtain rfl:=osi h
 exact zG hτ
 refine zE hτ ⟨[(0,vS s0),(18,vB j11)],[]⟩ (zI j11 (fun hb=>?_) fun hb=>?_)
 replace h:=iteT hb h
 refine z8 1 ⟨[(2,vB false)],[]⟩ fun τ hτ=>?_
 refine th_ret ?_
 obtain rfl:=osi h
 exact zV hτ [(2,vB false)]
 replace h:=iteF hb h
 refine z4 ⟨[(0,vS s0)],[]⟩ (zB (z3 1 ⟨[(0,vS s0),(3,vI 0)],[]⟩ ?_))
 refine zC ?_
 obtain ⟨x142,hx142,h⟩:=bindS h
 refine sem_loopS (fun (s101 : Int)=>⟨[(0,vS s0),(3,vI s101)],[]⟩) (fun (x142 : Unit ⊕ Unit)=>match x142 with | .inl j143=>(.ret,⟨[(2,vB false)],[]⟩) | .inr j144=>(.exit 0,⟨[(0,vS s0)],[]⟩)) (sheetmetalref02_ValidName_l1 s0) 0 x142 (by kernel_rfl) (here (by kernel_rfl)) hx142 ?_ ?_ ?_
 intro s101 r h
 refine zB (z3 4 ⟨[(0,vS s0),(3,vI s101),(22,vB (decide (s101 < (s0.size : Int))))],[]⟩ (zI (decide (s101 < (s0.size : Int))) (fun hb=>?_) fun hb=>?_))
 replace h:=iteT hb h
 refine z4 ⟨[(0,vS s0),(3,vI s101)],[]⟩ (zB (zC ?_))
 refine zB ?_
 obtain ⟨j134,hj134,h⟩:=bindS h
 refine zT ⟨[(0,vS s0),(3,vI s101),(4,vB j134)],[]⟩ ?_ fun τ hτ=>?_
 replace h:=hj134
 refine zA 2 ?_
 obtain ⟨x135,hx135,h⟩:=bindS h
 refine evs_at (at_sidx (s:=s0) (i:=s101) (kd:=.i64) (by kernel_rfl) hx135) (zA 2 (zS (decide (x135 ≥ 97)) (fun b0=>⟨[(0,vS s0),(3,vI s101),(29,vB b0)],[]⟩) (fun hb=>?_) fun hb=>?_))
 replace h:=iteT hb h
 refine zA 2 ?_
 obtain ⟨x136,hx136,h⟩:=bindS h
 refine evs_at (at_sidx (s:=s0) (i:=s101) (kd:=.i64) (by kernel_rfl) hx136) (z6 3 fun τ hτ=>?_)
 obtain rfl:=osi h
 exact zG hτ
 replace h:=iteF hb h
 refine z6 6 fun τ hτ=>?_
 obtain rfl:=osi h
 exact zG hτ
 refine zE hτ ⟨[(0,vS s0),(3,vI s101),(4,vB j134)],[]⟩ (zB ?_)
 obtain ⟨j139,hj139,h⟩:=bindS h
 refine zT ⟨[(0,vS s0),(3,vI s101),(48,vB j139)],[]⟩ ?_ fun τ hτ=>?_
 replace h:=hj139
 refine zA 3 (zS j134 (fun b0=>⟨[(0,vS s0),(3,vI s101),(37,vB (!b0))],[]⟩) (fun hb=>?_) fun hb=>?_)
 replace h:=iteT hb h
 refine z6 11 fun τ hτ=>?_
 obtain rfl:=osi h
 exact zG hτ
 replace h:=iteF hb h
 refine zA 2 ?_
 obtain ⟨x140,hx140,h⟩:=bindS h
 refine evs_at (at_sidx (s:=s0) (i:=s101) (kd:=.i64) (by kernel_rfl) hx140) (zA 2 (zS (decide (x140 < 48)) (fun b0=>⟨[(0,vS s0),(3,vI s101),(37,vB true),(42,vB b0)],[]⟩) (fun hb=>?_) fun hb=>?_))
 replace h:=iteT hb h
 refine z6 6 fun τ hτ=>?_
 obtain rfl:=osi h
 exact zG hτ
 replace h:=iteF hb h
 refine zA 2 ?_
 obtain ⟨x141,hx141,h⟩:=bindS h
 refine evs_at (at_sidx (s:=s0) (i:=s101) (kd:=.i64) (by kernel_rfl) hx141) (z6 3 fun τ hτ=>?_)
 obtain rfl:=osi h
 exact zG hτ
 refine zE hτ ⟨[(0,vS s0),(3,vI s101),(48,vB j139)],[]⟩ (zI j139 (fun hb=>?_) fun hb=>?_)
 replace h:=iteT hb h
 refine z8 1 ⟨[(2,vB false)],[]⟩ fun τ hτ=>?_
 refine bl_ret (th_ret ?_)
 obtain rfl:=osi h
 exact zF hτ
 replace h:=iteF hb h
 refine zM fun τ hτ=>?_
 refine bl_normal (zE hτ ⟨[(0,vS s0),(3,vI s101)],[]⟩ (zD ?_))
 refine z6 3 fun τ hτ=>?_
 obtain rfl:=osi h
 exact zH hτ
 replace h:=iteF hb h
 refine zL 0 fun τ hτ=>?_
 refine th_exit ?_
 obtain rfl:=osi h
 exact zF hτ
 intro x
 rcases x with _ | _ <;> rfl
 intro τ hτ
 rcases x142 with j143 | j144
 refine bl_ret (th_ret ?_)
 obtain rfl:=osi h
 exact zV hτ [(2,vB false)]
 refine zQ (zE hτ ⟨[(0,vS s0)],[]⟩ (z7 ?_))
 obtain ⟨r147,hr147,h⟩:=bindS h
 refine evs_callP [] (by kernel_rfl) (W.sheetmetalref02_reserved_ok hr147) (by kernel_rfl) (.inl rfl) (by kernel_rfl) (zA 1 ?_)
 obtain ⟨r148,hr148,h⟩:=bindS h
 refine evs_callP [] (by kernel_rfl) (W.sheetmetalref02_isWord_ok hr148) (by kernel_rfl) (.inl rfl) (by kernel_rfl) (z1 2 ⟨[(2,vB (!r148))],[]⟩ (zN fun τ hτ=>?_))
 obtain rfl:=osi h
 exact zV hτ [(2,vB (!r148))]
theorem W.sheetmetalref06_stuff_ok {name : ByteArray} {material : ByteArray} {gauge : Int} {grain : Int} {r : Int} (h : sheetmetalref06_stuff name material gauge grain = some r) : PC G.P 55 [(vS name),(vS material),(vI gauge),(vI grain)] [] (vI r) []:=by
 refine zU G Tryz.func55 (zK ⟨[(0,vS name),(1,vS material),(2,vI gauge),(3,vI grain)],[]⟩ (z3 1 ⟨[(0,vS name),(1,vS material),(2,vI gauge),(3,vI grain)],[]⟩ ?_))
 refine zB (zB ?_)
 obtain ⟨j8,hj8,h⟩:=bindS h
 refine zT ⟨[(2,vI gauge),(3,vI grain),(16,vB j8)],[]⟩ ?_ fun τ hτ=>?_
 replace h:=hj8
 refine zA 1 ?_
 obtain ⟨r9,hr9,h⟩:=bindS h
 refine evs_callP [] (by kernel_rfl) (W.sheetmetalref02_ValidName_ok hr9) (by kernel_rfl) (.inl rfl) (by kernel_rfl) (zA 2 (zS r9 (fun b0=>⟨[(1,vS material),(2,vI gauge),(3,vI grain),(12,vB (!b0))],[]⟩) (fun hb=>?_) fun hb=>?_))
 replace h:=iteT hb h
 refine zA 1 ?_
 obtain ⟨r10,hr10,h⟩:=bindS h
 refine evs_callP [] (by kernel_rfl) (W.sheetmetalref02_ValidName_ok hr10) (by kernel_rfl) (.inl rfl) (by kernel_rfl) (z6 2 fun τ hτ=>?_)
 obtain rfl:=osi h
 exact zG hτ
 replace h:=iteF hb h
 refine z6 4 fun τ hτ=>?_
 obtain rfl:=osi h
 exact zG hτ
 refine zE hτ ⟨[(2,vI gauge),(3,vI grain),(16,vB j8)],[]⟩ (zI j8 (fun hb=>?_) fun hb=>?_)
 replace h:=iteT hb h
 refine z8 1 ⟨[(8,vI 2)],[]⟩ fun τ hτ=>?_
 refine th_ret ?_
 obtain rfl:=osi h
 exact zV hτ [(8,vI 2)]
 replace h:=iteF hb h
 refine z4 ⟨[(2,vI gauge),(3,vI grain)],[]⟩ (zB (zB ?_))
 obtain ⟨j12,hj12,h⟩:=bindS h
 refine zT ⟨[(30,vB j12)],[]⟩ ?_ fun τ hτ=>?_
 replace h:=hj12
 refine zA 3 (zS (decide (gauge < 1)) (fun b0=>⟨[(2,vI gauge),(3,vI grain),(19,vB b0)],[]⟩) (fun hb=>?_) fun hb=>?_)
 replace h:=iteT hb h
 refine z6 11 fun τ hτ=>?_
 obtain rfl:=osi h
 exact zG hτ
 replace h:=iteF hb h
 refine zA 4 (zS (decide (gauge > 60)) (fun b0=>⟨[(3,vI grain),(23,vB b0)],[]⟩) (fun hb=>?_) fun hb=>?_)
 replace h:=iteT hb h
 refine z6 7 fun τ hτ=>?_
 obtain rfl:=osi h
 exact zG hτ
 replace h:=iteF hb h
 refine zA 4 (zS (decide (grain < 0)) (fun b0=>⟨[(3,vI grain),(27,vB b0)],[]⟩) (fun hb=>?_) fun hb=>?_)
 replace h:=iteT hb h
 refine z6 3 fun τ hτ=>?_
 obtain rfl:=osi h
 exact zG hτ
 replace h:=iteF hb h
 refine z6 3 fun τ hτ=>?_
 obtain rfl:=osi h
 exact zG hτ
 refine zE hτ ⟨[(30,vB j12)],[]⟩ (zI j12 (fun hb=>?_) fun hb=>?_)
 replace h:=iteT hb h
 refine z8 1 ⟨[(8,vI 1)],[]⟩ fun τ hτ=>?_
 refine th_ret ?_
 obtain rfl:=osi h
 exact zV hτ [(8,vI 1)]
 replace h:=iteF hb h
 refine z4 ⟨[],[]⟩ (z8 1 ⟨[(8,vI 0)],[]⟩ fun τ hτ=>?_)
 obtain rfl:=osi h
 exact zV hτ [(8,vI 0)]
theorem W.sheetmetalref06_Rights_ok {l : (List Rect)} {r : Bool} (h : sheetmetalref06_Rights l = some r) : PC G.P 56 [(.sl (List.map c_Rect l))] [] (vB r) []:=by
 refine zU G Tryz.func56 (zK ⟨[(0,s_Rect l)],[]⟩ (z3 1 ⟨[(0,s_Rect l)],[]⟩ ?_))
 refine zB (z3 1 ⟨[(0,s_Rect l),(3,vI 0)],[]⟩ (zC ?_))
 obtain ⟨x56,hx56,h⟩:=bindS h
 refine sem_loopS (fun (s39 : Int)=>⟨[(0,s_Rect l),(3,vI s39)],[]⟩) (fun (x56 : Unit ⊕ Unit)=>match x56 with | .inl j57=>(.ret,⟨[(2,vB false)],[]⟩) | .inr j58=>(.exit 0,⟨[],[]⟩)) (sheetmetalref06_Rights_l1 l) 0 x56 (by kernel_rfl) (here (by kernel_rfl)) hx56 ?_ ?_ ?_
 intro s39 r h
 refine zB (z7 (zA 2 ?_))
 refine evs_op (st_len (c:=c_Rect) (l:=l) (x:=(s_Rect l)) (by kernel_rfl) (by kernel_rfl)) (z1 1 ⟨[(0,s_Rect l),(3,vI s39),(7,vB (decide (s39 < (l.length : Int))))],[]⟩ (zI (decide (s39 < (l.length : Int))) (fun hb=>?_) fun hb=>?_))
 replace h:=iteT hb h
 refine z4 ⟨[(0,s_Rect l),(3,vI s39)],[]⟩ (zB (zC ?_))
 refine z7 (zA 2 ?_)
 obtain ⟨x54,hx54,h⟩:=bindS h
 refine evs_op (st_idx (c:=c_Rect) (l:=l) (i:=s39) (kd:=.i64) (sz:=4) (by kernel_rfl) hx54 rfl) (zA 1 ?_)
 obtain ⟨r55,hr55,h⟩:=bindS h
 refine evs_callP [] (by kernel_rfl) (W.sheetmetalref06_Right_ok hr55) (by kernel_rfl) (.inl rfl) (by kernel_rfl) (z1 1 ⟨[(0,s_Rect l),(3,vI s39),(15,vB (!r55))],[]⟩ (zI (!r55) (fun hb=>?_) fun hb=>?_))
 replace h:=iteT hb h
 refine z8 1 ⟨[(2,vB false)],[]⟩ fun τ hτ=>?_
 refine bl_ret (th_ret ?_)
 obtain rfl:=osi h
 exact zF hτ
 replace h:=iteF hb h
 refine zM fun τ hτ=>?_
 refine bl_normal (zE hτ ⟨[(0,s_Rect l),(3,vI s39)],[]⟩ (zD ?_))
 refine z6 3 fun τ hτ=>?_
 obtain rfl:=osi h
 exact zH hτ
 replace h:=iteF hb h
 refine zL 0 fun τ hτ=>?_
 refine th_exit ?_
 obtain rfl:=osi h
 exact zF hτ
 intro x
 rcases x with _ | _ <;> rfl
 intro τ hτ
 rcases x56 with j57 | j58
 refine bl_ret (th_ret ?_)
 obtain rfl:=osi h
 exact zV hτ [(2,vB false)]
 refine zQ (zE hτ ⟨[],[]⟩ (z8 1 ⟨[(2,vB true)],[]⟩ fun τ hτ=>?_))
 obtain rfl:=osi h
 exact zV hτ [(2,vB true)]
theorem W.sheetmetalref06_Within_ok {a : Rect} {b : Rect} {r : Bool} (h : sheetmetalref06_Within a b = some r) : PC G.P 95 [(.agg (c_Rect a)),(.agg (c_Rect b))] [] (vB r) []:=by
 refine zU G Tryz.func95 (zK ⟨[(0,.agg (c_Rect a)),(1,.agg (c_Rect b))],[]⟩ (z3 3 ⟨[(2,.ptr 2 0),(3,.ptr 3 0)],[(2,.box (c_Rect a)),(3,.box (c_Rect b))]⟩ ?_))
 refine zB ?_
 obtain ⟨j3,hj3,h⟩:=bindS h
 refine zT ⟨[(4,vB j3)],[]⟩ ?_ fun τ hτ=>?_
 replace h:=hj3
 refine zA 1 ?_
 obtain ⟨r4,hr4,h⟩:=bindS h
 refine evs_callP [] (by kernel_rfl) (W.sheetmetalref06_Right_ok hr4) (by kernel_rfl) (.inl rfl) (by kernel_rfl) (zA 1 (zS r4 (fun b0=>⟨[(2,.ptr 2 0),(3,.ptr 3 0),(7,vB b0)],[(2,.box (c_Rect a)),(3,.box (c_Rect b))]⟩) (fun hb=>?_) fun hb=>?_))
 replace h:=iteT hb h
 refine zA 1 ?_
 obtain ⟨r5,hr5,h⟩:=bindS h
 refine evs_callP [] (by kernel_rfl) (W.sheetmetalref06_Right_ok hr5) (by kernel_rfl) (.inl rfl) (by kernel_rfl) (zA 2 (zS r5 (fun b0=>⟨[(2,.ptr 2 0),(3,.ptr 3 0),(11,vB b0)],[(2,.box (c_Rect a)),(3,.box (c_Rect b))]⟩) (fun hb=>?_) fun hb=>?_))
 replace h:=iteT hb h
 refine zA 7 (zS (decide (a.X ≥ b.X)) (fun b0=>⟨[(2,.ptr 2 0),(3,.ptr 3 0),(18,vB b0)],[(2,.box (c_Rect a)),(3,.box (c_Rect b))]⟩) (fun hb=>?_) fun hb=>?_)
 replace h:=iteT hb h
 refine zA 7 (zS (decide (a.Y ≥ b.Y)) (fun b0=>⟨[(2,.ptr 2 0),(3,.ptr 3 0),(25,vB b0)],[(2,.box (c_Rect a)),(3,.box (c_Rect b))]⟩) (fun hb=>?_) fun hb=>?_)
 replace h:=iteT hb h
 refine zA 13 (zS (decide ((iadd a.X a.W) ≤ (iadd b.X b.W))) (fun b0=>⟨[(2,.ptr 2 0),(3,.ptr 3 0),(38,vB b0)],[(2,.box (c_Rect a)),(3,.box (c_Rect b))]⟩) (fun hb=>?_) fun hb=>?_)
 replace h:=iteT hb h
 refine z6 13 fun τ hτ=>?_
 obtain rfl:=osi h
 exact zG hτ
 replace h:=iteF hb h
 refine z6 13 fun τ hτ=>?_
 obtain rfl:=osi h
 exact zG hτ
 replace h:=iteF hb h
 refine z6 26 fun τ hτ=>?_
 obtain rfl:=osi h
 exact zG hτ
 replace h:=iteF hb h
 refine z6 33 fun τ hτ=>?_
 obtain rfl:=osi h
 exact zG hτ
 replace h:=iteF hb h
 refine z6 40 fun τ hτ=>?_
 obtain rfl:=osi h
 exact zG hτ
 replace h:=iteF hb h
 refine z6 44 fun τ hτ=>?_
 obtain rfl:=osi h
 exact zG hτ
 refine zE hτ ⟨[(4,vB j3)],[]⟩ (zN fun τ hτ=>?_)
 obtain rfl:=osi h
 exact zV hτ [(4,vB j3)]
theorem W.sheetmetalref06_inside_ok {s0 : Sheet} {l : (List Rect)} {r : Bool} (h : sheetmetalref06_inside s0 l = some r) : PC G.P 57 [(.agg (c_Sheet s0)),(.sl (List.map c_Rect l))] [] (vB r) []:=by
 refine zU G Tryz.func57 (zK ⟨[(0,.agg (c_Sheet s0)),(1,s_Rect l)],[]⟩ (z3 2 ⟨[(1,s_Rect l),(2,.ptr 2 0)],[(2,.box (c_Sheet s0))]⟩ ?_))
 refine zB (z3 1 ⟨[(1,s_Rect l),(2,.ptr 2 0),(5,vI 0)],[(2,.box (c_Sheet s0))]⟩ (zC ?_))
 obtain ⟨x80,hx80,h⟩:=bindS h
 refine sem_loopS (fun (s55 : Int)=>⟨[(1,s_Rect l),(2,.ptr 500000 0),(5,vI s55)],[(500000,.box (c_Sheet s0))]⟩) (fun (x80 : Unit ⊕ Unit)=>match x80 with | .inl j81=>(.ret,⟨[(4,vB false)],[]⟩) | .inr j82=>(.exit 0,⟨[],[]⟩)) (sheetmetalref06_inside_l1 s0 l) 0 x80 (by kernel_rfl) (subR_prep [] [(2,500000)] (by kernel_rfl) rfl rfl (by kernel_rfl)) hx80 ?_ ?_ ?_
 intro s55 r h
 refine zB (z7 (zA 2 ?_))
 refine evs_op (st_len (c:=c_Rect) (l:=l) (x:=(s_Rect l)) (by kernel_rfl) (by kernel_rfl)) (z1 1 ⟨[(1,s_Rect l),(2,.ptr 500000 0),(5,vI s55),(9,vB (decide (s55 < (l.length : Int))))],[(500000,.box (c_Sheet s0))]⟩ (zI (decide (s55 < (l.length : Int))) (fun hb=>?_) fun hb=>?_))
 replace h:=iteT hb h
 refine z4 ⟨[(1,s_Rect l),(2,.ptr 500000 0),(5,vI s55)],[(500000,.box (c_Sheet s0))]⟩ (zB (zC ?_))
 refine zB (sem_drawN [] [] [] [] [] 9 (by kernel_rfl) (by kernel_rfl) (by kernel_rfl) (evd_run 2 (by kernel_rfl) ?_))
 obtain ⟨x78,hx78,h⟩:=bindS h
 refine evd_val (by kernel_rfl) (st_idx (c:=c_Rect) (l:=l) (i:=s55) (kd:=.i64) (sz:=4) (by kernel_rfl) hx78 rfl) (by kernel_rfl) (by kernel_rfl) (evd_run 6 (by kernel_rfl) (evd_end (by kernel_rfl) ?_))
 obtain ⟨r79,hr79,h⟩:=bindS h
 refine evo_callP [] (by kernel_rfl) (W.sheetmetalref06_Within_ok hr79) (by kernel_rfl) (.inl rfl) (by kernel_rfl) (evo_run 1 (by kernel_rfl) (zO fun τ hτ=>?_))
 refine zE hτ ⟨[(1,s_Rect l),(2,.ptr 500000 0),(5,vI s55),(22,vB (!r79))],[(500000,.box (c_Sheet s0))]⟩ (zI (!r79) (fun hb=>?_) fun hb=>?_)
 replace h:=iteT hb h
 refine z8 1 ⟨[(4,vB false)],[]⟩ fun τ hτ=>?_
 refine bl_ret (th_ret ?_)
 obtain rfl:=osi h
 exact zF hτ
 replace h:=iteF hb h
 refine zM fun τ hτ=>?_
 refine bl_normal (zE hτ ⟨[(1,s_Rect l),(2,.ptr 500000 0),(5,vI s55)],[(500000,.box (c_Sheet s0))]⟩ (zD ?_))
 refine z6 3 fun τ hτ=>?_
 obtain rfl:=osi h
 exact zH hτ
 replace h:=iteF hb h
 refine zL 0 fun τ hτ=>?_
 refine th_exit ?_
 obtain rfl:=osi h
 exact zF hτ
 intro x
 rcases x with _ | _ <;> rfl
 intro τ hτ
 rcases x80 with j81 | j82
 refine bl_ret (th_ret ?_)
 obtain rfl:=osi h
 exact zV hτ [(4,vB false)]
 refine zQ (zE hτ ⟨[],[]⟩ (z8 1 ⟨[(4,vB true)],[]⟩ fun τ hτ=>?_))
 obtain rfl:=osi h
 exact zV hτ [(4,vB true)]
theorem W.sheetmetalref06_ValidateSheet_ok {s0 : Sheet} {r : Int} (h : sheetmetalref06_ValidateSheet s0 = some r) : PC G.P 16 [(.agg (c_Sheet s0))] [] (vI r) []:=by
 refine zU G Tryz.func16 (zK ⟨[(0,.agg (c_Sheet s0))],[]⟩ (z3 2 ⟨[(1,.ptr 1 0)],[(1,.box (c_Sheet s0))]⟩ ?_))
 refine z7 (zA 8 ?_)
 obtain ⟨r2,hr2,h⟩:=bindS h
 refine evs_callP [] (by kernel_rfl) (W.sheetmetalref06_stuff_ok hr2) (by kernel_rfl) (.inl rfl) (by kernel_rfl) (z1 1 ⟨[(1,.ptr 1 0),(3,vI r2)],[(1,.box (c_Sheet s0))]⟩ (zB ?_))
 refine z3 2 ⟨[(1,.ptr 1 0),(3,vI r2),(14,vB (r2 != 0))],[(1,.box (c_Sheet s0))]⟩ (zI (r2 != 0) (fun hb=>?_) fun hb=>?_)
 replace h:=iteT hb h
 refine z8 2 ⟨[(2,vI r2)],[]⟩ fun τ hτ=>?_
 refine th_ret ?_
 obtain rfl:=osi h
 exact zV hτ [(2,vI r2)]
 replace h:=iteF hb h
 refine z4 ⟨[(1,.ptr 1 0)],[(1,.box (c_Sheet s0))]⟩ (zB (zB ?_))
 obtain ⟨j4,hj4,h⟩:=bindS h
 refine zT ⟨[(1,.ptr 500000 0),(33,vB j4)],[(500000,.box (c_Sheet s0))]⟩ ?_ fun τ hτ=>?_
 replace h:=hj4
 refine zA 4 (zS (decide (s0.Width < 1)) (fun b0=>⟨[(1,.ptr 1 0),(19,vB b0)],[(1,.box (c_Sheet s0))]⟩) (fun hb=>?_) fun hb=>?_)
 replace h:=iteT hb h
 refine z6 14 fun τ hτ=>?_
 obtain rfl:=osi h
 exact leafC hτ (subR_prep [] [(1,500000)] (by kernel_rfl) rfl rfl (by kernel_rfl))
 replace h:=iteF hb h
 refine zA 5 (zS (decide (s0.Width > 1048576)) (fun b0=>⟨[(1,.ptr 1 0),(24,vB b0)],[(1,.box (c_Sheet s0))]⟩) (fun hb=>?_) fun hb=>?_)
 replace h:=iteT hb h
 refine z6 9 fun τ hτ=>?_
 obtain rfl:=osi h
 exact leafC hτ (subR_prep [] [(1,500000)] (by kernel_rfl) rfl rfl (by kernel_rfl))
 replace h:=iteF hb h
 refine zA 5 (zS (decide (s0.Height < 1)) (fun b0=>⟨[(1,.ptr 1 0),(29,vB b0)],[(1,.box (c_Sheet s0))]⟩) (fun hb=>?_) fun hb=>?_)
 replace h:=iteT hb h
 refine z6 4 fun τ hτ=>?_
 obtain rfl:=osi h
 exact leafC hτ (subR_prep [] [(1,500000)] (by kernel_rfl) rfl rfl (by kernel_rfl))
 replace h:=iteF hb h
 refine z6 4 fun τ hτ=>?_
 obtain rfl:=osi h
 exact leafC hτ (subR_prep [] [(1,500000)] (by kernel_rfl) rfl rfl (by kernel_rfl))
 refine zE hτ ⟨[(1,.ptr 500000 0),(33,vB j4)],[(500000,.box (c_Sheet s0))]⟩ (zI j4 (fun hb=>?_) fun hb=>?_)
 replace h:=iteT hb h
 refine z8 1 ⟨[(2,vI 1)],[]⟩ fun τ hτ=>?_
 refine th_ret ?_
 obtain rfl:=osi h
 exact zV hτ [(2,vI 1)]
 replace h:=iteF hb h
 refine z4 ⟨[(1,.ptr 500000 0)],[(500000,.box (c_Sheet s0))]⟩ (zB (zB ?_))
 obtain ⟨j6,hj6,h⟩:=bindS h
 refine zT ⟨[(1,.ptr 500000 0),(43,vB j6)],[(500000,.box (c_Sheet s0))]⟩ ?_ fun τ hτ=>?_
 replace h:=hj6
 refine zA 2 (evs_op (st_len (c:=c_Rect) (l:=s0.Clamps) (x:=(s_Rect s0.Clamps)) (by kernel_rfl) (by kernel_rfl)) (zA 2 ?_))
 refine zS (decide ((s0.Clamps.length : Int) > 4)) (fun b0=>⟨[(1,.ptr 500000 0),(38,vB b0)],[(500000,.box (c_Sheet s0))]⟩) (fun hb=>?_) fun hb=>?_
 replace h:=iteT hb h
 refine z6 5 fun τ hτ=>?_
 obtain rfl:=osi h
 exact zG hτ
 replace h:=iteF hb h
 refine zA 2 (evs_op (st_len (c:=c_Rect) (l:=s0.Used) (x:=(s_Rect s0.Used)) (by kernel_rfl) (by kernel_rfl)) (z6 2 fun τ hτ=>?_))
 obtain rfl:=osi h
 exact zG hτ
 refine zE hτ ⟨[(1,.ptr 500000 0),(43,vB j6)],[(500000,.box (c_Sheet s0))]⟩ (zI j6 (fun hb=>?_) fun hb=>?_)
 replace h:=iteT hb h
 refine z8 1 ⟨[(2,vI 4)],[]⟩ fun τ hτ=>?_
 refine th_ret ?_
 obtain rfl:=osi h
 exact zV hτ [(2,vI 4)]
 replace h:=iteF hb h
 refine z4 ⟨[(1,.ptr 500000 0)],[(500000,.box (c_Sheet s0))]⟩ (zB (zB ?_))
 obtain ⟨j14,hj14,h⟩:=bindS h
 refine zT ⟨[(1,.ptr 500000 0),(53,vB j14)],[(500000,.box (c_Sheet s0))]⟩ ?_ fun τ hτ=>?_
 replace h:=hj14
 refine zA 2 ?_
 obtain ⟨r15,hr15,h⟩:=bindS h
 refine evs_callP [] (by kernel_rfl) (W.sheetmetalref06_Rights_ok hr15) (by kernel_rfl) (.inl rfl) (by kernel_rfl) (zA 2 (zS r15 (fun b0=>⟨[(1,.ptr 500000 0),(48,vB (!b0))],[(500000,.box (c_Sheet s0))]⟩) (fun hb=>?_) fun hb=>?_))
 replace h:=iteT hb h
 refine zA 2 ?_
 obtain ⟨r16,hr16,h⟩:=bindS h
 refine evs_callP [] (by kernel_rfl) (W.sheetmetalref06_Rights_ok hr16) (by kernel_rfl) (.inl rfl) (by kernel_rfl) (z6 2 fun τ hτ=>?_)
 obtain rfl:=osi h
 exact zG hτ
 replace h:=iteF hb h
 refine z6 5 fun τ hτ=>?_
 obtain rfl:=osi h
 exact zG hτ
 refine zE hτ ⟨[(1,.ptr 500000 0),(53,vB j14)],[(500000,.box (c_Sheet s0))]⟩ (zI j14 (fun hb=>?_) fun hb=>?_)
 replace h:=iteT hb h
 refine z8 1 ⟨[(2,vI 1)],[]⟩ fun τ hτ=>?_
 refine th_ret ?_
 obtain rfl:=osi h
 exact zV hτ [(2,vI 1)]
 replace h:=iteF hb h
 refine z4 ⟨[(1,.ptr 500000 0)],[(500000,.box (c_Sheet s0))]⟩ (zB (zB ?_))
 obtain ⟨j24,hj24,h⟩:=bindS h
 refine zT ⟨[(65,vB j24)],[]⟩ ?_ fun τ hτ=>?_
 replace h:=hj24
 refine zA 3 ?_
 obtain ⟨r25,hr25,h⟩:=bindS h
 refine evs_callP [] (by kernel_rfl) (W.sheetmetalref06_inside_ok hr25) (by kernel_rfl) (.inl rfl) (by kernel_rfl) (zA 2 (zS r25 (fun b0=>⟨[(1,.ptr 500000 0),(59,vB (!b0))],[(500000,.box (c_Sheet s0))]⟩) (fun hb=>?_) fun hb=>?_))
 replace h:=iteT hb h
 refine zA 3 ?_
 obtain ⟨r26,hr26,h⟩:=bindS h
 refine evs_callP [] (by kernel_rfl) (W.sheetmetalref06_inside_ok hr26) (by kernel_rfl) (.inl rfl) (by kernel_rfl) (z6 2 fun τ hτ=>?_)
 obtain rfl:=osi h
 exact zG hτ
 replace h:=iteF hb h
 refine z6 6 fun τ hτ=>?_
 obtain rfl:=osi h
 exact zG hτ
 refine zE hτ ⟨[(65,vB j24)],[]⟩ (zI j24 (fun hb=>?_) fun hb=>?_)
 replace h:=iteT hb h
 refine z8 1 ⟨[(2,vI 13)],[]⟩ fun τ hτ=>?_
 refine th_ret ?_
 obtain rfl:=osi h
 exact zV hτ [(2,vI 13)]
 replace h:=iteF hb h
 refine z4 ⟨[],[]⟩ (z8 1 ⟨[(2,vI 0)],[]⟩ fun τ hτ=>?_)
 obtain rfl:=osi h
 exact zV hτ [(2,vI 0)]
theorem W.nest_touch_ok {a : Rect} {b : Rect} {r : Bool} (h : nest_touch a b = some r) : PC G.P 96 [(.agg (c_Rect a)),(.agg (c_Rect b))] [] (vB r) []:=by
 refine zU G Tryz.func96 (zK ⟨[(0,.agg (c_Rect a)),(1,.agg (c_Rect b))],[]⟩ (z3 3 ⟨[(2,.ptr 2 0),(3,.ptr 3 0)],[(2,.box (c_Rect a)),(3,.box (c_Rect b))]⟩ ?_))
 refine z3 18 ⟨[(2,.ptr 2 0),(3,.ptr 3 0),(5,vI (isub (imin (iadd a.X a.W) (iadd b.X b.W)) (imax a.X b.X)))],[(2,.box (c_Rect a)),(3,.box (c_Rect b))]⟩ (z3 18 ⟨[(5,vI (isub (imin (iadd a.X a.W) (iadd b.X b.W)) (imax a.X b.X))),(6,vI (isub (imin (iadd a.Y a.H) (iadd b.Y b.H)) (imax a.Y b.Y)))],[]⟩ (zB ?_))
 obtain ⟨j1,hj1,h⟩:=bindS h
 refine zT ⟨[(4,vB j1)],[]⟩ ?_ fun τ hτ=>?_
 replace h:=hj1
 refine zA 3 (zS ((isub (imin (iadd a.X a.W) (iadd b.X b.W)) (imax a.X b.X)) == 0) (fun b0=>⟨[(5,vI (isub (imin (iadd a.X a.W) (iadd b.X b.W)) (imax a.X b.X))),(6,vI (isub (imin (iadd a.Y a.H) (iadd b.Y b.H)) (imax a.Y b.Y))),(43,vB b0)],[]⟩) (fun hb=>?_) fun hb=>?_)
 replace h:=iteT hb h
 refine zA 4 (zS (decide ((isub (imin (iadd a.Y a.H) (iadd b.Y b.H)) (imax a.Y b.Y)) > 0)) (fun b0=>⟨[(5,vI (isub (imin (iadd a.X a.W) (iadd b.X b.W)) (imax a.X b.X))),(6,vI (isub (imin (iadd a.Y a.H) (iadd b.Y b.H)) (imax a.Y b.Y))),(47,vB b0)],[]⟩) (fun hb=>?_) fun hb=>?_)
 replace h:=iteT hb h
 refine z6 8 fun τ hτ=>?_
 obtain rfl:=osi h
 exact zG hτ
 replace h:=iteF hb h
 refine zA 3 (zS ((isub (imin (iadd a.Y a.H) (iadd b.Y b.H)) (imax a.Y b.Y)) == 0) (fun b0=>⟨[(5,vI (isub (imin (iadd a.X a.W) (iadd b.X b.W)) (imax a.X b.X))),(47,vB false),(50,vB b0)],[]⟩) (fun hb=>?_) fun hb=>?_)
 replace h:=iteT hb h
 refine z6 5 fun τ hτ=>?_
 obtain rfl:=osi h
 exact zG hτ
 replace h:=iteF hb h
 refine z6 5 fun τ hτ=>?_
 obtain rfl:=osi h
 exact zG hτ
 replace h:=iteF hb h
 refine zA 7 (zS ((isub (imin (iadd a.Y a.H) (iadd b.Y b.H)) (imax a.Y b.Y)) == 0) (fun b0=>⟨[(5,vI (isub (imin (iadd a.X a.W) (iadd b.X b.W)) (imax a.X b.X))),(47,vB false),(50,vB b0)],[]⟩) (fun hb=>?_) fun hb=>?_)
 replace h:=iteT hb h
 refine z6 5 fun τ hτ=>?_
 obtain rfl:=osi h
 exact zG hτ
 replace h:=iteF hb h
 refine z6 5 fun τ hτ=>?_
 obtain rfl:=osi h
 exact zG hτ
 refine zE hτ ⟨[(4,vB j1)],[]⟩ (zN fun τ hτ=>?_)
 obtain rfl:=osi h
 exact zV hτ [(4,vB j1)]
theorem W.nest_connected_ok {l : (List Rect)} {r : Bool} (h : nest_connected l = some r) : PC G.P 59 [(.sl (List.map c_Rect l))] [] (vB r) []:=by
 refine zU G Tryz.func59 (zK ⟨[(0,s_Rect l)],[]⟩ (z3 1 ⟨[(0,s_Rect l)],[]⟩ ?_))
 refine z7 (zA 1 (evs_op (st_len (c:=c_Rect) (l:=l) (x:=(s_Rect l)) (by kernel_rfl) (by kernel_rfl)) ?_))
 obtain ⟨l2,hl2,h⟩:=bindS h
 refine evs_op (st_mk (c:=cB) (z:=false) (n:=(l.length : Int)) (e:=4) (d:=11) (zs:=[(vB false)]) (k1:=.i64) (k2:=.i64) (by kernel_rfl) rfl hl2) (z1 1 ⟨[(0,s_Rect l),(3,ro 11 4)],[(11,wB 4 l2)]⟩ (z7 ?_))
 refine zA 1 ?_
 obtain ⟨x4,hx4,h⟩:=bindS h
 refine evs_op (st_idxO (c:=cB) (l:=l2) (i:=0) (kd:=.i64) (kk:=(.top 11)) (e:=4) (sz:=1) (by kernel_rfl) (by kernel_rfl) hx4 rfl) (evs_op (st_stO (c:=cB) (l:=l2) (i:=(Int.toNat 0)) (x:=x4) (x':=true) (v:=(vB true)) (agg:=false) (sz:=1) (kk:=(.top 11)) (e:=4) (off:=0) (J:=[]) (o:=wB 4 (List.set l2 (Int.toNat 0) true)) (by kernel_rfl) (by kernel_rfl) (by kernel_rfl) ((idxS hx4).2) (by kernel_rfl) (by kernel_rfl) (by kernel_rfl)) (zP fun τ hτ=>?_))
 refine zE hτ ⟨[(0,s_Rect l),(3,ro 11 4)],[(11,wB 4 (List.set l2 (Int.toNat 0) true))]⟩ (z7 (evs_at (at_build (e:=3) (d:=14) (es:=(List.map cI [0])) (by kernel_rfl)) ?_))
 refine evs_toTl (g:=14) (e:=3) (l:=[0]) (by kernel_rfl) (by kernel_rfl) (by kernel_rfl) (z1 1 ⟨[(0,s_Rect l),(3,ro 11 4),(4,ro 14 3)],[(11,wB 4 (List.set l2 (Int.toNat 0) true)),(14,.tl 3 [0])]⟩ (zB ?_))
 refine zC ?_
 obtain ⟨x670,hx670,h⟩:=bindS h
 refine sem_loopS (fun (s449 : (List Bool) × (List Int))=>⟨[(0,s_Rect l),(3,ro 500000 4),(4,ro 500001 3)],[(500000,wB 4 s449.1),(500001,.tl 3 s449.2)]⟩) (fun (x670 : (List Bool))=>(.exit 0,⟨[(3,ro 500000 4)],[(500000,wB 4 x670)]⟩)) (nest_connected_l3 l) ((List.set l2 (Int.toNat 0) true),[0]) x670 (by kernel_rfl) (subR_prep [] [(11,500000),(14,500001)] (by kernel_rfl) rfl rfl (by kernel_rfl)) hx670 ?_ ?_ ?_
 intro s449 r h
 refine zB (z7 (zA 1 ?_))
 refine evs_at (at_lenT (g:=500001) (e:=3) (l:=s449.2) (by kernel_rfl) (by kernel_rfl)) (z1 1 ⟨[(0,s_Rect l),(3,ro 500000 4),(4,ro 500001 3),(17,vB (decide ((s449.2.length : Int) > 0)))],[(500000,wB 4 s449.1),(500001,.tl 3 s449.2)]⟩ (zI (decide ((s449.2.length : Int) > 0)) (fun hb=>?_) fun hb=>?_))
 replace h:=iteT hb h
 refine z4 ⟨[(0,s_Rect l),(3,ro 500000 4),(4,ro 500001 3)],[(500000,wB 4 s449.1),(500001,.tl 3 s449.2)]⟩ (zC (z7 ?_))
 refine zA 1 ?_
 obtain ⟨x561,hx561,h⟩:=bindS h
 refine evs_getT (g:=500001) (e:=3) (d1:=19) (d2:=20) (l:=s449.2) (i:=0) (kd:=.i64) (by kernel_rfl) (by kernel_rfl) (by kernel_rfl) hx561 (z1 1 ⟨[(0,s_Rect l),(3,ro 500000 4),(4,ro 500001 3),(5,vI x561)],[(500000,wB 4 s449.1),(500001,.tl 3 s449.2)]⟩ (z7 ?_))
 refine zA 1 ?_
 obtain ⟨hb1,h⟩:=iteN h
 refine evs_at (at_dropT (g:=500001) (e:=3) (n:=1) (kd:=.i64) (l:=s449.2) (by kernel_rfl) (by kernel_rfl) (by kernel_rfl) hb1) (z1 1 ⟨[(0,s_Rect l),(3,ro 500000 4),(4,ro 500001 3),(5,vI x561)],[(500000,wB 4 s449.1),(500001,.tl 3 (List.drop 1 s449.2))]⟩ (z7 ?_))
 refine zA 1 (evs_op (st_len (c:=c_Rect) (l:=l) (x:=(s_Rect l)) (by kernel_rfl) (by kernel_rfl)) (z1 1 ⟨[(0,s_Rect l),(3,ro 500000 4),(4,ro 500001 3),(5,vI x561),(24,vI (l.length : Int)),(25,vI 0)],[(500000,wB 4 s449.1),(500001,.tl 3 (List.drop 1 s449.2))]⟩ ?_))
 refine zC ?_
 obtain ⟨x669,hx669,h⟩:=bindS h
 refine sem_loopS (fun (s598 : Int × (List Bool) × (List Int))=>⟨[(0,s_Rect l),(3,ro 500000 4),(4,ro 500001 3),(5,vI x561),(24,vI (l.length : Int)),(25,vI s598.1)],[(500000,wB 4 s598.2.1),(500001,.tl 3 s598.2.2)]⟩) (fun (x669 : (List Bool) × (List Int))=>(.exit 2,⟨[(0,s_Rect l),(3,ro 500000 4),(4,ro 500001 3)],[(500000,wB 4 x669.1),(500001,.tl 3 x669.2)]⟩)) (nest_connected_l2 l x561) (0,s449.1,(List.drop 1 s449.2)) x669 (by kernel_rfl) (here (by kernel_rfl)) hx669 ?_ ?_ ?_
 intro s598 r h
 refine z3 1 ⟨[(0,s_Rect l),(3,ro 500000 4),(4,ro 500001 3),(5,vI x561),(24,vI (l.length : Int)),(25,vI s598.1),(26,vB (decide (s598.1 < (l.length : Int))))],[(500000,wB 4 s598.2.1),(500001,.tl 3 s598.2.2)]⟩ (zB (zI (decide (s598.1 < (l.length : Int))) (fun hb=>?_) fun hb=>?_))
 replace h:=iteT hb h
 refine z4 ⟨[(0,s_Rect l),(3,ro 500000 4),(4,ro 500001 3),(5,vI x561),(24,vI (l.length : Int)),(25,vI s598.1)],[(500000,wB 4 s598.2.1),(500001,.tl 3 s598.2.2)]⟩ (sem_seqJ (fun (j651 : (List Bool) × (List Int))=>⟨[(0,s_Rect l),(3,ro 500000 4),(4,ro 500001 3),(5,vI x561),(24,vI (l.length : Int)),(25,vI s598.1)],[(500000,wB 4 j651.1),(500001,.tl 3 j651.2)]⟩) (nest_connected_k1 s598) r (by kernel_rfl) (fun j651 h=>?_) ?_)
 refine zD (z6 2 fun τ hτ=>?_)
 obtain rfl:=osi h
 exact zH hτ
 refine zC (z3 2 ⟨[(0,s_Rect l),(3,ro 500000 4),(4,ro 500001 3),(5,vI x561),(6,vI s598.1),(24,vI (l.length : Int)),(25,vI s598.1)],[(500000,wB 4 s598.2.1),(500001,.tl 3 s598.2.2)]⟩ (zB ?_))
 obtain ⟨j660,hj660,h⟩:=bindS h
 refine sem_drawP ⟨[(0,s_Rect l),(3,ro 500000 4),(4,ro 500001 3),(5,vI x561),(6,vI s598.1),(24,vI (l.length : Int)),(25,vI s598.1),(43,vB j660)],[(500000,wB 4 s598.2.1),(500001,.tl 3 s598.2.2)]⟩ [] [] [] [] [] 14 (by kernel_rfl) (by kernel_rfl) (by kernel_rfl) ?_ fun τ hτ=>?_
 replace h:=hj660
 refine evd_run 2 (by kernel_rfl) ?_
 obtain ⟨x661,hx661,h⟩:=bindS h
 refine evd_val (by kernel_rfl) (st_idxO (c:=cB) (l:=s598.2.1) (i:=s598.1) (kd:=.i64) (kk:=(.top 500000)) (e:=4) (sz:=1) (by kernel_rfl) (by kernel_rfl) hx661 rfl) (by kernel_rfl) (by kernel_rfl) (evd_val (by kernel_rfl) (st_ldO (c:=cB) (l:=s598.2.1) (i:=(Int.toNat s598.1)) (v:=(vB x661)) (agg:=false) (sz:=1) (kk:=(.top 500000)) (e:=4) (off:=0) (J:=[]) (by kernel_rfl) (by kernel_rfl) (by kernel_rfl) ((idxS hx661).2) (by kernel_rfl)) (by kernel_rfl) (by kernel_rfl) (evd_run 2 (by kernel_rfl) ?_))
 refine evd_split x661 (fun b0=>⟨[(33,vB (!b0)),(32,vB (!b0)),(31,vB b0),(30,.rptr (.top 500000) 4 (Int.toNat s598.1) 0),(29,vI s598.1),(28,ro 500000 4),(0,s_Rect l),(3,ro 500000 4),(4,ro 500001 3),(5,vI x561),(6,vI s598.1),(24,vI (l.length : Int)),(25,vI s598.1)],[(500000,wB 4 s598.2.1),(500001,.tl 3 s598.2.2)]⟩) (by kernel_rfl) (fun hb=>?_) fun hb=>?_
 replace h:=iteT hb h
 refine evd_run 8 (by kernel_rfl) (evd_end (by kernel_rfl) (evo_run 2 (by kernel_rfl) ?_))
 refine zO fun τ hτ=>?_
 obtain rfl:=osi h
 exact zG hτ
 replace h:=iteF hb h
 refine evd_run 2 (by kernel_rfl) ?_
 obtain ⟨x662,hx662,h⟩:=bindS h
 refine evd_val (by kernel_rfl) (st_idx (c:=c_Rect) (l:=l) (i:=x561) (kd:=.i64) (sz:=4) (by kernel_rfl) hx662 rfl) (by kernel_rfl) (by kernel_rfl) (evd_run 3 (by kernel_rfl) ?_)
 obtain ⟨x663,hx663,h⟩:=bindS h
 refine evd_val (by kernel_rfl) (st_idx (c:=c_Rect) (l:=l) (i:=s598.1) (kd:=.i64) (sz:=4) (by kernel_rfl) hx663 rfl) (by kernel_rfl) (by kernel_rfl) (evd_run 1 (by kernel_rfl) (evd_end (by kernel_rfl) ?_))
 obtain ⟨r664,hr664,h⟩:=bindS h
 refine evo_callP [] (by kernel_rfl) (W.nest_touch_ok hr664) (by kernel_rfl) (.inl rfl) (by kernel_rfl) (evo_run 1 (by kernel_rfl) (zO fun τ hτ=>?_))
 obtain rfl:=osi h
 exact zG hτ
 refine zE hτ ⟨[(0,s_Rect l),(3,ro 500000 4),(4,ro 500001 3),(5,vI x561),(6,vI s598.1),(24,vI (l.length : Int)),(25,vI s598.1),(43,vB j660)],[(500000,wB 4 s598.2.1),(500001,.tl 3 s598.2.2)]⟩ (zI j660 (fun hb=>?_) fun hb=>?_)
 replace h:=iteT hb h
 refine z7 (zA 2 ?_)
 obtain ⟨x666,hx666,h⟩:=bindS h
 refine evs_op (st_idxO (c:=cB) (l:=s598.2.1) (i:=s598.1) (kd:=.i64) (kk:=(.top 500000)) (e:=4) (sz:=1) (by kernel_rfl) (by kernel_rfl) hx666 rfl) (evs_op (st_stO (c:=cB) (l:=s598.2.1) (i:=(Int.toNat s598.1)) (x:=x666) (x':=true) (v:=(vB true)) (agg:=false) (sz:=1) (kk:=(.top 500000)) (e:=4) (off:=0) (J:=[]) (o:=wB 4 (List.set s598.2.1 (Int.toNat s598.1) true)) (by kernel_rfl) (by kernel_rfl) (by kernel_rfl) ((idxS hx666).2) (by kernel_rfl) (by kernel_rfl) (by kernel_rfl)) (zP fun τ hτ=>?_))
 refine zE hτ ⟨[(0,s_Rect l),(3,ro 500000 4),(4,ro 500001 3),(5,vI x561),(6,vI s598.1),(24,vI (l.length : Int)),(25,vI s598.1)],[(500000,wB 4 (List.set s598.2.1 (Int.toNat s598.1) true)),(500001,.tl 3 s598.2.2)]⟩ (zD (zA 3 ?_))
 obtain ⟨l668,hl668,h⟩:=bindS h
 refine evs_at (at_appT (g:=500001) (e:=3) (l:=s598.2.2) (y:=s598.1) (x:=(sI [s598.1])) (by kernel_rfl) (by kernel_rfl) (by kernel_rfl) (by kernel_rfl) (by kernel_rfl) hl668) (z6 1 fun τ hτ=>?_)
 exact bl_normal (jk_normal ((List.set s598.2.1 (Int.toNat s598.1) true),l668) h hτ (here (by kernel_rfl)))
 replace h:=iteF hb h
 refine zM fun τ hτ=>?_
 exact bl_normal (jk_normal (s598.2.1,s598.2.2) h hτ (here (by kernel_rfl)))
 replace h:=iteF hb h
 refine zL 2 fun τ hτ=>?_
 refine th_exit ?_
 obtain rfl:=osi h
 exact zF hτ
 intro x
 rfl
 intro τ hτ
 refine zQ (bl_normal ?_)
 obtain rfl:=osi h
 exact zH hτ
 replace h:=iteF hb h
 refine zL 0 fun τ hτ=>?_
 refine th_exit ?_
 obtain rfl:=osi h
 exact zF hτ
 intro x
 rfl
 intro τ hτ
 refine zQ (zE hτ ⟨[(3,ro 500000 4)],[(500000,wB 4 x670)]⟩ (zB ?_))
 refine z7 (zA 1 (evs_op (st_len (c:=cB) (l:=x670) (x:=(ro 500000 4)) (by kernel_rfl) (by kernel_rfl)) ?_))
 refine z1 1 ⟨[(52,ro 500000 4),(53,vI (x670.length : Int)),(54,vI 0)],[(500000,wB 4 x670)]⟩ (zC ?_)
 obtain ⟨x702,hx702,h⟩:=bindS h
 refine sem_loopS (fun (s693 : Int)=>⟨[(52,ro 500000 4),(53,vI (x670.length : Int)),(54,vI s693)],[(500000,wB 4 x670)]⟩) (fun (x702 : Unit ⊕ Unit)=>match x702 with | .inl j703=>(.ret,⟨[(2,vB false)],[]⟩) | .inr j704=>(.exit 4,⟨[],[]⟩)) (nest_connected_l4 x670) 0 x702 (by kernel_rfl) (here (by kernel_rfl)) hx702 ?_ ?_ ?_
 intro s693 r h
 refine z3 1 ⟨[(52,ro 500000 4),(53,vI (x670.length : Int)),(54,vI s693),(55,vB (decide (s693 < (x670.length : Int))))],[(500000,wB 4 x670)]⟩ (zB (zI (decide (s693 < (x670.length : Int))) (fun hb=>?_) fun hb=>?_))
 replace h:=iteT hb h
 refine z4 ⟨[(52,ro 500000 4),(53,vI (x670.length : Int)),(54,vI s693)],[(500000,wB 4 x670)]⟩ (zB (zC ?_))
 refine z7 ?_
 obtain ⟨x701,hx701,h⟩:=bindS h
 refine evs_op (st_idxO (c:=cB) (l:=x670) (i:=s693) (kd:=.i64) (kk:=(.top 500000)) (e:=4) (sz:=1) (by kernel_rfl) (by kernel_rfl) hx701 rfl) (evs_op (st_ldO (c:=cB) (l:=x670) (i:=(Int.toNat s693)) (v:=(vB x701)) (agg:=false) (sz:=1) (kk:=(.top 500000)) (e:=4) (off:=0) (J:=[]) (by kernel_rfl) (by kernel_rfl) (by kernel_rfl) ((idxS hx701).2) (by kernel_rfl)) (z1 1 ⟨[(8,vB x701),(52,ro 500000 4),(53,vI (x670.length : Int)),(54,vI s693)],[(500000,wB 4 x670)]⟩ ?_))
 refine z3 2 ⟨[(52,ro 500000 4),(53,vI (x670.length : Int)),(54,vI s693),(59,vB (!x701))],[(500000,wB 4 x670)]⟩ (zI (!x701) (fun hb=>?_) fun hb=>?_)
 replace h:=iteT hb h
 refine z8 1 ⟨[(2,vB false)],[]⟩ fun τ hτ=>?_
 refine bl_ret (th_ret ?_)
 obtain rfl:=osi h
 exact zF hτ
 replace h:=iteF hb h
 refine zM fun τ hτ=>?_
 refine bl_normal (zE hτ ⟨[(52,ro 500000 4),(53,vI (x670.length : Int)),(54,vI s693)],[(500000,wB 4 x670)]⟩ (zD ?_))
 refine z6 2 fun τ hτ=>?_
 obtain rfl:=osi h
 exact zH hτ
 replace h:=iteF hb h
 refine zL 4 fun τ hτ=>?_
 refine th_exit ?_
 obtain rfl:=osi h
 exact zF hτ
 intro x
 rcases x with _ | _ <;> rfl
 intro τ hτ
 rcases x702 with j703 | j704
 refine bl_ret (th_ret ?_)
 obtain rfl:=osi h
 exact zV hτ [(2,vB false)]
 refine zQ (zE hτ ⟨[],[]⟩ (z8 1 ⟨[(2,vB true)],[]⟩ fun τ hτ=>?_))
 obtain rfl:=osi h
 exact zV hτ [(2,vB true)]
theorem W.nest_strictly_ok {h0 : Rect} {l : (List Rect)} {r : Bool} (h : nest_strictly h0 l = some r) : PC G.P 97 [(.agg (c_Rect h0)),(.sl (List.map c_Rect l))] [] (vB r) []:=by
 refine zU G Tryz.func97 (zK ⟨[(0,.agg (c_Rect h0)),(1,s_Rect l)],[]⟩ (z3 2 ⟨[(1,s_Rect l),(2,.ptr 2 0)],[(2,.box (c_Rect h0))]⟩ ?_))
 refine zB (z7 (zA 1 ?_))
 refine evs_op (st_len (c:=c_Rect) (l:=l) (x:=(s_Rect l)) (by kernel_rfl) (by kernel_rfl)) (z1 1 ⟨[(2,.ptr 2 0),(7,s_Rect l),(8,vI (l.length : Int)),(9,vI 0)],[(2,.box (c_Rect h0))]⟩ (zC ?_))
 obtain ⟨x44,hx44,h⟩:=bindS h
 refine sem_loopS (fun (s31 : Int)=>⟨[(2,.ptr 500000 0),(7,s_Rect l),(8,vI (l.length : Int)),(9,vI s31)],[(500000,.box (c_Rect h0))]⟩) (fun (x44 : Unit ⊕ Unit)=>match x44 with | .inl j45=>(.ret,⟨[(4,vB true)],[]⟩) | .inr j46=>(.exit 0,⟨[],[]⟩)) (nest_strictly_l1 h0 l) 0 x44 (by kernel_rfl) (subR_prep [] [(2,500000)] (by kernel_rfl) rfl rfl (by kernel_rfl)) hx44 ?_ ?_ ?_
 intro s31 r h
 refine z3 1 ⟨[(2,.ptr 500000 0),(7,s_Rect l),(8,vI (l.length : Int)),(9,vI s31),(10,vB (decide (s31 < (l.length : Int))))],[(500000,.box (c_Rect h0))]⟩ (zB (zI (decide (s31 < (l.length : Int))) (fun hb=>?_) fun hb=>?_))
 replace h:=iteT hb h
 refine z4 ⟨[(2,.ptr 500000 0),(7,s_Rect l),(8,vI (l.length : Int)),(9,vI s31)],[(500000,.box (c_Rect h0))]⟩ (zB (zC ?_))
 refine z7 ?_
 obtain ⟨x42,hx42,h⟩:=bindS h
 refine evs_op (st_idx (c:=c_Rect) (l:=l) (i:=s31) (kd:=.i64) (sz:=4) (by kernel_rfl) hx42 rfl) (z1 3 ⟨[(2,.ptr 500000 0),(6,.ptr 6 0),(7,s_Rect l),(8,vI (l.length : Int)),(9,vI s31)],[(6,.box (c_Rect x42)),(500000,.box (c_Rect h0))]⟩ (zB ?_))
 obtain ⟨j43,hj43,h⟩:=bindS h
 refine zT ⟨[(2,.ptr 500000 0),(7,s_Rect l),(8,vI (l.length : Int)),(9,vI s31),(50,vB j43)],[(500000,.box (c_Rect h0))]⟩ ?_ fun τ hτ=>?_
 replace h:=hj43
 refine zA 6 (zS (decide (h0.X > x42.X)) (fun b0=>⟨[(2,.ptr 500000 0),(6,.ptr 6 0),(7,s_Rect l),(8,vI (l.length : Int)),(9,vI s31),(18,vB b0)],[(6,.box (c_Rect x42)),(500000,.box (c_Rect h0))]⟩) (fun hb=>?_) fun hb=>?_)
 replace h:=iteT hb h
 refine zA 7 (zS (decide (h0.Y > x42.Y)) (fun b0=>⟨[(2,.ptr 500000 0),(6,.ptr 6 0),(7,s_Rect l),(8,vI (l.length : Int)),(9,vI s31),(25,vB b0)],[(6,.box (c_Rect x42)),(500000,.box (c_Rect h0))]⟩) (fun hb=>?_) fun hb=>?_)
 replace h:=iteT hb h
 refine zA 13 (zS (decide ((iadd h0.X h0.W) < (iadd x42.X x42.W))) (fun b0=>⟨[(2,.ptr 500000 0),(6,.ptr 6 0),(7,s_Rect l),(8,vI (l.length : Int)),(9,vI s31),(38,vB b0)],[(6,.box (c_Rect x42)),(500000,.box (c_Rect h0))]⟩) (fun hb=>?_) fun hb=>?_)
 replace h:=iteT hb h
 refine z6 12 fun τ hτ=>?_
 obtain rfl:=osi h
 exact zG hτ
 replace h:=iteF hb h
 refine z6 12 fun τ hτ=>?_
 obtain rfl:=osi h
 exact zG hτ
 replace h:=iteF hb h
 refine z6 25 fun τ hτ=>?_
 obtain rfl:=osi h
 exact zG hτ
 replace h:=iteF hb h
 refine z6 32 fun τ hτ=>?_
 obtain rfl:=osi h
 exact zG hτ
 refine zE hτ ⟨[(2,.ptr 500000 0),(7,s_Rect l),(8,vI (l.length : Int)),(9,vI s31),(50,vB j43)],[(500000,.box (c_Rect h0))]⟩ (zI j43 (fun hb=>?_) fun hb=>?_)
 replace h:=iteT hb h
 refine z8 1 ⟨[(4,vB true)],[]⟩ fun τ hτ=>?_
 refine bl_ret (th_ret ?_)
 obtain rfl:=osi h
 exact zF hτ
 replace h:=iteF hb h
 refine zM fun τ hτ=>?_
 refine bl_normal (zE hτ ⟨[(2,.ptr 500000 0),(7,s_Rect l),(8,vI (l.length : Int)),(9,vI s31)],[(500000,.box (c_Rect h0))]⟩ (zD ?_))
 refine z6 2 fun τ hτ=>?_
 obtain rfl:=osi h
 exact zH hτ
 replace h:=iteF hb h
 refine zL 0 fun τ hτ=>?_
 refine th_exit ?_
 obtain rfl:=osi h
 exact zF hτ
 intro x
 rcases x with _ | _ <;> rfl
 intro τ hτ
 rcases x44 with j45 | j46
 refine bl_ret (th_ret ?_)
 obtain rfl:=osi h
 exact zV hτ [(4,vB true)]
 refine zQ (zE hτ ⟨[],[]⟩ (z8 1 ⟨[(4,vB false)],[]⟩ fun τ hτ=>?_))
 obtain rfl:=osi h
 exact zV hτ [(4,vB false)]
theorem W.nest_inside_ok {x0 : Piece} {r : Int} (h : nest_inside x0 = some r) : PC G.P 60 [(.agg (c_Piece x0))] [] (vI r) []:=by
 refine zU G Tryz.func60 (zK ⟨[(0,.agg (c_Piece x0))],[]⟩ (z3 2 ⟨[(1,.ptr 1 0)],[(1,.box (c_Piece x0))]⟩ ?_))
 refine zB (sem_draw [(2,[12])] [(2,[12])] [] [(3,[12]),(4,[12])] [(0,[12]),(1,[12]),(3,[12]),(4,[12])] 5 (by kernel_rfl) (by kernel_rfl) [12] (by kernel_rfl) (by kernel_rfl) (evd_run 2 (by kernel_rfl) ?_))
 obtain ⟨l5,hl5,h⟩:=bindS h
 refine evd_new (by kernel_rfl) (st_appN (c:=c_Rect) (l2:=x0.Cuts) (x:=(s_Rect x0.Cuts)) (e:=86) (sz:=4) (d:=12) (by kernel_rfl) (by kernel_rfl) (by kernel_rfl) (fun _=>rfl) hl5) (by kernel_rfl) (by kernel_rfl) (by kernel_rfl) (by kernel_rfl) (evd_run 2 (by kernel_rfl) (evd_end (by kernel_rfl) ?_))
 obtain ⟨l6,hl6,h⟩:=bindS h
 refine evo_op (st_app (c:=c_Rect) (l:=l5) (l2:=x0.Forms) (x:=(s_Rect x0.Forms)) (g:=12) (e:=86) (sz:=4) (d:=15) (by kernel_rfl) (by kernel_rfl) (by kernel_rfl) (by kernel_rfl) (fun _=>rfl) rfl hl6) (evo_run 1 (by kernel_rfl) (zO fun τ hτ=>?_))
 refine zE hτ ⟨[(1,.ptr 1 0),(3,ro 12 86)],[(1,.box (c_Piece x0)),(12,w_Rect 86 l6)]⟩ (zB (z7 ?_))
 refine zA 1 (evs_op (st_len (c:=c_Rect) (l:=l6) (x:=(ro 12 86)) (by kernel_rfl) (by kernel_rfl)) (z1 1 ⟨[(1,.ptr 1 0),(3,ro 12 86),(16,ro 12 86),(17,vI (l6.length : Int)),(18,vI 0)],[(1,.box (c_Piece x0)),(12,w_Rect 86 l6)]⟩ ?_))
 refine zC ?_
 obtain ⟨x98,hx98,h⟩:=bindS h
 refine sem_loopS (fun (s69 : Int)=>⟨[(1,.ptr 500000 0),(3,ro 500001 86),(16,ro 500001 86),(17,vI (l6.length : Int)),(18,vI s69)],[(500000,.box (c_Piece x0)),(500001,w_Rect 86 l6)]⟩) (fun (x98 : Unit ⊕ Unit)=>match x98 with | .inl j99=>(.ret,⟨[(2,vI 13)],[]⟩) | .inr j100=>(.exit 0,⟨[(3,ro 500000 86)],[(500000,w_Rect 86 l6)]⟩)) (nest_inside_l1 x0 l6) 0 x98 (by kernel_rfl) (subR_prep [] [(1,500000),(12,500001)] (by kernel_rfl) rfl rfl (by kernel_rfl)) hx98 ?_ ?_ ?_
 intro s69 r h
 refine z3 1 ⟨[(1,.ptr 500000 0),(3,ro 500001 86),(16,ro 500001 86),(17,vI (l6.length : Int)),(18,vI s69),(19,vB (decide (s69 < (l6.length : Int))))],[(500000,.box (c_Piece x0)),(500001,w_Rect 86 l6)]⟩ (zB (zI (decide (s69 < (l6.length : Int))) (fun hb=>?_) fun hb=>?_))
 replace h:=iteT hb h
 refine z4 ⟨[(1,.ptr 500000 0),(3,ro 500001 86),(16,ro 500001 86),(17,vI (l6.length : Int)),(18,vI s69)],[(500000,.box (c_Piece x0)),(500001,w_Rect 86 l6)]⟩ (zB (zC ?_))
 refine z7 (zA 1 ?_)
 obtain ⟨x92,hx92,h⟩:=bindS h
 refine evs_op (st_idxO (c:=c_Rect) (l:=l6) (i:=s69) (kd:=.i64) (kk:=(.top 500001)) (e:=86) (sz:=4) (by kernel_rfl) (by kernel_rfl) hx92 rfl) (evs_op (st_ldO (c:=c_Rect) (l:=l6) (i:=(Int.toNat s69)) (v:=(.agg (c_Rect x92))) (agg:=true) (sz:=4) (kk:=(.top 500001)) (e:=86) (off:=0) (J:=[]) (by kernel_rfl) (by kernel_rfl) (by kernel_rfl) ((idxS hx92).2) (by kernel_rfl)) (z1 3 ⟨[(1,.ptr 500000 0),(3,ro 500001 86),(4,vI s69),(5,.ptr 5 0),(16,ro 500001 86),(17,vI (l6.length : Int)),(18,vI s69)],[(5,.box (c_Rect x92)),(500000,.box (c_Piece x0)),(500001,w_Rect 86 l6)]⟩ ?_))
 refine zB ?_
 obtain ⟨j95,hj95,h⟩:=bindS h
 refine zT ⟨[(1,.ptr 500000 0),(3,ro 500001 86),(16,ro 500001 86),(17,vI (l6.length : Int)),(18,vI s69),(44,vB j95)],[(500000,.box (c_Piece x0)),(500001,w_Rect 86 l6)]⟩ ?_ fun τ hτ=>?_
 replace h:=hj95
 refine zA 3 (evs_op (st_len (c:=c_Rect) (l:=x0.Cuts) (x:=(s_Rect x0.Cuts)) (by kernel_rfl) (by kernel_rfl)) (zA 2 ?_))
 refine zS (decide (s69 < (x0.Cuts.length : Int))) (fun b0=>⟨[(1,.ptr 500000 0),(3,ro 500001 86),(5,.ptr 5 0),(16,ro 500001 86),(17,vI (l6.length : Int)),(18,vI s69),(28,vB b0)],[(5,.box (c_Rect x92)),(500000,.box (c_Piece x0)),(500001,w_Rect 86 l6)]⟩) (fun hb=>?_) fun hb=>?_
 replace h:=iteT hb h
 refine zA 4 (zS (x92.W == 1) (fun b0=>⟨[(1,.ptr 500000 0),(3,ro 500001 86),(5,.ptr 5 0),(16,ro 500001 86),(17,vI (l6.length : Int)),(18,vI s69),(28,vB true),(32,vB b0)],[(5,.box (c_Rect x92)),(500000,.box (c_Piece x0)),(500001,w_Rect 86 l6)]⟩) (fun hb=>?_) fun hb=>?_)
 replace h:=iteT hb h
 refine z6 12 fun τ hτ=>?_
 obtain rfl:=osi h
 exact zG hτ
 replace h:=iteF hb h
 refine zA 6 (zS (x92.H == 1) (fun b0=>⟨[(1,.ptr 500000 0),(3,ro 500001 86),(5,.ptr 5 0),(16,ro 500001 86),(17,vI (l6.length : Int)),(18,vI s69),(38,vB b0)],[(5,.box (c_Rect x92)),(500000,.box (c_Piece x0)),(500001,w_Rect 86 l6)]⟩) (fun hb=>?_) fun hb=>?_)
 replace h:=iteT hb h
 refine z6 6 fun τ hτ=>?_
 obtain rfl:=osi h
 exact zG hτ
 replace h:=iteF hb h
 refine zA 3 ?_
 obtain ⟨r96,hr96,h⟩:=bindS h
 refine evs_callP [] (by kernel_rfl) (W.nest_strictly_ok hr96) (by kernel_rfl) (.inl rfl) (by kernel_rfl) (z6 2 fun τ hτ=>?_)
 obtain rfl:=osi h
 exact zG hτ
 replace h:=iteF hb h
 refine zA 13 ?_
 obtain ⟨r97,hr97,h⟩:=bindS h
 refine evs_callP [] (by kernel_rfl) (W.nest_strictly_ok hr97) (by kernel_rfl) (.inl rfl) (by kernel_rfl) (z6 2 fun τ hτ=>?_)
 obtain rfl:=osi h
 exact zG hτ
 refine zE hτ ⟨[(1,.ptr 500000 0),(3,ro 500001 86),(16,ro 500001 86),(17,vI (l6.length : Int)),(18,vI s69),(44,vB j95)],[(500000,.box (c_Piece x0)),(500001,w_Rect 86 l6)]⟩ (zI j95 (fun hb=>?_) fun hb=>?_)
 replace h:=iteT hb h
 refine z8 1 ⟨[(2,vI 13)],[]⟩ fun τ hτ=>?_
 refine bl_ret (th_ret ?_)
 obtain rfl:=osi h
 exact zF hτ
 replace h:=iteF hb h
 refine zM fun τ hτ=>?_
 refine bl_normal (zE hτ ⟨[(1,.ptr 500000 0),(3,ro 500001 86),(16,ro 500001 86),(17,vI (l6.length : Int)),(18,vI s69)],[(500000,.box (c_Piece x0)),(500001,w_Rect 86 l6)]⟩ (zD ?_))
 refine z6 2 fun τ hτ=>?_
 obtain rfl:=osi h
 exact zH hτ
 replace h:=iteF hb h
 refine zL 0 fun τ hτ=>?_
 refine th_exit ?_
 obtain rfl:=osi h
 exact lk_outS hτ rfl (subR_prep [] [(500001,500000)] (by kernel_rfl) rfl rfl (by kernel_rfl))
 intro x
 rcases x with _ | _ <;> rfl
 intro τ hτ
 rcases x98 with j99 | j100
 refine bl_ret (th_ret ?_)
 obtain rfl:=osi h
 exact zV hτ [(2,vI 13)]
 refine zQ (zE hτ ⟨[(3,ro 500000 86)],[(500000,w_Rect 86 l6)]⟩ (zB ?_))
 refine z7 (zA 1 (evs_op (st_len (c:=c_Rect) (l:=l6) (x:=(ro 500000 86)) (by kernel_rfl) (by kernel_rfl)) ?_))
 refine z1 1 ⟨[(3,ro 500000 86),(46,ro 500000 86),(47,vI (l6.length : Int)),(48,vI 0)],[(500000,w_Rect 86 l6)]⟩ (zC ?_)
 obtain ⟨x504,hx504,h⟩:=bindS h
 refine sem_loopS (fun (s371 : Int)=>⟨[(3,s_Rect l6),(46,s_Rect l6),(47,vI (l6.length : Int)),(48,vI s371)],[]⟩) (fun (x504 : Unit ⊕ Unit)=>match x504 with | .inl j505=>(.ret,⟨[(2,vI 7)],[]⟩) | .inr j506=>(.exit 2,⟨[],[]⟩)) (nest_inside_l3 l6) 0 x504 (by kernel_rfl) (subR_prep [.frz 500000] [] (by kernel_rfl) rfl rfl (by kernel_rfl)) hx504 ?_ ?_ ?_
 intro s371 r h
 refine z3 1 ⟨[(3,s_Rect l6),(46,s_Rect l6),(47,vI (l6.length : Int)),(48,vI s371),(49,vB (decide (s371 < (l6.length : Int))))],[]⟩ (zB (zI (decide (s371 < (l6.length : Int))) (fun hb=>?_) fun hb=>?_))
 replace h:=iteT hb h
 refine z4 ⟨[(3,s_Rect l6),(46,s_Rect l6),(47,vI (l6.length : Int)),(48,vI s371)],[]⟩ (zB (zC ?_))
 refine z7 (zA 1 ?_)
 obtain ⟨x472,hx472,h⟩:=bindS h
 refine evs_op (st_idx (c:=c_Rect) (l:=l6) (i:=s371) (kd:=.i64) (sz:=4) (by kernel_rfl) hx472 rfl) (z1 4 ⟨[(3,s_Rect l6),(6,vI s371),(7,.ptr 7 0),(46,s_Rect l6),(47,vI (l6.length : Int)),(48,vI s371)],[(7,.box (c_Rect x472))]⟩ (z7 ?_))
 refine zA 2 ?_
 obtain ⟨l474,hl474,h⟩:=bindS h
 refine evs_op (st_slH (c:=c_Rect) (l:=l6) (sz:=4) (hi:=s371) (k2:=.i64) (by kernel_rfl) hl474) (evs_op (st_len (c:=c_Rect) (l:=l474) (x:=(s_Rect l474)) (by kernel_rfl) (by kernel_rfl)) (z1 1 ⟨[(3,s_Rect l6),(7,.ptr 7 0),(46,s_Rect l6),(47,vI (l6.length : Int)),(48,vI s371),(55,s_Rect l474),(56,vI (l474.length : Int)),(57,vI 0)],[(7,.box (c_Rect x472))]⟩ ?_))
 refine zC ?_
 obtain ⟨x501,hx501,h⟩:=bindS h
 refine sem_loopS (fun (s484 : Int)=>⟨[(3,s_Rect l6),(7,.ptr 500000 0),(46,s_Rect l6),(47,vI (l6.length : Int)),(48,vI s371),(55,s_Rect l474),(56,vI (l474.length : Int)),(57,vI s484)],[(500000,.box (c_Rect x472))]⟩) (fun (x501 : Unit ⊕ Unit)=>match x501 with | .inl j502=>(.ret,⟨[(2,vI 7)],[]⟩) | .inr j503=>(.exit 4,⟨[(3,s_Rect l6),(46,s_Rect l6),(47,vI (l6.length : Int)),(48,vI s371)],[]⟩)) (nest_inside_l2 x472 l474) 0 x501 (by kernel_rfl) (subR_prep [] [(7,500000)] (by kernel_rfl) rfl rfl (by kernel_rfl)) hx501 ?_ ?_ ?_
 intro s484 r h
 refine z3 1 ⟨[(3,s_Rect l6),(7,.ptr 500000 0),(46,s_Rect l6),(47,vI (l6.length : Int)),(48,vI s371),(55,s_Rect l474),(56,vI (l474.length : Int)),(57,vI s484),(58,vB (decide (s484 < (l474.length : Int))))],[(500000,.box (c_Rect x472))]⟩ (zB (zI (decide (s484 < (l474.length : Int))) (fun hb=>?_) fun hb=>?_))
 replace h:=iteT hb h
 refine z4 ⟨[(3,s_Rect l6),(7,.ptr 500000 0),(46,s_Rect l6),(47,vI (l6.length : Int)),(48,vI s371),(55,s_Rect l474),(56,vI (l474.length : Int)),(57,vI s484)],[(500000,.box (c_Rect x472))]⟩ (zB (zC ?_))
 refine z7 ?_
 obtain ⟨x498,hx498,h⟩:=bindS h
 refine evs_op (st_idx (c:=c_Rect) (l:=l474) (i:=s484) (kd:=.i64) (sz:=4) (by kernel_rfl) hx498 rfl) (z1 3 ⟨[(3,s_Rect l6),(7,.ptr 500000 0),(9,.ptr 9 0),(46,s_Rect l6),(47,vI (l6.length : Int)),(48,vI s371),(55,s_Rect l474),(56,vI (l474.length : Int)),(57,vI s484)],[(9,.box (c_Rect x498)),(500000,.box (c_Rect x472))]⟩ (z7 ?_))
 refine zA 2 ?_
 obtain ⟨r500,hr500,h⟩:=bindS h
 refine evs_callP [] (by kernel_rfl) (W.geom_Distance_ok hr500) (by kernel_rfl) (.inl rfl) (by kernel_rfl) (z1 1 ⟨[(3,s_Rect l6),(7,.ptr 500000 0),(46,s_Rect l6),(47,vI (l6.length : Int)),(48,vI s371),(55,s_Rect l474),(56,vI (l474.length : Int)),(57,vI s484),(64,vB (r500 == 0))],[(500000,.box (c_Rect x472))]⟩ (zI (r500 == 0) (fun hb=>?_) fun hb=>?_))
 replace h:=iteT hb h
 refine z8 1 ⟨[(2,vI 7)],[]⟩ fun τ hτ=>?_
 refine bl_ret (th_ret ?_)
 obtain rfl:=osi h
 exact zF hτ
 replace h:=iteF hb h
 refine zM fun τ hτ=>?_
 refine bl_normal (zE hτ ⟨[(3,s_Rect l6),(7,.ptr 500000 0),(46,s_Rect l6),(47,vI (l6.length : Int)),(48,vI s371),(55,s_Rect l474),(56,vI (l474.length : Int)),(57,vI s484)],[(500000,.box (c_Rect x472))]⟩ (zD ?_))
 refine z6 2 fun τ hτ=>?_
 obtain rfl:=osi h
 exact zH hτ
 replace h:=iteF hb h
 refine zL 4 fun τ hτ=>?_
 refine th_exit ?_
 obtain rfl:=osi h
 exact zF hτ
 intro x
 rcases x with _ | _ <;> rfl
 intro τ hτ
 rcases x501 with j502 | j503
 refine bl_ret (bl_ret (th_ret ?_))
 obtain rfl:=osi h
 exact zF hτ
 refine zQ (bl_normal (zE hτ ⟨[(3,s_Rect l6),(46,s_Rect l6),(47,vI (l6.length : Int)),(48,vI s371)],[]⟩ ?_))
 refine zD (z6 2 fun τ hτ=>?_)
 obtain rfl:=osi h
 exact zH hτ
 replace h:=iteF hb h
 refine zL 2 fun τ hτ=>?_
 refine th_exit ?_
 obtain rfl:=osi h
 exact zF hτ
 intro x
 rcases x with _ | _ <;> rfl
 intro τ hτ
 rcases x504 with j505 | j506
 refine bl_ret (th_ret ?_)
 obtain rfl:=osi h
 exact zV hτ [(2,vI 7)]
 refine zQ (zE hτ ⟨[],[]⟩ (z8 1 ⟨[(2,vI 0)],[]⟩ fun τ hτ=>?_))
 obtain rfl:=osi h
 exact zV hτ [(2,vI 0)]
theorem W.nest_ValidatePiece_ok {x0 : Piece} {r : Int} (h : nest_ValidatePiece x0 = some r) : PC G.P 17 [(.agg (c_Piece x0))] [] (vI r) []:=by
 refine zU G Tryz.func17 (zK ⟨[(0,.agg (c_Piece x0))],[]⟩ (z3 2 ⟨[(1,.ptr 1 0)],[(1,.box (c_Piece x0))]⟩ ?_))
 refine zB (zC (zB ?_))
 obtain ⟨j18,hj18,h⟩:=bindS h
 refine zT ⟨[(1,.ptr 500000 0),(11,vB j18)],[(500000,.box (c_Piece x0))]⟩ ?_ fun τ hτ=>?_
 replace h:=hj18
 refine zA 2 ?_
 obtain ⟨r19,hr19,h⟩:=bindS h
 refine evs_callP [] (by kernel_rfl) (W.part_ValidName_ok hr19) (by kernel_rfl) (.inl rfl) (by kernel_rfl) (zA 2 (zS r19 (fun b0=>⟨[(1,.ptr 1 0),(16,vB (!b0))],[(1,.box (c_Piece x0))]⟩) (fun hb=>?_) fun hb=>?_))
 replace h:=iteT hb h
 refine zA 2 ?_
 obtain ⟨r20,hr20,h⟩:=bindS h
 refine evs_callP [] (by kernel_rfl) (W.part_ValidName_ok hr20) (by kernel_rfl) (.inl rfl) (by kernel_rfl) (z6 3 fun τ hτ=>?_)
 obtain rfl:=osi h
 exact leafC hτ (subR_prep [] [(1,500000)] (by kernel_rfl) rfl rfl (by kernel_rfl))
 replace h:=iteF hb h
 refine z6 6 fun τ hτ=>?_
 obtain rfl:=osi h
 exact leafC hτ (subR_prep [] [(1,500000)] (by kernel_rfl) rfl rfl (by kernel_rfl))
 refine zE hτ ⟨[(1,.ptr 500000 0),(11,vB j18)],[(500000,.box (c_Piece x0))]⟩ (zI j18 (fun hb=>?_) fun hb=>?_)
 replace h:=iteT hb h
 refine z8 1 ⟨[(2,vI 2)],[]⟩ fun τ hτ=>?_
 refine bl_ret (th_ret ?_)
 obtain rfl:=osi h
 exact zV hτ [(2,vI 2)]
 replace h:=iteF hb h
 refine z7 (zA 4 ?_)
 obtain ⟨r22,hr22,h⟩:=bindS h
 refine evs_callP [] (by kernel_rfl) (W.nest_plain_ok hr22) (by kernel_rfl) (.inl rfl) (by kernel_rfl) (z1 2 ⟨[(1,.ptr 500000 0),(22,vB (!r22))],[(500000,.box (c_Piece x0))]⟩ (zI (!r22) (fun hb=>?_) fun hb=>?_))
 replace h:=iteT hb h
 refine z8 1 ⟨[(2,vI 1)],[]⟩ fun τ hτ=>?_
 refine bl_ret (th_ret ?_)
 obtain rfl:=osi h
 exact zV hτ [(2,vI 1)]
 replace h:=iteF hb h
 refine zB ?_
 obtain ⟨j23,hj23,h⟩:=bindS h
 refine zT ⟨[(1,.ptr 500000 0),(29,vB j23)],[(500000,.box (c_Piece x0))]⟩ ?_ fun τ hτ=>?_
 replace h:=hj23
 refine zA 2 (evs_op (st_len (c:=c_Rect) (l:=x0.Rects) (x:=(s_Rect x0.Rects)) (by kernel_rfl) (by kernel_rfl)) (zA 2 ?_))
 refine zS (decide ((x0.Rects.length : Int) > 12)) (fun b0=>⟨[(1,.ptr 500000 0),(34,vB b0)],[(500000,.box (c_Piece x0))]⟩) (fun hb=>?_) fun hb=>?_
 replace h:=iteT hb h
 refine z6 12 fun τ hτ=>?_
 obtain rfl:=osi h
 exact zG hτ
 replace h:=iteF hb h
 refine zA 2 (evs_op (st_len (c:=c_Rect) (l:=x0.Cuts) (x:=(s_Rect x0.Cuts)) (by kernel_rfl) (by kernel_rfl)) (zA 3 ?_))
 refine zS (decide ((x0.Cuts.length : Int) > 12)) (fun b0=>⟨[(1,.ptr 500000 0),(40,vB b0)],[(500000,.box (c_Piece x0))]⟩) (fun hb=>?_) fun hb=>?_
 replace h:=iteT hb h
 refine z6 6 fun τ hτ=>?_
 obtain rfl:=osi h
 exact zG hτ
 replace h:=iteF hb h
 refine zA 2 (evs_op (st_len (c:=c_Rect) (l:=x0.Forms) (x:=(s_Rect x0.Forms)) (by kernel_rfl) (by kernel_rfl)) (z6 3 fun τ hτ=>?_))
 obtain rfl:=osi h
 exact zG hτ
 refine zE hτ ⟨[(1,.ptr 500000 0),(29,vB j23)],[(500000,.box (c_Piece x0))]⟩ (zI j23 (fun hb=>?_) fun hb=>?_)
 replace h:=iteT hb h
 refine z8 1 ⟨[(2,vI 4)],[]⟩ fun τ hτ=>?_
 refine bl_ret (th_ret ?_)
 obtain rfl:=osi h
 exact zV hτ [(2,vI 4)]
 replace h:=iteF hb h
 refine zB ?_
 obtain ⟨j27,hj27,h⟩:=bindS h
 refine zT ⟨[(1,.ptr 500000 0),(46,vB j27)],[(500000,.box (c_Piece x0))]⟩ ?_ fun τ hτ=>?_
 replace h:=hj27
 refine zA 2 (evs_op (st_len (c:=c_Rect) (l:=x0.Rects) (x:=(s_Rect x0.Rects)) (by kernel_rfl) (by kernel_rfl)) (zA 2 ?_))
 refine zS ((x0.Rects.length : Int) == 0) (fun b0=>⟨[(1,.ptr 500000 0),(51,vB b0)],[(500000,.box (c_Piece x0))]⟩) (fun hb=>?_) fun hb=>?_
 replace h:=iteT hb h
 refine z6 18 fun τ hτ=>?_
 obtain rfl:=osi h
 exact zG hτ
 replace h:=iteF hb h
 refine zA 2 ?_
 obtain ⟨r28,hr28,h⟩:=bindS h
 refine evs_callP [] (by kernel_rfl) (W.nest_valid_ok hr28) (by kernel_rfl) (.inl rfl) (by kernel_rfl) (zA 3 (zS r28 (fun b0=>⟨[(1,.ptr 500000 0),(57,vB (!b0))],[(500000,.box (c_Piece x0))]⟩) (fun hb=>?_) fun hb=>?_))
 replace h:=iteT hb h
 refine zA 2 ?_
 obtain ⟨r29,hr29,h⟩:=bindS h
 refine evs_callP [] (by kernel_rfl) (W.nest_valid_ok hr29) (by kernel_rfl) (.inl rfl) (by kernel_rfl) (zA 3 (zS r29 (fun b0=>⟨[(1,.ptr 500000 0),(63,vB (!b0))],[(500000,.box (c_Piece x0))]⟩) (fun hb=>?_) fun hb=>?_))
 replace h:=iteT hb h
 refine zA 2 ?_
 obtain ⟨r30,hr30,h⟩:=bindS h
 refine evs_callP [] (by kernel_rfl) (W.nest_valid_ok hr30) (by kernel_rfl) (.inl rfl) (by kernel_rfl) (z6 3 fun τ hτ=>?_)
 obtain rfl:=osi h
 exact zG hτ
 replace h:=iteF hb h
 refine z6 6 fun τ hτ=>?_
 obtain rfl:=osi h
 exact zG hτ
 replace h:=iteF hb h
 refine z6 12 fun τ hτ=>?_
 obtain rfl:=osi h
 exact zG hτ
 refine zE hτ ⟨[(1,.ptr 500000 0),(46,vB j27)],[(500000,.box (c_Piece x0))]⟩ (zI j27 (fun hb=>?_) fun hb=>?_)
 replace h:=iteT hb h
 refine z8 1 ⟨[(2,vI 1)],[]⟩ fun τ hτ=>?_
 refine bl_ret (th_ret ?_)
 obtain rfl:=osi h
 exact zV hτ [(2,vI 1)]
 replace h:=iteF hb h
 refine zM fun τ hτ=>?_
 refine bl_normal (zE hτ ⟨[(1,.ptr 500000 0)],[(500000,.box (c_Piece x0))]⟩ (zB ?_))
 refine sem_drawN [] [] [] [] [] 11 (by kernel_rfl) (by kernel_rfl) (by kernel_rfl) (evd_run 2 (by kernel_rfl) ?_)
 obtain ⟨x35,hx35,h⟩:=bindS h
 refine evd_val (by kernel_rfl) (st_idx (c:=c_Rect) (l:=x0.Rects) (i:=0) (kd:=.i64) (sz:=4) (by kernel_rfl) hx35 rfl) (by kernel_rfl) (by kernel_rfl) (evd_run 4 (by kernel_rfl) ?_)
 obtain ⟨x36,hx36,h⟩:=bindS h
 refine evd_val (by kernel_rfl) (st_idx (c:=c_Rect) (l:=x0.Rects) (i:=0) (kd:=.i64) (sz:=4) (by kernel_rfl) hx36 rfl) (by kernel_rfl) (by kernel_rfl) (evd_run 3 (by kernel_rfl) (evd_end (by kernel_rfl) ?_))
 refine evo_run 1 (by kernel_rfl) (zO fun τ hτ=>?_)
 refine zE hτ ⟨[(1,.ptr 500000 0),(3,vI x35.X),(4,vI x36.Y)],[(500000,.box (c_Piece x0))]⟩ (zB (z7 ?_))
 refine zA 2 (evs_op (st_len (c:=c_Rect) (l:=x0.Rects) (x:=(s_Rect x0.Rects)) (by kernel_rfl) (by kernel_rfl)) (z1 1 ⟨[(1,.ptr 500000 0),(3,vI x35.X),(4,vI x36.Y),(80,s_Rect x0.Rects),(81,vI (x0.Rects.length : Int)),(82,vI 0)],[(500000,.box (c_Piece x0))]⟩ ?_))
 refine zC ?_
 obtain ⟨x66,hx66,h⟩:=bindS h
 refine sem_loopS (fun (s57 : Int × Int × Int)=>⟨[(1,.ptr 500000 0),(3,vI s57.1),(4,vI s57.2.1),(80,s_Rect x0.Rects),(81,vI (x0.Rects.length : Int)),(82,vI s57.2.2)],[(500000,.box (c_Piece x0))]⟩) (fun (x66 : Int × Int)=>(.exit 1,⟨[(1,.ptr 500000 0),(3,vI x66.1),(4,vI x66.2)],[(500000,.box (c_Piece x0))]⟩)) (nest_ValidatePiece_l1 x0) (x35.X,x36.Y,0) x66 (by kernel_rfl) (here (by kernel_rfl)) hx66 ?_ ?_ ?_
 intro s57 r h
 refine z3 1 ⟨[(1,.ptr 500000 0),(3,vI s57.1),(4,vI s57.2.1),(80,s_Rect x0.Rects),(81,vI (x0.Rects.length : Int)),(82,vI s57.2.2),(83,vB (decide (s57.2.2 < (x0.Rects.length : Int))))],[(500000,.box (c_Piece x0))]⟩ (zB (zI (decide (s57.2.2 < (x0.Rects.length : Int))) (fun hb=>?_) fun hb=>?_))
 replace h:=iteT hb h
 refine z4 ⟨[(1,.ptr 500000 0),(3,vI s57.1),(4,vI s57.2.1),(80,s_Rect x0.Rects),(81,vI (x0.Rects.length : Int)),(82,vI s57.2.2)],[(500000,.box (c_Piece x0))]⟩ (zB (zC ?_))
 refine z7 ?_
 obtain ⟨x65,hx65,h⟩:=bindS h
 refine evs_op (st_idx (c:=c_Rect) (l:=x0.Rects) (i:=s57.2.2) (kd:=.i64) (sz:=4) (by kernel_rfl) hx65 rfl) (z1 3 ⟨[(1,.ptr 500000 0),(3,vI s57.1),(4,vI s57.2.1),(6,.ptr 6 0),(80,s_Rect x0.Rects),(81,vI (x0.Rects.length : Int)),(82,vI s57.2.2)],[(6,.box (c_Rect x65)),(500000,.box (c_Piece x0))]⟩ (sem_drawN [] [] [] [] [] 9 (by kernel_rfl) (by kernel_rfl) (by kernel_rfl) ?_))
 refine evd_run 9 (by kernel_rfl) (evd_end (by kernel_rfl) (evo_run 1 (by kernel_rfl) ?_))
 refine zO fun τ hτ=>?_
 refine bl_normal (zE hτ ⟨[(1,.ptr 500000 0),(3,vI (imin s57.1 x65.X)),(4,vI (imin s57.2.1 x65.Y)),(80,s_Rect x0.Rects),(81,vI (x0.Rects.length : Int)),(82,vI s57.2.2)],[(500000,.box (c_Piece x0))]⟩ (zD ?_))
 refine z6 2 fun τ hτ=>?_
 obtain rfl:=osi h
 exact zH hτ
 replace h:=iteF hb h
 refine zL 1 fun τ hτ=>?_
 refine th_exit ?_
 obtain rfl:=osi h
 exact zF hτ
 intro x
 rfl
 intro τ hτ
 refine zQ (zE hτ ⟨[(1,.ptr 500000 0),(3,vI x66.1),(4,vI x66.2)],[(500000,.box (c_Piece x0))]⟩ (zB ?_))
 refine zB ?_
 obtain ⟨j68,hj68,h⟩:=bindS h
 refine zT ⟨[(1,.ptr 500000 0),(100,vB j68)],[(500000,.box (c_Piece x0))]⟩ ?_ fun τ hτ=>?_
 replace h:=hj68
 refine zA 3 (zS (x66.1 != 0) (fun b0=>⟨[(1,.ptr 500000 0),(4,vI x66.2),(97,vB b0)],[(500000,.box (c_Piece x0))]⟩) (fun hb=>?_) fun hb=>?_)
 replace h:=iteT hb h
 refine z6 3 fun τ hτ=>?_
 obtain rfl:=osi h
 exact zG hτ
 replace h:=iteF hb h
 refine z6 3 fun τ hτ=>?_
 obtain rfl:=osi h
 exact zG hτ
 refine zE hτ ⟨[(1,.ptr 500000 0),(100,vB j68)],[(500000,.box (c_Piece x0))]⟩ (zI j68 (fun hb=>?_) fun hb=>?_)
 replace h:=iteT hb h
 refine z8 1 ⟨[(2,vI 1)],[]⟩ fun τ hτ=>?_
 refine th_ret ?_
 obtain rfl:=osi h
 exact zV hτ [(2,vI 1)]
 replace h:=iteF hb h
 refine z4 ⟨[(1,.ptr 500000 0)],[(500000,.box (c_Piece x0))]⟩ (zB (z7 ?_))
 refine zA 2 (evs_op (st_len (c:=c_Rect) (l:=x0.Rects) (x:=(s_Rect x0.Rects)) (by kernel_rfl) (by kernel_rfl)) (z1 1 ⟨[(1,.ptr 500000 0),(102,s_Rect x0.Rects),(103,vI (x0.Rects.length : Int)),(104,vI 0)],[(500000,.box (c_Piece x0))]⟩ ?_))
 refine zC ?_
 obtain ⟨x472,hx472,h⟩:=bindS h
 refine sem_loopS (fun (s339 : Int)=>⟨[(1,.ptr 500000 0),(102,s_Rect x0.Rects),(103,vI (x0.Rects.length : Int)),(104,vI s339)],[(500000,.box (c_Piece x0))]⟩) (fun (x472 : Unit ⊕ Unit)=>match x472 with | .inl j473=>(.ret,⟨[(2,vI 7)],[]⟩) | .inr j474=>(.exit 3,⟨[(1,.ptr 500000 0)],[(500000,.box (c_Piece x0))]⟩)) (nest_ValidatePiece_l3 x0) 0 x472 (by kernel_rfl) (here (by kernel_rfl)) hx472 ?_ ?_ ?_
 intro s339 r h
 refine z3 1 ⟨[(1,.ptr 500000 0),(102,s_Rect x0.Rects),(103,vI (x0.Rects.length : Int)),(104,vI s339),(105,vB (decide (s339 < (x0.Rects.length : Int))))],[(500000,.box (c_Piece x0))]⟩ (zB (zI (decide (s339 < (x0.Rects.length : Int))) (fun hb=>?_) fun hb=>?_))
 replace h:=iteT hb h
 refine z4 ⟨[(1,.ptr 500000 0),(102,s_Rect x0.Rects),(103,vI (x0.Rects.length : Int)),(104,vI s339)],[(500000,.box (c_Piece x0))]⟩ (zB (zC ?_))
 refine z7 (zA 1 ?_)
 obtain ⟨x440,hx440,h⟩:=bindS h
 refine evs_op (st_idx (c:=c_Rect) (l:=x0.Rects) (i:=s339) (kd:=.i64) (sz:=4) (by kernel_rfl) hx440 rfl) (z1 4 ⟨[(1,.ptr 500000 0),(7,vI s339),(8,.ptr 8 0),(102,s_Rect x0.Rects),(103,vI (x0.Rects.length : Int)),(104,vI s339)],[(8,.box (c_Rect x440)),(500000,.box (c_Piece x0))]⟩ (z7 ?_))
 refine zA 3 ?_
 obtain ⟨l442,hl442,h⟩:=bindS h
 refine evs_op (st_slH (c:=c_Rect) (l:=x0.Rects) (sz:=4) (hi:=s339) (k2:=.i64) (by kernel_rfl) hl442) (evs_op (st_len (c:=c_Rect) (l:=l442) (x:=(s_Rect l442)) (by kernel_rfl) (by kernel_rfl)) (z1 1 ⟨[(1,.ptr 500000 0),(8,.ptr 8 0),(102,s_Rect x0.Rects),(103,vI (x0.Rects.length : Int)),(104,vI s339),(112,s_Rect l442),(113,vI (l442.length : Int)),(114,vI 0)],[(8,.box (c_Rect x440)),(500000,.box (c_Piece x0))]⟩ ?_))
 refine zC ?_
 obtain ⟨x469,hx469,h⟩:=bindS h
 refine sem_loopS (fun (s452 : Int)=>⟨[(1,.ptr 500000 0),(8,.ptr 500001 0),(102,s_Rect x0.Rects),(103,vI (x0.Rects.length : Int)),(104,vI s339),(112,s_Rect l442),(113,vI (l442.length : Int)),(114,vI s452)],[(500000,.box (c_Piece x0)),(500001,.box (c_Rect x440))]⟩) (fun (x469 : Unit ⊕ Unit)=>match x469 with | .inl j470=>(.ret,⟨[(2,vI 7)],[]⟩) | .inr j471=>(.exit 5,⟨[(1,.ptr 500000 0),(102,s_Rect x0.Rects),(103,vI (x0.Rects.length : Int)),(104,vI s339)],[(500000,.box (c_Piece x0))]⟩)) (nest_ValidatePiece_l2 x440 l442) 0 x469 (by kernel_rfl) (subR_prep [] [(8,500001),(500000,500000)] (by kernel_rfl) rfl rfl (by kernel_rfl)) hx469 ?_ ?_ ?_
 intro s452 r h
 refine z3 1 ⟨[(1,.ptr 500000 0),(8,.ptr 500001 0),(102,s_Rect x0.Rects),(103,vI (x0.Rects.length : Int)),(104,vI s339),(112,s_Rect l442),(113,vI (l442.length : Int)),(114,vI s452),(115,vB (decide (s452 < (l442.length : Int))))],[(500000,.box (c_Piece x0)),(500001,.box (c_Rect x440))]⟩ (zB (zI (decide (s452 < (l442.length : Int))) (fun hb=>?_) fun hb=>?_))
 replace h:=iteT hb h
 refine z4 ⟨[(1,.ptr 500000 0),(8,.ptr 500001 0),(102,s_Rect x0.Rects),(103,vI (x0.Rects.length : Int)),(104,vI s339),(112,s_Rect l442),(113,vI (l442.length : Int)),(114,vI s452)],[(500000,.box (c_Piece x0)),(500001,.box (c_Rect x440))]⟩ (zB (zC ?_))
 refine z7 ?_
 obtain ⟨x466,hx466,h⟩:=bindS h
 refine evs_op (st_idx (c:=c_Rect) (l:=l442) (i:=s452) (kd:=.i64) (sz:=4) (by kernel_rfl) hx466 rfl) (z1 3 ⟨[(1,.ptr 500000 0),(8,.ptr 500001 0),(10,.ptr 10 0),(102,s_Rect x0.Rects),(103,vI (x0.Rects.length : Int)),(104,vI s339),(112,s_Rect l442),(113,vI (l442.length : Int)),(114,vI s452)],[(10,.box (c_Rect x466)),(500000,.box (c_Piece x0)),(500001,.box (c_Rect x440))]⟩ (z7 ?_))
 refine zA 2 ?_
 obtain ⟨r468,hr468,h⟩:=bindS h
 refine evs_callP [] (by kernel_rfl) (W.geom_Overlap_ok hr468) (by kernel_rfl) (.inl rfl) (by kernel_rfl) (zP fun τ hτ=>?_)
 refine zE hτ ⟨[(1,.ptr 500000 0),(8,.ptr 500001 0),(102,s_Rect x0.Rects),(103,vI (x0.Rects.length : Int)),(104,vI s339),(112,s_Rect l442),(113,vI (l442.length : Int)),(114,vI s452),(120,vB r468)],[(500000,.box (c_Piece x0)),(500001,.box (c_Rect x440))]⟩ (zI r468 (fun hb=>?_) fun hb=>?_)
 replace h:=iteT hb h
 refine z8 1 ⟨[(2,vI 7)],[]⟩ fun τ hτ=>?_
 refine bl_ret (th_ret ?_)
 obtain rfl:=osi h
 exact zF hτ
 replace h:=iteF hb h
 refine zM fun τ hτ=>?_
 refine bl_normal (zE hτ ⟨[(1,.ptr 500000 0),(8,.ptr 500001 0),(102,s_Rect x0.Rects),(103,vI (x0.Rects.length : Int)),(104,vI s339),(112,s_Rect l442),(113,vI (l442.length : Int)),(114,vI s452)],[(500000,.box (c_Piece x0)),(500001,.box (c_Rect x440))]⟩ (zD ?_))
 refine z6 2 fun τ hτ=>?_
 obtain rfl:=osi h
 exact zH hτ
 replace h:=iteF hb h
 refine zL 5 fun τ hτ=>?_
 refine th_exit ?_
 obtain rfl:=osi h
 exact zF hτ
 intro x
 rcases x with _ | _ <;> rfl
 intro τ hτ
 rcases x469 with j470 | j471
 refine bl_ret (bl_ret (th_ret ?_))
 obtain rfl:=osi h
 exact zF hτ
 refine zQ (bl_normal (zE hτ ⟨[(1,.ptr 500000 0),(102,s_Rect x0.Rects),(103,vI (x0.Rects.length : Int)),(104,vI s339)],[(500000,.box (c_Piece x0))]⟩ ?_))
 refine zD (z6 2 fun τ hτ=>?_)
 obtain rfl:=osi h
 exact zH hτ
 replace h:=iteF hb h
 refine zL 3 fun τ hτ=>?_
 refine th_exit ?_
 obtain rfl:=osi h
 exact zF hτ
 intro x
 rcases x with _ | _ <;> rfl
 intro τ hτ
 rcases x472 with j473 | j474
 refine bl_ret (th_ret ?_)
 obtain rfl:=osi h
 exact zV hτ [(2,vI 7)]
 refine zQ (zE hτ ⟨[(1,.ptr 500000 0)],[(500000,.box (c_Piece x0))]⟩ (zB ?_))
 refine z7 (zA 2 ?_)
 obtain ⟨r478,hr478,h⟩:=bindS h
 refine evs_callP [] (by kernel_rfl) (W.nest_connected_ok hr478) (by kernel_rfl) (.inl rfl) (by kernel_rfl) (z1 1 ⟨[(1,.ptr 500000 0),(126,vB (!r478))],[(500000,.box (c_Piece x0))]⟩ (zI (!r478) (fun hb=>?_) fun hb=>?_))
 replace h:=iteT hb h
 refine z8 1 ⟨[(2,vI 6)],[]⟩ fun τ hτ=>?_
 refine th_ret ?_
 obtain rfl:=osi h
 exact zV hτ [(2,vI 6)]
 replace h:=iteF hb h
 refine z4 ⟨[(1,.ptr 500000 0)],[(500000,.box (c_Piece x0))]⟩ (z7 (zA 1 ?_))
 obtain ⟨r480,hr480,h⟩:=bindS h
 refine evs_callP [] (by kernel_rfl) (W.nest_inside_ok hr480) (by kernel_rfl) (.inl rfl) (by kernel_rfl) (z1 1 ⟨[(2,vI r480)],[]⟩ (zN fun τ hτ=>?_))
 obtain rfl:=osi h
 exact zV hτ [(2,vI r480)]
theorem W.sheetmetalref06_least_ok {l : (List Rect)} {r : Int × Int} (h : sheetmetalref06_least l = some r) : PC G.P 61 [(.sl (List.map c_Rect l))] [] (.tup [(vI r.1),(vI r.2)]) []:=by
 refine zU G Tryz.func61 (zK ⟨[(0,s_Rect l)],[]⟩ (z3 2 ⟨[(0,s_Rect l)],[]⟩ ?_))
 refine zB (sem_drawN [] [] [] [] [] 9 (by kernel_rfl) (by kernel_rfl) (by kernel_rfl) (evd_run 1 (by kernel_rfl) ?_))
 obtain ⟨x5,hx5,h⟩:=bindS h
 refine evd_val (by kernel_rfl) (st_idx (c:=c_Rect) (l:=l) (i:=0) (kd:=.i64) (sz:=4) (by kernel_rfl) hx5 rfl) (by kernel_rfl) (by kernel_rfl) (evd_run 3 (by kernel_rfl) ?_)
 obtain ⟨x6,hx6,h⟩:=bindS h
 refine evd_val (by kernel_rfl) (st_idx (c:=c_Rect) (l:=l) (i:=0) (kd:=.i64) (sz:=4) (by kernel_rfl) hx6 rfl) (by kernel_rfl) (by kernel_rfl) (evd_run 3 (by kernel_rfl) (evd_end (by kernel_rfl) ?_))
 refine evo_run 1 (by kernel_rfl) (zO fun τ hτ=>?_)
 refine zE hτ ⟨[(0,s_Rect l),(4,vI x5.X),(5,vI x6.Y)],[]⟩ (zB (z3 1 ⟨[(0,s_Rect l),(4,vI x5.X),(5,vI x6.Y),(6,vI 1)],[]⟩ ?_))
 refine zC ?_
 obtain ⟨x60,hx60,h⟩:=bindS h
 refine sem_loopS (fun (s43 : Int × Int × Int)=>⟨[(0,s_Rect l),(4,vI s43.1),(5,vI s43.2.1),(6,vI s43.2.2)],[]⟩) (fun (x60 : Int × Int)=>(.exit 0,⟨[(4,vI x60.1),(5,vI x60.2)],[]⟩)) (sheetmetalref06_least_l1 l) (x5.X,x6.Y,1) x60 (by kernel_rfl) (here (by kernel_rfl)) hx60 ?_ ?_ ?_
 intro s43 r h
 refine zB (z7 (zA 2 ?_))
 refine evs_op (st_len (c:=c_Rect) (l:=l) (x:=(s_Rect l)) (by kernel_rfl) (by kernel_rfl)) (z1 1 ⟨[(0,s_Rect l),(4,vI s43.1),(5,vI s43.2.1),(6,vI s43.2.2),(18,vB (decide (s43.2.2 < (l.length : Int))))],[]⟩ (zI (decide (s43.2.2 < (l.length : Int))) (fun hb=>?_) fun hb=>?_))
 replace h:=iteT hb h
 refine z4 ⟨[(0,s_Rect l),(4,vI s43.1),(5,vI s43.2.1),(6,vI s43.2.2)],[]⟩ (zB (zC ?_))
 refine z7 (zA 3 ?_)
 obtain ⟨x57,hx57,h⟩:=bindS h
 refine evs_op (st_idx (c:=c_Rect) (l:=l) (i:=s43.2.2) (kd:=.i64) (sz:=4) (by kernel_rfl) hx57 rfl) (z1 4 ⟨[(0,s_Rect l),(4,vI (imin s43.1 x57.X)),(5,vI s43.2.1),(6,vI s43.2.2)],[]⟩ (zD ?_))
 refine zA 3 ?_
 obtain ⟨x59,hx59,h⟩:=bindS h
 refine evs_op (st_idx (c:=c_Rect) (l:=l) (i:=s43.2.2) (kd:=.i64) (sz:=4) (by kernel_rfl) hx59 rfl) (z6 4 fun τ hτ=>?_)
 refine bl_normal (zE hτ ⟨[(0,s_Rect l),(4,vI (imin s43.1 x57.X)),(5,vI (imin s43.2.1 x59.Y)),(6,vI s43.2.2)],[]⟩ (zD ?_))
 refine z6 3 fun τ hτ=>?_
 obtain rfl:=osi h
 exact zH hτ
 replace h:=iteF hb h
 refine zL 0 fun τ hτ=>?_
 refine th_exit ?_
 obtain rfl:=osi h
 exact zF hτ
 intro x
 rfl
 intro τ hτ
 refine zQ (zE hτ ⟨[(4,vI x60.1),(5,vI x60.2)],[]⟩ (z8 4 ⟨[(2,vI x60.1),(3,vI x60.2)],[]⟩ fun τ hτ=>?_))
 obtain rfl:=osi h
 exact zV hτ [(2,vI x60.1),(3,vI x60.2)]
theorem W.sheetmetalref06_Meets_ok {r0 : Rect} {l : (List Rect)} {r : Bool} (h : sheetmetalref06_Meets r0 l = some r) : PC G.P 62 [(.agg (c_Rect r0)),(.sl (List.map c_Rect l))] [] (vB r) []:=by
 refine zU G Tryz.func62 (zK ⟨[(0,.agg (c_Rect r0)),(1,s_Rect l)],[]⟩ (z3 2 ⟨[(1,s_Rect l),(2,.ptr 2 0)],[(2,.box (c_Rect r0))]⟩ ?_))
 refine zB (z3 1 ⟨[(1,s_Rect l),(2,.ptr 2 0),(5,vI 0)],[(2,.box (c_Rect r0))]⟩ (zC ?_))
 obtain ⟨x80,hx80,h⟩:=bindS h
 refine sem_loopS (fun (s55 : Int)=>⟨[(1,s_Rect l),(2,.ptr 500000 0),(5,vI s55)],[(500000,.box (c_Rect r0))]⟩) (fun (x80 : Unit ⊕ Unit)=>match x80 with | .inl j81=>(.ret,⟨[(4,vB true)],[]⟩) | .inr j82=>(.exit 0,⟨[],[]⟩)) (sheetmetalref06_Meets_l1 r0 l) 0 x80 (by kernel_rfl) (subR_prep [] [(2,500000)] (by kernel_rfl) rfl rfl (by kernel_rfl)) hx80 ?_ ?_ ?_
 intro s55 r h
 refine zB (z7 (zA 2 ?_))
 refine evs_op (st_len (c:=c_Rect) (l:=l) (x:=(s_Rect l)) (by kernel_rfl) (by kernel_rfl)) (z1 1 ⟨[(1,s_Rect l),(2,.ptr 500000 0),(5,vI s55),(9,vB (decide (s55 < (l.length : Int))))],[(500000,.box (c_Rect r0))]⟩ (zI (decide (s55 < (l.length : Int))) (fun hb=>?_) fun hb=>?_))
 replace h:=iteT hb h
 refine z4 ⟨[(1,s_Rect l),(2,.ptr 500000 0),(5,vI s55)],[(500000,.box (c_Rect r0))]⟩ (zB (zC ?_))
 refine zB (sem_drawN [] [] [] [] [] 5 (by kernel_rfl) (by kernel_rfl) (by kernel_rfl) (evd_run 3 (by kernel_rfl) ?_))
 obtain ⟨x78,hx78,h⟩:=bindS h
 refine evd_val (by kernel_rfl) (st_idx (c:=c_Rect) (l:=l) (i:=s55) (kd:=.i64) (sz:=4) (by kernel_rfl) hx78 rfl) (by kernel_rfl) (by kernel_rfl) (evd_run 1 (by kernel_rfl) (evd_end (by kernel_rfl) ?_))
 obtain ⟨r79,hr79,h⟩:=bindS h
 refine evo_callP [] (by kernel_rfl) (W.sheetmetalref06_Overlaps_ok hr79) (by kernel_rfl) (.inl rfl) (by kernel_rfl) (zO fun τ hτ=>?_)
 refine zE hτ ⟨[(1,s_Rect l),(2,.ptr 500000 0),(5,vI s55),(17,vB r79)],[(500000,.box (c_Rect r0))]⟩ (zI r79 (fun hb=>?_) fun hb=>?_)
 replace h:=iteT hb h
 refine z8 1 ⟨[(4,vB true)],[]⟩ fun τ hτ=>?_
 refine bl_ret (th_ret ?_)
 obtain rfl:=osi h
 exact zF hτ
 replace h:=iteF hb h
 refine zM fun τ hτ=>?_
 refine bl_normal (zE hτ ⟨[(1,s_Rect l),(2,.ptr 500000 0),(5,vI s55)],[(500000,.box (c_Rect r0))]⟩ (zD ?_))
 refine z6 3 fun τ hτ=>?_
 obtain rfl:=osi h
 exact zH hτ
 replace h:=iteF hb h
 refine zL 0 fun τ hτ=>?_
 refine th_exit ?_
 obtain rfl:=osi h
 exact zF hτ
 intro x
 rcases x with _ | _ <;> rfl
 intro τ hτ
 rcases x80 with j81 | j82
 refine bl_ret (th_ret ?_)
 obtain rfl:=osi h
 exact zV hτ [(4,vB true)]
 refine zQ (zE hτ ⟨[],[]⟩ (z8 1 ⟨[(4,vB false)],[]⟩ fun τ hτ=>?_))
 obtain rfl:=osi h
 exact zV hτ [(4,vB false)]
theorem W.sheetmetalref06_touching_ok {a : Rect} {b : Rect} {r : Bool} (h : sheetmetalref06_touching a b = some r) : PC G.P 98 [(.agg (c_Rect a)),(.agg (c_Rect b))] [] (vB r) []:=by
 refine zU G Tryz.func98 (zK ⟨[(0,.agg (c_Rect a)),(1,.agg (c_Rect b))],[]⟩ (z3 3 ⟨[(2,.ptr 2 0),(3,.ptr 3 0)],[(2,.box (c_Rect a)),(3,.box (c_Rect b))]⟩ ?_))
 refine z3 18 ⟨[(2,.ptr 2 0),(3,.ptr 3 0),(5,vI (isub (imin (iadd a.X a.W) (iadd b.X b.W)) (imax a.X b.X)))],[(2,.box (c_Rect a)),(3,.box (c_Rect b))]⟩ (z3 18 ⟨[(5,vI (isub (imin (iadd a.X a.W) (iadd b.X b.W)) (imax a.X b.X))),(6,vI (isub (imin (iadd a.Y a.H) (iadd b.Y b.H)) (imax a.Y b.Y)))],[]⟩ (zB ?_))
 obtain ⟨j1,hj1,h⟩:=bindS h
 refine zT ⟨[(4,vB j1)],[]⟩ ?_ fun τ hτ=>?_
 replace h:=hj1
 refine zA 3 (zS ((isub (imin (iadd a.X a.W) (iadd b.X b.W)) (imax a.X b.X)) == 0) (fun b0=>⟨[(5,vI (isub (imin (iadd a.X a.W) (iadd b.X b.W)) (imax a.X b.X))),(6,vI (isub (imin (iadd a.Y a.H) (iadd b.Y b.H)) (imax a.Y b.Y))),(43,vB b0)],[]⟩) (fun hb=>?_) fun hb=>?_)
 replace h:=iteT hb h
 refine zA 4 (zS (decide ((isub (imin (iadd a.Y a.H) (iadd b.Y b.H)) (imax a.Y b.Y)) > 0)) (fun b0=>⟨[(5,vI (isub (imin (iadd a.X a.W) (iadd b.X b.W)) (imax a.X b.X))),(6,vI (isub (imin (iadd a.Y a.H) (iadd b.Y b.H)) (imax a.Y b.Y))),(47,vB b0)],[]⟩) (fun hb=>?_) fun hb=>?_)
 replace h:=iteT hb h
 refine z6 8 fun τ hτ=>?_
 obtain rfl:=osi h
 exact zG hτ
 replace h:=iteF hb h
 refine zA 3 (zS ((isub (imin (iadd a.Y a.H) (iadd b.Y b.H)) (imax a.Y b.Y)) == 0) (fun b0=>⟨[(5,vI (isub (imin (iadd a.X a.W) (iadd b.X b.W)) (imax a.X b.X))),(47,vB false),(50,vB b0)],[]⟩) (fun hb=>?_) fun hb=>?_)
 replace h:=iteT hb h
 refine z6 5 fun τ hτ=>?_
 obtain rfl:=osi h
 exact zG hτ
 replace h:=iteF hb h
 refine z6 5 fun τ hτ=>?_
 obtain rfl:=osi h
 exact zG hτ
 replace h:=iteF hb h
 refine zA 7 (zS ((isub (imin (iadd a.Y a.H) (iadd b.Y b.H)) (imax a.Y b.Y)) == 0) (fun b0=>⟨[(5,vI (isub (imin (iadd a.X a.W) (iadd b.X b.W)) (imax a.X b.X))),(47,vB false),(50,vB b0)],[]⟩) (fun hb=>?_) fun hb=>?_)
 replace h:=iteT hb h
 refine z6 5 fun τ hτ=>?_
 obtain rfl:=osi h
 exact zG hτ
 replace h:=iteF hb h
 refine z6 5 fun τ hτ=>?_
 obtain rfl:=osi h
 exact zG hτ
 refine zE hτ ⟨[(4,vB j1)],[]⟩ (zN fun τ hτ=>?_)
 obtain rfl:=osi h
 exact zV hτ [(4,vB j1)]
theorem W.sheetmetalref06_connected_ok {l : (List Rect)} {r : Bool} (h : sheetmetalref06_connected l = some r) : PC G.P 63 [(.sl (List.map c_Rect l))] [] (vB r) []:=by
 refine zU G Tryz.func63 (zK ⟨[(0,s_Rect l)],[]⟩ (z3 1 ⟨[(0,s_Rect l)],[]⟩ ?_))
 refine z7 (zA 1 (evs_op (st_len (c:=c_Rect) (l:=l) (x:=(s_Rect l)) (by kernel_rfl) (by kernel_rfl)) ?_))
 obtain ⟨l2,hl2,h⟩:=bindS h
 refine evs_op (st_mk (c:=cB) (z:=false) (n:=(l.length : Int)) (e:=4) (d:=9) (zs:=[(vB false)]) (k1:=.i64) (k2:=.i64) (by kernel_rfl) rfl hl2) (z1 1 ⟨[(0,s_Rect l),(3,ro 9 4)],[(9,wB 4 l2)]⟩ (z7 ?_))
 refine evs_at (at_build (e:=3) (d:=10) (es:=(List.map cI [0])) (by kernel_rfl)) (z1 1 ⟨[(0,s_Rect l),(3,ro 9 4),(4,ro 10 3)],[(9,wB 4 l2),(10,wI 3 [0])]⟩ (z7 ?_))
 refine zA 1 ?_
 obtain ⟨x4,hx4,h⟩:=bindS h
 refine evs_op (st_idxO (c:=cB) (l:=l2) (i:=0) (kd:=.i64) (kk:=(.top 9)) (e:=4) (sz:=1) (by kernel_rfl) (by kernel_rfl) hx4 rfl) (evs_op (st_stO (c:=cB) (l:=l2) (i:=(Int.toNat 0)) (x:=x4) (x':=true) (v:=(vB true)) (agg:=false) (sz:=1) (kk:=(.top 9)) (e:=4) (off:=0) (J:=[]) (o:=wB 4 (List.set l2 (Int.toNat 0) true)) (by kernel_rfl) (by kernel_rfl) (by kernel_rfl) ((idxS hx4).2) (by kernel_rfl) (by kernel_rfl) (by kernel_rfl)) (zP fun τ hτ=>?_))
 refine zE hτ ⟨[(0,s_Rect l),(3,ro 9 4),(4,ro 10 3)],[(9,wB 4 (List.set l2 (Int.toNat 0) true)),(10,wI 3 [0])]⟩ (zB (z3 1 ⟨[(0,s_Rect l),(3,ro 9 4),(4,ro 10 3),(5,vI 0)],[(9,wB 4 (List.set l2 (Int.toNat 0) true)),(10,wI 3 [0])]⟩ ?_))
 refine zC ?_
 obtain ⟨x1522,hx1522,h⟩:=bindS h
 refine sem_loopS (fun (s1017 : Int × (List Bool) × (List Int))=>⟨[(0,s_Rect l),(3,ro 500000 4),(4,ro 500001 3),(5,vI s1017.1)],[(500000,wB 4 s1017.2.1),(500001,wI 3 s1017.2.2)]⟩) (fun (x1522 : (List Int))=>(.exit 0,⟨[(0,s_Rect l),(4,ro 500000 3)],[(500000,wI 3 x1522)]⟩)) (sheetmetalref06_connected_l3 l) (0,(List.set l2 (Int.toNat 0) true),[0]) x1522 (by kernel_rfl) (subR_prep [] [(9,500000),(10,500001)] (by kernel_rfl) rfl rfl (by kernel_rfl)) hx1522 ?_ ?_ ?_
 intro s1017 r h
 refine zB (z7 (zA 2 ?_))
 refine evs_op (st_len (c:=cI) (l:=s1017.2.2) (x:=(ro 500001 3)) (by kernel_rfl) (by kernel_rfl)) (z1 1 ⟨[(0,s_Rect l),(3,ro 500000 4),(4,ro 500001 3),(5,vI s1017.1),(16,vB (decide (s1017.1 < (s1017.2.2.length : Int))))],[(500000,wB 4 s1017.2.1),(500001,wI 3 s1017.2.2)]⟩ (zI (decide (s1017.1 < (s1017.2.2.length : Int))) (fun hb=>?_) fun hb=>?_))
 replace h:=iteT hb h
 refine z4 ⟨[(0,s_Rect l),(3,ro 500000 4),(4,ro 500001 3),(5,vI s1017.1)],[(500000,wB 4 s1017.2.1),(500001,wI 3 s1017.2.2)]⟩ (zB (zC ?_))
 refine z3 1 ⟨[(0,s_Rect l),(3,ro 500000 4),(4,ro 500001 3),(5,vI s1017.1),(6,vI 0)],[(500000,wB 4 s1017.2.1),(500001,wI 3 s1017.2.2)]⟩ (zC ?_)
 obtain ⟨x1521,hx1521,h⟩:=bindS h
 refine sem_loopS (fun (s1438 : Int × (List Bool) × (List Int))=>⟨[(0,s_Rect l),(3,ro 500000 4),(4,ro 500001 3),(5,vI s1017.1),(6,vI s1438.1)],[(500000,wB 4 s1438.2.1),(500001,wI 3 s1438.2.2)]⟩) (fun (x1521 : (List Bool) × (List Int))=>(.exit 2,⟨[(0,s_Rect l),(3,ro 500000 4),(4,ro 500001 3),(5,vI s1017.1)],[(500000,wB 4 x1521.1),(500001,wI 3 x1521.2)]⟩)) (sheetmetalref06_connected_l2 l s1017) (0,s1017.2.1,s1017.2.2) x1521 (by kernel_rfl) (here (by kernel_rfl)) hx1521 ?_ ?_ ?_
 intro s1438 r h
 refine zB (z7 (zA 2 ?_))
 refine evs_op (st_len (c:=c_Rect) (l:=l) (x:=(s_Rect l)) (by kernel_rfl) (by kernel_rfl)) (z1 1 ⟨[(0,s_Rect l),(3,ro 500000 4),(4,ro 500001 3),(5,vI s1017.1),(6,vI s1438.1),(22,vB (decide (s1438.1 < (l.length : Int))))],[(500000,wB 4 s1438.2.1),(500001,wI 3 s1438.2.2)]⟩ (zI (decide (s1438.1 < (l.length : Int))) (fun hb=>?_) fun hb=>?_))
 replace h:=iteT hb h
 refine z4 ⟨[(0,s_Rect l),(3,ro 500000 4),(4,ro 500001 3),(5,vI s1017.1),(6,vI s1438.1)],[(500000,wB 4 s1438.2.1),(500001,wI 3 s1438.2.2)]⟩ (sem_seqJ (fun (j1500 : (List Bool) × (List Int))=>⟨[(0,s_Rect l),(3,ro 500000 4),(4,ro 500001 3),(5,vI s1017.1),(6,vI s1438.1)],[(500000,wB 4 j1500.1),(500001,wI 3 j1500.2)]⟩) (sheetmetalref06_connected_k1 s1438) r (by kernel_rfl) (fun j1500 h=>?_) ?_)
 refine zD (z6 3 fun τ hτ=>?_)
 obtain rfl:=osi h
 exact zH hτ
 refine zC (zB ?_)
 obtain ⟨j1511,hj1511,h⟩:=bindS h
 refine sem_drawP ⟨[(0,s_Rect l),(3,ro 500000 4),(4,ro 500001 3),(5,vI s1017.1),(6,vI s1438.1),(43,vB j1511)],[(500000,wB 4 s1438.2.1),(500001,wI 3 s1438.2.2)]⟩ [] [] [] [] [] 17 (by kernel_rfl) (by kernel_rfl) (by kernel_rfl) ?_ fun τ hτ=>?_
 replace h:=hj1511
 refine evd_run 2 (by kernel_rfl) ?_
 obtain ⟨x1512,hx1512,h⟩:=bindS h
 refine evd_val (by kernel_rfl) (st_idxO (c:=cB) (l:=s1438.2.1) (i:=s1438.1) (kd:=.i64) (kk:=(.top 500000)) (e:=4) (sz:=1) (by kernel_rfl) (by kernel_rfl) hx1512 rfl) (by kernel_rfl) (by kernel_rfl) (evd_val (by kernel_rfl) (st_ldO (c:=cB) (l:=s1438.2.1) (i:=(Int.toNat s1438.1)) (v:=(vB x1512)) (agg:=false) (sz:=1) (kk:=(.top 500000)) (e:=4) (off:=0) (J:=[]) (by kernel_rfl) (by kernel_rfl) (by kernel_rfl) ((idxS hx1512).2) (by kernel_rfl)) (by kernel_rfl) (by kernel_rfl) (evd_run 2 (by kernel_rfl) ?_))
 refine evd_split x1512 (fun b0=>⟨[(30,vB (!b0)),(29,vB (!b0)),(28,vB b0),(27,.rptr (.top 500000) 4 (Int.toNat s1438.1) 0),(26,vI s1438.1),(25,ro 500000 4),(0,s_Rect l),(3,ro 500000 4),(4,ro 500001 3),(5,vI s1017.1),(6,vI s1438.1)],[(500000,wB 4 s1438.2.1),(500001,wI 3 s1438.2.2)]⟩) (by kernel_rfl) (fun hb=>?_) fun hb=>?_
 replace h:=iteT hb h
 refine evd_run 11 (by kernel_rfl) (evd_end (by kernel_rfl) (evo_run 2 (by kernel_rfl) ?_))
 refine zO fun τ hτ=>?_
 obtain rfl:=osi h
 exact zG hτ
 replace h:=iteF hb h
 refine evd_run 3 (by kernel_rfl) ?_
 obtain ⟨x1513,hx1513,h⟩:=bindS h
 refine evd_val (by kernel_rfl) (st_idxO (c:=cI) (l:=s1438.2.2) (i:=s1017.1) (kd:=.i64) (kk:=(.top 500001)) (e:=3) (sz:=1) (by kernel_rfl) (by kernel_rfl) hx1513 rfl) (by kernel_rfl) (by kernel_rfl) (evd_val (by kernel_rfl) (st_ldO (c:=cI) (l:=s1438.2.2) (i:=(Int.toNat s1017.1)) (v:=(vI x1513)) (agg:=false) (sz:=1) (kk:=(.top 500001)) (e:=3) (off:=0) (J:=[]) (by kernel_rfl) (by kernel_rfl) (by kernel_rfl) ((idxS hx1513).2) (by kernel_rfl)) (by kernel_rfl) (by kernel_rfl) ?_)
 obtain ⟨x1514,hx1514,h⟩:=bindS h
 refine evd_val (by kernel_rfl) (st_idx (c:=c_Rect) (l:=l) (i:=x1513) (kd:=.i64) (sz:=4) (by kernel_rfl) hx1514 rfl) (by kernel_rfl) (by kernel_rfl) (evd_run 3 (by kernel_rfl) ?_)
 obtain ⟨x1515,hx1515,h⟩:=bindS h
 refine evd_val (by kernel_rfl) (st_idx (c:=c_Rect) (l:=l) (i:=s1438.1) (kd:=.i64) (sz:=4) (by kernel_rfl) hx1515 rfl) (by kernel_rfl) (by kernel_rfl) (evd_run 1 (by kernel_rfl) (evd_end (by kernel_rfl) ?_))
 obtain ⟨r1516,hr1516,h⟩:=bindS h
 refine evo_callP [] (by kernel_rfl) (W.sheetmetalref06_touching_ok hr1516) (by kernel_rfl) (.inl rfl) (by kernel_rfl) (evo_run 1 (by kernel_rfl) (zO fun τ hτ=>?_))
 obtain rfl:=osi h
 exact zG hτ
 refine zE hτ ⟨[(0,s_Rect l),(3,ro 500000 4),(4,ro 500001 3),(5,vI s1017.1),(6,vI s1438.1),(43,vB j1511)],[(500000,wB 4 s1438.2.1),(500001,wI 3 s1438.2.2)]⟩ (zI j1511 (fun hb=>?_) fun hb=>?_)
 replace h:=iteT hb h
 refine z7 (zA 2 ?_)
 obtain ⟨x1518,hx1518,h⟩:=bindS h
 refine evs_op (st_idxO (c:=cB) (l:=s1438.2.1) (i:=s1438.1) (kd:=.i64) (kk:=(.top 500000)) (e:=4) (sz:=1) (by kernel_rfl) (by kernel_rfl) hx1518 rfl) (evs_op (st_stO (c:=cB) (l:=s1438.2.1) (i:=(Int.toNat s1438.1)) (x:=x1518) (x':=true) (v:=(vB true)) (agg:=false) (sz:=1) (kk:=(.top 500000)) (e:=4) (off:=0) (J:=[]) (o:=wB 4 (List.set s1438.2.1 (Int.toNat s1438.1) true)) (by kernel_rfl) (by kernel_rfl) (by kernel_rfl) ((idxS hx1518).2) (by kernel_rfl) (by kernel_rfl) (by kernel_rfl)) (zP fun τ hτ=>?_))
 refine zE hτ ⟨[(0,s_Rect l),(3,ro 500000 4),(4,ro 500001 3),(5,vI s1017.1),(6,vI s1438.1)],[(500000,wB 4 (List.set s1438.2.1 (Int.toNat s1438.1) true)),(500001,wI 3 s1438.2.2)]⟩ (zD (zA 3 ?_))
 obtain ⟨l1520,hl1520,h⟩:=bindS h
 refine evs_op (st_app (c:=cI) (l:=s1438.2.2) (l2:=[s1438.1]) (x:=(sI [s1438.1])) (g:=500001) (e:=3) (sz:=1) (d:=50) (by kernel_rfl) (by kernel_rfl) (by kernel_rfl) (by kernel_rfl) (fun _=>rfl) rfl hl1520) (z6 1 fun τ hτ=>?_)
 exact bl_normal (jk_normal ((List.set s1438.2.1 (Int.toNat s1438.1) true),l1520) h hτ (here (by kernel_rfl)))
 replace h:=iteF hb h
 refine zM fun τ hτ=>?_
 exact bl_normal (jk_normal (s1438.2.1,s1438.2.2) h hτ (here (by kernel_rfl)))
 replace h:=iteF hb h
 refine zL 2 fun τ hτ=>?_
 refine th_exit ?_
 obtain rfl:=osi h
 exact zF hτ
 intro x
 rfl
 intro τ hτ
 refine zQ (bl_normal (zE hτ ⟨[(0,s_Rect l),(3,ro 500000 4),(4,ro 500001 3),(5,vI s1017.1)],[(500000,wB 4 x1521.1),(500001,wI 3 x1521.2)]⟩ ?_))
 refine zD (z6 3 fun τ hτ=>?_)
 obtain rfl:=osi h
 exact zH hτ
 replace h:=iteF hb h
 refine zL 0 fun τ hτ=>?_
 refine th_exit ?_
 obtain rfl:=osi h
 exact lk_outS hτ rfl (subR_prep [] [(500001,500000)] (by kernel_rfl) rfl rfl (by kernel_rfl))
 intro x
 rfl
 intro τ hτ
 refine zQ (zE hτ ⟨[(0,s_Rect l),(4,ro 500000 3)],[(500000,wI 3 x1522)]⟩ (z7 ?_))
 refine zA 1 (evs_op (st_len (c:=cI) (l:=x1522) (x:=(ro 500000 3)) (by kernel_rfl) (by kernel_rfl)) (zA 1 ?_))
 refine evs_op (st_len (c:=c_Rect) (l:=l) (x:=(s_Rect l)) (by kernel_rfl) (by kernel_rfl)) (z1 2 ⟨[(2,vB ((x1522.length : Int) == (l.length : Int)))],[]⟩ (zN fun τ hτ=>?_))
 obtain rfl:=osi h
 exact zV hτ [(2,vB ((x1522.length : Int) == (l.length : Int)))]
theorem W.sheetmetalref06_deep_ok {r0 : Rect} {l : (List Rect)} {r : Bool} (h : sheetmetalref06_deep r0 l = some r) : PC G.P 64 [(.agg (c_Rect r0)),(.sl (List.map c_Rect l))] [] (vB r) []:=by
 refine zU G Tryz.func64 (zK ⟨[(0,.agg (c_Rect r0)),(1,s_Rect l)],[]⟩ (z3 2 ⟨[(1,s_Rect l),(2,.ptr 2 0)],[(2,.box (c_Rect r0))]⟩ ?_))
 refine zB (z3 1 ⟨[(1,s_Rect l),(2,.ptr 2 0),(5,vI 0)],[(2,.box (c_Rect r0))]⟩ (zC ?_))
 obtain ⟨x236,hx236,h⟩:=bindS h
 refine sem_loopS (fun (s159 : Int)=>⟨[(1,s_Rect l),(2,.ptr 500000 0),(5,vI s159)],[(500000,.box (c_Rect r0))]⟩) (fun (x236 : Unit ⊕ Unit)=>match x236 with | .inl j237=>(.ret,⟨[(4,vB true)],[]⟩) | .inr j238=>(.exit 0,⟨[],[]⟩)) (sheetmetalref06_deep_l1 r0 l) 0 x236 (by kernel_rfl) (subR_prep [] [(2,500000)] (by kernel_rfl) rfl rfl (by kernel_rfl)) hx236 ?_ ?_ ?_
 intro s159 r h
 refine zB (z7 (zA 2 ?_))
 refine evs_op (st_len (c:=c_Rect) (l:=l) (x:=(s_Rect l)) (by kernel_rfl) (by kernel_rfl)) (z1 1 ⟨[(1,s_Rect l),(2,.ptr 500000 0),(5,vI s159),(9,vB (decide (s159 < (l.length : Int))))],[(500000,.box (c_Rect r0))]⟩ (zI (decide (s159 < (l.length : Int))) (fun hb=>?_) fun hb=>?_))
 replace h:=iteT hb h
 refine z4 ⟨[(1,s_Rect l),(2,.ptr 500000 0),(5,vI s159)],[(500000,.box (c_Rect r0))]⟩ (zB (zC ?_))
 refine zB ?_
 obtain ⟨j229,hj229,h⟩:=bindS h
 refine sem_drawP ⟨[(1,s_Rect l),(2,.ptr 500000 0),(5,vI s159),(67,vB j229)],[(500000,.box (c_Rect r0))]⟩ [] [] [] [] [] 54 (by kernel_rfl) (by kernel_rfl) (by kernel_rfl) ?_ fun τ hτ=>?_
 replace h:=hj229
 refine evd_run 4 (by kernel_rfl) ?_
 obtain ⟨x230,hx230,h⟩:=bindS h
 refine evd_val (by kernel_rfl) (st_idx (c:=c_Rect) (l:=l) (i:=s159) (kd:=.i64) (sz:=4) (by kernel_rfl) hx230 rfl) (by kernel_rfl) (by kernel_rfl) (evd_run 4 (by kernel_rfl) (evd_split (decide (r0.X > x230.X)) (fun b0=>⟨[(20,vB b0),(19,vB b0),(18,vI x230.X),(17,.vptr (c_Rect x230) 0),(16,.vptr (c_Rect x230) 0),(15,vI s159),(14,s_Rect l),(13,vI r0.X),(12,.ptr 500000 0),(1,s_Rect l),(2,.ptr 500000 0),(5,vI s159)],[(500000,.box (c_Rect r0))]⟩) (by kernel_rfl) (fun hb=>?_) fun hb=>?_))
 replace h:=iteT hb h
 refine evd_run 4 (by kernel_rfl) ?_
 obtain ⟨x231,hx231,h⟩:=bindS h
 refine evd_val (by kernel_rfl) (st_idx (c:=c_Rect) (l:=l) (i:=s159) (kd:=.i64) (sz:=4) (by kernel_rfl) hx231 rfl) (by kernel_rfl) (by kernel_rfl) (evd_run 5 (by kernel_rfl) (evd_split (decide (r0.Y > x231.Y)) (fun b0=>⟨[(30,vB b0),(29,vB b0),(28,vB b0),(27,vI x231.Y),(26,.vptr (c_Rect x231) 1),(25,.vptr (c_Rect x231) 0),(24,vI s159),(23,s_Rect l),(22,vI r0.Y),(21,.ptr 500000 1),(20,vB true),(19,vB true),(18,vI x230.X),(17,.vptr (c_Rect x230) 0),(16,.vptr (c_Rect x230) 0),(15,vI s159),(14,s_Rect l),(13,vI r0.X),(12,.ptr 500000 0),(1,s_Rect l),(2,.ptr 500000 0),(5,vI s159)],[(500000,.box (c_Rect r0))]⟩) (by kernel_rfl) (fun hb=>?_) fun hb=>?_))
 replace h:=iteT hb h
 refine evd_run 7 (by kernel_rfl) ?_
 obtain ⟨x232,hx232,h⟩:=bindS h
 refine evd_val (by kernel_rfl) (st_idx (c:=c_Rect) (l:=l) (i:=s159) (kd:=.i64) (sz:=4) (by kernel_rfl) hx232 rfl) (by kernel_rfl) (by kernel_rfl) (evd_run 4 (by kernel_rfl) ?_)
 obtain ⟨x233,hx233,h⟩:=bindS h
 refine evd_val (by kernel_rfl) (st_idx (c:=c_Rect) (l:=l) (i:=s159) (kd:=.i64) (sz:=4) (by kernel_rfl) hx233 rfl) (by kernel_rfl) (by kernel_rfl) (evd_run 6 (by kernel_rfl) (evd_split (decide ((iadd r0.X r0.W) < (iadd x232.X x233.W))) (fun b0=>⟨[(49,vB b0),(48,vB b0),(47,vB b0),(46,vI (iadd x232.X x233.W)),(45,vI x233.W),(44,.vptr (c_Rect x233) 2),(43,.vptr (c_Rect x233) 0),(42,vI s159),(41,s_Rect l),(40,vI x232.X),(39,.vptr (c_Rect x232) 0),(38,.vptr (c_Rect x232) 0),(37,vI s159),(36,s_Rect l),(35,vI (iadd r0.X r0.W)),(34,vI r0.W),(33,.ptr 500000 2),(32,vI r0.X),(31,.ptr 500000 0),(30,vB true),(29,vB true),(28,vB true),(27,vI x231.Y),(26,.vptr (c_Rect x231) 1),(25,.vptr (c_Rect x231) 0),(24,vI s159),(23,s_Rect l),(22,vI r0.Y),(21,.ptr 500000 1),(20,vB true),(19,vB true),(18,vI x230.X),(17,.vptr (c_Rect x230) 0),(16,.vptr (c_Rect x230) 0),(15,vI s159),(14,s_Rect l),(13,vI r0.X),(12,.ptr 500000 0),(1,s_Rect l),(2,.ptr 500000 0),(5,vI s159)],[(500000,.box (c_Rect r0))]⟩) (by kernel_rfl) (fun hb=>?_) fun hb=>?_))
 replace h:=iteT hb h
 refine evd_run 7 (by kernel_rfl) ?_
 obtain ⟨x234,hx234,h⟩:=bindS h
 refine evd_val (by kernel_rfl) (st_idx (c:=c_Rect) (l:=l) (i:=s159) (kd:=.i64) (sz:=4) (by kernel_rfl) hx234 rfl) (by kernel_rfl) (by kernel_rfl) (evd_run 4 (by kernel_rfl) ?_)
 obtain ⟨x235,hx235,h⟩:=bindS h
 refine evd_val (by kernel_rfl) (st_idx (c:=c_Rect) (l:=l) (i:=s159) (kd:=.i64) (sz:=4) (by kernel_rfl) hx235 rfl) (by kernel_rfl) (by kernel_rfl) (evd_run 3 (by kernel_rfl) (evd_end (by kernel_rfl) ?_))
 refine evo_run 2 (by kernel_rfl) (zO fun τ hτ=>?_)
 obtain rfl:=osi h
 exact zG hτ
 replace h:=iteF hb h
 refine evd_run 16 (by kernel_rfl) (evd_end (by kernel_rfl) (evo_run 2 (by kernel_rfl) ?_))
 refine zO fun τ hτ=>?_
 obtain rfl:=osi h
 exact zG hτ
 replace h:=iteF hb h
 refine evd_run 35 (by kernel_rfl) (evd_end (by kernel_rfl) (evo_run 2 (by kernel_rfl) ?_))
 refine zO fun τ hτ=>?_
 obtain rfl:=osi h
 exact zG hτ
 replace h:=iteF hb h
 refine evd_run 45 (by kernel_rfl) (evd_end (by kernel_rfl) (evo_run 2 (by kernel_rfl) ?_))
 refine zO fun τ hτ=>?_
 obtain rfl:=osi h
 exact zG hτ
 refine zE hτ ⟨[(1,s_Rect l),(2,.ptr 500000 0),(5,vI s159),(67,vB j229)],[(500000,.box (c_Rect r0))]⟩ (zI j229 (fun hb=>?_) fun hb=>?_)
 replace h:=iteT hb h
 refine z8 1 ⟨[(4,vB true)],[]⟩ fun τ hτ=>?_
 refine bl_ret (th_ret ?_)
 obtain rfl:=osi h
 exact zF hτ
 replace h:=iteF hb h
 refine zM fun τ hτ=>?_
 refine bl_normal (zE hτ ⟨[(1,s_Rect l),(2,.ptr 500000 0),(5,vI s159)],[(500000,.box (c_Rect r0))]⟩ (zD ?_))
 refine z6 3 fun τ hτ=>?_
 obtain rfl:=osi h
 exact zH hτ
 replace h:=iteF hb h
 refine zL 0 fun τ hτ=>?_
 refine th_exit ?_
 obtain rfl:=osi h
 exact zF hτ
 intro x
 rcases x with _ | _ <;> rfl
 intro τ hτ
 rcases x236 with j237 | j238
 refine bl_ret (th_ret ?_)
 obtain rfl:=osi h
 exact zV hτ [(4,vB true)]
 refine zQ (zE hτ ⟨[],[]⟩ (z8 1 ⟨[(4,vB false)],[]⟩ fun τ hτ=>?_))
 obtain rfl:=osi h
 exact zV hτ [(4,vB false)]
theorem W.sheetmetalref06_ValidatePiece_ok {x0 : Piece} {r : Int} (h : sheetmetalref06_ValidatePiece x0 = some r) : PC G.P 18 [(.agg (c_Piece x0))] [] (vI r) []:=by
 refine zU G Tryz.func18 (zK ⟨[(0,.agg (c_Piece x0))],[]⟩ (z3 2 ⟨[(1,.ptr 1 0)],[(1,.box (c_Piece x0))]⟩ ?_))
 refine z7 (zA 8 ?_)
 obtain ⟨r2,hr2,h⟩:=bindS h
 refine evs_callP [] (by kernel_rfl) (W.sheetmetalref06_stuff_ok hr2) (by kernel_rfl) (.inl rfl) (by kernel_rfl) (z1 1 ⟨[(1,.ptr 1 0),(3,vI r2)],[(1,.box (c_Piece x0))]⟩ (zB ?_))
 refine z3 2 ⟨[(1,.ptr 1 0),(3,vI r2),(21,vB (r2 != 0))],[(1,.box (c_Piece x0))]⟩ (zI (r2 != 0) (fun hb=>?_) fun hb=>?_)
 replace h:=iteT hb h
 refine z8 2 ⟨[(2,vI r2)],[]⟩ fun τ hτ=>?_
 refine th_ret ?_
 obtain rfl:=osi h
 exact zV hτ [(2,vI r2)]
 replace h:=iteF hb h
 refine z4 ⟨[(1,.ptr 1 0)],[(1,.box (c_Piece x0))]⟩ (zB (zB ?_))
 obtain ⟨j4,hj4,h⟩:=bindS h
 refine zT ⟨[(1,.ptr 500000 0),(38,vB j4)],[(500000,.box (c_Piece x0))]⟩ ?_ fun τ hτ=>?_
 replace h:=hj4
 refine zA 2 (evs_op (st_len (c:=c_Rect) (l:=x0.Rects) (x:=(s_Rect x0.Rects)) (by kernel_rfl) (by kernel_rfl)) (zA 2 ?_))
 refine zS (decide ((x0.Rects.length : Int) > 12)) (fun b0=>⟨[(1,.ptr 1 0),(27,vB b0)],[(1,.box (c_Piece x0))]⟩) (fun hb=>?_) fun hb=>?_
 replace h:=iteT hb h
 refine z6 11 fun τ hτ=>?_
 obtain rfl:=osi h
 exact leafC hτ (subR_prep [] [(1,500000)] (by kernel_rfl) rfl rfl (by kernel_rfl))
 replace h:=iteF hb h
 refine zA 2 (evs_op (st_len (c:=c_Rect) (l:=x0.Cuts) (x:=(s_Rect x0.Cuts)) (by kernel_rfl) (by kernel_rfl)) (zA 3 ?_))
 refine zS (decide ((x0.Cuts.length : Int) > 12)) (fun b0=>⟨[(1,.ptr 1 0),(33,vB b0)],[(1,.box (c_Piece x0))]⟩) (fun hb=>?_) fun hb=>?_
 replace h:=iteT hb h
 refine z6 5 fun τ hτ=>?_
 obtain rfl:=osi h
 exact leafC hτ (subR_prep [] [(1,500000)] (by kernel_rfl) rfl rfl (by kernel_rfl))
 replace h:=iteF hb h
 refine zA 2 (evs_op (st_len (c:=c_Rect) (l:=x0.Forms) (x:=(s_Rect x0.Forms)) (by kernel_rfl) (by kernel_rfl)) (z6 2 fun τ hτ=>?_))
 obtain rfl:=osi h
 exact leafC hτ (subR_prep [] [(1,500000)] (by kernel_rfl) rfl rfl (by kernel_rfl))
 refine zE hτ ⟨[(1,.ptr 500000 0),(38,vB j4)],[(500000,.box (c_Piece x0))]⟩ (zI j4 (fun hb=>?_) fun hb=>?_)
 replace h:=iteT hb h
 refine z8 1 ⟨[(2,vI 4)],[]⟩ fun τ hτ=>?_
 refine th_ret ?_
 obtain rfl:=osi h
 exact zV hτ [(2,vI 4)]
 replace h:=iteF hb h
 refine z4 ⟨[(1,.ptr 500000 0)],[(500000,.box (c_Piece x0))]⟩ (zB (zB ?_))
 obtain ⟨j15,hj15,h⟩:=bindS h
 refine zT ⟨[(1,.ptr 500000 0),(60,vB j15)],[(500000,.box (c_Piece x0))]⟩ ?_ fun τ hτ=>?_
 replace h:=hj15
 refine zA 2 (evs_op (st_len (c:=c_Rect) (l:=x0.Rects) (x:=(s_Rect x0.Rects)) (by kernel_rfl) (by kernel_rfl)) (zA 2 ?_))
 refine zS ((x0.Rects.length : Int) == 0) (fun b0=>⟨[(1,.ptr 500000 0),(43,vB b0)],[(500000,.box (c_Piece x0))]⟩) (fun hb=>?_) fun hb=>?_
 replace h:=iteT hb h
 refine z6 17 fun τ hτ=>?_
 obtain rfl:=osi h
 exact zG hτ
 replace h:=iteF hb h
 refine zA 2 ?_
 obtain ⟨r16,hr16,h⟩:=bindS h
 refine evs_callP [] (by kernel_rfl) (W.sheetmetalref06_Rights_ok hr16) (by kernel_rfl) (.inl rfl) (by kernel_rfl) (zA 3 (zS r16 (fun b0=>⟨[(1,.ptr 500000 0),(49,vB (!b0))],[(500000,.box (c_Piece x0))]⟩) (fun hb=>?_) fun hb=>?_))
 replace h:=iteT hb h
 refine zA 2 ?_
 obtain ⟨r17,hr17,h⟩:=bindS h
 refine evs_callP [] (by kernel_rfl) (W.sheetmetalref06_Rights_ok hr17) (by kernel_rfl) (.inl rfl) (by kernel_rfl) (zA 3 (zS r17 (fun b0=>⟨[(1,.ptr 500000 0),(55,vB (!b0))],[(500000,.box (c_Piece x0))]⟩) (fun hb=>?_) fun hb=>?_))
 replace h:=iteT hb h
 refine zA 2 ?_
 obtain ⟨r18,hr18,h⟩:=bindS h
 refine evs_callP [] (by kernel_rfl) (W.sheetmetalref06_Rights_ok hr18) (by kernel_rfl) (.inl rfl) (by kernel_rfl) (z6 2 fun τ hτ=>?_)
 obtain rfl:=osi h
 exact zG hτ
 replace h:=iteF hb h
 refine z6 5 fun τ hτ=>?_
 obtain rfl:=osi h
 exact zG hτ
 replace h:=iteF hb h
 refine z6 11 fun τ hτ=>?_
 obtain rfl:=osi h
 exact zG hτ
 refine zE hτ ⟨[(1,.ptr 500000 0),(60,vB j15)],[(500000,.box (c_Piece x0))]⟩ (zI j15 (fun hb=>?_) fun hb=>?_)
 replace h:=iteT hb h
 refine z8 1 ⟨[(2,vI 1)],[]⟩ fun τ hτ=>?_
 refine th_ret ?_
 obtain rfl:=osi h
 exact zV hτ [(2,vI 1)]
 replace h:=iteF hb h
 refine z4 ⟨[(1,.ptr 500000 0)],[(500000,.box (c_Piece x0))]⟩ (z7 (zA 2 ?_))
 obtain ⟨r20,hr20,h⟩:=bindS h
 refine evs_callP [] (by kernel_rfl) (W.sheetmetalref06_least_ok hr20) (by kernel_rfl) (.inl rfl) (by kernel_rfl) (z1 5 ⟨[(1,.ptr 500000 0),(4,vI r20.1),(5,vI r20.2)],[(500000,.box (c_Piece x0))]⟩ (zB ?_))
 refine zB ?_
 obtain ⟨j22,hj22,h⟩:=bindS h
 refine zT ⟨[(1,.ptr 500000 0),(72,vB j22)],[(500000,.box (c_Piece x0))]⟩ ?_ fun τ hτ=>?_
 replace h:=hj22
 refine zA 3 (zS (r20.1 != 0) (fun b0=>⟨[(1,.ptr 500000 0),(5,vI r20.2),(69,vB b0)],[(500000,.box (c_Piece x0))]⟩) (fun hb=>?_) fun hb=>?_)
 replace h:=iteT hb h
 refine z6 3 fun τ hτ=>?_
 obtain rfl:=osi h
 exact zG hτ
 replace h:=iteF hb h
 refine z6 3 fun τ hτ=>?_
 obtain rfl:=osi h
 exact zG hτ
 refine zE hτ ⟨[(1,.ptr 500000 0),(72,vB j22)],[(500000,.box (c_Piece x0))]⟩ (zI j22 (fun hb=>?_) fun hb=>?_)
 replace h:=iteT hb h
 refine z8 1 ⟨[(2,vI 1)],[]⟩ fun τ hτ=>?_
 refine th_ret ?_
 obtain rfl:=osi h
 exact zV hτ [(2,vI 1)]
 replace h:=iteF hb h
 refine z4 ⟨[(1,.ptr 500000 0)],[(500000,.box (c_Piece x0))]⟩ (zB (z3 1 ⟨[(1,.ptr 500000 0),(6,vI 0)],[(500000,.box (c_Piece x0))]⟩ ?_))
 refine zC ?_
 obtain ⟨x138,hx138,h⟩:=bindS h
 refine sem_loopS (fun (s101 : Int)=>⟨[(1,.ptr 500000 0),(6,vI s101)],[(500000,.box (c_Piece x0))]⟩) (fun (x138 : Unit ⊕ Unit)=>match x138 with | .inl j139=>(.ret,⟨[(2,vI 7)],[]⟩) | .inr j140=>(.exit 0,⟨[(1,.ptr 500000 0)],[(500000,.box (c_Piece x0))]⟩)) (sheetmetalref06_ValidatePiece_l1 x0) 0 x138 (by kernel_rfl) (here (by kernel_rfl)) hx138 ?_ ?_ ?_
 intro s101 r h
 refine zB (z7 (zA 3 ?_))
 refine evs_op (st_len (c:=c_Rect) (l:=x0.Rects) (x:=(s_Rect x0.Rects)) (by kernel_rfl) (by kernel_rfl)) (z1 1 ⟨[(1,.ptr 500000 0),(6,vI s101),(77,vB (decide (s101 < (x0.Rects.length : Int))))],[(500000,.box (c_Piece x0))]⟩ (zI (decide (s101 < (x0.Rects.length : Int))) (fun hb=>?_) fun hb=>?_))
 replace h:=iteT hb h
 refine z4 ⟨[(1,.ptr 500000 0),(6,vI s101)],[(500000,.box (c_Piece x0))]⟩ (zB (zC ?_))
 refine zB (sem_drawN [] [] [] [] [] 9 (by kernel_rfl) (by kernel_rfl) (by kernel_rfl) (evd_run 3 (by kernel_rfl) ?_))
 obtain ⟨x135,hx135,h⟩:=bindS h
 refine evd_val (by kernel_rfl) (st_idx (c:=c_Rect) (l:=x0.Rects) (i:=s101) (kd:=.i64) (sz:=4) (by kernel_rfl) hx135 rfl) (by kernel_rfl) (by kernel_rfl) (evd_run 4 (by kernel_rfl) ?_)
 obtain ⟨l136,hl136,h⟩:=bindS h
 refine evd_val (by kernel_rfl) (st_slH (c:=c_Rect) (l:=x0.Rects) (sz:=4) (hi:=s101) (k2:=.i64) (by kernel_rfl) hl136) (by kernel_rfl) (by kernel_rfl) (evd_end (by kernel_rfl) ?_)
 obtain ⟨r137,hr137,h⟩:=bindS h
 refine evo_callP [] (by kernel_rfl) (W.sheetmetalref06_Meets_ok hr137) (by kernel_rfl) (.inl rfl) (by kernel_rfl) (zO fun τ hτ=>?_)
 refine zE hτ ⟨[(1,.ptr 500000 0),(6,vI s101),(89,vB r137)],[(500000,.box (c_Piece x0))]⟩ (zI r137 (fun hb=>?_) fun hb=>?_)
 replace h:=iteT hb h
 refine z8 1 ⟨[(2,vI 7)],[]⟩ fun τ hτ=>?_
 refine bl_ret (th_ret ?_)
 obtain rfl:=osi h
 exact zF hτ
 replace h:=iteF hb h
 refine zM fun τ hτ=>?_
 refine bl_normal (zE hτ ⟨[(1,.ptr 500000 0),(6,vI s101)],[(500000,.box (c_Piece x0))]⟩ (zD ?_))
 refine z6 3 fun τ hτ=>?_
 obtain rfl:=osi h
 exact zH hτ
 replace h:=iteF hb h
 refine zL 0 fun τ hτ=>?_
 refine th_exit ?_
 obtain rfl:=osi h
 exact zF hτ
 intro x
 rcases x with _ | _ <;> rfl
 intro τ hτ
 rcases x138 with j139 | j140
 refine bl_ret (th_ret ?_)
 obtain rfl:=osi h
 exact zV hτ [(2,vI 7)]
 refine zQ (zE hτ ⟨[(1,.ptr 500000 0)],[(500000,.box (c_Piece x0))]⟩ (zB ?_))
 refine z7 (zA 2 ?_)
 obtain ⟨r144,hr144,h⟩:=bindS h
 refine evs_callP [] (by kernel_rfl) (W.sheetmetalref06_connected_ok hr144) (by kernel_rfl) (.inl rfl) (by kernel_rfl) (z1 1 ⟨[(1,.ptr 500000 0),(93,vB (!r144))],[(500000,.box (c_Piece x0))]⟩ (zI (!r144) (fun hb=>?_) fun hb=>?_))
 replace h:=iteT hb h
 refine z8 1 ⟨[(2,vI 6)],[]⟩ fun τ hτ=>?_
 refine th_ret ?_
 obtain rfl:=osi h
 exact zV hτ [(2,vI 6)]
 replace h:=iteF hb h
 refine z4 ⟨[(1,.ptr 500000 0)],[(500000,.box (c_Piece x0))]⟩ (zB (sem_draw [(0,[94]),(3,[94,600003])] [(0,[94]),(3,[600003])] [] [(1,[94]),(2,[94]),(4,[94,600003]),(5,[94,600003])] [(0,[600003]),(1,[94,600003]),(2,[94,600003]),(4,[94,600003]),(5,[94,600003])] 6 (by kernel_rfl) (by kernel_rfl) [600003,94] (by kernel_rfl) (by kernel_rfl) ?_))
 refine evd_build (e:=86) (d:=94) (es:=(List.map c_Rect [])) (by kernel_rfl) (by kernel_rfl) (by kernel_rfl) (by kernel_rfl) (by kernel_rfl) (by kernel_rfl) (evd_run 2 (by kernel_rfl) ?_)
 obtain ⟨l149,hl149,h⟩:=bindS h
 refine evd_app (c:=c_Rect) (l:=[]) (l2:=x0.Cuts) (x:=(s_Rect x0.Cuts)) (g:=94) (g2:=600003) (e:=86) (sz:=4) (d:=97) (by kernel_rfl) (by kernel_rfl) (by kernel_rfl) (by kernel_rfl) (by kernel_rfl) (fun _=>rfl) hl149 (by kernel_rfl) (by kernel_rfl) (by kernel_rfl) (by kernel_rfl) (by kernel_rfl) (evd_run 2 (by kernel_rfl) (evd_end (by kernel_rfl) ?_))
 obtain ⟨l150,hl150,h⟩:=bindS h
 refine evo_op (st_app (c:=c_Rect) (l:=l149) (l2:=x0.Forms) (x:=(s_Rect x0.Forms)) (g:=600003) (e:=86) (sz:=4) (d:=100) (by kernel_rfl) (by kernel_rfl) (by kernel_rfl) (by kernel_rfl) (fun _=>rfl) rfl hl150) (evo_run 1 (by kernel_rfl) (zO fun τ hτ=>?_))
 refine zE hτ ⟨[(1,.ptr 500000 0),(7,ro 600003 86)],[(500000,.box (c_Piece x0)),(600003,w_Rect 86 l150)]⟩ (zB (z3 1 ⟨[(1,.ptr 500000 0),(7,ro 600003 86),(8,vI 0)],[(500000,.box (c_Piece x0)),(600003,w_Rect 86 l150)]⟩ ?_))
 refine zC ?_
 obtain ⟨x314,hx314,h⟩:=bindS h
 refine sem_loopS (fun (s261 : Int)=>⟨[(1,.ptr 500000 0),(7,ro 500001 86),(8,vI s261)],[(500000,.box (c_Piece x0)),(500001,w_Rect 86 l150)]⟩) (fun (x314 : Unit ⊕ Unit)=>match x314 with | .inl j315=>(.ret,⟨[(2,vI 13)],[]⟩) | .inr j316=>(.exit 2,⟨[(7,ro 500000 86)],[(500000,w_Rect 86 l150)]⟩)) (sheetmetalref06_ValidatePiece_l2 x0 l150) 0 x314 (by kernel_rfl) (subR_prep [] [(500000,500000),(600003,500001)] (by kernel_rfl) rfl rfl (by kernel_rfl)) hx314 ?_ ?_ ?_
 intro s261 r h
 refine zB (z7 (zA 2 ?_))
 refine evs_op (st_len (c:=c_Rect) (l:=l150) (x:=(ro 500001 86)) (by kernel_rfl) (by kernel_rfl)) (z1 1 ⟨[(1,.ptr 500000 0),(7,ro 500001 86),(8,vI s261),(104,vB (decide (s261 < (l150.length : Int))))],[(500000,.box (c_Piece x0)),(500001,w_Rect 86 l150)]⟩ (zI (decide (s261 < (l150.length : Int))) (fun hb=>?_) fun hb=>?_))
 replace h:=iteT hb h
 refine z4 ⟨[(1,.ptr 500000 0),(7,ro 500001 86),(8,vI s261)],[(500000,.box (c_Piece x0)),(500001,w_Rect 86 l150)]⟩ (zB (zC ?_))
 refine zB ?_
 obtain ⟨j309,hj309,h⟩:=bindS h
 refine sem_drawP ⟨[(1,.ptr 500000 0),(7,ro 500001 86),(8,vI s261),(137,vB j309)],[(500000,.box (c_Piece x0)),(500001,w_Rect 86 l150)]⟩ [] [] [] [] [] 24 (by kernel_rfl) (by kernel_rfl) (by kernel_rfl) ?_ fun τ hτ=>?_
 replace h:=hj309
 refine evd_run 2 (by kernel_rfl) ?_
 obtain ⟨x310,hx310,h⟩:=bindS h
 refine evd_val (by kernel_rfl) (st_idxO (c:=c_Rect) (l:=l150) (i:=s261) (kd:=.i64) (kk:=(.top 500001)) (e:=86) (sz:=4) (by kernel_rfl) (by kernel_rfl) hx310 rfl) (by kernel_rfl) (by kernel_rfl) (evd_val (by kernel_rfl) (st_ldO (c:=c_Rect) (l:=l150) (i:=(Int.toNat s261)) (v:=(.agg (c_Rect x310))) (agg:=true) (sz:=4) (kk:=(.top 500001)) (e:=86) (off:=0) (J:=[]) (by kernel_rfl) (by kernel_rfl) (by kernel_rfl) ((idxS hx310).2) (by kernel_rfl)) (by kernel_rfl) (by kernel_rfl) (evd_run 2 (by kernel_rfl) ?_))
 obtain ⟨r311,hr311,h⟩:=bindS h
 refine evd_callS [] [] (by kernel_rfl) (by kernel_rfl) (W.sheetmetalref06_deep_ok hr311) (by kernel_rfl) (.inl rfl) (by kernel_rfl) (by kernel_rfl) (evd_run 2 (by kernel_rfl) (evd_split r311 (fun b0=>⟨[(115,vB (!b0)),(114,vB (!b0)),(113,vB b0),(112,s_Rect x0.Rects),(111,.ptr 500000 4),(110,.agg (c_Rect x310)),(109,.rptr (.top 500001) 86 (Int.toNat s261) 0),(108,vI s261),(107,ro 500001 86),(1,.ptr 500000 0),(7,ro 500001 86),(8,vI s261)],[(500000,.box (c_Piece x0)),(500001,w_Rect 86 l150)]⟩) (by kernel_rfl) (fun hb=>?_) fun hb=>?_))
 replace h:=iteT hb h
 refine evd_run 3 (by kernel_rfl) (evd_val (by kernel_rfl) (st_len (c:=c_Rect) (l:=x0.Cuts) (x:=(s_Rect x0.Cuts)) (by kernel_rfl) (by kernel_rfl)) (by kernel_rfl) (by kernel_rfl) (evd_run 2 (by kernel_rfl) ?_))
 refine evd_split (decide (s261 < (x0.Cuts.length : Int))) (fun b0=>⟨[(121,vB b0),(120,vB b0),(119,vI (x0.Cuts.length : Int)),(118,s_Rect x0.Cuts),(117,.ptr 500000 5),(116,vI s261),(115,vB false),(114,vB false),(113,vB true),(112,s_Rect x0.Rects),(111,.ptr 500000 4),(110,.agg (c_Rect x310)),(109,.rptr (.top 500001) 86 (Int.toNat s261) 0),(108,vI s261),(107,ro 500001 86),(1,.ptr 500000 0),(7,ro 500001 86),(8,vI s261)],[(500000,.box (c_Piece x0)),(500001,w_Rect 86 l150)]⟩) (by kernel_rfl) (fun hb=>?_) fun hb=>?_
 replace h:=iteT hb h
 refine evd_run 2 (by kernel_rfl) ?_
 obtain ⟨x312,hx312,h⟩:=bindS h
 refine evd_val (by kernel_rfl) (st_idxO (c:=c_Rect) (l:=l150) (i:=s261) (kd:=.i64) (kk:=(.top 500001)) (e:=86) (sz:=4) (by kernel_rfl) (by kernel_rfl) hx312 rfl) (by kernel_rfl) (by kernel_rfl) (evd_run 1 (by kernel_rfl) (evd_val (by kernel_rfl) (st_ldO (c:=c_Rect) (l:=l150) (i:=(Int.toNat s261)) (v:=(vI x312.W)) (agg:=false) (sz:=1) (kk:=(.top 500001)) (e:=86) (off:=2) (J:=[]) (by kernel_rfl) (by kernel_rfl) (by kernel_rfl) ((idxS hx312).2) (by kernel_rfl)) (by kernel_rfl) (by kernel_rfl) ?_))
 refine evd_run 2 (by kernel_rfl) (evd_split (x312.W == 1) (fun b0=>⟨[(128,vB b0),(127,vB b0),(126,vI x312.W),(125,.rptr (.top 500001) 86 (Int.toNat s261) 2),(124,.rptr (.top 500001) 86 (Int.toNat s261) 0),(123,vI s261),(122,ro 500001 86),(121,vB true),(120,vB true),(119,vI (x0.Cuts.length : Int)),(118,s_Rect x0.Cuts),(117,.ptr 500000 5),(116,vI s261),(115,vB false),(114,vB false),(113,vB true),(112,s_Rect x0.Rects),(111,.ptr 500000 4),(110,.agg (c_Rect x310)),(109,.rptr (.top 500001) 86 (Int.toNat s261) 0),(108,vI s261),(107,ro 500001 86),(1,.ptr 500000 0),(7,ro 500001 86),(8,vI s261)],[(500000,.box (c_Piece x0)),(500001,w_Rect 86 l150)]⟩) (by kernel_rfl) (fun hb=>?_) fun hb=>?_)
 replace h:=iteT hb h
 refine evd_run 2 (by kernel_rfl) (evd_end (by kernel_rfl) (evo_run 7 (by kernel_rfl) ?_))
 refine zO fun τ hτ=>?_
 obtain rfl:=osi h
 exact zG hτ
 replace h:=iteF hb h
 refine evd_run 2 (by kernel_rfl) (evd_end (by kernel_rfl) ?_)
 obtain ⟨x313,hx313,h⟩:=bindS h
 refine evo_op (st_idxO (c:=c_Rect) (l:=l150) (i:=s261) (kd:=.i64) (kk:=(.top 500001)) (e:=86) (sz:=4) (by kernel_rfl) (by kernel_rfl) hx313 rfl) (evo_run 1 (by kernel_rfl) (evo_op (st_ldO (c:=c_Rect) (l:=l150) (i:=(Int.toNat s261)) (v:=(vI x313.H)) (agg:=false) (sz:=1) (kk:=(.top 500001)) (e:=86) (off:=3) (J:=[]) (by kernel_rfl) (by kernel_rfl) (by kernel_rfl) ((idxS hx313).2) (by kernel_rfl)) ?_))
 refine evo_run 4 (by kernel_rfl) (zO fun τ hτ=>?_)
 obtain rfl:=osi h
 exact zG hτ
 replace h:=iteF hb h
 refine evd_run 9 (by kernel_rfl) (evd_end (by kernel_rfl) (evo_run 7 (by kernel_rfl) ?_))
 refine zO fun τ hτ=>?_
 obtain rfl:=osi h
 exact zG hτ
 replace h:=iteF hb h
 refine evd_run 15 (by kernel_rfl) (evd_end (by kernel_rfl) (evo_run 7 (by kernel_rfl) ?_))
 refine zO fun τ hτ=>?_
 obtain rfl:=osi h
 exact zG hτ
 refine zE hτ ⟨[(1,.ptr 500000 0),(7,ro 500001 86),(8,vI s261),(137,vB j309)],[(500000,.box (c_Piece x0)),(500001,w_Rect 86 l150)]⟩ (zI j309 (fun hb=>?_) fun hb=>?_)
 replace h:=iteT hb h
 refine z8 1 ⟨[(2,vI 13)],[]⟩ fun τ hτ=>?_
 refine bl_ret (th_ret ?_)
 obtain rfl:=osi h
 exact zF hτ
 replace h:=iteF hb h
 refine zM fun τ hτ=>?_
 refine bl_normal (zE hτ ⟨[(1,.ptr 500000 0),(7,ro 500001 86),(8,vI s261)],[(500000,.box (c_Piece x0)),(500001,w_Rect 86 l150)]⟩ (zD ?_))
 refine z6 3 fun τ hτ=>?_
 obtain rfl:=osi h
 exact zH hτ
 replace h:=iteF hb h
 refine zL 2 fun τ hτ=>?_
 refine th_exit ?_
 obtain rfl:=osi h
 exact lk_outS hτ rfl (subR_prep [] [(500001,500000)] (by kernel_rfl) rfl rfl (by kernel_rfl))
 intro x
 rcases x with _ | _ <;> rfl
 intro τ hτ
 rcases x314 with j315 | j316
 refine bl_ret (th_ret ?_)
 obtain rfl:=osi h
 exact zV hτ [(2,vI 13)]
 refine zQ (zE hτ ⟨[(7,ro 500000 86)],[(500000,w_Rect 86 l150)]⟩ (zB ?_))
 refine z3 1 ⟨[(7,ro 500000 86),(9,vI 0)],[(500000,w_Rect 86 l150)]⟩ (zC ?_)
 obtain ⟨x804,hx804,h⟩:=bindS h
 refine sem_loopS (fun (s567 : Int)=>⟨[(7,ro 500000 86),(9,vI s567)],[(500000,w_Rect 86 l150)]⟩) (fun (x804 : Unit ⊕ Unit)=>match x804 with | .inl j805=>(.ret,⟨[(2,vI 7)],[]⟩) | .inr j806=>(.exit 4,⟨[],[]⟩)) (sheetmetalref06_ValidatePiece_l4 l150) 0 x804 (by kernel_rfl) (here (by kernel_rfl)) hx804 ?_ ?_ ?_
 intro s567 r h
 refine zB (z7 (zA 2 ?_))
 refine evs_op (st_len (c:=c_Rect) (l:=l150) (x:=(ro 500000 86)) (by kernel_rfl) (by kernel_rfl)) (z1 1 ⟨[(7,ro 500000 86),(9,vI s567),(141,vB (decide (s567 < (l150.length : Int))))],[(500000,w_Rect 86 l150)]⟩ (zI (decide (s567 < (l150.length : Int))) (fun hb=>?_) fun hb=>?_))
 replace h:=iteT hb h
 refine z4 ⟨[(7,ro 500000 86),(9,vI s567)],[(500000,w_Rect 86 l150)]⟩ (zB (zC ?_))
 refine z3 1 ⟨[(7,ro 500000 86),(9,vI s567),(10,vI 0)],[(500000,w_Rect 86 l150)]⟩ (zC ?_)
 obtain ⟨x801,hx801,h⟩:=bindS h
 refine sem_loopS (fun (s764 : Int)=>⟨[(7,ro 500000 86),(9,vI s567),(10,vI s764)],[(500000,w_Rect 86 l150)]⟩) (fun (x801 : Unit ⊕ Unit)=>match x801 with | .inl j802=>(.ret,⟨[(2,vI 7)],[]⟩) | .inr j803=>(.exit 6,⟨[(7,ro 500000 86),(9,vI s567)],[(500000,w_Rect 86 l150)]⟩)) (sheetmetalref06_ValidatePiece_l3 l150 s567) 0 x801 (by kernel_rfl) (here (by kernel_rfl)) hx801 ?_ ?_ ?_
 intro s764 r h
 refine zB (z3 3 ⟨[(7,ro 500000 86),(9,vI s567),(10,vI s764),(146,vB (decide (s764 < s567)))],[(500000,w_Rect 86 l150)]⟩ (zI (decide (s764 < s567)) (fun hb=>?_) fun hb=>?_))
 replace h:=iteT hb h
 refine z4 ⟨[(7,ro 500000 86),(9,vI s567),(10,vI s764)],[(500000,w_Rect 86 l150)]⟩ (zB (zC ?_))
 refine zB (sem_drawN [] [] [] [] [] 8 (by kernel_rfl) (by kernel_rfl) (by kernel_rfl) (evd_run 2 (by kernel_rfl) ?_))
 obtain ⟨x798,hx798,h⟩:=bindS h
 refine evd_val (by kernel_rfl) (st_idxO (c:=c_Rect) (l:=l150) (i:=s567) (kd:=.i64) (kk:=(.top 500000)) (e:=86) (sz:=4) (by kernel_rfl) (by kernel_rfl) hx798 rfl) (by kernel_rfl) (by kernel_rfl) (evd_val (by kernel_rfl) (st_ldO (c:=c_Rect) (l:=l150) (i:=(Int.toNat s567)) (v:=(.agg (c_Rect x798))) (agg:=true) (sz:=4) (kk:=(.top 500000)) (e:=86) (off:=0) (J:=[]) (by kernel_rfl) (by kernel_rfl) (by kernel_rfl) ((idxS hx798).2) (by kernel_rfl)) (by kernel_rfl) (by kernel_rfl) (evd_run 2 (by kernel_rfl) ?_))
 obtain ⟨x799,hx799,h⟩:=bindS h
 refine evd_val (by kernel_rfl) (st_idxO (c:=c_Rect) (l:=l150) (i:=s764) (kd:=.i64) (kk:=(.top 500000)) (e:=86) (sz:=4) (by kernel_rfl) (by kernel_rfl) hx799 rfl) (by kernel_rfl) (by kernel_rfl) (evd_val (by kernel_rfl) (st_ldO (c:=c_Rect) (l:=l150) (i:=(Int.toNat s764)) (v:=(.agg (c_Rect x799))) (agg:=true) (sz:=4) (kk:=(.top 500000)) (e:=86) (off:=0) (J:=[]) (by kernel_rfl) (by kernel_rfl) (by kernel_rfl) ((idxS hx799).2) (by kernel_rfl)) (by kernel_rfl) (by kernel_rfl) (evd_end (by kernel_rfl) ?_))
 obtain ⟨r800,hr800,h⟩:=bindS h
 refine evo_callP [] (by kernel_rfl) (W.sheetmetalref06_Apart_ok hr800) (by kernel_rfl) (.inl rfl) (by kernel_rfl) (evo_run 1 (by kernel_rfl) (zO fun τ hτ=>?_))
 refine zE hτ ⟨[(7,ro 500000 86),(9,vI s567),(10,vI s764),(158,vB (r800 == 0))],[(500000,w_Rect 86 l150)]⟩ (zI (r800 == 0) (fun hb=>?_) fun hb=>?_)
 replace h:=iteT hb h
 refine z8 1 ⟨[(2,vI 7)],[]⟩ fun τ hτ=>?_
 refine bl_ret (th_ret ?_)
 obtain rfl:=osi h
 exact zF hτ
 replace h:=iteF hb h
 refine zM fun τ hτ=>?_
 refine bl_normal (zE hτ ⟨[(7,ro 500000 86),(9,vI s567),(10,vI s764)],[(500000,w_Rect 86 l150)]⟩ (zD ?_))
 refine z6 3 fun τ hτ=>?_
 obtain rfl:=osi h
 exact zH hτ
 replace h:=iteF hb h
 refine zL 6 fun τ hτ=>?_
 refine th_exit ?_
 obtain rfl:=osi h
 exact zF hτ
 intro x
 rcases x with _ | _ <;> rfl
 intro τ hτ
 rcases x801 with j802 | j803
 refine bl_ret (bl_ret (th_ret ?_))
 obtain rfl:=osi h
 exact zF hτ
 refine zQ (bl_normal (zE hτ ⟨[(7,ro 500000 86),(9,vI s567)],[(500000,w_Rect 86 l150)]⟩ ?_))
 refine zD (z6 3 fun τ hτ=>?_)
 obtain rfl:=osi h
 exact zH hτ
 replace h:=iteF hb h
 refine zL 4 fun τ hτ=>?_
 refine th_exit ?_
 obtain rfl:=osi h
 exact zF hτ
 intro x
 rcases x with _ | _ <;> rfl
 intro τ hτ
 rcases x804 with j805 | j806
 refine bl_ret (th_ret ?_)
 obtain rfl:=osi h
 exact zV hτ [(2,vI 7)]
 refine zQ (zE hτ ⟨[],[]⟩ (z8 1 ⟨[(2,vI 0)],[]⟩ fun τ hτ=>?_))
 obtain rfl:=osi h
 exact zV hτ [(2,vI 0)]
theorem W.nest_ValidSettings_ok {set0 : Settings} {r : Bool} (h : nest_ValidSettings set0 = some r) : PC G.P 19 [(.agg (c_Settings set0))] [] (vB r) []:=by
 refine zU G Tryz.func19 (zK ⟨[(0,.agg (c_Settings set0))],[]⟩ (z3 2 ⟨[(1,.ptr 1 0)],[(1,.box (c_Settings set0))]⟩ ?_))
 refine zB ?_
 obtain ⟨j3,hj3,h⟩:=bindS h
 refine zT ⟨[(2,vB j3)],[]⟩ ?_ fun τ hτ=>?_
 replace h:=hj3
 refine zA 2 ?_
 obtain ⟨r4,hr4,h⟩:=bindS h
 refine evs_callP [] (by kernel_rfl) (W.nest_from_ok hr4) (by kernel_rfl) (.inl rfl) (by kernel_rfl) (zA 1 (zS r4 (fun b0=>⟨[(1,.ptr 1 0),(6,vB b0)],[(1,.box (c_Settings set0))]⟩) (fun hb=>?_) fun hb=>?_))
 replace h:=iteT hb h
 refine zA 2 ?_
 obtain ⟨r5,hr5,h⟩:=bindS h
 refine evs_callP [] (by kernel_rfl) (W.nest_from_ok hr5) (by kernel_rfl) (.inl rfl) (by kernel_rfl) (z6 2 fun τ hτ=>?_)
 obtain rfl:=osi h
 exact zG hτ
 replace h:=iteF hb h
 refine z6 5 fun τ hτ=>?_
 obtain rfl:=osi h
 exact zG hτ
 refine zE hτ ⟨[(2,vB j3)],[]⟩ (zN fun τ hτ=>?_)
 obtain rfl:=osi h
 exact zV hτ [(2,vB j3)]
theorem W.sheetmetalref06_ValidSettings_ok {set0 : Settings} {r : Bool} (h : sheetmetalref06_ValidSettings set0 = some r) : PC G.P 20 [(.agg (c_Settings set0))] [] (vB r) []:=by
 refine zU G Tryz.func20 (zK ⟨[(0,.agg (c_Settings set0))],[]⟩ (z3 2 ⟨[(1,.ptr 1 0)],[(1,.box (c_Settings set0))]⟩ ?_))
 refine z3 1 ⟨[(1,.ptr 1 0),(3,vI 14400)],[(1,.box (c_Settings set0))]⟩ (zB ?_)
 obtain ⟨j1,hj1,h⟩:=bindS h
 refine zT ⟨[(2,vB j1)],[]⟩ ?_ fun τ hτ=>?_
 replace h:=hj1
 refine zA 4 (zS (decide (set0.Gap ≥ 0)) (fun b0=>⟨[(1,.ptr 1 0),(3,vI 14400),(7,vB b0)],[(1,.box (c_Settings set0))]⟩) (fun hb=>?_) fun hb=>?_)
 replace h:=iteT hb h
 refine zA 6 (zS (decide (set0.Gap ≤ 14400)) (fun b0=>⟨[(1,.ptr 1 0),(3,vI 14400),(13,vB b0)],[(1,.box (c_Settings set0))]⟩) (fun hb=>?_) fun hb=>?_)
 replace h:=iteT hb h
 refine zA 5 (zS (decide (set0.Margin ≥ 0)) (fun b0=>⟨[(1,.ptr 1 0),(3,vI 14400),(18,vB b0)],[(1,.box (c_Settings set0))]⟩) (fun hb=>?_) fun hb=>?_)
 replace h:=iteT hb h
 refine z6 6 fun τ hτ=>?_
 obtain rfl:=osi h
 exact zG hτ
 replace h:=iteF hb h
 refine z6 6 fun τ hτ=>?_
 obtain rfl:=osi h
 exact zG hτ
 replace h:=iteF hb h
 refine z6 11 fun τ hτ=>?_
 obtain rfl:=osi h
 exact zG hτ
 replace h:=iteF hb h
 refine z6 17 fun τ hτ=>?_
 obtain rfl:=osi h
 exact zG hτ
 refine zE hτ ⟨[(2,vB j1)],[]⟩ (zN fun τ hτ=>?_)
 obtain rfl:=osi h
 exact zV hτ [(2,vB j1)]
theorem W.flat_inRange_ok {s0 : Segment} {r : Bool} (h : flat_inRange s0 = some r) : PC G.P 144 [(.agg (c_Segment s0))] [] (vB r) []:=by
 refine zU G Tryz.func144 (zK ⟨[(0,.agg (c_Segment s0))],[]⟩ (z3 2 ⟨[(1,.ptr 1 0)],[(1,.box (c_Segment s0))]⟩ ?_))
 refine zB (z7 (zA 9 ?_))
 refine evs_op (st_len (c:=cI) (l:=[s0.X1,s0.Y1,s0.X2,s0.Y2]) (x:=(sI [s0.X1,s0.Y1,s0.X2,s0.Y2])) (by kernel_rfl) (by kernel_rfl)) (z1 1 ⟨[(13,sI [s0.X1,s0.Y1,s0.X2,s0.Y2]),(14,vI ([s0.X1,s0.Y1,s0.X2,s0.Y2].length : Int)),(15,vI 0)],[]⟩ (zC ?_))
 obtain ⟨x44,hx44,h⟩:=bindS h
 refine sem_loopS (fun (s31 : Int)=>⟨[(13,sI [s0.X1,s0.Y1,s0.X2,s0.Y2]),(14,vI ([s0.X1,s0.Y1,s0.X2,s0.Y2].length : Int)),(15,vI s31)],[]⟩) (fun (x44 : Unit ⊕ Unit)=>match x44 with | .inl j45=>(.ret,⟨[(2,vB false)],[]⟩) | .inr j46=>(.exit 0,⟨[],[]⟩)) (flat_inRange_l1 s0) 0 x44 (by kernel_rfl) (here (by kernel_rfl)) hx44 ?_ ?_ ?_
 intro s31 r h
 refine z3 1 ⟨[(13,sI [s0.X1,s0.Y1,s0.X2,s0.Y2]),(14,vI ([s0.X1,s0.Y1,s0.X2,s0.Y2].length : Int)),(15,vI s31),(16,vB (decide (s31 < ([s0.X1,s0.Y1,s0.X2,s0.Y2].length : Int))))],[]⟩ (zB (zI (decide (s31 < ([s0.X1,s0.Y1,s0.X2,s0.Y2].length : Int))) (fun hb=>?_) fun hb=>?_))
 replace h:=iteT hb h
 refine z4 ⟨[(13,sI [s0.X1,s0.Y1,s0.X2,s0.Y2]),(14,vI ([s0.X1,s0.Y1,s0.X2,s0.Y2].length : Int)),(15,vI s31)],[]⟩ (zB (zC ?_))
 refine z7 ?_
 obtain ⟨x42,hx42,h⟩:=bindS h
 refine evs_op (st_idx (c:=cI) (l:=[s0.X1,s0.Y1,s0.X2,s0.Y2]) (i:=s31) (kd:=.i64) (sz:=1) (by kernel_rfl) hx42 rfl) (z1 2 ⟨[(4,vI x42),(13,sI [s0.X1,s0.Y1,s0.X2,s0.Y2]),(14,vI ([s0.X1,s0.Y1,s0.X2,s0.Y2].length : Int)),(15,vI s31)],[]⟩ (zB ?_))
 obtain ⟨j43,hj43,h⟩:=bindS h
 refine zT ⟨[(13,sI [s0.X1,s0.Y1,s0.X2,s0.Y2]),(14,vI ([s0.X1,s0.Y1,s0.X2,s0.Y2].length : Int)),(15,vI s31),(24,vB j43)],[]⟩ ?_ fun τ hτ=>?_
 replace h:=hj43
 refine zA 3 (zS (decide (x42 < (-1048576))) (fun b0=>⟨[(4,vI x42),(13,sI [s0.X1,s0.Y1,s0.X2,s0.Y2]),(14,vI ([s0.X1,s0.Y1,s0.X2,s0.Y2].length : Int)),(15,vI s31),(21,vB b0)],[]⟩) (fun hb=>?_) fun hb=>?_)
 replace h:=iteT hb h
 refine z6 3 fun τ hτ=>?_
 obtain rfl:=osi h
 exact zG hτ
 replace h:=iteF hb h
 refine z6 3 fun τ hτ=>?_
 obtain rfl:=osi h
 exact zG hτ
 refine zE hτ ⟨[(13,sI [s0.X1,s0.Y1,s0.X2,s0.Y2]),(14,vI ([s0.X1,s0.Y1,s0.X2,s0.Y2].length : Int)),(15,vI s31),(24,vB j43)],[]⟩ (zI j43 (fun hb=>?_) fun hb=>?_)
 replace h:=iteT hb h
 refine z8 1 ⟨[(2,vB false)],[]⟩ fun τ hτ=>?_
 refine bl_ret (th_ret ?_)
 obtain rfl:=osi h
 exact zF hτ
 replace h:=iteF hb h
 refine zM fun τ hτ=>?_
 refine bl_normal (zE hτ ⟨[(13,sI [s0.X1,s0.Y1,s0.X2,s0.Y2]),(14,vI ([s0.X1,s0.Y1,s0.X2,s0.Y2].length : Int)),(15,vI s31)],[]⟩ (zD ?_))
 refine z6 2 fun τ hτ=>?_
 obtain rfl:=osi h
 exact zH hτ
 replace h:=iteF hb h
 refine zL 0 fun τ hτ=>?_
 refine th_exit ?_
 obtain rfl:=osi h
 exact zF hτ
 intro x
 rcases x with _ | _ <;> rfl
 intro τ hτ
 rcases x44 with j45 | j46
 refine bl_ret (th_ret ?_)
 obtain rfl:=osi h
 exact zV hτ [(2,vB false)]
 refine zQ (zE hτ ⟨[],[]⟩ (z8 1 ⟨[(2,vB true)],[]⟩ fun τ hτ=>?_))
 obtain rfl:=osi h
 exact zV hτ [(2,vB true)]
theorem W.flat_check_ok {f : Flat} {r : Int} (h : flat_check f = some r) : PC G.P 126 [(.agg (c_Flat f))] [] (vI r) []:=by
 refine zU G Tryz.func126 (zK ⟨[(0,.agg (c_Flat f))],[]⟩ (z3 2 ⟨[(1,.ptr 1 0)],[(1,.box (c_Flat f))]⟩ ?_))
 refine zB (z7 (zA 2 ?_))
 refine evs_op (st_len (c:=c_Rect) (l:=f.Rects) (x:=(s_Rect f.Rects)) (by kernel_rfl) (by kernel_rfl)) (z1 1 ⟨[(1,.ptr 1 0),(12,vB ((f.Rects.length : Int) == 0))],[(1,.box (c_Flat f))]⟩ (zI ((f.Rects.length : Int) == 0) (fun hb=>?_) fun hb=>?_))
 replace h:=iteT hb h
 refine z8 1 ⟨[(2,vI 1)],[]⟩ fun τ hτ=>?_
 refine th_ret ?_
 obtain rfl:=osi h
 exact zV hτ [(2,vI 1)]
 replace h:=iteF hb h
 refine z4 ⟨[(1,.ptr 1 0)],[(1,.box (c_Flat f))]⟩ (zB (z7 ?_))
 refine zA 7 (evs_op (st_len (c:=(cS c_Rect)) (l:=[f.Rects,f.Cuts,f.Forms]) (x:=(.sl (List.map (cS c_Rect) [f.Rects,f.Cuts,f.Forms]))) (by kernel_rfl) (by kernel_rfl)) (z1 1 ⟨[(1,.ptr 1 0),(19,.sl (List.map (cS c_Rect) [f.Rects,f.Cuts,f.Forms])),(20,vI ([f.Rects,f.Cuts,f.Forms].length : Int)),(21,vI 0)],[(1,.box (c_Flat f))]⟩ ?_))
 refine zC ?_
 obtain ⟨x380,hx380,h⟩:=bindS h
 refine sem_loopS (fun (s255 : Int)=>⟨[(1,.ptr 500000 0),(19,.sl (List.map (cS c_Rect) [f.Rects,f.Cuts,f.Forms])),(20,vI ([f.Rects,f.Cuts,f.Forms].length : Int)),(21,vI s255)],[(500000,.box (c_Flat f))]⟩) (fun (x380 : Unit ⊕ Unit)=>match x380 with | .inl j381=>(.ret,⟨[(2,vI 1)],[]⟩) | .inr j382=>(.exit 0,⟨[(1,.ptr 500000 0)],[(500000,.box (c_Flat f))]⟩)) (flat_check_l2 f) 0 x380 (by kernel_rfl) (subR_prep [] [(1,500000)] (by kernel_rfl) rfl rfl (by kernel_rfl)) hx380 ?_ ?_ ?_
 intro s255 r h
 refine z3 1 ⟨[(1,.ptr 500000 0),(19,.sl (List.map (cS c_Rect) [f.Rects,f.Cuts,f.Forms])),(20,vI ([f.Rects,f.Cuts,f.Forms].length : Int)),(21,vI s255),(22,vB (decide (s255 < ([f.Rects,f.Cuts,f.Forms].length : Int))))],[(500000,.box (c_Flat f))]⟩ (zB (zI (decide (s255 < ([f.Rects,f.Cuts,f.Forms].length : Int))) (fun hb=>?_) fun hb=>?_))
 replace h:=iteT hb h
 refine z4 ⟨[(1,.ptr 500000 0),(19,.sl (List.map (cS c_Rect) [f.Rects,f.Cuts,f.Forms])),(20,vI ([f.Rects,f.Cuts,f.Forms].length : Int)),(21,vI s255)],[(500000,.box (c_Flat f))]⟩ (zB (zC ?_))
 refine z7 ?_
 obtain ⟨x350,hx350,h⟩:=bindS h
 refine evs_op (st_idx (c:=(cS c_Rect)) (l:=[f.Rects,f.Cuts,f.Forms]) (i:=s255) (kd:=.i64) (sz:=1) (by kernel_rfl) hx350 rfl) (z1 2 ⟨[(1,.ptr 500000 0),(4,s_Rect x350),(19,.sl (List.map (cS c_Rect) [f.Rects,f.Cuts,f.Forms])),(20,vI ([f.Rects,f.Cuts,f.Forms].length : Int)),(21,vI s255)],[(500000,.box (c_Flat f))]⟩ (zB ?_))
 refine z7 (zA 1 (evs_op (st_len (c:=c_Rect) (l:=x350) (x:=(s_Rect x350)) (by kernel_rfl) (by kernel_rfl)) ?_))
 refine z1 1 ⟨[(1,.ptr 500000 0),(4,s_Rect x350),(19,.sl (List.map (cS c_Rect) [f.Rects,f.Cuts,f.Forms])),(20,vI ([f.Rects,f.Cuts,f.Forms].length : Int)),(21,vI s255),(27,vB (decide ((x350.length : Int) > 48)))],[(500000,.box (c_Flat f))]⟩ (zI (decide ((x350.length : Int) > 48)) (fun hb=>?_) fun hb=>?_)
 replace h:=iteT hb h
 refine z8 1 ⟨[(2,vI 1)],[]⟩ fun τ hτ=>?_
 refine th_ret (bl_ret (th_ret ?_))
 obtain rfl:=osi h
 exact zF hτ
 replace h:=iteF hb h
 refine z4 ⟨[(1,.ptr 500000 0),(4,s_Rect x350),(19,.sl (List.map (cS c_Rect) [f.Rects,f.Cuts,f.Forms])),(20,vI ([f.Rects,f.Cuts,f.Forms].length : Int)),(21,vI s255)],[(500000,.box (c_Flat f))]⟩ (z7 (zA 1 ?_))
 refine evs_op (st_len (c:=c_Rect) (l:=x350) (x:=(s_Rect x350)) (by kernel_rfl) (by kernel_rfl)) (z1 1 ⟨[(1,.ptr 500000 0),(19,.sl (List.map (cS c_Rect) [f.Rects,f.Cuts,f.Forms])),(20,vI ([f.Rects,f.Cuts,f.Forms].length : Int)),(21,vI s255),(28,s_Rect x350),(29,vI (x350.length : Int)),(30,vI 0)],[(500000,.box (c_Flat f))]⟩ (zC ?_))
 obtain ⟨x377,hx377,h⟩:=bindS h
 refine sem_loopS (fun (s360 : Int)=>⟨[(1,.ptr 500000 0),(19,.sl (List.map (cS c_Rect) [f.Rects,f.Cuts,f.Forms])),(20,vI ([f.Rects,f.Cuts,f.Forms].length : Int)),(21,vI s255),(28,s_Rect x350),(29,vI (x350.length : Int)),(30,vI s360)],[(500000,.box (c_Flat f))]⟩) (fun (x377 : Unit ⊕ Unit)=>match x377 with | .inl j378=>(.ret,⟨[(2,vI 1)],[]⟩) | .inr j379=>(.exit 2,⟨[(1,.ptr 500000 0),(19,.sl (List.map (cS c_Rect) [f.Rects,f.Cuts,f.Forms])),(20,vI ([f.Rects,f.Cuts,f.Forms].length : Int)),(21,vI s255)],[(500000,.box (c_Flat f))]⟩)) (flat_check_l1 x350) 0 x377 (by kernel_rfl) (here (by kernel_rfl)) hx377 ?_ ?_ ?_
 intro s360 r h
 refine z3 1 ⟨[(1,.ptr 500000 0),(19,.sl (List.map (cS c_Rect) [f.Rects,f.Cuts,f.Forms])),(20,vI ([f.Rects,f.Cuts,f.Forms].length : Int)),(21,vI s255),(28,s_Rect x350),(29,vI (x350.length : Int)),(30,vI s360),(31,vB (decide (s360 < (x350.length : Int))))],[(500000,.box (c_Flat f))]⟩ (zB (zI (decide (s360 < (x350.length : Int))) (fun hb=>?_) fun hb=>?_))
 replace h:=iteT hb h
 refine z4 ⟨[(1,.ptr 500000 0),(19,.sl (List.map (cS c_Rect) [f.Rects,f.Cuts,f.Forms])),(20,vI ([f.Rects,f.Cuts,f.Forms].length : Int)),(21,vI s255),(28,s_Rect x350),(29,vI (x350.length : Int)),(30,vI s360)],[(500000,.box (c_Flat f))]⟩ (zB (zC ?_))
 refine z7 ?_
 obtain ⟨x374,hx374,h⟩:=bindS h
 refine evs_op (st_idx (c:=c_Rect) (l:=x350) (i:=s360) (kd:=.i64) (sz:=4) (by kernel_rfl) hx374 rfl) (z1 3 ⟨[(1,.ptr 500000 0),(6,.ptr 6 0),(19,.sl (List.map (cS c_Rect) [f.Rects,f.Cuts,f.Forms])),(20,vI ([f.Rects,f.Cuts,f.Forms].length : Int)),(21,vI s255),(28,s_Rect x350),(29,vI (x350.length : Int)),(30,vI s360)],[(6,.box (c_Rect x374)),(500000,.box (c_Flat f))]⟩ (z7 ?_))
 refine zA 1 ?_
 obtain ⟨r376,hr376,h⟩:=bindS h
 refine evs_callP [] (by kernel_rfl) (W.geom_ValidRect_ok hr376) (by kernel_rfl) (.inl rfl) (by kernel_rfl) (z1 1 ⟨[(1,.ptr 500000 0),(19,.sl (List.map (cS c_Rect) [f.Rects,f.Cuts,f.Forms])),(20,vI ([f.Rects,f.Cuts,f.Forms].length : Int)),(21,vI s255),(28,s_Rect x350),(29,vI (x350.length : Int)),(30,vI s360),(36,vB (!r376))],[(500000,.box (c_Flat f))]⟩ (zI (!r376) (fun hb=>?_) fun hb=>?_))
 replace h:=iteT hb h
 refine z8 1 ⟨[(2,vI 1)],[]⟩ fun τ hτ=>?_
 refine bl_ret (th_ret ?_)
 obtain rfl:=osi h
 exact zF hτ
 replace h:=iteF hb h
 refine zM fun τ hτ=>?_
 refine bl_normal (zE hτ ⟨[(1,.ptr 500000 0),(19,.sl (List.map (cS c_Rect) [f.Rects,f.Cuts,f.Forms])),(20,vI ([f.Rects,f.Cuts,f.Forms].length : Int)),(21,vI s255),(28,s_Rect x350),(29,vI (x350.length : Int)),(30,vI s360)],[(500000,.box (c_Flat f))]⟩ (zD ?_))
 refine z6 2 fun τ hτ=>?_
 obtain rfl:=osi h
 exact zH hτ
 replace h:=iteF hb h
 refine zL 2 fun τ hτ=>?_
 refine th_exit ?_
 obtain rfl:=osi h
 exact zF hτ
 intro x
 rcases x with _ | _ <;> rfl
 intro τ hτ
 rcases x377 with j378 | j379
 refine bl_ret (bl_ret (th_ret ?_))
 obtain rfl:=osi h
 exact zF hτ
 refine zQ (bl_normal (zE hτ ⟨[(1,.ptr 500000 0),(19,.sl (List.map (cS c_Rect) [f.Rects,f.Cuts,f.Forms])),(20,vI ([f.Rects,f.Cuts,f.Forms].length : Int)),(21,vI s255)],[(500000,.box (c_Flat f))]⟩ ?_))
 refine zD (z6 2 fun τ hτ=>?_)
 obtain rfl:=osi h
 exact zH hτ
 replace h:=iteF hb h
 refine zL 0 fun τ hτ=>?_
 refine th_exit ?_
 obtain rfl:=osi h
 exact zF hτ
 intro x
 rcases x with _ | _ <;> rfl
 intro τ hτ
 rcases x380 with j381 | j382
 refine bl_ret (th_ret ?_)
 obtain rfl:=osi h
 exact zV hτ [(2,vI 1)]
 refine zQ (zE hτ ⟨[(1,.ptr 500000 0)],[(500000,.box (c_Flat f))]⟩ (zB ?_))
 refine z7 (zA 2 (evs_op (st_len (c:=c_BendLine) (l:=f.Bends) (x:=(s_BendLine f.Bends)) (by kernel_rfl) (by kernel_rfl)) ?_))
 refine z1 1 ⟨[(40,s_BendLine f.Bends),(41,vI (f.Bends.length : Int)),(42,vI 0)],[]⟩ (zC ?_)
 obtain ⟨x438,hx438,h⟩:=bindS h
 refine sem_loopS (fun (s421 : Int)=>⟨[(40,s_BendLine f.Bends),(41,vI (f.Bends.length : Int)),(42,vI s421)],[]⟩) (fun (x438 : Unit ⊕ Unit)=>match x438 with | .inl j439=>(.ret,⟨[(2,vI 1)],[]⟩) | .inr j440=>(.exit 4,⟨[],[]⟩)) (flat_check_l3 f) 0 x438 (by kernel_rfl) (here (by kernel_rfl)) hx438 ?_ ?_ ?_
 intro s421 r h
 refine z3 1 ⟨[(40,s_BendLine f.Bends),(41,vI (f.Bends.length : Int)),(42,vI s421),(43,vB (decide (s421 < (f.Bends.length : Int))))],[]⟩ (zB (zI (decide (s421 < (f.Bends.length : Int))) (fun hb=>?_) fun hb=>?_))
 replace h:=iteT hb h
 refine z4 ⟨[(40,s_BendLine f.Bends),(41,vI (f.Bends.length : Int)),(42,vI s421)],[]⟩ (zB (zC ?_))
 refine z7 ?_
 obtain ⟨x435,hx435,h⟩:=bindS h
 refine evs_op (st_idx (c:=c_BendLine) (l:=f.Bends) (i:=s421) (kd:=.i64) (sz:=8) (by kernel_rfl) hx435 rfl) (z1 3 ⟨[(8,.ptr 8 0),(40,s_BendLine f.Bends),(41,vI (f.Bends.length : Int)),(42,vI s421)],[(8,.box (c_BendLine x435))]⟩ (z7 ?_))
 refine zA 2 ?_
 obtain ⟨r437,hr437,h⟩:=bindS h
 refine evs_callP [] (by kernel_rfl) (W.flat_inRange_ok hr437) (by kernel_rfl) (.inl rfl) (by kernel_rfl) (z1 1 ⟨[(40,s_BendLine f.Bends),(41,vI (f.Bends.length : Int)),(42,vI s421),(49,vB (!r437))],[]⟩ (zI (!r437) (fun hb=>?_) fun hb=>?_))
 replace h:=iteT hb h
 refine z8 1 ⟨[(2,vI 1)],[]⟩ fun τ hτ=>?_
 refine bl_ret (th_ret ?_)
 obtain rfl:=osi h
 exact zF hτ
 replace h:=iteF hb h
 refine zM fun τ hτ=>?_
 refine bl_normal (zE hτ ⟨[(40,s_BendLine f.Bends),(41,vI (f.Bends.length : Int)),(42,vI s421)],[]⟩ (zD ?_))
 refine z6 2 fun τ hτ=>?_
 obtain rfl:=osi h
 exact zH hτ
 replace h:=iteF hb h
 refine zL 4 fun τ hτ=>?_
 refine th_exit ?_
 obtain rfl:=osi h
 exact zF hτ
 intro x
 rcases x with _ | _ <;> rfl
 intro τ hτ
 rcases x438 with j439 | j440
 refine bl_ret (th_ret ?_)
 obtain rfl:=osi h
 exact zV hτ [(2,vI 1)]
 refine zQ (zE hτ ⟨[],[]⟩ (z8 1 ⟨[(2,vI 0)],[]⟩ fun τ hτ=>?_))
 obtain rfl:=osi h
 exact zV hτ [(2,vI 0)]
theorem W.flat_quarter_1_ok {r0 : Rect} {r : Rect} (h : flat_quarter_1 r0 = some r) : PC G.P 146 [(.agg (c_Rect r0))] [] (.agg (c_Rect r)) [(0,.box [(vI (isub (ineg r0.Y) r0.H)),(vI r0.X),(vI r0.H),(vI r0.W)])]:=by
 refine zU G Tryz.func146 (zK ⟨[(0,.agg (c_Rect r0))],[]⟩ (z3 2 ⟨[(1,.ptr 1 0),(2,.ptr 2 0)],[(1,.box (c_Rect r0)),(2,.box [(vI 0),(vI 0),(vI 0),(vI 0)])]⟩ ?_))
 refine z8 14 ⟨[(2,.ptr 2 0)],[(2,.box [(vI (isub (ineg r0.Y) r0.H)),(vI r0.X),(vI r0.H),(vI r0.W)])]⟩ fun τ hτ=>?_
 obtain rfl:=osi h
 exact rk_ret hτ [(2,.ptr 0 0)] (subR_prep [] [(2,0)] (by kernel_rfl) rfl rfl (by kernel_rfl)) (by kernel_rfl)
theorem W.flat_mapped_1_ok {l : (List Rect)} {r : (List Rect)} (h : flat_mapped_1 l = some r) : PC G.P 163 [(.sl (List.map c_Rect l)),(.vptr [(.fn 146 [])] 0)] [] (.row (.top 0) 86) [(0,.row 86 [] (List.map c_Rect r))]:=by
 refine zU G Tryz.func163 (zK ⟨[(0,s_Rect l),(1,.vptr [(.fn 146 [])] 0)],[]⟩ (z3 1 ⟨[(0,s_Rect l),(1,.vptr [(.fn 146 [])] 0)],[]⟩ ?_))
 refine z3 1 ⟨[(0,s_Rect l),(1,.vptr [(.fn 146 [])] 0),(4,ro 4 86)],[(4,w_Rect 86 [])]⟩ (zB (z7 ?_))
 refine zA 1 (evs_op (st_len (c:=c_Rect) (l:=l) (x:=(s_Rect l)) (by kernel_rfl) (by kernel_rfl)) (z1 1 ⟨[(1,.vptr [(.fn 146 [])] 0),(4,ro 4 86),(7,s_Rect l),(8,vI (l.length : Int)),(9,vI 0)],[(4,w_Rect 86 [])]⟩ ?_))
 refine zC ?_
 obtain ⟨x78,hx78,h⟩:=bindS h
 refine sem_loopS (fun (s53 : Int × (List Rect))=>⟨[(1,.vptr [(.fn 146 [])] 0),(4,ro 500000 86),(7,s_Rect l),(8,vI (l.length : Int)),(9,vI s53.1)],[(500000,w_Rect 86 s53.2)]⟩) (fun (x78 : (List Rect))=>(.exit 0,⟨[(4,ro 500000 86)],[(500000,w_Rect 86 x78)]⟩)) (flat_mapped_1_l1 l) (0,[]) x78 (by kernel_rfl) (subR_prep [] [(4,500000)] (by kernel_rfl) rfl rfl (by kernel_rfl)) hx78 ?_ ?_ ?_
 intro s53 r h
 refine z3 1 ⟨[(1,.vptr [(.fn 146 [])] 0),(4,ro 500000 86),(7,s_Rect l),(8,vI (l.length : Int)),(9,vI s53.1),(10,vB (decide (s53.1 < (l.length : Int))))],[(500000,w_Rect 86 s53.2)]⟩ (zB (zI (decide (s53.1 < (l.length : Int))) (fun hb=>?_) fun hb=>?_))
 replace h:=iteT hb h
 refine z4 ⟨[(1,.vptr [(.fn 146 [])] 0),(4,ro 500000 86),(7,s_Rect l),(8,vI (l.length : Int)),(9,vI s53.1)],[(500000,w_Rect 86 s53.2)]⟩ (zB (zC ?_))
 refine z7 ?_
 obtain ⟨x73,hx73,h⟩:=bindS h
 refine evs_op (st_idx (c:=c_Rect) (l:=l) (i:=s53.1) (kd:=.i64) (sz:=4) (by kernel_rfl) hx73 rfl) (z1 3 ⟨[(1,.vptr [(.fn 146 [])] 0),(4,ro 500000 86),(6,.ptr 6 0),(7,s_Rect l),(8,vI (l.length : Int)),(9,vI s53.1)],[(6,.box (c_Rect x73)),(500000,w_Rect 86 s53.2)]⟩ (zD ?_))
 refine zA 3 ?_
 obtain ⟨r76,hr76,h⟩:=bindS h
 refine evs_callS [] [(0,700150)] [] (by kernel_rfl) (W.flat_quarter_1_ok hr76) (by kernel_rfl) (by kernel_rfl) (.inl rfl) (zA 1 ?_)
 obtain ⟨l77,hl77,h⟩:=bindS h
 refine evs_op (st_app (c:=c_Rect) (l:=s53.2) (l2:=[r76]) (x:=(s_Rect [r76])) (g:=500000) (e:=86) (sz:=4) (d:=18) (by kernel_rfl) (by kernel_rfl) (by kernel_rfl) (by kernel_rfl) (fun _=>rfl) rfl hl77) (z6 1 fun τ hτ=>?_)
 refine bl_normal (zE hτ ⟨[(1,.vptr [(.fn 146 [])] 0),(4,ro 500000 86),(7,s_Rect l),(8,vI (l.length : Int)),(9,vI s53.1)],[(500000,w_Rect 86 l77)]⟩ (zD ?_))
 refine z6 2 fun τ hτ=>?_
 obtain rfl:=osi h
 exact zH hτ
 replace h:=iteF hb h
 refine zL 0 fun τ hτ=>?_
 refine th_exit ?_
 obtain rfl:=osi h
 exact zF hτ
 intro x
 rfl
 intro τ hτ
 refine zQ (zE hτ ⟨[(4,ro 500000 86)],[(500000,w_Rect 86 x78)]⟩ (z8 2 ⟨[(3,ro 500000 86)],[(500000,w_Rect 86 x78)]⟩ fun τ hτ=>?_))
 obtain rfl:=osi h
 exact rk_ret hτ [(3,ro 0 86)] (subR_prep [] [(500000,0)] (by kernel_rfl) rfl rfl (by kernel_rfl)) (by kernel_rfl)
theorem W.flat_quarter_2_ok {s0 : Segment} {r : Segment} (h : flat_quarter_2 s0 = some r) : PC G.P 147 [(.agg (c_Segment s0))] [] (.agg (c_Segment r)) [(0,.box [(vI (ineg s0.Y1)),(vI s0.X1),(vI (ineg s0.Y2)),(vI s0.X2)])]:=by
 refine zU G Tryz.func147 (zK ⟨[(0,.agg (c_Segment s0))],[]⟩ (z3 2 ⟨[(1,.ptr 1 0),(2,.ptr 2 0)],[(1,.box (c_Segment s0)),(2,.box [(vI 0),(vI 0),(vI 0),(vI 0)])]⟩ ?_))
 refine z8 12 ⟨[(2,.ptr 2 0)],[(2,.box [(vI (ineg s0.Y1)),(vI s0.X1),(vI (ineg s0.Y2)),(vI s0.X2)])]⟩ fun τ hτ=>?_
 obtain rfl:=osi h
 exact rk_ret hτ [(2,.ptr 0 0)] (subR_prep [] [(2,0)] (by kernel_rfl) rfl rfl (by kernel_rfl)) (by kernel_rfl)
end Go.Proofs.YtonmponhpfpokaaGreatR
