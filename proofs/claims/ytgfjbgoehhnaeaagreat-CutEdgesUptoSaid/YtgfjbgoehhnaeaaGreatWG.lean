/- Each Go function does what its model says; written by a program out of the translation. -/
import Derived.Test.YtgfjbgoehhnaeaaGreatBase
import Derived.Test.YtgfjbgoehhnaeaaGreatCzMG
set_option linter.unusedVariables false
set_option linter.unusedSimpArgs false
set_option linter.unusedSectionVars false
namespace Go.Proofs.YtgfjbgoehhnaeaaGreat
open Go Go.VI Go.SM Go.Proofs
set_option maxRecDepth 100000
set_option maxHeartbeats 4000000
theorem W.strings_Contains_ok {s sub r} (h : strings_Contains s sub=some r) : PC G.P 142 [vS s,vS sub] [] (vB r) []:=by
 unfold strings_Contains at h
 split at h
 rename_i hs
 injection h with h; subst h
 exact pc_pure (args:=[.string s,.string sub]) (by kernel_rfl) 0 (by kernel_rfl) fun m w hm=>Any.strings_Contains Tryz.contains_lays s sub m w hs hm
 cases h
theorem W.part_ValidName_ok {s0 r} (h : part_ValidName s0=some r) : PC G.P 84 [(vS s0)] [] (vB r) []:=by
 refine zU G Tryz.func84 (yK [0] [] (y3 1 [0] [] (zB (zB ?_))))
 obtain ⟨j8,hj8,h⟩:=bindS h
 refine zT ⟨[(0,vS s0),(22,vB j8)],[]⟩ ?_ fun τ hτ=>?_
 replace h:=hj8
 refine zA 4 (qB h [0,8] [] [8] (fun h=>?_) fun h=>?_)
 refine z6 14 fun τ hτ=>?_
 cases h
 exact zG hτ
 refine zA 5 (qB h [0,13] [] [13] (fun h=>?_) fun h=>?_)
 refine z6 9 fun τ hτ=>?_
 cases h
 exact zG hτ
 refine zA 1 ?_
 obtain ⟨x9,hx9,h⟩:=bindS h
 refine evs_at (at_sidx (s:=s0) (i:=0) (kd:=.i64) (by kernel_rfl) hx9) (zA 3 (qB h [0,18] [] [18] (fun h=>?_) fun h=>?_))
 refine z6 4 fun τ hτ=>?_
 cases h
 exact zG hτ
 refine zA 1 ?_
 obtain ⟨x10,hx10,h⟩:=bindS h
 refine evs_at (at_sidx (s:=s0) (i:=0) (kd:=.i64) (by kernel_rfl) hx10) (z6 2 fun τ hτ=>?_)
 cases h
 exact zG hτ
 refine yE hτ [0,22] [] (qc h (fun h=>?_) fun h=>?_)
 refine z8 1 ⟨[(2,vB false)],[]⟩ fun τ hτ=>?_
 refine th_ret ?_
 obtain rfl:=osi h
 exact zV hτ [(2,vB false)]
 refine y4 [0] [] (zB (y3 3 [0,24,25] [] (zC ?_)))
 obtain ⟨x54,hx54,h⟩:=bindS h
 refine ql hx54 (fun s41=>⟨[(0,vS s0),(24,vI (s0.size : Int)),(25,vI s41)],[]⟩) (fun x54=>match x54 with | .inl j55=>(.ret,⟨[(2,vB false)],[]⟩) | .inr j56=>(.exit 0,⟨[(0,vS s0)],[]⟩)) qH (fun s41 r h=>?_) (fun τ hτ=>?_) (hout:=(by intro x; rcases x with _ | _ <;> rfl))
 refine y3 1 [0,24,25,26] [] (zB (qc h (fun h=>?_) fun h=>?_))
 refine y4 [0,24,25] [] (zB (zC (y3 2 [0,3,24,25] [] (z7 (zA 2 ?_)))))
 obtain ⟨x52,hx52,h⟩:=bindS h
 refine evs_at (at_sidx (s:=s0) (i:=s41) (kd:=.i64) (by kernel_rfl) hx52) (y1 1 [0,4,24,25] [] (zB ?_))
 obtain ⟨j53,hj53,h⟩:=bindS h
 refine zT ⟨[(0,vS s0),(24,vI (s0.size : Int)),(25,vI s41),(44,vB j53)],[]⟩ ?_ fun τ hτ=>?_
 replace h:=hj53
 refine zA 3 (qB h [0,4,24,25,33] [] [33] (fun h=>?_) fun h=>?_)
 refine zA 7 (qB h [0,4,24,25,37,40] [] [40] (fun h=>?_) fun h=>?_)
 refine z6 4 fun τ hτ=>?_
 cases h
 exact zG hτ
 refine z6 4 fun τ hτ=>?_
 cases h
 exact zG hτ
 refine zA 4 (qB h [0,4,24,25,37] [] [37] (fun h=>?_) fun h=>?_)
 refine zA 3 (qB h [0,4,24,25,37,40] [] [40] (fun h=>?_) fun h=>?_)
 refine z6 4 fun τ hτ=>?_
 cases h
 exact zG hτ
 refine z6 4 fun τ hτ=>?_
 cases h
 exact zG hτ
 refine z6 7 fun τ hτ=>?_
 cases h
 exact zG hτ
 refine yE hτ [0,24,25,44] [] (qc h (fun h=>?_) fun h=>?_)
 refine z8 1 ⟨[(2,vB false)],[]⟩ fun τ hτ=>?_
 refine bl_ret (th_ret ?_)
 cases h
 exact zF hτ
 refine zM fun τ hτ=>?_
 refine bl_normal (yE hτ [0,24,25] [] (zD (z6 2 fun τ hτ=>?_)))
 cases h
 exact zH hτ
 refine zL 0 fun τ hτ=>?_
 refine th_exit ?_
 cases h
 exact zF hτ
 rcases x54 with j55 | j56
 refine bl_ret (th_ret ?_)
 obtain rfl:=osi h
 exact zV hτ [(2,vB false)]
 refine zQ (yE hτ [0] [] (z7 (zA 1 ?_)))
 obtain ⟨s60,hs60,h⟩:=bindS h
 refine evs_op (st_cat (a:=(ByteArray.mk #[32])) (b:=s0) (by kernel_rfl) hs60) ?_
 obtain ⟨s61,hs61,h⟩:=bindS h
 refine evs_op (st_cat (a:=s60) (b:=(ByteArray.mk #[32])) (by kernel_rfl) hs61) ?_
 obtain ⟨r62,hr62,h⟩:=bindS h
 refine qP (W.strings_Contains_ok hr62) (y1 2 [2] [] (zN fun τ hτ=>?_))
 obtain rfl:=osi h
 exact zV hτ [(2,vB (!r62))]
theorem W.nest_from_ok {n lo hi r} (h : nest_from n lo hi=some r) : PC G.P 86 [(vI n),(vI lo),(vI hi)] [] (vB r) []:=by
 refine zU G Tryz.func86 (yK [0,1,2] [] (y3 1 [0,1,2] [] (zB ?_)))
 obtain ⟨j1,hj1,h⟩:=bindS h
 refine zT ⟨[(6,vB j1)],[]⟩ ?_ fun τ hτ=>?_
 replace h:=hj1
 refine zA 4 (qB h [0,2,10] [] [10] (fun h=>?_) fun h=>?_)
 refine z6 5 fun τ hτ=>?_
 cases h
 exact zG hτ
 refine z6 5 fun τ hτ=>?_
 cases h
 exact zG hτ
 refine yE hτ [6] [] (zN fun τ hτ=>?_)
 obtain rfl:=osi h
 exact zV hτ [(6,vB j1)]
theorem W.nest_plain_ok {gauge grain r} (h : nest_plain gauge grain=some r) : PC G.P 85 [(vI gauge),(vI grain)] [] (vB r) []:=by
 refine zU G Tryz.func85 (yK [0,1] [] (y3 1 [0,1] [] (zB ?_)))
 obtain ⟨j3,hj3,h⟩:=bindS h
 refine zT ⟨[(4,vB j3)],[]⟩ ?_ fun τ hτ=>?_
 replace h:=hj3
 refine zA 1 ?_
 obtain ⟨r4,hr4,h⟩:=bindS h
 refine qP (W.nest_from_ok hr4) (zA 1 (qB h [1,7] [] [7] (fun h=>?_) fun h=>?_))
 refine zA 1 ?_
 obtain ⟨r5,hr5,h⟩:=bindS h
 refine qP (W.nest_from_ok hr5) (z6 2 fun τ hτ=>?_)
 cases h
 exact zG hτ
 refine z6 4 fun τ hτ=>?_
 cases h
 exact zG hτ
 refine yE hτ [4] [] (zN fun τ hτ=>?_)
 obtain rfl:=osi h
 exact zV hτ [(4,vB j3)]
theorem W.geom_within_ok {n most r} (h : geom_within n most=some r) : PC G.P 144 [(vI n),(vI most)] [] (vB r) []:=by
 refine zU G Tryz.func144 (yK [0,1] [] (y3 1 [0,1] [] (zB ?_)))
 obtain ⟨j1,hj1,h⟩:=bindS h
 refine zT ⟨[(4,vB j1)],[]⟩ ?_ fun τ hτ=>?_
 replace h:=hj1
 refine zA 5 (qB h [0,1,9] [] [9] (fun h=>?_) fun h=>?_)
 refine z6 5 fun τ hτ=>?_
 cases h
 exact zG hτ
 refine z6 5 fun τ hτ=>?_
 cases h
 exact zG hτ
 refine yE hτ [4] [] (zN fun τ hτ=>?_)
 obtain rfl:=osi h
 exact zV hτ [(4,vB j1)]
theorem W.geom_ValidRect_1_ok {x0 w r} (h : geom_ValidRect_1 x0 w=some r) : PC G.P 143 [(vI x0),(vI w)] [] (vB r) []:=by
 refine zU G Tryz.func143 (yK [0,1] [] (y3 1 [0,1] [] (zB ?_)))
 obtain ⟨j2,hj2,h⟩:=bindS h
 refine zT ⟨[(4,vB j2)],[]⟩ ?_ fun τ hτ=>?_
 replace h:=hj2
 refine zA 1 ?_
 obtain ⟨r3,hr3,h⟩:=bindS h
 refine qP (W.geom_within_ok hr3) (zA 1 (qB h [0,1,7] [] [7] (fun h=>?_) fun h=>?_))
 refine zA 4 (qB h [0,1,11] [] [11] (fun h=>?_) fun h=>?_)
 refine zA 4 (qB h [0,1,15] [] [15] (fun h=>?_) fun h=>?_)
 refine z6 6 fun τ hτ=>?_
 cases h
 exact zG hτ
 refine z6 6 fun τ hτ=>?_
 cases h
 exact zG hτ
 refine z6 10 fun τ hτ=>?_
 cases h
 exact zG hτ
 refine z6 14 fun τ hτ=>?_
 cases h
 exact zG hτ
 refine yE hτ [4] [] (zN fun τ hτ=>?_)
 obtain rfl:=osi h
 exact zV hτ [(4,vB j2)]
theorem W.geom_ValidRect_ok {r0 r} (h : geom_ValidRect r0=some r) : PC G.P 89 [(.agg (c_Rect r0))] [] (vB r) []:=by
 refine zU G Tryz.func89 (yK [0] [] (y3 2 [1] [1] (y3 1 [1,3] [1] (zB ?_))))
 obtain ⟨j3,hj3,h⟩:=bindS h
 refine zT ⟨[(2,vB j3)],[]⟩ ?_ fun τ hτ=>?_
 replace h:=hj3
 refine zA 5 ?_
 obtain ⟨r4,hr4,h⟩:=bindS h
 refine qP (W.geom_ValidRect_1_ok hr4) (zA 1 (qB h [1,3,10] [1] [10] (fun h=>?_) fun h=>?_))
 refine zA 5 ?_
 obtain ⟨r5,hr5,h⟩:=bindS h
 refine qP (W.geom_ValidRect_1_ok hr5) (z6 2 fun τ hτ=>?_)
 cases h
 exact zG hτ
 refine z6 8 fun τ hτ=>?_
 cases h
 exact zG hτ
 refine yE hτ [2] [] (zN fun τ hτ=>?_)
 obtain rfl:=osi h
 exact zV hτ [(2,vB j3)]
theorem W.nest_valid_ok {l r} (h : nest_valid l=some r) : PC G.P 87 [(.sl (List.map c_Rect l))] [] (vB r) []:=by
 refine zU G Tryz.func87 (yK [0] [] (y3 1 [0] [] (zB (z7 (zA 1 (qL c_Rect l ?_))))))
 refine y1 1 [5,6,7] [] (zC ?_)
 obtain ⟨x56,hx56,h⟩:=bindS h
 refine ql hx56 (fun s39=>⟨[(5,s_Rect l),(6,vI (l.length : Int)),(7,vI s39)],[]⟩) (fun x56=>match x56 with | .inl j57=>(.ret,⟨[(2,vB false)],[]⟩) | .inr j58=>(.exit 0,⟨[],[]⟩)) qH (fun s39 r h=>?_) (fun τ hτ=>?_) (hout:=(by intro x; rcases x with _ | _ <;> rfl))
 refine y3 1 [5,6,7,8] [] (zB (qc h (fun h=>?_) fun h=>?_))
 refine y4 [5,6,7] [] (zB (zC (z7 ?_)))
 obtain ⟨x53,hx53,h⟩:=bindS h
 refine qX c_Rect hx53 (y1 3 [4,5,6,7] [4] (z7 (zA 1 ?_)))
 obtain ⟨r55,hr55,h⟩:=bindS h
 refine qP (W.geom_ValidRect_ok hr55) (y1 1 [5,6,7,13] [] (qc h (fun h=>?_) fun h=>?_))
 refine z8 1 ⟨[(2,vB false)],[]⟩ fun τ hτ=>?_
 refine bl_ret (th_ret ?_)
 cases h
 exact zF hτ
 refine zM fun τ hτ=>?_
 refine bl_normal (yE hτ [5,6,7] [] (zD (z6 2 fun τ hτ=>?_)))
 cases h
 exact zH hτ
 refine zL 0 fun τ hτ=>?_
 refine th_exit ?_
 cases h
 exact zF hτ
 rcases x56 with j57 | j58
 refine bl_ret (th_ret ?_)
 obtain rfl:=osi h
 exact zV hτ [(2,vB false)]
 refine zQ (yE hτ [] [] (z8 1 ⟨[(2,vB true)],[]⟩ fun τ hτ=>?_))
 obtain rfl:=osi h
 exact zV hτ [(2,vB true)]
theorem W.nest_inner_ok {s0 margin r} (h : nest_inner s0 margin=some r) : PC G.P 88 [(.agg (c_Sheet s0)),(vI margin)] [] (.tup [(.agg (c_Rect r.1)),(vB r.2)]) [(0,.box [(vI margin),(vI margin),(vI (isub s0.Width (imul 2 margin))),(vI (isub s0.Height (imul 2 margin)))])]:=by
 refine zU G Tryz.func88 (yK [0,1] [] (y3 3 [1,2,4] [2,4] (y3 15 [4,6] [4,6] (zB (qM 3 (dN 2 ?_))))))
 obtain ⟨r3,hr3,h⟩:=bindS h
 refine dC [] (W.geom_ValidRect_ok hr3) (dE (oN 2 (zO fun τ hτ=>?_)))
 refine yE hτ [4,5] [4] (zN fun τ hτ=>?_)
 obtain rfl:=osi h
 exact qW hτ [(4,.ptr 0 0),(5,vB r3)] (sp [] [(4,0)])
theorem W.geom_Inside_ok {a b r} (h : geom_Inside a b=some r) : PC G.P 42 [(.agg (c_Rect a)),(.agg (c_Rect b))] [] (vB r) []:=by
 refine zU G Tryz.func42 (yK [0,1] [] (y3 3 [2,3] [2,3] (zB ?_)))
 obtain ⟨j3,hj3,h⟩:=bindS h
 refine zT ⟨[(4,vB j3)],[]⟩ ?_ fun τ hτ=>?_
 replace h:=hj3
 refine zA 1 ?_
 obtain ⟨r4,hr4,h⟩:=bindS h
 refine qP (W.geom_ValidRect_ok hr4) (zA 1 (qB h [2,3,7] [2,3] [7] (fun h=>?_) fun h=>?_))
 refine zA 1 ?_
 obtain ⟨r5,hr5,h⟩:=bindS h
 refine qP (W.geom_ValidRect_ok hr5) (zA 2 (qB h [2,3,11] [2,3] [11] (fun h=>?_) fun h=>?_))
 refine zA 7 (qB h [2,3,18] [2,3] [18] (fun h=>?_) fun h=>?_)
 refine zA 13 (qB h [2,3,31] [2,3] [31] (fun h=>?_) fun h=>?_)
 refine zA 7 (qB h [2,3,38] [2,3] [38] (fun h=>?_) fun h=>?_)
 refine z6 13 fun τ hτ=>?_
 cases h
 exact zG hτ
 refine z6 13 fun τ hτ=>?_
 cases h
 exact zG hτ
 refine z6 20 fun τ hτ=>?_
 cases h
 exact zG hτ
 refine z6 33 fun τ hτ=>?_
 cases h
 exact zG hτ
 refine z6 40 fun τ hτ=>?_
 cases h
 exact zG hτ
 refine z6 44 fun τ hτ=>?_
 cases h
 exact zG hτ
 refine yE hτ [4] [] (zN fun τ hτ=>?_)
 obtain rfl:=osi h
 exact zV hτ [(4,vB j3)]
theorem W.nest_ValidateSheet_ok {s0 r} (h : nest_ValidateSheet s0=some r) : PC G.P 40 [(.agg (c_Sheet s0))] [] (vI r) []:=by
 refine zU G Tryz.func40 (yK [0] [] (y3 2 [1] [1] (zB (zC (zB ?_)))))
 obtain ⟨j21,hj21,h⟩:=bindS h
 refine zT ⟨[(1,.ptr 500000 0),(9,vB j21)],[(500000,.box (c_Sheet s0))]⟩ ?_ fun τ hτ=>?_
 replace h:=hj21
 refine zA 2 ?_
 obtain ⟨r22,hr22,h⟩:=bindS h
 refine qP (W.part_ValidName_ok hr22) (zA 2 (zS r22 (fun b0=>⟨[(1,.ptr 1 0),(14,vB (!b0))],[(1,.box (c_Sheet s0))]⟩) (fun hb=>?_) fun hb=>?_))
 replace h:=iteT hb h
 refine zA 2 ?_
 obtain ⟨r23,hr23,h⟩:=bindS h
 refine qP (W.part_ValidName_ok hr23) (z6 3 fun τ hτ=>?_)
 cases h
 exact leafC hτ (sp [] [(1,500000)])
 replace h:=iteF hb h
 refine z6 6 fun τ hτ=>?_
 cases h
 exact leafC hτ (sp [] [(1,500000)])
 refine yE hτ [1,9] [500000] (qc h (fun h=>?_) fun h=>?_)
 refine z8 1 ⟨[(2,vI 2)],[]⟩ fun τ hτ=>?_
 refine bl_ret (th_ret ?_)
 obtain rfl:=osi h
 exact zV hτ [(2,vI 2)]
 refine zB ?_
 obtain ⟨j27,hj27,h⟩:=bindS h
 refine zT ⟨[(1,.ptr 500000 0),(20,vB j27)],[(500000,.box (c_Sheet s0))]⟩ ?_ fun τ hτ=>?_
 replace h:=hj27
 refine zA 4 ?_
 obtain ⟨r28,hr28,h⟩:=bindS h
 refine qP (W.nest_plain_ok hr28) (zA 2 (zS r28 (fun b0=>⟨[(1,.ptr 500000 0),(27,vB (!b0))],[(500000,.box (c_Sheet s0))]⟩) (fun hb=>?_) fun hb=>?_))
 replace h:=iteT hb h
 refine zA 2 ?_
 obtain ⟨r29,hr29,h⟩:=bindS h
 refine qP (W.nest_from_ok hr29) (zA 3 (zS r29 (fun b0=>⟨[(1,.ptr 500000 0),(33,vB (!b0))],[(500000,.box (c_Sheet s0))]⟩) (fun hb=>?_) fun hb=>?_))
 replace h:=iteT hb h
 refine zA 2 ?_
 obtain ⟨r30,hr30,h⟩:=bindS h
 refine qP (W.nest_from_ok hr30) (z6 3 fun τ hτ=>?_)
 cases h
 exact zG hτ
 replace h:=iteF hb h
 refine z6 6 fun τ hτ=>?_
 cases h
 exact zG hτ
 replace h:=iteF hb h
 refine z6 12 fun τ hτ=>?_
 cases h
 exact zG hτ
 refine yE hτ [1,20] [500000] (qc h (fun h=>?_) fun h=>?_)
 refine z8 1 ⟨[(2,vI 1)],[]⟩ fun τ hτ=>?_
 refine bl_ret (th_ret ?_)
 obtain rfl:=osi h
 exact zV hτ [(2,vI 1)]
 refine zB ?_
 obtain ⟨j31,hj31,h⟩:=bindS h
 refine zT ⟨[(1,.ptr 500000 0),(39,vB j31)],[(500000,.box (c_Sheet s0))]⟩ ?_ fun τ hτ=>?_
 replace h:=hj31
 refine zA 2 (qL c_Rect s0.Clamps (zA 2 (qB h [1,44] [500000] [44] (fun h=>?_) fun h=>?_)))
 refine z6 6 fun τ hτ=>?_
 cases h
 exact zG hτ
 refine zA 2 (qL c_Rect s0.Used (z6 3 fun τ hτ=>?_))
 cases h
 exact zG hτ
 refine yE hτ [1,39] [500000] (qc h (fun h=>?_) fun h=>?_)
 refine z8 1 ⟨[(2,vI 4)],[]⟩ fun τ hτ=>?_
 refine bl_ret (th_ret ?_)
 obtain rfl:=osi h
 exact zV hτ [(2,vI 4)]
 refine zB ?_
 obtain ⟨j34,hj34,h⟩:=bindS h
 refine zT ⟨[(1,.ptr 500000 0),(50,vB j34)],[(500000,.box (c_Sheet s0))]⟩ ?_ fun τ hτ=>?_
 replace h:=hj34
 refine zA 2 ?_
 obtain ⟨r35,hr35,h⟩:=bindS h
 refine qP (W.nest_valid_ok hr35) (zA 2 (zS r35 (fun b0=>⟨[(1,.ptr 500000 0),(55,vB (!b0))],[(500000,.box (c_Sheet s0))]⟩) (fun hb=>?_) fun hb=>?_))
 replace h:=iteT hb h
 refine zA 2 ?_
 obtain ⟨r36,hr36,h⟩:=bindS h
 refine qP (W.nest_valid_ok hr36) (z6 3 fun τ hτ=>?_)
 cases h
 exact zG hτ
 replace h:=iteF hb h
 refine z6 6 fun τ hτ=>?_
 cases h
 exact zG hτ
 refine yE hτ [1,50] [500000] (qc h (fun h=>?_) fun h=>?_)
 refine z8 1 ⟨[(2,vI 1)],[]⟩ fun τ hτ=>?_
 refine bl_ret (th_ret ?_)
 obtain rfl:=osi h
 exact zV hτ [(2,vI 1)]
 refine zM fun τ hτ=>?_
 refine bl_normal (yE hτ [1] [500000] (z7 (zA 1 ?_)))
 obtain ⟨r38,hr38,h⟩:=bindS h
 refine qC [] [(0,700050)] (W.nest_inner_ok hr38) (y1 6 [1,3] [3,500000] (zB (z7 (zA 5 (qL (cS c_Rect) [s0.Clamps,s0.Used] (y1 1 [3,70,71,72] [3] ?_))))))
 refine zC ?_
 obtain ⟨x418,hx418,h⟩:=bindS h
 refine ql hx418 (fun s293=>⟨[(3,.ptr 500000 0),(70,.sl (List.map (cS c_Rect) [s0.Clamps,s0.Used])),(71,vI ([s0.Clamps,s0.Used].length : Int)),(72,vI s293)],[(500000,.box (c_Rect r38.1))]⟩) (fun x418=>match x418 with | .inl j419=>(.ret,⟨[(2,vI 13)],[]⟩) | .inr j420=>(.exit 1,⟨[],[]⟩)) (sp [] [(3,500000)]) (fun s293 r h=>?_) (fun τ hτ=>?_) (hout:=(by intro x; rcases x with _ | _ <;> rfl))
 refine y3 1 [3,70,71,72,73] [500000] (zB (qc h (fun h=>?_) fun h=>?_))
 refine y4 [3,70,71,72] [500000] (zB (zC (z7 ?_)))
 obtain ⟨x388,hx388,h⟩:=bindS h
 refine qX (cS c_Rect) hx388 (y1 2 [3,6,70,71,72] [500000] (z7 (zA 1 (qL c_Rect x388 (y1 1 [3,70,71,72,76,77,78] [500000] (zC ?_))))))
 obtain ⟨x415,hx415,h⟩:=bindS h
 refine ql hx415 (fun s398=>⟨[(3,.ptr 500000 0),(70,.sl (List.map (cS c_Rect) [s0.Clamps,s0.Used])),(71,vI ([s0.Clamps,s0.Used].length : Int)),(72,vI s293),(76,s_Rect x388),(77,vI (x388.length : Int)),(78,vI s398)],[(500000,.box (c_Rect r38.1))]⟩) (fun x415=>match x415 with | .inl j416=>(.ret,⟨[(2,vI 13)],[]⟩) | .inr j417=>(.exit 3,⟨[(3,.ptr 500000 0),(70,.sl (List.map (cS c_Rect) [s0.Clamps,s0.Used])),(71,vI ([s0.Clamps,s0.Used].length : Int)),(72,vI s293)],[(500000,.box (c_Rect r38.1))]⟩)) qH (fun s398 r h=>?_) (fun τ hτ=>?_) (hout:=(by intro x; rcases x with _ | _ <;> rfl))
 refine y3 1 [3,70,71,72,76,77,78,79] [500000] (zB (qc h (fun h=>?_) fun h=>?_))
 refine y4 [3,70,71,72,76,77,78] [500000] (zB (zC (z7 ?_)))
 obtain ⟨x412,hx412,h⟩:=bindS h
 refine qX c_Rect hx412 (y1 3 [3,8,70,71,72,76,77,78] [8,500000] (z7 (zA 2 ?_)))
 obtain ⟨r414,hr414,h⟩:=bindS h
 refine qP (W.geom_Inside_ok hr414) (y1 1 [3,70,71,72,76,77,78,85] [500000] (qc h (fun h=>?_) fun h=>?_))
 refine z8 1 ⟨[(2,vI 13)],[]⟩ fun τ hτ=>?_
 refine bl_ret (th_ret ?_)
 cases h
 exact zF hτ
 refine zM fun τ hτ=>?_
 refine bl_normal (yE hτ [3,70,71,72,76,77,78] [500000] (zD (z6 2 fun τ hτ=>?_)))
 cases h
 exact zH hτ
 refine zL 3 fun τ hτ=>?_
 refine th_exit ?_
 cases h
 exact zF hτ
 rcases x415 with j416 | j417
 refine bl_ret (bl_ret (th_ret ?_))
 cases h
 exact zF hτ
 refine zQ (bl_normal (yE hτ [3,70,71,72] [500000] (zD (z6 2 fun τ hτ=>?_))))
 cases h
 exact zH hτ
 refine zL 1 fun τ hτ=>?_
 refine th_exit ?_
 cases h
 exact zF hτ
 rcases x418 with j419 | j420
 refine bl_ret (th_ret ?_)
 obtain rfl:=osi h
 exact zV hτ [(2,vI 13)]
 refine zQ (yE hτ [] [] (z8 1 ⟨[(2,vI 0)],[]⟩ fun τ hτ=>?_))
 obtain rfl:=osi h
 exact zV hτ [(2,vI 0)]
theorem W.geom_Overlap_ok {a b r} (h : geom_Overlap a b=some r) : PC G.P 94 [(.agg (c_Rect a)),(.agg (c_Rect b))] [] (vB r) []:=by
 refine zU G Tryz.func94 (yK [0,1] [] (y3 3 [2,3] [2,3] (zB ?_)))
 obtain ⟨j3,hj3,h⟩:=bindS h
 refine zT ⟨[(4,vB j3)],[]⟩ ?_ fun τ hτ=>?_
 replace h:=hj3
 refine zA 1 ?_
 obtain ⟨r4,hr4,h⟩:=bindS h
 refine qP (W.geom_ValidRect_ok hr4) (zA 1 (qB h [2,3,7] [2,3] [7] (fun h=>?_) fun h=>?_))
 refine zA 1 ?_
 obtain ⟨r5,hr5,h⟩:=bindS h
 refine qP (W.geom_ValidRect_ok hr5) (zA 2 (qB h [2,3,11] [2,3] [11] (fun h=>?_) fun h=>?_))
 refine zA 10 (qB h [2,3,21] [2,3] [21] (fun h=>?_) fun h=>?_)
 refine zA 10 (qB h [2,3,31] [2,3] [31] (fun h=>?_) fun h=>?_)
 refine zA 10 (qB h [2,3,41] [2,3] [41] (fun h=>?_) fun h=>?_)
 refine z6 10 fun τ hτ=>?_
 cases h
 exact zG hτ
 refine z6 10 fun τ hτ=>?_
 cases h
 exact zG hτ
 refine z6 20 fun τ hτ=>?_
 cases h
 exact zG hτ
 refine z6 30 fun τ hτ=>?_
 cases h
 exact zG hτ
 refine z6 40 fun τ hτ=>?_
 cases h
 exact zG hτ
 refine z6 44 fun τ hτ=>?_
 cases h
 exact zG hτ
 refine yE hτ [4] [] (zN fun τ hτ=>?_)
 obtain rfl:=osi h
 exact zV hτ [(4,vB j3)]
theorem W.nest_touch_ok {a b r} (h : nest_touch a b=some r) : PC G.P 175 [(.agg (c_Rect a)),(.agg (c_Rect b))] [] (vB r) []:=by
 refine zU G Tryz.func175 (yK [0,1] [] (y3 3 [2,3] [2,3] (y3 18 [2,3,5] [2,3] (y3 18 [5,6] [] (zB ?_)))))
 obtain ⟨j1,hj1,h⟩:=bindS h
 refine zT ⟨[(4,vB j1)],[]⟩ ?_ fun τ hτ=>?_
 replace h:=hj1
 refine zA 3 (qB h [5,6,43] [] [43] (fun h=>?_) fun h=>?_)
 refine zA 4 (qB h [5,6,47] [] [47] (fun h=>?_) fun h=>?_)
 refine z6 8 fun τ hτ=>?_
 cases h
 exact zG hτ
 refine zA 3 (qB h [5,47,50] [] [50] (fun h=>?_) fun h=>?_)
 refine z6 5 fun τ hτ=>?_
 cases h
 exact zG hτ
 refine z6 5 fun τ hτ=>?_
 cases h
 exact zG hτ
 refine zA 7 (qB h [5,47,50] [] [50] (fun h=>?_) fun h=>?_)
 refine z6 5 fun τ hτ=>?_
 cases h
 exact zG hτ
 refine z6 5 fun τ hτ=>?_
 cases h
 exact zG hτ
 refine yE hτ [4] [] (zN fun τ hτ=>?_)
 obtain rfl:=osi h
 exact zV hτ [(4,vB j1)]
theorem W.nest_connected_ok {l r} (h : nest_connected l=some r) : PC G.P 145 [(.sl (List.map c_Rect l))] [] (vB r) []:=by
 refine zU G Tryz.func145 (yK [0] [] (y3 1 [0] [] (z7 (zA 1 (qL c_Rect l ?_)))))
 obtain ⟨l2,hl2,h⟩:=bindS h
 refine evs_op (st_mk (c:=cB) (z:=false) (n:=(l.length : Int)) (e:=4) (d:=11) (zs:=[(vB false)]) (k1:=.i64) (k2:=.i64) (by kernel_rfl) rfl hl2) (y1 1 [0,3] [11] (z7 (zA 1 ?_)))
 obtain ⟨x4,hx4,h⟩:=bindS h
 refine qI cB hx4 (qS cB true hx4 (zP fun τ hτ=>?_))
 refine yE hτ [0,3] [11] (z7 (evs_at (at_build (e:=3) (d:=14) (es:=(List.map cI [0])) (by kernel_rfl)) (evs_toTl (g:=14) (e:=3) (l:=[0]) (by kernel_rfl) (by kernel_rfl) (by kernel_rfl) (y1 1 [0,3,4] [11,14] (zB (zC ?_))))))
 obtain ⟨x670,hx670,h⟩:=bindS h
 refine ql hx670 (fun s449=>⟨[(0,s_Rect l),(3,ro 500000 4),(4,ro 500001 3)],[(500000,wB 4 s449.1),(500001,.tl 3 s449.2)]⟩) (fun x670=>(.exit 0,⟨[(3,ro 500000 4)],[(500000,wB 4 x670)]⟩)) (sp [] [(11,500000),(14,500001)]) (fun s449 r h=>?_) fun τ hτ=>?_
 refine zB (z7 (zA 1 (evs_at (at_lenT (g:=500001) (e:=3) (l:=s449.2) (by kernel_rfl) (by kernel_rfl)) (y1 1 [0,3,4,17] [500000,500001] (qc h (fun h=>?_) fun h=>?_)))))
 refine y4 [0,3,4] [500000,500001] (zC (z7 (zA 1 ?_)))
 obtain ⟨x561,hx561,h⟩:=bindS h
 refine evs_getT (g:=500001) (e:=3) (d1:=19) (d2:=20) (l:=s449.2) (i:=0) (kd:=.i64) (by kernel_rfl) (by kernel_rfl) (by kernel_rfl) hx561 (y1 1 [0,3,4,5] [500000,500001] (z7 (zA 1 ?_)))
 obtain ⟨hb1,h⟩:=iteN h
 refine evs_at (at_dropT (g:=500001) (e:=3) (n:=1) (kd:=.i64) (l:=s449.2) (by kernel_rfl) (by kernel_rfl) (by kernel_rfl) hb1) (y1 1 [0,3,4,5] [500000,500001] (z7 (zA 1 (qL c_Rect l (y1 1 [0,3,4,5,24,25] [500000,500001] (zC ?_))))))
 obtain ⟨x669,hx669,h⟩:=bindS h
 refine ql hx669 (fun s598=>⟨[(0,s_Rect l),(3,ro 500000 4),(4,ro 500001 3),(5,vI x561),(24,vI (l.length : Int)),(25,vI s598.1)],[(500000,wB 4 s598.2.1),(500001,.tl 3 s598.2.2)]⟩) (fun x669=>(.exit 2,⟨[(0,s_Rect l),(3,ro 500000 4),(4,ro 500001 3)],[(500000,wB 4 x669.1),(500001,.tl 3 x669.2)]⟩)) qH (fun s598 r h=>?_) fun τ hτ=>?_
 refine y3 1 [0,3,4,5,24,25,26] [500000,500001] (zB (qc h (fun h=>?_) fun h=>?_))
 refine y4 [0,3,4,5,24,25] [500000,500001] (sem_seqJ (fun (j651 : (List Bool)×(List Int))=>⟨[(0,s_Rect l),(3,ro 500000 4),(4,ro 500001 3),(5,vI x561),(24,vI (l.length : Int)),(25,vI s598.1)],[(500000,wB 4 j651.1),(500001,.tl 3 j651.2)]⟩) (nest_connected_k1 s598) r (by kernel_rfl) (fun j651 h=>?_) ?_)
 refine zD (z6 2 fun τ hτ=>?_)
 cases h
 exact zH hτ
 refine zC (y3 2 [0,3,4,5,6,24,25] [500000,500001] (zB ?_))
 obtain ⟨j660,hj660,h⟩:=bindS h
 refine sem_drawP ⟨[(0,s_Rect l),(3,ro 500000 4),(4,ro 500001 3),(5,vI x561),(6,vI s598.1),(24,vI (l.length : Int)),(25,vI s598.1),(43,vB j660)],[(500000,wB 4 s598.2.1),(500001,.tl 3 s598.2.2)]⟩ [] [] [] [] [] 14 (by kernel_rfl) (by kernel_rfl) (by kernel_rfl) ?_ fun τ hτ=>?_
 replace h:=hj660
 refine dN 2 ?_
 obtain ⟨x661,hx661,h⟩:=bindS h
 refine dI cB hx661 (dR cB hx661 (dN 2 (evd_split x661 (fun b0=>⟨[(33,vB (!b0)),(32,vB (!b0)),(31,vB b0),(30,.rptr (.top 500000) 4 (Int.toNat s598.1) 0),(29,vI s598.1),(28,ro 500000 4),(0,s_Rect l),(3,ro 500000 4),(4,ro 500001 3),(5,vI x561),(6,vI s598.1),(24,vI (l.length : Int)),(25,vI s598.1)],[(500000,wB 4 s598.2.1),(500001,.tl 3 s598.2.2)]⟩) (by kernel_rfl) (fun hb=>?_) fun hb=>?_)))
 replace h:=iteT hb h
 refine dN 8 (dE (oN 2 (zO fun τ hτ=>?_)))
 cases h
 exact zG hτ
 replace h:=iteF hb h
 refine dN 2 ?_
 obtain ⟨x662,hx662,h⟩:=bindS h
 refine dX c_Rect hx662 (dN 3 ?_)
 obtain ⟨x663,hx663,h⟩:=bindS h
 refine dX c_Rect hx663 (dN 1 (dE ?_))
 obtain ⟨r664,hr664,h⟩:=bindS h
 refine oP (W.nest_touch_ok hr664) (oN 1 (zO fun τ hτ=>?_))
 cases h
 exact zG hτ
 refine yE hτ [0,3,4,5,6,24,25,43] [500000,500001] (qc h (fun h=>?_) fun h=>?_)
 refine z7 (zA 2 ?_)
 obtain ⟨x666,hx666,h⟩:=bindS h
 refine qI cB hx666 (qS cB true hx666 (zP fun τ hτ=>?_))
 refine yE hτ [0,3,4,5,6,24,25] [500000,500001] (zD (zA 3 ?_))
 obtain ⟨l668,hl668,h⟩:=bindS h
 refine evs_at (at_appT (g:=500001) (e:=3) (l:=s598.2.2) (y:=s598.1) (x:=(sI [s598.1])) (by kernel_rfl) (by kernel_rfl) (by kernel_rfl) (by kernel_rfl) (by kernel_rfl) hl668) (z6 1 fun τ hτ=>?_)
 exact bl_normal (jk_normal ((List.set s598.2.1 (Int.toNat s598.1) true),l668) h hτ (here (by kernel_rfl)))
 refine zM fun τ hτ=>?_
 exact bl_normal (jk_normal (s598.2.1,s598.2.2) h hτ (here (by kernel_rfl)))
 refine zL 2 fun τ hτ=>?_
 refine th_exit ?_
 cases h
 exact zF hτ
 refine zQ (bl_normal ?_)
 cases h
 exact zH hτ
 refine zL 0 fun τ hτ=>?_
 refine th_exit ?_
 cases h
 exact zF hτ
 refine zQ (yE hτ [3] [500000] (zB (z7 (zA 1 (qL cB x670 (y1 1 [52,53,54] [500000] ?_))))))
 refine zC ?_
 obtain ⟨x702,hx702,h⟩:=bindS h
 refine ql hx702 (fun s693=>⟨[(52,ro 500000 4),(53,vI (x670.length : Int)),(54,vI s693)],[(500000,wB 4 x670)]⟩) (fun x702=>match x702 with | .inl j703=>(.ret,⟨[(2,vB false)],[]⟩) | .inr j704=>(.exit 4,⟨[],[]⟩)) qH (fun s693 r h=>?_) (fun τ hτ=>?_) (hout:=(by intro x; rcases x with _ | _ <;> rfl))
 refine y3 1 [52,53,54,55] [500000] (zB (qc h (fun h=>?_) fun h=>?_))
 refine y4 [52,53,54] [500000] (zB (zC (z7 ?_)))
 obtain ⟨x701,hx701,h⟩:=bindS h
 refine qI cB hx701 (qR cB hx701 (y1 1 [8,52,53,54] [500000] (y3 2 [52,53,54,59] [500000] (qc h (fun h=>?_) fun h=>?_))))
 refine z8 1 ⟨[(2,vB false)],[]⟩ fun τ hτ=>?_
 refine bl_ret (th_ret ?_)
 cases h
 exact zF hτ
 refine zM fun τ hτ=>?_
 refine bl_normal (yE hτ [52,53,54] [500000] (zD (z6 2 fun τ hτ=>?_)))
 cases h
 exact zH hτ
 refine zL 4 fun τ hτ=>?_
 refine th_exit ?_
 cases h
 exact zF hτ
 rcases x702 with j703 | j704
 refine bl_ret (th_ret ?_)
 obtain rfl:=osi h
 exact zV hτ [(2,vB false)]
 refine zQ (yE hτ [] [] (z8 1 ⟨[(2,vB true)],[]⟩ fun τ hτ=>?_))
 obtain rfl:=osi h
 exact zV hτ [(2,vB true)]
theorem W.nest_strictly_ok {h0 l r} (h : nest_strictly h0 l=some r) : PC G.P 176 [(.agg (c_Rect h0)),(.sl (List.map c_Rect l))] [] (vB r) []:=by
 refine zU G Tryz.func176 (yK [0,1] [] (y3 2 [1,2] [2] (zB (z7 (zA 1 (qL c_Rect l ?_))))))
 refine y1 1 [2,7,8,9] [2] (zC ?_)
 obtain ⟨x44,hx44,h⟩:=bindS h
 refine ql hx44 (fun s31=>⟨[(2,.ptr 500000 0),(7,s_Rect l),(8,vI (l.length : Int)),(9,vI s31)],[(500000,.box (c_Rect h0))]⟩) (fun x44=>match x44 with | .inl j45=>(.ret,⟨[(4,vB true)],[]⟩) | .inr j46=>(.exit 0,⟨[],[]⟩)) (sp [] [(2,500000)]) (fun s31 r h=>?_) (fun τ hτ=>?_) (hout:=(by intro x; rcases x with _ | _ <;> rfl))
 refine y3 1 [2,7,8,9,10] [500000] (zB (qc h (fun h=>?_) fun h=>?_))
 refine y4 [2,7,8,9] [500000] (zB (zC (z7 ?_)))
 obtain ⟨x42,hx42,h⟩:=bindS h
 refine qX c_Rect hx42 (y1 3 [2,6,7,8,9] [6,500000] (zB ?_))
 obtain ⟨j43,hj43,h⟩:=bindS h
 refine zT ⟨[(2,.ptr 500000 0),(7,s_Rect l),(8,vI (l.length : Int)),(9,vI s31),(50,vB j43)],[(500000,.box (c_Rect h0))]⟩ ?_ fun τ hτ=>?_
 replace h:=hj43
 refine zA 6 (qB h [2,6,7,8,9,18] [6,500000] [18] (fun h=>?_) fun h=>?_)
 refine zA 7 (qB h [2,6,7,8,9,25] [6,500000] [25] (fun h=>?_) fun h=>?_)
 refine zA 13 (qB h [2,6,7,8,9,38] [6,500000] [38] (fun h=>?_) fun h=>?_)
 refine z6 12 fun τ hτ=>?_
 cases h
 exact zG hτ
 refine z6 12 fun τ hτ=>?_
 cases h
 exact zG hτ
 refine z6 25 fun τ hτ=>?_
 cases h
 exact zG hτ
 refine z6 32 fun τ hτ=>?_
 cases h
 exact zG hτ
 refine yE hτ [2,7,8,9,50] [500000] (qc h (fun h=>?_) fun h=>?_)
 refine z8 1 ⟨[(4,vB true)],[]⟩ fun τ hτ=>?_
 refine bl_ret (th_ret ?_)
 cases h
 exact zF hτ
 refine zM fun τ hτ=>?_
 refine bl_normal (yE hτ [2,7,8,9] [500000] (zD (z6 2 fun τ hτ=>?_)))
 cases h
 exact zH hτ
 refine zL 0 fun τ hτ=>?_
 refine th_exit ?_
 cases h
 exact zF hτ
 rcases x44 with j45 | j46
 refine bl_ret (th_ret ?_)
 obtain rfl:=osi h
 exact zV hτ [(4,vB true)]
 refine zQ (yE hτ [] [] (z8 1 ⟨[(4,vB false)],[]⟩ fun τ hτ=>?_))
 obtain rfl:=osi h
 exact zV hτ [(4,vB false)]
theorem W.geom_Distance_ok {a b r} (h : geom_Distance a b=some r) : PC G.P 167 [(.agg (c_Rect a)),(.agg (c_Rect b))] [] (vI r) []:=by
 refine zU G Tryz.func167 (yK [0,1] [] (y3 3 [2,3] [2,3] (zB (zB ?_))))
 obtain ⟨j8,hj8,h⟩:=bindS h
 refine zT ⟨[(2,.ptr 500000 0),(3,.ptr 500001 0),(13,vB j8)],[(500000,.box (c_Rect a)),(500001,.box (c_Rect b))]⟩ ?_ fun τ hτ=>?_
 replace h:=hj8
 refine zA 1 ?_
 obtain ⟨r9,hr9,h⟩:=bindS h
 refine qP (W.geom_ValidRect_ok hr9) (zA 2 (zS r9 (fun b0=>⟨[(2,.ptr 2 0),(3,.ptr 3 0),(9,vB (!b0))],[(2,.box (c_Rect a)),(3,.box (c_Rect b))]⟩) (fun hb=>?_) fun hb=>?_))
 replace h:=iteT hb h
 refine zA 1 ?_
 obtain ⟨r10,hr10,h⟩:=bindS h
 refine qP (W.geom_ValidRect_ok hr10) (z6 2 fun τ hτ=>?_)
 cases h
 exact leafC hτ (sp [] [(2,500000),(3,500001)])
 replace h:=iteF hb h
 refine z6 4 fun τ hτ=>?_
 cases h
 exact leafC hτ (sp [] [(2,500000),(3,500001)])
 refine yE hτ [2,3,13] [500000,500001] (qc h (fun h=>?_) fun h=>?_)
 refine z8 1 ⟨[(4,vI 0)],[]⟩ fun τ hτ=>?_
 refine th_ret ?_
 obtain rfl:=osi h
 exact zV hτ [(4,vI 0)]
 refine y4 [2,3] [500000,500001] (y3 18 [2,3,5] [500000,500001] (z8 19 ⟨[(4,vI (imax (imax (imax (imax 0 (isub (isub b.X a.X) a.W)) (isub (isub a.X b.X) b.W)) (isub (isub b.Y a.Y) a.H)) (isub (isub a.Y b.Y) b.H)))],[]⟩ fun τ hτ=>?_))
 obtain rfl:=osi h
 exact zV hτ [(4,vI (imax (imax (imax (imax 0 (isub (isub b.X a.X) a.W)) (isub (isub a.X b.X) b.W)) (isub (isub b.Y a.Y) a.H)) (isub (isub a.Y b.Y) b.H)))]
theorem W.nest_inside_ok {x0 r} (h : nest_inside x0=some r) : PC G.P 146 [(.agg (c_Piece x0))] [] (vI r) []:=by
 refine zU G Tryz.func146 (yK [0] [] (y3 2 [1] [1] (zB (sem_draw [(2,[12])] [(2,[12])] [] [(3,[12]),(4,[12])] [(0,[12]),(1,[12]),(3,[12]),(4,[12])] 5 (by kernel_rfl) (by kernel_rfl) [12] (by kernel_rfl) (by kernel_rfl) (dN 2 ?_)))))
 obtain ⟨l5,hl5,h⟩:=bindS h
 refine evd_new (by kernel_rfl) (st_appN (c:=c_Rect) (l2:=x0.Cuts) (x:=(s_Rect x0.Cuts)) (e:=98) (sz:=4) (d:=12) (by kernel_rfl) (by kernel_rfl) (by kernel_rfl) (fun _=>rfl) hl5) (by kernel_rfl) (by kernel_rfl) (by kernel_rfl) (by kernel_rfl) (dN 2 (dE ?_))
 obtain ⟨l6,hl6,h⟩:=bindS h
 refine oA c_Rect 4 hl6 (oN 1 (zO fun τ hτ=>?_))
 refine yE hτ [1,3] [1,12] (zB (z7 (zA 1 (qL c_Rect l6 (y1 1 [1,3,16,17,18] [1,12] (zC ?_))))))
 obtain ⟨x98,hx98,h⟩:=bindS h
 refine ql hx98 (fun s69=>⟨[(1,.ptr 500000 0),(3,ro 500001 98),(16,ro 500001 98),(17,vI (l6.length : Int)),(18,vI s69)],[(500000,.box (c_Piece x0)),(500001,w_Rect 98 l6)]⟩) (fun x98=>match x98 with | .inl j99=>(.ret,⟨[(2,vI 13)],[]⟩) | .inr j100=>(.exit 0,⟨[(3,ro 500000 98)],[(500000,w_Rect 98 l6)]⟩)) (sp [] [(1,500000),(12,500001)]) (fun s69 r h=>?_) (fun τ hτ=>?_) (hout:=(by intro x; rcases x with _ | _ <;> rfl))
 refine y3 1 [1,3,16,17,18,19] [500000,500001] (zB (qc h (fun h=>?_) fun h=>?_))
 refine y4 [1,3,16,17,18] [500000,500001] (zB (zC (z7 (zA 1 ?_))))
 obtain ⟨x92,hx92,h⟩:=bindS h
 refine qI c_Rect hx92 (qR c_Rect hx92 (y1 3 [1,3,4,5,16,17,18] [5,500000,500001] (zB ?_)))
 obtain ⟨j95,hj95,h⟩:=bindS h
 refine zT ⟨[(1,.ptr 500000 0),(3,ro 500001 98),(16,ro 500001 98),(17,vI (l6.length : Int)),(18,vI s69),(44,vB j95)],[(500000,.box (c_Piece x0)),(500001,w_Rect 98 l6)]⟩ ?_ fun τ hτ=>?_
 replace h:=hj95
 refine zA 3 (qL c_Rect x0.Cuts (zA 2 (qB h [1,3,5,16,17,18,28] [5,500000,500001] [28] (fun h=>?_) fun h=>?_)))
 refine zA 4 (qB h [1,3,5,16,17,18,28,32] [5,500000,500001] [32] (fun h=>?_) fun h=>?_)
 refine z6 12 fun τ hτ=>?_
 cases h
 exact zG hτ
 refine zA 6 (qB h [1,3,5,16,17,18,38] [5,500000,500001] [38] (fun h=>?_) fun h=>?_)
 refine z6 6 fun τ hτ=>?_
 cases h
 exact zG hτ
 refine zA 3 ?_
 obtain ⟨r96,hr96,h⟩:=bindS h
 refine qP (W.nest_strictly_ok hr96) (z6 2 fun τ hτ=>?_)
 cases h
 exact zG hτ
 refine zA 13 ?_
 obtain ⟨r97,hr97,h⟩:=bindS h
 refine qP (W.nest_strictly_ok hr97) (z6 2 fun τ hτ=>?_)
 cases h
 exact zG hτ
 refine yE hτ [1,3,16,17,18,44] [500000,500001] (qc h (fun h=>?_) fun h=>?_)
 refine z8 1 ⟨[(2,vI 13)],[]⟩ fun τ hτ=>?_
 refine bl_ret (th_ret ?_)
 cases h
 exact zF hτ
 refine zM fun τ hτ=>?_
 refine bl_normal (yE hτ [1,3,16,17,18] [500000,500001] (zD (z6 2 fun τ hτ=>?_)))
 cases h
 exact zH hτ
 refine zL 0 fun τ hτ=>?_
 refine th_exit ?_
 cases h
 exact lk_outS hτ rfl (sp [] [(500001,500000)])
 rcases x98 with j99 | j100
 refine bl_ret (th_ret ?_)
 obtain rfl:=osi h
 exact zV hτ [(2,vI 13)]
 refine zQ (yE hτ [3] [500000] (zB (z7 (zA 1 (qL c_Rect l6 (y1 1 [3,46,47,48] [500000] ?_))))))
 refine zC ?_
 obtain ⟨x504,hx504,h⟩:=bindS h
 refine ql hx504 (fun s371=>⟨[(3,s_Rect l6),(46,s_Rect l6),(47,vI (l6.length : Int)),(48,vI s371)],[]⟩) (fun x504=>match x504 with | .inl j505=>(.ret,⟨[(2,vI 7)],[]⟩) | .inr j506=>(.exit 2,⟨[],[]⟩)) (sp [.frz 500000] []) (fun s371 r h=>?_) (fun τ hτ=>?_) (hout:=(by intro x; rcases x with _ | _ <;> rfl))
 refine y3 1 [3,46,47,48,49] [] (zB (qc h (fun h=>?_) fun h=>?_))
 refine y4 [3,46,47,48] [] (zB (zC (z7 (zA 1 ?_))))
 obtain ⟨x472,hx472,h⟩:=bindS h
 refine qX c_Rect hx472 (y1 4 [3,6,7,46,47,48] [7] (z7 (zA 2 ?_)))
 obtain ⟨l474,hl474,h⟩:=bindS h
 refine evs_op (st_slH (c:=c_Rect) (l:=l6) (sz:=4) (hi:=s371) (k2:=.i64) (by kernel_rfl) hl474) (qL c_Rect l474 (y1 1 [3,7,46,47,48,55,56,57] [7] (zC ?_)))
 obtain ⟨x501,hx501,h⟩:=bindS h
 refine ql hx501 (fun s484=>⟨[(3,s_Rect l6),(7,.ptr 500000 0),(46,s_Rect l6),(47,vI (l6.length : Int)),(48,vI s371),(55,s_Rect l474),(56,vI (l474.length : Int)),(57,vI s484)],[(500000,.box (c_Rect x472))]⟩) (fun x501=>match x501 with | .inl j502=>(.ret,⟨[(2,vI 7)],[]⟩) | .inr j503=>(.exit 4,⟨[(3,s_Rect l6),(46,s_Rect l6),(47,vI (l6.length : Int)),(48,vI s371)],[]⟩)) (sp [] [(7,500000)]) (fun s484 r h=>?_) (fun τ hτ=>?_) (hout:=(by intro x; rcases x with _ | _ <;> rfl))
 refine y3 1 [3,7,46,47,48,55,56,57,58] [500000] (zB (qc h (fun h=>?_) fun h=>?_))
 refine y4 [3,7,46,47,48,55,56,57] [500000] (zB (zC (z7 ?_)))
 obtain ⟨x498,hx498,h⟩:=bindS h
 refine qX c_Rect hx498 (y1 3 [3,7,9,46,47,48,55,56,57] [9,500000] (z7 (zA 2 ?_)))
 obtain ⟨r500,hr500,h⟩:=bindS h
 refine qP (W.geom_Distance_ok hr500) (y1 1 [3,7,46,47,48,55,56,57,64] [500000] (qc h (fun h=>?_) fun h=>?_))
 refine z8 1 ⟨[(2,vI 7)],[]⟩ fun τ hτ=>?_
 refine bl_ret (th_ret ?_)
 cases h
 exact zF hτ
 refine zM fun τ hτ=>?_
 refine bl_normal (yE hτ [3,7,46,47,48,55,56,57] [500000] (zD (z6 2 fun τ hτ=>?_)))
 cases h
 exact zH hτ
 refine zL 4 fun τ hτ=>?_
 refine th_exit ?_
 cases h
 exact zF hτ
 rcases x501 with j502 | j503
 refine bl_ret (bl_ret (th_ret ?_))
 cases h
 exact zF hτ
 refine zQ (bl_normal (yE hτ [3,46,47,48] [] (zD (z6 2 fun τ hτ=>?_))))
 cases h
 exact zH hτ
 refine zL 2 fun τ hτ=>?_
 refine th_exit ?_
 cases h
 exact zF hτ
 rcases x504 with j505 | j506
 refine bl_ret (th_ret ?_)
 obtain rfl:=osi h
 exact zV hτ [(2,vI 7)]
 refine zQ (yE hτ [] [] (z8 1 ⟨[(2,vI 0)],[]⟩ fun τ hτ=>?_))
 obtain rfl:=osi h
 exact zV hτ [(2,vI 0)]
theorem W.nest_ValidatePiece_ok {x0 r} (h : nest_ValidatePiece x0=some r) : PC G.P 90 [(.agg (c_Piece x0))] [] (vI r) []:=by
 refine zU G Tryz.func90 (yK [0] [] (y3 2 [1] [1] (zB (zC (zB ?_)))))
 obtain ⟨j18,hj18,h⟩:=bindS h
 refine zT ⟨[(1,.ptr 500000 0),(11,vB j18)],[(500000,.box (c_Piece x0))]⟩ ?_ fun τ hτ=>?_
 replace h:=hj18
 refine zA 2 ?_
 obtain ⟨r19,hr19,h⟩:=bindS h
 refine qP (W.part_ValidName_ok hr19) (zA 2 (zS r19 (fun b0=>⟨[(1,.ptr 1 0),(16,vB (!b0))],[(1,.box (c_Piece x0))]⟩) (fun hb=>?_) fun hb=>?_))
 replace h:=iteT hb h
 refine zA 2 ?_
 obtain ⟨r20,hr20,h⟩:=bindS h
 refine qP (W.part_ValidName_ok hr20) (z6 3 fun τ hτ=>?_)
 cases h
 exact leafC hτ (sp [] [(1,500000)])
 replace h:=iteF hb h
 refine z6 6 fun τ hτ=>?_
 cases h
 exact leafC hτ (sp [] [(1,500000)])
 refine yE hτ [1,11] [500000] (qc h (fun h=>?_) fun h=>?_)
 refine z8 1 ⟨[(2,vI 2)],[]⟩ fun τ hτ=>?_
 refine bl_ret (th_ret ?_)
 obtain rfl:=osi h
 exact zV hτ [(2,vI 2)]
 refine z7 (zA 4 ?_)
 obtain ⟨r22,hr22,h⟩:=bindS h
 refine qP (W.nest_plain_ok hr22) (y1 2 [1,22] [500000] (qc h (fun h=>?_) fun h=>?_))
 refine z8 1 ⟨[(2,vI 1)],[]⟩ fun τ hτ=>?_
 refine bl_ret (th_ret ?_)
 obtain rfl:=osi h
 exact zV hτ [(2,vI 1)]
 refine zB ?_
 obtain ⟨j23,hj23,h⟩:=bindS h
 refine zT ⟨[(1,.ptr 500000 0),(29,vB j23)],[(500000,.box (c_Piece x0))]⟩ ?_ fun τ hτ=>?_
 replace h:=hj23
 refine zA 2 (qL c_Rect x0.Rects (zA 2 (qB h [1,34] [500000] [34] (fun h=>?_) fun h=>?_)))
 refine z6 12 fun τ hτ=>?_
 cases h
 exact zG hτ
 refine zA 2 (qL c_Rect x0.Cuts (zA 3 (qB h [1,40] [500000] [40] (fun h=>?_) fun h=>?_)))
 refine z6 6 fun τ hτ=>?_
 cases h
 exact zG hτ
 refine zA 2 (qL c_Rect x0.Forms (z6 3 fun τ hτ=>?_))
 cases h
 exact zG hτ
 refine yE hτ [1,29] [500000] (qc h (fun h=>?_) fun h=>?_)
 refine z8 1 ⟨[(2,vI 4)],[]⟩ fun τ hτ=>?_
 refine bl_ret (th_ret ?_)
 obtain rfl:=osi h
 exact zV hτ [(2,vI 4)]
 refine zB ?_
 obtain ⟨j27,hj27,h⟩:=bindS h
 refine zT ⟨[(1,.ptr 500000 0),(46,vB j27)],[(500000,.box (c_Piece x0))]⟩ ?_ fun τ hτ=>?_
 replace h:=hj27
 refine zA 2 (qL c_Rect x0.Rects (zA 2 (qB h [1,51] [500000] [51] (fun h=>?_) fun h=>?_)))
 refine z6 18 fun τ hτ=>?_
 cases h
 exact zG hτ
 refine zA 2 ?_
 obtain ⟨r28,hr28,h⟩:=bindS h
 refine qP (W.nest_valid_ok hr28) (zA 3 (zS r28 (fun b0=>⟨[(1,.ptr 500000 0),(57,vB (!b0))],[(500000,.box (c_Piece x0))]⟩) (fun hb=>?_) fun hb=>?_))
 replace h:=iteT hb h
 refine zA 2 ?_
 obtain ⟨r29,hr29,h⟩:=bindS h
 refine qP (W.nest_valid_ok hr29) (zA 3 (zS r29 (fun b0=>⟨[(1,.ptr 500000 0),(63,vB (!b0))],[(500000,.box (c_Piece x0))]⟩) (fun hb=>?_) fun hb=>?_))
 replace h:=iteT hb h
 refine zA 2 ?_
 obtain ⟨r30,hr30,h⟩:=bindS h
 refine qP (W.nest_valid_ok hr30) (z6 3 fun τ hτ=>?_)
 cases h
 exact zG hτ
 replace h:=iteF hb h
 refine z6 6 fun τ hτ=>?_
 cases h
 exact zG hτ
 replace h:=iteF hb h
 refine z6 12 fun τ hτ=>?_
 cases h
 exact zG hτ
 refine yE hτ [1,46] [500000] (qc h (fun h=>?_) fun h=>?_)
 refine z8 1 ⟨[(2,vI 1)],[]⟩ fun τ hτ=>?_
 refine bl_ret (th_ret ?_)
 obtain rfl:=osi h
 exact zV hτ [(2,vI 1)]
 refine zM fun τ hτ=>?_
 refine bl_normal (yE hτ [1] [500000] (zB (qM 11 (dN 2 ?_))))
 obtain ⟨x35,hx35,h⟩:=bindS h
 refine dX c_Rect hx35 (dN 4 ?_)
 obtain ⟨x36,hx36,h⟩:=bindS h
 refine dX c_Rect hx36 (dN 3 (dE (oN 1 (zO fun τ hτ=>?_))))
 refine yE hτ [1,3,4] [500000] (zB (z7 (zA 2 (qL c_Rect x0.Rects (y1 1 [1,3,4,80,81,82] [500000] (zC ?_))))))
 obtain ⟨x66,hx66,h⟩:=bindS h
 refine ql hx66 (fun s57=>⟨[(1,.ptr 500000 0),(3,vI s57.1),(4,vI s57.2.1),(80,s_Rect x0.Rects),(81,vI (x0.Rects.length : Int)),(82,vI s57.2.2)],[(500000,.box (c_Piece x0))]⟩) (fun x66=>(.exit 1,⟨[(1,.ptr 500000 0),(3,vI x66.1),(4,vI x66.2)],[(500000,.box (c_Piece x0))]⟩)) qH (fun s57 r h=>?_) fun τ hτ=>?_
 refine y3 1 [1,3,4,80,81,82,83] [500000] (zB (qc h (fun h=>?_) fun h=>?_))
 refine y4 [1,3,4,80,81,82] [500000] (zB (zC (z7 ?_)))
 obtain ⟨x65,hx65,h⟩:=bindS h
 refine qX c_Rect hx65 (y1 3 [1,3,4,6,80,81,82] [6,500000] (qM 9 (dN 9 (dE (oN 1 (zO fun τ hτ=>?_))))))
 refine bl_normal (yE hτ [1,3,4,80,81,82] [500000] (zD (z6 2 fun τ hτ=>?_)))
 cases h
 exact zH hτ
 refine zL 1 fun τ hτ=>?_
 refine th_exit ?_
 cases h
 exact zF hτ
 refine zQ (yE hτ [1,3,4] [500000] (zB (zB ?_)))
 obtain ⟨j68,hj68,h⟩:=bindS h
 refine zT ⟨[(1,.ptr 500000 0),(100,vB j68)],[(500000,.box (c_Piece x0))]⟩ ?_ fun τ hτ=>?_
 replace h:=hj68
 refine zA 3 (qB h [1,4,97] [500000] [97] (fun h=>?_) fun h=>?_)
 refine z6 3 fun τ hτ=>?_
 cases h
 exact zG hτ
 refine z6 3 fun τ hτ=>?_
 cases h
 exact zG hτ
 refine yE hτ [1,100] [500000] (qc h (fun h=>?_) fun h=>?_)
 refine z8 1 ⟨[(2,vI 1)],[]⟩ fun τ hτ=>?_
 refine th_ret ?_
 obtain rfl:=osi h
 exact zV hτ [(2,vI 1)]
 refine y4 [1] [500000] (zB (z7 (zA 2 (qL c_Rect x0.Rects (y1 1 [1,102,103,104] [500000] (zC ?_))))))
 obtain ⟨x472,hx472,h⟩:=bindS h
 refine ql hx472 (fun s339=>⟨[(1,.ptr 500000 0),(102,s_Rect x0.Rects),(103,vI (x0.Rects.length : Int)),(104,vI s339)],[(500000,.box (c_Piece x0))]⟩) (fun x472=>match x472 with | .inl j473=>(.ret,⟨[(2,vI 7)],[]⟩) | .inr j474=>(.exit 3,⟨[(1,.ptr 500000 0)],[(500000,.box (c_Piece x0))]⟩)) qH (fun s339 r h=>?_) (fun τ hτ=>?_) (hout:=(by intro x; rcases x with _ | _ <;> rfl))
 refine y3 1 [1,102,103,104,105] [500000] (zB (qc h (fun h=>?_) fun h=>?_))
 refine y4 [1,102,103,104] [500000] (zB (zC (z7 (zA 1 ?_))))
 obtain ⟨x440,hx440,h⟩:=bindS h
 refine qX c_Rect hx440 (y1 4 [1,7,8,102,103,104] [8,500000] (z7 (zA 3 ?_)))
 obtain ⟨l442,hl442,h⟩:=bindS h
 refine evs_op (st_slH (c:=c_Rect) (l:=x0.Rects) (sz:=4) (hi:=s339) (k2:=.i64) (by kernel_rfl) hl442) (qL c_Rect l442 (y1 1 [1,8,102,103,104,112,113,114] [8,500000] (zC ?_)))
 obtain ⟨x469,hx469,h⟩:=bindS h
 refine ql hx469 (fun s452=>⟨[(1,.ptr 500000 0),(8,.ptr 500001 0),(102,s_Rect x0.Rects),(103,vI (x0.Rects.length : Int)),(104,vI s339),(112,s_Rect l442),(113,vI (l442.length : Int)),(114,vI s452)],[(500000,.box (c_Piece x0)),(500001,.box (c_Rect x440))]⟩) (fun x469=>match x469 with | .inl j470=>(.ret,⟨[(2,vI 7)],[]⟩) | .inr j471=>(.exit 5,⟨[(1,.ptr 500000 0),(102,s_Rect x0.Rects),(103,vI (x0.Rects.length : Int)),(104,vI s339)],[(500000,.box (c_Piece x0))]⟩)) (sp [] [(8,500001),(500000,500000)]) (fun s452 r h=>?_) (fun τ hτ=>?_) (hout:=(by intro x; rcases x with _ | _ <;> rfl))
 refine y3 1 [1,8,102,103,104,112,113,114,115] [500000,500001] (zB (qc h (fun h=>?_) fun h=>?_))
 refine y4 [1,8,102,103,104,112,113,114] [500000,500001] (zB (zC (z7 ?_)))
 obtain ⟨x466,hx466,h⟩:=bindS h
 refine qX c_Rect hx466 (y1 3 [1,8,10,102,103,104,112,113,114] [10,500000,500001] (z7 (zA 2 ?_)))
 obtain ⟨r468,hr468,h⟩:=bindS h
 refine qP (W.geom_Overlap_ok hr468) (zP fun τ hτ=>?_)
 refine yE hτ [1,8,102,103,104,112,113,114,120] [500000,500001] (qc h (fun h=>?_) fun h=>?_)
 refine z8 1 ⟨[(2,vI 7)],[]⟩ fun τ hτ=>?_
 refine bl_ret (th_ret ?_)
 cases h
 exact zF hτ
 refine zM fun τ hτ=>?_
 refine bl_normal (yE hτ [1,8,102,103,104,112,113,114] [500000,500001] (zD (z6 2 fun τ hτ=>?_)))
 cases h
 exact zH hτ
 refine zL 5 fun τ hτ=>?_
 refine th_exit ?_
 cases h
 exact zF hτ
 rcases x469 with j470 | j471
 refine bl_ret (bl_ret (th_ret ?_))
 cases h
 exact zF hτ
 refine zQ (bl_normal (yE hτ [1,102,103,104] [500000] (zD (z6 2 fun τ hτ=>?_))))
 cases h
 exact zH hτ
 refine zL 3 fun τ hτ=>?_
 refine th_exit ?_
 cases h
 exact zF hτ
 rcases x472 with j473 | j474
 refine bl_ret (th_ret ?_)
 obtain rfl:=osi h
 exact zV hτ [(2,vI 7)]
 refine zQ (yE hτ [1] [500000] (zB (z7 (zA 2 ?_))))
 obtain ⟨r478,hr478,h⟩:=bindS h
 refine qP (W.nest_connected_ok hr478) (y1 1 [1,126] [500000] (qc h (fun h=>?_) fun h=>?_))
 refine z8 1 ⟨[(2,vI 6)],[]⟩ fun τ hτ=>?_
 refine th_ret ?_
 obtain rfl:=osi h
 exact zV hτ [(2,vI 6)]
 refine y4 [1] [500000] (z7 (zA 1 ?_))
 obtain ⟨r480,hr480,h⟩:=bindS h
 refine qP (W.nest_inside_ok hr480) (y1 1 [2] [] (zN fun τ hτ=>?_))
 obtain rfl:=osi h
 exact zV hτ [(2,vI r480)]
theorem W.slices_Clone_Lapi_Rect_api_Rect_ok {s r} (h : slices_Clone_Lapi_Rect_api_Rect s=some r) : PC G.P 134 [.sl (List.map c_Rect s)] [] (.row (.top 0) 98) [(0,.row 98 [] (List.map c_Rect r))]:=by
 replace h : app [] s=some r:=h
 refine zU G Tryz.func134 (y3 1 [0] [] (zB (z7 (zA 1 (evs_isnil (es:=List.map c_Rect s) (by kernel_rfl) (fun hn=>?_) ?_)))))
 obtain rfl : s=[]:=List.map_eq_nil_iff.1 hn
 obtain rfl : []=r:=Option.some.inj ((app_eq (by simp [LIM])).symm.trans h)
 refine zP fun τ hτ=>?_
 refine yE hτ [0,4] [] (sem_condT (by kernel_rfl) (by kernel_rfl) (z8 1 ⟨[(2,ro 2 98)],[(2,w_Rect 98 [])]⟩ fun τ hτ=>?_))
 exact th_ret (rk_ret hτ [(2,ro 0 98)] (subR_of [(2,0)] rfl rfl (by kernel_rfl)) (by kernel_rfl))
 refine zP fun τ hτ=>?_
 refine yE hτ [0,4] [] (sem_condF (by kernel_rfl) (by kernel_rfl) (y4 [0] [] (z7 (evs_at (at_build (es:=List.map c_Rect []) (e:=98) (d:=5) (by kernel_rfl)) (zA 1 (evs_op (st_app (c:=c_Rect) (l:=[]) (l2:=s) (x:=s_Rect s) (g:=5) (e:=98) (sz:=4) (d:=7) (by kernel_rfl) (by kernel_rfl) (by kernel_rfl) (by kernel_rfl) (fun _=>rfl) rfl h) ?_))))))
 refine y1 1 [2] [5] (zN fun τ hτ=>?_)
 exact rk_ret hτ [(2,ro 0 98)] (subR_of [(5,0)] rfl rfl (by kernel_rfl)) (by kernel_rfl)
theorem W.cut_back_ok {l x1 y r} (h : cut_back l x1 y=some r) : PC G.P 91 [(.sl (List.map c_Rect l)),(vI x1),(vI y)] [] (.row (.top 0) 98) [(0,.row 98 [] (List.map c_Rect r))]:=by
 refine zU G Tryz.func91 (yK [0,1,2] [] (y3 1 [0,1,2] [] (z7 (zA 1 ?_))))
 obtain ⟨r2,hr2,h⟩:=bindS h
 refine qC [] [(0,700050)] (W.slices_Clone_Lapi_Rect_api_Rect_ok hr2) (y1 1 [1,2,7] [700050] (zB (z7 (zA 1 (qL c_Rect r2 (y1 1 [1,2,7,13,14] [700050] ?_))))))
 refine zC ?_
 obtain ⟨x158,hx158,h⟩:=bindS h
 refine ql hx158 (fun s107=>⟨[(1,vI x1),(2,vI y),(7,ro 500000 98),(13,vI (r2.length : Int)),(14,vI s107.1)],[(500000,w_Rect 98 s107.2)]⟩) (fun x158=>(.exit 0,⟨[(7,ro 500000 98)],[(500000,w_Rect 98 x158)]⟩)) (sp [] [(700050,500000)]) (fun s107 r h=>?_) fun τ hτ=>?_
 refine y3 1 [1,2,7,13,14,15] [500000] (zB (qc h (fun h=>?_) fun h=>?_))
 refine y4 [1,2,7,13,14] [500000] (sem_seqJ (fun (j145 : (List Rect))=>⟨[(1,vI x1),(2,vI y),(7,ro 500000 98),(13,vI (r2.length : Int)),(14,vI s107.1)],[(500000,w_Rect 98 j145)]⟩) (cut_back_k1 s107) r (by kernel_rfl) (fun j145 h=>?_) ?_)
 refine zD (z6 2 fun τ hτ=>?_)
 cases h
 exact zH hτ
 refine zC (y3 2 [1,2,7,8,13,14] [500000] (z7 (zA 2 ?_)))
 obtain ⟨x147,hx147,h⟩:=bindS h
 refine qI c_Rect hx147 (y1 1 [1,2,7,9,13,14] [500000] (zB (zB ?_)))
 obtain ⟨j151,hj151,h⟩:=bindS h
 refine zT ⟨[(1,vI x1),(2,vI y),(7,ro 500000 98),(9,.rptr (.top 500000) 98 (Int.toNat s107.1) 0),(13,vI (r2.length : Int)),(14,vI s107.1),(45,vB j151)],[(500000,w_Rect 98 s107.2)]⟩ ?_ fun τ hτ=>?_
 replace h:=hj151
 refine zA 3 (qR c_Rect hx147 (zA 2 (qB h [1,2,7,9,13,14,25] [500000] [25] (fun h=>?_) fun h=>?_)))
 refine z6 20 fun τ hτ=>?_
 cases h
 exact zG hτ
 refine zA 3 (qR c_Rect hx147 (zA 3 (qB h [1,2,7,9,13,14,32] [500000] [32] (fun h=>?_) fun h=>?_)))
 refine z6 13 fun τ hτ=>?_
 cases h
 exact zG hτ
 refine zA 3 (qR c_Rect hx147 (zA 3 (qB h [1,2,7,9,13,14,39] [500000] [39] (fun h=>?_) fun h=>?_)))
 refine z6 6 fun τ hτ=>?_
 cases h
 exact zG hτ
 refine zA 3 (qR c_Rect hx147 (z6 2 fun τ hτ=>?_))
 cases h
 exact zG hτ
 refine yE hτ [1,2,7,9,13,14,45] [500000] (qc h (fun h=>?_) fun h=>?_)
 refine z7 (zA 3 ?_)
 obtain ⟨x153,hx153,h⟩:=bindS h
 refine evs_op (st_stO (c:=c_Rect) (l:=s107.2) (i:=(Int.toNat s107.1)) (x:=x153) (x':=(Rect.mk x153.X x153.Y 0 x153.H)) (v:=(vI 0)) (agg:=false) (sz:=1) (kk:=(.top 500000)) (e:=98) (off:=2) (J:=[]) (o:=w_Rect 98 (List.set s107.2 (Int.toNat s107.1) (Rect.mk x153.X x153.Y 0 x153.H))) (by kernel_rfl) (by kernel_rfl) (by kernel_rfl) hx153 (by kernel_rfl) (by kernel_rfl) (by kernel_rfl)) (zP fun τ hτ=>?_)
 refine yE hτ [1,2,7,13,14] [500000] (zL 1 fun τ hτ=>?_)
 exact th_exit (zQ (jk_normal (List.set s107.2 (Int.toNat s107.1) (Rect.mk x153.X x153.Y 0 x153.H)) h hτ (here (by kernel_rfl))))
 refine y4 [1,2,7,9,13,14] [500000] (z7 (zA 3 ?_))
 obtain ⟨x156,hx156,h⟩:=bindS h
 refine evs_op (st_ldO (c:=c_Rect) (l:=s107.2) (i:=(Int.toNat s107.1)) (v:=(vI x156.X)) (agg:=false) (sz:=1) (kk:=(.top 500000)) (e:=98) (off:=0) (J:=[]) (by kernel_rfl) (by kernel_rfl) (by kernel_rfl) hx156 (by kernel_rfl)) (zA 4 ?_)
 obtain ⟨x157,hx157,h⟩:=bindS h
 refine evs_op (st_stO (c:=c_Rect) (l:=s107.2) (i:=(Int.toNat s107.1)) (x:=x157) (x':=(Rect.mk (isub x156.X x1) x157.Y x157.W x157.H)) (v:=(vI (isub x156.X x1))) (agg:=false) (sz:=1) (kk:=(.top 500000)) (e:=98) (off:=0) (J:=[]) (o:=w_Rect 98 (List.set s107.2 (Int.toNat s107.1) (Rect.mk (isub x156.X x1) x157.Y x157.W x157.H))) (by kernel_rfl) (by kernel_rfl) (by kernel_rfl) hx157 (by kernel_rfl) (by kernel_rfl) (by kernel_rfl)) (zP fun τ hτ=>?_)
 refine yE hτ [1,2,7,9,13,14] [500000] (zD (zA 3 (evs_op (st_ldO (c:=c_Rect) (l:=(List.set s107.2 (Int.toNat s107.1) (Rect.mk (isub x156.X x1) x157.Y x157.W x157.H))) (i:=(Int.toNat s107.1)) (v:=(vI (((Rect.mk (isub x156.X x1) x157.Y x157.W x157.H)).Y))) (agg:=false) (sz:=1) (kk:=(.top 500000)) (e:=98) (off:=1) (J:=[]) (by kernel_rfl) (by kernel_rfl) (by kernel_rfl) (setget (hx157)) (by kernel_rfl)) (zA 4 (evs_op (st_stO (c:=c_Rect) (l:=(List.set s107.2 (Int.toNat s107.1) (Rect.mk (isub x156.X x1) x157.Y x157.W x157.H))) (i:=(Int.toNat s107.1)) (x:=(Rect.mk (isub x156.X x1) x157.Y x157.W x157.H)) (x':=(Rect.mk (((Rect.mk (isub x156.X x1) x157.Y x157.W x157.H)).X) (isub (((Rect.mk (isub x156.X x1) x157.Y x157.W x157.H)).Y) y) (((Rect.mk (isub x156.X x1) x157.Y x157.W x157.H)).W) (((Rect.mk (isub x156.X x1) x157.Y x157.W x157.H)).H))) (v:=(vI (isub (((Rect.mk (isub x156.X x1) x157.Y x157.W x157.H)).Y) y))) (agg:=false) (sz:=1) (kk:=(.top 500000)) (e:=98) (off:=1) (J:=[]) (o:=w_Rect 98 (List.set (List.set s107.2 (Int.toNat s107.1) (Rect.mk (isub x156.X x1) x157.Y x157.W x157.H)) (Int.toNat s107.1) (Rect.mk (((Rect.mk (isub x156.X x1) x157.Y x157.W x157.H)).X) (isub (((Rect.mk (isub x156.X x1) x157.Y x157.W x157.H)).Y) y) (((Rect.mk (isub x156.X x1) x157.Y x157.W x157.H)).W) (((Rect.mk (isub x156.X x1) x157.Y x157.W x157.H)).H)))) (by kernel_rfl) (by kernel_rfl) (by kernel_rfl) (setget (hx157)) (by kernel_rfl) (by kernel_rfl) (by kernel_rfl)) (zP fun τ hτ=>?_))))))
 exact bl_normal (jk_normal (List.set (List.set s107.2 (Int.toNat s107.1) (Rect.mk (isub x156.X x1) x157.Y x157.W x157.H)) (Int.toNat s107.1) (Rect.mk (((Rect.mk (isub x156.X x1) x157.Y x157.W x157.H)).X) (isub (((Rect.mk (isub x156.X x1) x157.Y x157.W x157.H)).Y) y) (((Rect.mk (isub x156.X x1) x157.Y x157.W x157.H)).W) (((Rect.mk (isub x156.X x1) x157.Y x157.W x157.H)).H))) h hτ (here (by kernel_rfl)))
 refine zL 0 fun τ hτ=>?_
 refine th_exit ?_
 cases h
 exact zF hτ
 refine zQ (yE hτ [7] [500000] (z8 2 ⟨[(6,ro 500000 98)],[(500000,w_Rect 98 x158)]⟩ fun τ hτ=>?_))
 obtain rfl:=osi h
 exact qW hτ [(6,ro 0 98)] (sp [] [(500000,0)])
theorem W.cut_pieceError_ok {x0 r} (h : cut_pieceError x0=some r) : PC G.P 41 [(.agg (c_Piece x0))] [] (vI r) []:=by
 refine zU G Tryz.func41 (yK [0] [] (y3 2 [1] [1] (zB (z7 (zA 2 (qL c_Rect x0.Rects ?_))))))
 refine y1 1 [1,10,11,12] [1] (zC ?_)
 obtain ⟨x56,hx56,h⟩:=bindS h
 refine ql hx56 (fun s39=>⟨[(1,.ptr 500000 0),(10,s_Rect x0.Rects),(11,vI (x0.Rects.length : Int)),(12,vI s39)],[(500000,.box (c_Piece x0))]⟩) (fun x56=>match x56 with | .inl j57=>(.ret,⟨[(2,vI 1)],[]⟩) | .inr j58=>(.exit 0,⟨[(1,.ptr 500000 0)],[(500000,.box (c_Piece x0))]⟩)) (sp [] [(1,500000)]) (fun s39 r h=>?_) (fun τ hτ=>?_) (hout:=(by intro x; rcases x with _ | _ <;> rfl))
 refine y3 1 [1,10,11,12,13] [500000] (zB (qc h (fun h=>?_) fun h=>?_))
 refine y4 [1,10,11,12] [500000] (zB (zC (z7 ?_)))
 obtain ⟨x53,hx53,h⟩:=bindS h
 refine qX c_Rect hx53 (y1 3 [1,4,10,11,12] [4,500000] (z7 (zA 1 ?_)))
 obtain ⟨r55,hr55,h⟩:=bindS h
 refine qP (W.geom_ValidRect_ok hr55) (y1 1 [1,10,11,12,18] [500000] (qc h (fun h=>?_) fun h=>?_))
 refine z8 1 ⟨[(2,vI 1)],[]⟩ fun τ hτ=>?_
 refine bl_ret (th_ret ?_)
 cases h
 exact zF hτ
 refine zM fun τ hτ=>?_
 refine bl_normal (yE hτ [1,10,11,12] [500000] (zD (z6 2 fun τ hτ=>?_)))
 cases h
 exact zH hτ
 refine zL 0 fun τ hτ=>?_
 refine th_exit ?_
 cases h
 exact zF hτ
 rcases x56 with j57 | j58
 refine bl_ret (th_ret ?_)
 obtain rfl:=osi h
 exact zV hτ [(2,vI 1)]
 refine zQ (yE hτ [1] [500000] (zB (z7 (zA 2 (qL c_Rect x0.Rects (y1 1 [1,23] [500000] ?_))))))
 refine qc h (fun h=>?_) fun h=>?_
 refine z7 (zA 1 ?_)
 obtain ⟨r62,hr62,h⟩:=bindS h
 refine qP (W.nest_ValidatePiece_ok hr62) (y1 1 [2] [] (zN fun τ hτ=>?_))
 refine th_ret ?_
 obtain rfl:=osi h
 exact zV hτ [(2,vI r62)]
 refine y4 [1] [500000] (zB (qM 11 (dN 2 ?_)))
 obtain ⟨x67,hx67,h⟩:=bindS h
 refine dX c_Rect hx67 (dN 4 ?_)
 obtain ⟨x68,hx68,h⟩:=bindS h
 refine dX c_Rect hx68 (dN 3 (dE (oN 1 (zO fun τ hτ=>?_))))
 refine yE hτ [1,5,6] [500000] (zB (z7 (zA 2 (qL c_Rect x0.Rects (y1 1 [1,5,6,37,38,39] [500000] (zC ?_))))))
 obtain ⟨x98,hx98,h⟩:=bindS h
 refine ql hx98 (fun s89=>⟨[(1,.ptr 500000 0),(5,vI s89.1),(6,vI s89.2.1),(37,s_Rect x0.Rects),(38,vI (x0.Rects.length : Int)),(39,vI s89.2.2)],[(500000,.box (c_Piece x0))]⟩) (fun x98=>(.exit 2,⟨[(1,.ptr 500000 0),(5,vI x98.1),(6,vI x98.2)],[(500000,.box (c_Piece x0))]⟩)) qH (fun s89 r h=>?_) fun τ hτ=>?_
 refine y3 1 [1,5,6,37,38,39,40] [500000] (zB (qc h (fun h=>?_) fun h=>?_))
 refine y4 [1,5,6,37,38,39] [500000] (zB (zC (z7 ?_)))
 obtain ⟨x97,hx97,h⟩:=bindS h
 refine qX c_Rect hx97 (y1 3 [1,5,6,8,37,38,39] [8,500000] (qM 9 (dN 9 (dE (oN 1 (zO fun τ hτ=>?_))))))
 refine bl_normal (yE hτ [1,5,6,37,38,39] [500000] (zD (z6 2 fun τ hτ=>?_)))
 cases h
 exact zH hτ
 refine zL 2 fun τ hτ=>?_
 refine th_exit ?_
 cases h
 exact zF hτ
 refine zQ (yE hτ [1,5,6] [500000] (zB (sem_draw [(4,[700200]),(9,[700450]),(14,[700700])] [(4,[700200]),(9,[700450]),(14,[700700])] [] [(5,[700200]),(6,[700200]),(7,[700200]),(8,[700200]),(10,[700200,700450]),(11,[700200,700450]),(12,[700200,700450]),(13,[700200,700450]),(15,[700450,700700])] [(0,[700200,700450,700700]),(1,[700200,700450,700700]),(2,[700200,700450,700700]),(3,[700200,700450,700700]),(4,[700450,700700]),(5,[700200,700450,700700]),(6,[700200,700450,700700]),(7,[700200,700450,700700]),(8,[700200,700450,700700]),(9,[700700]),(10,[700200,700450,700700]),(11,[700200,700450,700700]),(12,[700200,700450,700700]),(13,[700200,700450,700700]),(15,[700450,700700])] 16 (by kernel_rfl) (by kernel_rfl) [700200,700450,700700] (by kernel_rfl) (by kernel_rfl) (dN 4 ?_))))
 obtain ⟨r105,hr105,h⟩:=bindS h
 refine dC [(0,700200)] (W.cut_back_ok hr105) (dN 4 ?_)
 obtain ⟨r106,hr106,h⟩:=bindS h
 refine dC [(0,700450)] (W.cut_back_ok hr106) (dN 4 ?_)
 obtain ⟨r107,hr107,h⟩:=bindS h
 refine dC [(0,700700)] (W.cut_back_ok hr107) (dN 1 (dE (oN 5 (zO fun τ hτ=>?_))))
 refine yE hτ [1] [500000,700200,700450,700700] (z7 (zA 1 ?_))
 obtain ⟨r109,hr109,h⟩:=bindS h
 refine qV [700200,700450,700700] (W.nest_ValidatePiece_ok hr109) (y1 1 [2] [] (zN fun τ hτ=>?_))
 obtain rfl:=osi h
 exact zV hτ [(2,vI r109)]
theorem W.cut_meets_1_ok {x0 a_0 a_1 a_2 a_3 r} (h : cut_meets_1 x0 a_0 a_1 a_2 a_3=some r) : PC G.P 93 [(.agg (c_Rect x0)),(.vptr [(vI a_0),(vI a_1),(vI a_2),(vI a_3)] 0)] [] (vB r) []:=by
 refine zU G Tryz.func93 (yK [0,1] [] (y3 2 [1,2] [2] (z7 (zA 2 ?_))))
 obtain ⟨r2,hr2,h⟩:=bindS h
 refine qP (W.geom_Overlap_ok hr2) (y1 1 [3] [] (zN fun τ hτ=>?_))
 obtain rfl:=osi h
 exact zV hτ [(3,vB r2)]
theorem W.slices_IndexFunc_Lapi_Rect_api_Rect__cut_meets_1_ok {s0 f_0_0 f_0_1 f_0_2 f_0_3 r} (h : slices_IndexFunc_Lapi_Rect_api_Rect__cut_meets_1 s0 f_0_0 f_0_1 f_0_2 f_0_3=some r) : PC G.P 147 [(.sl (List.map c_Rect s0)),(.fn 93 [(.vptr [(vI f_0_0),(vI f_0_1),(vI f_0_2),(vI f_0_3)] 0)])] [] (vI r) []:=by
 refine zU G Tryz.func147 (yK [0,1] [] (y3 1 [0,1] [] (zB (z7 (zA 1 (qL c_Rect s0 ?_))))))
 refine y1 1 [0,1,7,8] [] (zC ?_)
 obtain ⟨x56,hx56,h⟩:=bindS h
 refine ql hx56 (fun s39=>⟨[(0,s_Rect s0),(1,.fn 93 [(.vptr [(vI f_0_0),(vI f_0_1),(vI f_0_2),(vI f_0_3)] 0)]),(7,vI (s0.length : Int)),(8,vI s39)],[]⟩) (fun x56=>match x56 with | .inl j57=>(.ret,⟨[(4,vI j57)],[]⟩) | .inr j58=>(.exit 0,⟨[],[]⟩)) qH (fun s39 r h=>?_) (fun τ hτ=>?_) (hout:=(by intro x; rcases x with _ | _ <;> rfl))
 refine y3 1 [0,1,7,8,9] [] (zB (qc h (fun h=>?_) fun h=>?_))
 refine y4 [0,1,7,8] [] (zB (zC (y3 2 [0,1,5,7,8] [] (z7 (zA 3 ?_)))))
 obtain ⟨x54,hx54,h⟩:=bindS h
 refine qX c_Rect hx54 (zA 1 ?_)
 obtain ⟨r55,hr55,h⟩:=bindS h
 refine qP (W.cut_meets_1_ok hr55) (zP fun τ hτ=>?_)
 refine yE hτ [0,1,5,7,8,16] [] (qc h (fun h=>?_) fun h=>?_)
 refine z8 2 ⟨[(4,vI s39)],[]⟩ fun τ hτ=>?_
 refine bl_ret (th_ret ?_)
 cases h
 exact zF hτ
 refine zM fun τ hτ=>?_
 refine bl_normal (yE hτ [0,1,7,8] [] (zD (z6 2 fun τ hτ=>?_)))
 cases h
 exact zH hτ
 refine zL 0 fun τ hτ=>?_
 refine th_exit ?_
 cases h
 exact zF hτ
 rcases x56 with j57 | j58
 refine bl_ret (th_ret ?_)
 obtain rfl:=osi h
 exact zV hτ [(4,vI j57)]
 refine zQ (yE hτ [] [] (z8 1 ⟨[(4,vI (-1))],[]⟩ fun τ hτ=>?_))
 obtain rfl:=osi h
 exact zV hτ [(4,vI (-1))]
theorem W.slices_ContainsFunc_Lapi_Rect_api_Rect__cut_meets_1_ok {s0 f_0_0 f_0_1 f_0_2 f_0_3 r} (h : slices_ContainsFunc_Lapi_Rect_api_Rect__cut_meets_1 s0 f_0_0 f_0_1 f_0_2 f_0_3=some r) : PC G.P 92 [(.sl (List.map c_Rect s0)),(.fn 93 [(.vptr [(vI f_0_0),(vI f_0_1),(vI f_0_2),(vI f_0_3)] 0)])] [] (vB r) []:=by
 refine zU G Tryz.func92 (yK [0,1] [] (y3 1 [0,1] [] (z7 (zA 2 ?_))))
 obtain ⟨r2,hr2,h⟩:=bindS h
 refine qP (W.slices_IndexFunc_Lapi_Rect_api_Rect__cut_meets_1_ok hr2) (y1 2 [4] [] (zN fun τ hτ=>?_))
 obtain rfl:=osi h
 exact zV hτ [(4,vB (decide (r2 ≥ 0)))]
theorem W.cut_meets_ok {r0 l r} (h : cut_meets r0 l=some r) : PC G.P 43 [(.agg (c_Rect r0)),(.sl (List.map c_Rect l))] [] (vB r) []:=by
 refine zU G Tryz.func43 (yK [0,1] [] (y3 2 [1,2] [2] (z7 (zA 2 ?_))))
 obtain ⟨r2,hr2,h⟩:=bindS h
 refine qV [2] (W.slices_ContainsFunc_Lapi_Rect_api_Rect__cut_meets_1_ok hr2) (y1 1 [4] [] (zN fun τ hτ=>?_))
 obtain rfl:=osi h
 exact zV hτ [(4,vB r2)]
theorem W.cut_Validate_ok {l r} (h : cut_Validate l=some r) : PC G.P 11 [(.agg (c_LayoutT l))] [] (vI r) []:=by
 refine zU G Tryz.func11 (yK [0] [] (y3 2 [1] [1] (zB (z7 (zA 2 ?_)))))
 obtain ⟨r4,hr4,h⟩:=bindS h
 refine qP (W.nest_ValidateSheet_ok hr4) (y1 1 [1,3] [1] (y3 2 [1,3,22] [1] (qc h (fun h=>?_) fun h=>?_)))
 refine z8 2 ⟨[(2,vI r4)],[]⟩ fun τ hτ=>?_
 refine th_ret ?_
 obtain rfl:=osi h
 exact zV hτ [(2,vI r4)]
 refine y4 [1] [1] (zB (z7 (zA 2 (qL c_Piece l.Pieces (y1 1 [1,27] [1] (qc h (fun h=>?_) fun h=>?_))))))
 refine z8 1 ⟨[(2,vI 4)],[]⟩ fun τ hτ=>?_
 refine th_ret ?_
 obtain rfl:=osi h
 exact zV hτ [(2,vI 4)]
 refine y4 [1] [1] (zB (z7 (zA 2 (qL c_Piece l.Pieces (y1 1 [1,29,30,31] [1] (zC ?_))))))
 obtain ⟨x60,hx60,h⟩:=bindS h
 refine ql hx60 (fun s43=>⟨[(1,.ptr 500000 0),(29,s_Piece l.Pieces),(30,vI (l.Pieces.length : Int)),(31,vI s43)],[(500000,.box (c_LayoutT l))]⟩) (fun x60=>match x60 with | .inl j61=>(.ret,⟨[(2,vI j61)],[]⟩) | .inr j62=>(.exit 0,⟨[(1,.ptr 500000 0)],[(500000,.box (c_LayoutT l))]⟩)) (sp [] [(1,500000)]) (fun s43 r h=>?_) (fun τ hτ=>?_) (hout:=(by intro x; rcases x with _ | _ <;> rfl))
 refine y3 1 [1,29,30,31,32] [500000] (zB (qc h (fun h=>?_) fun h=>?_))
 refine y4 [1,29,30,31] [500000] (zB (zC (z7 ?_)))
 obtain ⟨x57,hx57,h⟩:=bindS h
 refine qX c_Piece hx57 (y1 3 [1,5,29,30,31] [5,500000] (z7 (zA 1 ?_)))
 obtain ⟨r59,hr59,h⟩:=bindS h
 refine qP (W.cut_pieceError_ok hr59) (y1 1 [1,6,29,30,31] [500000] (y3 2 [1,6,29,30,31,38] [500000] (qc h (fun h=>?_) fun h=>?_)))
 refine z8 2 ⟨[(2,vI r59)],[]⟩ fun τ hτ=>?_
 refine bl_ret (th_ret ?_)
 cases h
 exact zF hτ
 refine zM fun τ hτ=>?_
 refine bl_normal (yE hτ [1,29,30,31] [500000] (zD (z6 2 fun τ hτ=>?_)))
 cases h
 exact zH hτ
 refine zL 0 fun τ hτ=>?_
 refine th_exit ?_
 cases h
 exact zF hτ
 rcases x60 with j61 | j62
 refine bl_ret (th_ret ?_)
 obtain rfl:=osi h
 exact zV hτ [(2,vI j61)]
 refine zQ (yE hτ [1] [500000] (y3 9 [1,7] [7,500000] (zB (z7 (zA 2 (qL c_Piece l.Pieces ?_))))))
 refine y1 1 [1,7,49,50,51] [7,500000] (zC ?_)
 obtain ⟨x802,hx802,h⟩:=bindS h
 refine ql hx802 (fun s557=>⟨[(1,.ptr 500000 0),(7,.ptr 500001 0),(49,s_Piece l.Pieces),(50,vI (l.Pieces.length : Int)),(51,vI s557)],[(500000,.box (c_LayoutT l)),(500001,.box [(vI 0),(vI 0),(vI l.Sheet.Width),(vI l.Sheet.Height)])]⟩) (fun x802=>match x802 with | .inl j803=>(.ret,⟨[(2,vI 13)],[]⟩) | .inr j804=>(.exit 2,⟨[(1,.ptr 500000 0)],[(500000,.box (c_LayoutT l))]⟩)) (sp [] [(7,500001),(500000,500000)]) (fun s557 r h=>?_) (fun τ hτ=>?_) (hout:=(by intro x; rcases x with _ | _ <;> rfl))
 refine y3 1 [1,7,49,50,51,52] [500000,500001] (zB (qc h (fun h=>?_) fun h=>?_))
 refine y4 [1,7,49,50,51] [500000,500001] (zB (zC (z7 ?_)))
 obtain ⟨x742,hx742,h⟩:=bindS h
 refine qX c_Piece hx742 (y1 3 [1,7,9,49,50,51] [9,500000,500001] (z7 (zA 2 (qL c_Rect x742.Rects (y1 1 [1,7,49,50,51,56,57,58] [500000,500001] (zC ?_))))))
 obtain ⟨x799,hx799,h⟩:=bindS h
 refine ql hx799 (fun s762=>⟨[(1,.ptr 500000 0),(7,.ptr 500001 0),(49,s_Piece l.Pieces),(50,vI (l.Pieces.length : Int)),(51,vI s557),(56,s_Rect x742.Rects),(57,vI (x742.Rects.length : Int)),(58,vI s762)],[(500000,.box (c_LayoutT l)),(500001,.box [(vI 0),(vI 0),(vI l.Sheet.Width),(vI l.Sheet.Height)])]⟩) (fun x799=>match x799 with | .inl j800=>(.ret,⟨[(2,vI 13)],[]⟩) | .inr j801=>(.exit 4,⟨[(1,.ptr 500000 0),(7,.ptr 500001 0),(49,s_Piece l.Pieces),(50,vI (l.Pieces.length : Int)),(51,vI s557)],[(500000,.box (c_LayoutT l)),(500001,.box [(vI 0),(vI 0),(vI l.Sheet.Width),(vI l.Sheet.Height)])]⟩)) qH (fun s762 r h=>?_) (fun τ hτ=>?_) (hout:=(by intro x; rcases x with _ | _ <;> rfl))
 refine y3 1 [1,7,49,50,51,56,57,58,59] [500000,500001] (zB (qc h (fun h=>?_) fun h=>?_))
 refine y4 [1,7,49,50,51,56,57,58] [500000,500001] (zB (zC (z7 ?_)))
 obtain ⟨x791,hx791,h⟩:=bindS h
 refine qX c_Rect hx791 (y1 3 [1,7,11,49,50,51,56,57,58] [11,500000,500001] (zB ?_))
 obtain ⟨j795,hj795,h⟩:=bindS h
 refine zT ⟨[(1,.ptr 500000 0),(7,.ptr 500001 0),(49,s_Piece l.Pieces),(50,vI (l.Pieces.length : Int)),(51,vI s557),(56,s_Rect x742.Rects),(57,vI (x742.Rects.length : Int)),(58,vI s762),(79,vB j795)],[(500000,.box (c_LayoutT l)),(500001,.box [(vI 0),(vI 0),(vI l.Sheet.Width),(vI l.Sheet.Height)])]⟩ ?_ fun τ hτ=>?_
 replace h:=hj795
 refine zA 2 ?_
 obtain ⟨r796,hr796,h⟩:=bindS h
 refine qP (W.geom_Inside_ok hr796) (zA 2 (zS r796 (fun b0=>⟨[(1,.ptr 500000 0),(7,.ptr 500001 0),(11,.ptr 11 0),(49,s_Piece l.Pieces),(50,vI (l.Pieces.length : Int)),(51,vI s557),(56,s_Rect x742.Rects),(57,vI (x742.Rects.length : Int)),(58,vI s762),(66,vB (!b0))],[(11,.box (c_Rect x791)),(500000,.box (c_LayoutT l)),(500001,.box [(vI 0),(vI 0),(vI l.Sheet.Width),(vI l.Sheet.Height)])]⟩) (fun hb=>?_) fun hb=>?_))
 replace h:=iteT hb h
 refine zA 4 ?_
 obtain ⟨r797,hr797,h⟩:=bindS h
 refine qP (W.cut_meets_ok hr797) (zA 2 (qB h [1,7,11,49,50,51,56,57,58,73] [11,500000,500001] [73] (fun h=>?_) fun h=>?_))
 refine z6 6 fun τ hτ=>?_
 cases h
 exact zG hτ
 refine zA 4 ?_
 obtain ⟨r798,hr798,h⟩:=bindS h
 refine qP (W.cut_meets_ok hr798) (z6 1 fun τ hτ=>?_)
 cases h
 exact zG hτ
 replace h:=iteF hb h
 refine z6 13 fun τ hτ=>?_
 cases h
 exact zG hτ
 refine yE hτ [1,7,49,50,51,56,57,58,79] [500000,500001] (qc h (fun h=>?_) fun h=>?_)
 refine z8 1 ⟨[(2,vI 13)],[]⟩ fun τ hτ=>?_
 refine bl_ret (th_ret ?_)
 cases h
 exact zF hτ
 refine zM fun τ hτ=>?_
 refine bl_normal (yE hτ [1,7,49,50,51,56,57,58] [500000,500001] (zD (z6 2 fun τ hτ=>?_)))
 cases h
 exact zH hτ
 refine zL 4 fun τ hτ=>?_
 refine th_exit ?_
 cases h
 exact zF hτ
 rcases x799 with j800 | j801
 refine bl_ret (bl_ret (th_ret ?_))
 cases h
 exact zF hτ
 refine zQ (bl_normal (yE hτ [1,7,49,50,51] [500000,500001] (zD (z6 2 fun τ hτ=>?_))))
 cases h
 exact zH hτ
 refine zL 2 fun τ hτ=>?_
 refine th_exit ?_
 cases h
 exact zF hτ
 rcases x802 with j803 | j804
 refine bl_ret (th_ret ?_)
 obtain rfl:=osi h
 exact zV hτ [(2,vI 13)]
 refine zQ (yE hτ [1] [500000] (zB (z7 (zA 2 (qL c_Piece l.Pieces (y1 1 [1,83,84,85] [500000] ?_))))))
 refine zC ?_
 obtain ⟨x3152,hx3152,h⟩:=bindS h
 refine ql hx3152 (fun s2371=>⟨[(1,.ptr 500000 0),(83,s_Piece l.Pieces),(84,vI (l.Pieces.length : Int)),(85,vI s2371)],[(500000,.box (c_LayoutT l))]⟩) (fun x3152=>match x3152 with | .inl j3153=>(.ret,⟨[(2,vI 7)],[]⟩) | .inr j3154=>(.exit 6,⟨[],[]⟩)) qH (fun s2371 r h=>?_) (fun τ hτ=>?_) (hout:=(by intro x; rcases x with _ | _ <;> rfl))
 refine y3 1 [1,83,84,85,86] [500000] (zB (qc h (fun h=>?_) fun h=>?_))
 refine y4 [1,83,84,85] [500000] (zB (zC (z7 (zA 1 ?_))))
 obtain ⟨x2958,hx2958,h⟩:=bindS h
 refine qX c_Piece hx2958 (y1 4 [1,12,13,83,84,85] [13,500000] (z7 (zA 3 ?_)))
 obtain ⟨l2960,hl2960,h⟩:=bindS h
 refine evs_op (st_slH (c:=c_Piece) (l:=l.Pieces) (sz:=7) (hi:=s2371) (k2:=.i64) (by kernel_rfl) hl2960) (qL c_Piece l2960 (y1 1 [1,13,83,84,85,93,94,95] [13,500000] (zC ?_)))
 obtain ⟨x3149,hx3149,h⟩:=bindS h
 refine ql hx3149 (fun s3024=>⟨[(1,.ptr 500000 0),(13,.ptr 500001 0),(83,s_Piece l.Pieces),(84,vI (l.Pieces.length : Int)),(85,vI s2371),(93,s_Piece l2960),(94,vI (l2960.length : Int)),(95,vI s3024)],[(500000,.box (c_LayoutT l)),(500001,.box (c_Piece x2958))]⟩) (fun x3149=>match x3149 with | .inl j3150=>(.ret,⟨[(2,vI 7)],[]⟩) | .inr j3151=>(.exit 8,⟨[(1,.ptr 500000 0),(83,s_Piece l.Pieces),(84,vI (l.Pieces.length : Int)),(85,vI s2371)],[(500000,.box (c_LayoutT l))]⟩)) (sp [] [(13,500001),(500000,500000)]) (fun s3024 r h=>?_) (fun τ hτ=>?_) (hout:=(by intro x; rcases x with _ | _ <;> rfl))
 refine y3 1 [1,13,83,84,85,93,94,95,96] [500000,500001] (zB (qc h (fun h=>?_) fun h=>?_))
 refine y4 [1,13,83,84,85,93,94,95] [500000,500001] (zB (zC (z7 ?_)))
 obtain ⟨x3119,hx3119,h⟩:=bindS h
 refine qX c_Piece hx3119 (y1 3 [1,13,15,83,84,85,93,94,95] [15,500000,500001] (z7 (zA 2 (qL c_Rect x2958.Rects (y1 1 [1,13,15,83,84,85,93,94,95,100,101,102] [15,500000,500001] (zC ?_))))))
 obtain ⟨x3146,hx3146,h⟩:=bindS h
 refine ql hx3146 (fun s3129=>⟨[(1,.ptr 500000 0),(13,.ptr 500001 0),(15,.ptr 500002 0),(83,s_Piece l.Pieces),(84,vI (l.Pieces.length : Int)),(85,vI s2371),(93,s_Piece l2960),(94,vI (l2960.length : Int)),(95,vI s3024),(100,s_Rect x2958.Rects),(101,vI (x2958.Rects.length : Int)),(102,vI s3129)],[(500000,.box (c_LayoutT l)),(500001,.box (c_Piece x2958)),(500002,.box (c_Piece x3119))]⟩) (fun x3146=>match x3146 with | .inl j3147=>(.ret,⟨[(2,vI 7)],[]⟩) | .inr j3148=>(.exit 10,⟨[(1,.ptr 500000 0),(13,.ptr 500001 0),(83,s_Piece l.Pieces),(84,vI (l.Pieces.length : Int)),(85,vI s2371),(93,s_Piece l2960),(94,vI (l2960.length : Int)),(95,vI s3024)],[(500000,.box (c_LayoutT l)),(500001,.box (c_Piece x2958))]⟩)) (sp [] [(15,500002),(500000,500000),(500001,500001)]) (fun s3129 r h=>?_) (fun τ hτ=>?_) (hout:=(by intro x; rcases x with _ | _ <;> rfl))
 refine y3 1 [1,13,15,83,84,85,93,94,95,100,101,102,103] [500000,500001,500002] (zB (qc h (fun h=>?_) fun h=>?_))
 refine y4 [1,13,15,83,84,85,93,94,95,100,101,102] [500000,500001,500002] (zB (zC (z7 ?_)))
 obtain ⟨x3143,hx3143,h⟩:=bindS h
 refine qX c_Rect hx3143 (y1 3 [1,13,15,17,83,84,85,93,94,95,100,101,102] [17,500000,500001,500002] (z7 (zA 3 ?_)))
 obtain ⟨r3145,hr3145,h⟩:=bindS h
 refine qP (W.cut_meets_ok hr3145) (zP fun τ hτ=>?_)
 refine yE hτ [1,13,15,83,84,85,93,94,95,100,101,102,109] [500000,500001,500002] (qc h (fun h=>?_) fun h=>?_)
 refine z8 1 ⟨[(2,vI 7)],[]⟩ fun τ hτ=>?_
 refine bl_ret (th_ret ?_)
 cases h
 exact zF hτ
 refine zM fun τ hτ=>?_
 refine bl_normal (yE hτ [1,13,15,83,84,85,93,94,95,100,101,102] [500000,500001,500002] (zD (z6 2 fun τ hτ=>?_)))
 cases h
 exact zH hτ
 refine zL 10 fun τ hτ=>?_
 refine th_exit ?_
 cases h
 exact zF hτ
 rcases x3146 with j3147 | j3148
 refine bl_ret (bl_ret (th_ret ?_))
 cases h
 exact zF hτ
 refine zQ (bl_normal (yE hτ [1,13,83,84,85,93,94,95] [500000,500001] (zD (z6 2 fun τ hτ=>?_))))
 cases h
 exact zH hτ
 refine zL 8 fun τ hτ=>?_
 refine th_exit ?_
 cases h
 exact zF hτ
 rcases x3149 with j3150 | j3151
 refine bl_ret (bl_ret (th_ret ?_))
 cases h
 exact zF hτ
 refine zQ (bl_normal (yE hτ [1,83,84,85] [500000] (zD (z6 2 fun τ hτ=>?_))))
 cases h
 exact zH hτ
 refine zL 6 fun τ hτ=>?_
 refine th_exit ?_
 cases h
 exact zF hτ
 rcases x3152 with j3153 | j3154
 refine bl_ret (th_ret ?_)
 obtain rfl:=osi h
 exact zV hτ [(2,vI 7)]
 refine zQ (yE hτ [] [] (z8 1 ⟨[(2,vI 0)],[]⟩ fun τ hτ=>?_))
 obtain rfl:=osi h
 exact zV hτ [(2,vI 0)]
theorem W.sheetmetalref02_within_ok {n lo hi r} (h : sheetmetalref02_within n lo hi=some r) : PC G.P 177 [(vI n),(vI lo),(vI hi)] [] (vB r) []:=by
 refine zU G Tryz.func177 (yK [0,1,2] [] (y3 1 [0,1,2] [] (zB ?_)))
 obtain ⟨j1,hj1,h⟩:=bindS h
 refine zT ⟨[(6,vB j1)],[]⟩ ?_ fun τ hτ=>?_
 replace h:=hj1
 refine zA 4 (qB h [0,2,10] [] [10] (fun h=>?_) fun h=>?_)
 refine z6 5 fun τ hτ=>?_
 cases h
 exact zG hτ
 refine z6 5 fun τ hτ=>?_
 cases h
 exact zG hτ
 refine yE hτ [6] [] (zN fun τ hτ=>?_)
 obtain rfl:=osi h
 exact zV hτ [(6,vB j1)]
theorem W.sheetmetalref02_reserved_ok {r} (h : sheetmetalref02_reserved=some r) : PC G.P 179 [] [] (vS r) []:=by
 refine zU G Tryz.func179 (yK [] [] (y3 1 [] [] (z8 1 ⟨[(0,vS (ByteArray.mk #[32,112,97,114,116,32,109,97,116,101,114,105,97,108,32,98,97,115,101,32,102,108,97,110,103,101,32,104,111,108,101,32,99,117,116,32,102,111,114,109,32,101,97,115,116,32,115,111,117,116,104,32,119,101,115,116,32,110,111,114,116,104,32,117,112,32,100,111,119,110,32,99,108,111,115,101,117,112,32,99,108,111,115,101,100,111,119,110,32,103,114,97,105,110,32,120,32,121,32,116,97,98,108,101,32,97,110,103,108,101,32,109,97,99,104,105,110,101,32,112,117,110,99,104,32,100,105,101,32,102,114,97,109,101,32,103,97,117,103,101,32,112,111,108,121,32,115,116,97,116,105,111,110,115,32]))],[]⟩ fun τ hτ=>?_)))
 obtain rfl:=osi h
 exact zV hτ [(0,vS (ByteArray.mk #[32,112,97,114,116,32,109,97,116,101,114,105,97,108,32,98,97,115,101,32,102,108,97,110,103,101,32,104,111,108,101,32,99,117,116,32,102,111,114,109,32,101,97,115,116,32,115,111,117,116,104,32,119,101,115,116,32,110,111,114,116,104,32,117,112,32,100,111,119,110,32,99,108,111,115,101,117,112,32,99,108,111,115,101,100,111,119,110,32,103,114,97,105,110,32,120,32,121,32,116,97,98,108,101,32,97,110,103,108,101,32,109,97,99,104,105,110,101,32,112,117,110,99,104,32,100,105,101,32,102,114,97,109,101,32,103,97,117,103,101,32,112,111,108,121,32,115,116,97,116,105,111,110,115,32]))]
theorem W.sheetmetalref02_isWord_ok {text s1 r} (h : sheetmetalref02_isWord text s1=some r) : PC G.P 178 [(vS text),(vS s1)] [] (vB r) []:=by
 refine zU G Tryz.func178 (yK [0,1] [] (y3 1 [0,1] [] (zB (y3 1 [0,1,5] [] (zC ?_)))))
 obtain ⟨x80,hx80,h⟩:=bindS h
 refine ql hx80 (fun s55=>⟨[(0,vS text),(1,vS s1),(5,vI s55)],[]⟩) (fun x80=>match x80 with | .inl j81=>(.ret,⟨[(4,vB true)],[]⟩) | .inr j82=>(.exit 0,⟨[],[]⟩)) qH (fun s55 r h=>?_) (fun τ hτ=>?_) (hout:=(by intro x; rcases x with _ | _ <;> rfl))
 refine zB (y3 8 [0,1,5,13] [] (qc h (fun h=>?_) fun h=>?_))
 refine y4 [0,1,5] [] (zB (zC (z7 (zA 7 ?_))))
 obtain ⟨s77,hs77,h⟩:=bindS h
 refine evs_at (at_ssl (s:=text) (lo:=s55) (hi:=(iadd (iadd s55 (s1.size : Int)) 2)) (k1:=.i64) (k2:=.i64) (by kernel_rfl) hs77) (zA 1 ?_)
 obtain ⟨s78,hs78,h⟩:=bindS h
 refine evs_op (st_cat (a:=(ByteArray.mk #[32])) (b:=s1) (by kernel_rfl) hs78) ?_
 obtain ⟨s79,hs79,h⟩:=bindS h
 refine evs_op (st_cat (a:=s78) (b:=(ByteArray.mk #[32])) (by kernel_rfl) hs79) (y1 1 [0,1,5,27] [] (qc h (fun h=>?_) fun h=>?_))
 refine z8 1 ⟨[(4,vB true)],[]⟩ fun τ hτ=>?_
 refine bl_ret (th_ret ?_)
 cases h
 exact zF hτ
 refine zM fun τ hτ=>?_
 refine bl_normal (yE hτ [0,1,5] [] (zD (z6 3 fun τ hτ=>?_)))
 cases h
 exact zH hτ
 refine zL 0 fun τ hτ=>?_
 refine th_exit ?_
 cases h
 exact zF hτ
 rcases x80 with j81 | j82
 refine bl_ret (th_ret ?_)
 obtain rfl:=osi h
 exact zV hτ [(4,vB true)]
 refine zQ (yE hτ [] [] (z8 1 ⟨[(4,vB false)],[]⟩ fun τ hτ=>?_))
 obtain rfl:=osi h
 exact zV hτ [(4,vB false)]
theorem W.sheetmetalref02_ValidName_ok {s0 r} (h : sheetmetalref02_ValidName s0=some r) : PC G.P 148 [(vS s0)] [] (vB r) []:=by
 refine zU G Tryz.func148 (yK [0] [] (y3 1 [0] [] (zB (zB ?_))))
 obtain ⟨j11,hj11,h⟩:=bindS h
 refine zT ⟨[(0,vS s0),(18,vB j11)],[]⟩ ?_ fun τ hτ=>?_
 replace h:=hj11
 refine zA 2 ?_
 obtain ⟨r12,hr12,h⟩:=bindS h
 refine qP (W.sheetmetalref02_within_ok hr12) (zA 2 (zS r12 (fun b0=>⟨[(0,vS s0),(9,vB (!b0))],[]⟩) (fun hb=>?_) fun hb=>?_))
 replace h:=iteT hb h
 refine zA 1 ?_
 obtain ⟨x13,hx13,h⟩:=bindS h
 refine evs_at (at_sidx (s:=s0) (i:=0) (kd:=.i64) (by kernel_rfl) hx13) (zA 3 (qB h [0,14] [] [14] (fun h=>?_) fun h=>?_))
 refine z6 4 fun τ hτ=>?_
 cases h
 exact zG hτ
 refine zA 1 ?_
 obtain ⟨x14,hx14,h⟩:=bindS h
 refine evs_at (at_sidx (s:=s0) (i:=0) (kd:=.i64) (by kernel_rfl) hx14) (z6 2 fun τ hτ=>?_)
 cases h
 exact zG hτ
 replace h:=iteF hb h
 refine z6 9 fun τ hτ=>?_
 cases h
 exact zG hτ
 refine yE hτ [0,18] [] (qc h (fun h=>?_) fun h=>?_)
 refine z8 1 ⟨[(2,vB false)],[]⟩ fun τ hτ=>?_
 refine th_ret ?_
 obtain rfl:=osi h
 exact zV hτ [(2,vB false)]
 refine y4 [0] [] (zB (y3 1 [0,3] [] (zC ?_)))
 obtain ⟨x142,hx142,h⟩:=bindS h
 refine ql hx142 (fun s101=>⟨[(0,vS s0),(3,vI s101)],[]⟩) (fun x142=>match x142 with | .inl j143=>(.ret,⟨[(2,vB false)],[]⟩) | .inr j144=>(.exit 0,⟨[(0,vS s0)],[]⟩)) qH (fun s101 r h=>?_) (fun τ hτ=>?_) (hout:=(by intro x; rcases x with _ | _ <;> rfl))
 refine zB (y3 4 [0,3,22] [] (qc h (fun h=>?_) fun h=>?_))
 refine y4 [0,3] [] (zB (zC (zB ?_)))
 obtain ⟨j134,hj134,h⟩:=bindS h
 refine zT ⟨[(0,vS s0),(3,vI s101),(4,vB j134)],[]⟩ ?_ fun τ hτ=>?_
 replace h:=hj134
 refine zA 2 ?_
 obtain ⟨x135,hx135,h⟩:=bindS h
 refine evs_at (at_sidx (s:=s0) (i:=s101) (kd:=.i64) (by kernel_rfl) hx135) (zA 2 (qB h [0,3,29] [] [29] (fun h=>?_) fun h=>?_))
 refine zA 2 ?_
 obtain ⟨x136,hx136,h⟩:=bindS h
 refine evs_at (at_sidx (s:=s0) (i:=s101) (kd:=.i64) (by kernel_rfl) hx136) (z6 3 fun τ hτ=>?_)
 cases h
 exact zG hτ
 refine z6 6 fun τ hτ=>?_
 cases h
 exact zG hτ
 refine yE hτ [0,3,4] [] (zB ?_)
 obtain ⟨j139,hj139,h⟩:=bindS h
 refine zT ⟨[(0,vS s0),(3,vI s101),(48,vB j139)],[]⟩ ?_ fun τ hτ=>?_
 replace h:=hj139
 refine zA 3 (zS j134 (fun b0=>⟨[(0,vS s0),(3,vI s101),(37,vB (!b0))],[]⟩) (fun hb=>?_) fun hb=>?_)
 replace h:=iteT hb h
 refine z6 11 fun τ hτ=>?_
 cases h
 exact zG hτ
 replace h:=iteF hb h
 refine zA 2 ?_
 obtain ⟨x140,hx140,h⟩:=bindS h
 refine evs_at (at_sidx (s:=s0) (i:=s101) (kd:=.i64) (by kernel_rfl) hx140) (zA 2 (qB h [0,3,37,42] [] [42] (fun h=>?_) fun h=>?_))
 refine z6 6 fun τ hτ=>?_
 cases h
 exact zG hτ
 refine zA 2 ?_
 obtain ⟨x141,hx141,h⟩:=bindS h
 refine evs_at (at_sidx (s:=s0) (i:=s101) (kd:=.i64) (by kernel_rfl) hx141) (z6 3 fun τ hτ=>?_)
 cases h
 exact zG hτ
 refine yE hτ [0,3,48] [] (qc h (fun h=>?_) fun h=>?_)
 refine z8 1 ⟨[(2,vB false)],[]⟩ fun τ hτ=>?_
 refine bl_ret (th_ret ?_)
 cases h
 exact zF hτ
 refine zM fun τ hτ=>?_
 refine bl_normal (yE hτ [0,3] [] (zD (z6 3 fun τ hτ=>?_)))
 cases h
 exact zH hτ
 refine zL 0 fun τ hτ=>?_
 refine th_exit ?_
 cases h
 exact zF hτ
 rcases x142 with j143 | j144
 refine bl_ret (th_ret ?_)
 obtain rfl:=osi h
 exact zV hτ [(2,vB false)]
 refine zQ (yE hτ [0] [] (z7 ?_))
 obtain ⟨r147,hr147,h⟩:=bindS h
 refine qP (W.sheetmetalref02_reserved_ok hr147) (zA 1 ?_)
 obtain ⟨r148,hr148,h⟩:=bindS h
 refine qP (W.sheetmetalref02_isWord_ok hr148) (y1 2 [2] [] (zN fun τ hτ=>?_))
 obtain rfl:=osi h
 exact zV hτ [(2,vB (!r148))]
theorem W.sheetmetalref06_stuff_ok {name material gauge grain r} (h : sheetmetalref06_stuff name material gauge grain=some r) : PC G.P 95 [(vS name),(vS material),(vI gauge),(vI grain)] [] (vI r) []:=by
 refine zU G Tryz.func95 (yK [0,1,2,3] [] (y3 1 [0,1,2,3] [] (zB (zB ?_))))
 obtain ⟨j8,hj8,h⟩:=bindS h
 refine zT ⟨[(2,vI gauge),(3,vI grain),(16,vB j8)],[]⟩ ?_ fun τ hτ=>?_
 replace h:=hj8
 refine zA 1 ?_
 obtain ⟨r9,hr9,h⟩:=bindS h
 refine qP (W.sheetmetalref02_ValidName_ok hr9) (zA 2 (zS r9 (fun b0=>⟨[(1,vS material),(2,vI gauge),(3,vI grain),(12,vB (!b0))],[]⟩) (fun hb=>?_) fun hb=>?_))
 replace h:=iteT hb h
 refine zA 1 ?_
 obtain ⟨r10,hr10,h⟩:=bindS h
 refine qP (W.sheetmetalref02_ValidName_ok hr10) (z6 2 fun τ hτ=>?_)
 cases h
 exact zG hτ
 replace h:=iteF hb h
 refine z6 4 fun τ hτ=>?_
 cases h
 exact zG hτ
 refine yE hτ [2,3,16] [] (qc h (fun h=>?_) fun h=>?_)
 refine z8 1 ⟨[(8,vI 2)],[]⟩ fun τ hτ=>?_
 refine th_ret ?_
 obtain rfl:=osi h
 exact zV hτ [(8,vI 2)]
 refine y4 [2,3] [] (zB (zB ?_))
 obtain ⟨j12,hj12,h⟩:=bindS h
 refine zT ⟨[(30,vB j12)],[]⟩ ?_ fun τ hτ=>?_
 replace h:=hj12
 refine zA 3 (qB h [2,3,19] [] [19] (fun h=>?_) fun h=>?_)
 refine z6 11 fun τ hτ=>?_
 cases h
 exact zG hτ
 refine zA 4 (qB h [3,23] [] [23] (fun h=>?_) fun h=>?_)
 refine z6 7 fun τ hτ=>?_
 cases h
 exact zG hτ
 refine zA 4 (qB h [3,27] [] [27] (fun h=>?_) fun h=>?_)
 refine z6 3 fun τ hτ=>?_
 cases h
 exact zG hτ
 refine z6 3 fun τ hτ=>?_
 cases h
 exact zG hτ
 refine yE hτ [30] [] (qc h (fun h=>?_) fun h=>?_)
 refine z8 1 ⟨[(8,vI 1)],[]⟩ fun τ hτ=>?_
 refine th_ret ?_
 obtain rfl:=osi h
 exact zV hτ [(8,vI 1)]
 refine y4 [] [] (z8 1 ⟨[(8,vI 0)],[]⟩ fun τ hτ=>?_)
 obtain rfl:=osi h
 exact zV hτ [(8,vI 0)]
theorem W.sheetmetalref06_near_ok {n r} (h : sheetmetalref06_near n=some r) : PC G.P 139 [(vI n)] [] (vB r) []:=by
 refine zU G Tryz.func139 (yK [0] [] (y3 1 [0] [] (zB ?_)))
 obtain ⟨j1,hj1,h⟩:=bindS h
 refine zT ⟨[(2,vB j1)],[]⟩ ?_ fun τ hτ=>?_
 replace h:=hj1
 refine zA 3 (qB h [0,5] [] [5] (fun h=>?_) fun h=>?_)
 refine z6 4 fun τ hτ=>?_
 cases h
 exact zG hτ
 refine z6 4 fun τ hτ=>?_
 cases h
 exact zG hτ
 refine yE hτ [2] [] (zN fun τ hτ=>?_)
 obtain rfl:=osi h
 exact zV hτ [(2,vB j1)]
theorem W.sheetmetalref06_Right_ok {r0 r} (h : sheetmetalref06_Right r0=some r) : PC G.P 103 [(.agg (c_Rect r0))] [] (vB r) []:=by
 refine zU G Tryz.func103 (yK [0] [] (y3 2 [1] [1] (zB (zB ?_))))
 obtain ⟨j8,hj8,h⟩:=bindS h
 refine zT ⟨[(1,.ptr 500000 0),(32,vB j8)],[(500000,.box (c_Rect r0))]⟩ ?_ fun τ hτ=>?_
 replace h:=hj8
 refine zA 2 ?_
 obtain ⟨r9,hr9,h⟩:=bindS h
 refine qP (W.sheetmetalref06_near_ok hr9) (zA 2 (zS r9 (fun b0=>⟨[(1,.ptr 1 0),(7,vB (!b0))],[(1,.box (c_Rect r0))]⟩) (fun hb=>?_) fun hb=>?_))
 replace h:=iteT hb h
 refine zA 2 ?_
 obtain ⟨r10,hr10,h⟩:=bindS h
 refine qP (W.sheetmetalref06_near_ok hr10) (zA 3 (zS r10 (fun b0=>⟨[(1,.ptr 1 0),(13,vB (!b0))],[(1,.box (c_Rect r0))]⟩) (fun hb=>?_) fun hb=>?_))
 replace h:=iteT hb h
 refine zA 5 (qB h [1,18] [1] [18] (fun h=>?_) fun h=>?_)
 refine z6 14 fun τ hτ=>?_
 cases h
 exact leafC hτ (sp [] [(1,500000)])
 refine zA 5 (qB h [1,23] [1] [23] (fun h=>?_) fun h=>?_)
 refine z6 9 fun τ hτ=>?_
 cases h
 exact leafC hτ (sp [] [(1,500000)])
 refine zA 5 (qB h [1,28] [1] [28] (fun h=>?_) fun h=>?_)
 refine z6 4 fun τ hτ=>?_
 cases h
 exact leafC hτ (sp [] [(1,500000)])
 refine z6 4 fun τ hτ=>?_
 cases h
 exact leafC hτ (sp [] [(1,500000)])
 replace h:=iteF hb h
 refine z6 19 fun τ hτ=>?_
 cases h
 exact leafC hτ (sp [] [(1,500000)])
 replace h:=iteF hb h
 refine z6 25 fun τ hτ=>?_
 cases h
 exact leafC hτ (sp [] [(1,500000)])
 refine yE hτ [1,32] [500000] (qc h (fun h=>?_) fun h=>?_)
 refine z8 1 ⟨[(2,vB false)],[]⟩ fun τ hτ=>?_
 refine th_ret ?_
 obtain rfl:=osi h
 exact zV hτ [(2,vB false)]
 refine y4 [1] [500000] (zB ?_)
 obtain ⟨j13,hj13,h⟩:=bindS h
 refine zT ⟨[(2,vB j13)],[]⟩ ?_ fun τ hτ=>?_
 replace h:=hj13
 refine zA 5 ?_
 obtain ⟨r14,hr14,h⟩:=bindS h
 refine qP (W.sheetmetalref06_near_ok hr14) (zA 1 (qB h [1,39] [500000] [39] (fun h=>?_) fun h=>?_))
 refine zA 5 ?_
 obtain ⟨r15,hr15,h⟩:=bindS h
 refine qP (W.sheetmetalref06_near_ok hr15) (z6 2 fun τ hτ=>?_)
 cases h
 exact zG hτ
 refine z6 8 fun τ hτ=>?_
 cases h
 exact zG hτ
 refine yE hτ [2] [] (zN fun τ hτ=>?_)
 obtain rfl:=osi h
 exact zV hτ [(2,vB j13)]
theorem W.sheetmetalref06_Rights_ok {l r} (h : sheetmetalref06_Rights l=some r) : PC G.P 96 [(.sl (List.map c_Rect l))] [] (vB r) []:=by
 refine zU G Tryz.func96 (yK [0] [] (y3 1 [0] [] (zB (y3 1 [0,3] [] (zC ?_)))))
 obtain ⟨x56,hx56,h⟩:=bindS h
 refine ql hx56 (fun s39=>⟨[(0,s_Rect l),(3,vI s39)],[]⟩) (fun x56=>match x56 with | .inl j57=>(.ret,⟨[(2,vB false)],[]⟩) | .inr j58=>(.exit 0,⟨[],[]⟩)) qH (fun s39 r h=>?_) (fun τ hτ=>?_) (hout:=(by intro x; rcases x with _ | _ <;> rfl))
 refine zB (z7 (zA 2 (qL c_Rect l (y1 1 [0,3,7] [] (qc h (fun h=>?_) fun h=>?_)))))
 refine y4 [0,3] [] (zB (zC (z7 (zA 2 ?_))))
 obtain ⟨x54,hx54,h⟩:=bindS h
 refine qX c_Rect hx54 (zA 1 ?_)
 obtain ⟨r55,hr55,h⟩:=bindS h
 refine qP (W.sheetmetalref06_Right_ok hr55) (y1 1 [0,3,15] [] (qc h (fun h=>?_) fun h=>?_))
 refine z8 1 ⟨[(2,vB false)],[]⟩ fun τ hτ=>?_
 refine bl_ret (th_ret ?_)
 cases h
 exact zF hτ
 refine zM fun τ hτ=>?_
 refine bl_normal (yE hτ [0,3] [] (zD (z6 3 fun τ hτ=>?_)))
 cases h
 exact zH hτ
 refine zL 0 fun τ hτ=>?_
 refine th_exit ?_
 cases h
 exact zF hτ
 rcases x56 with j57 | j58
 refine bl_ret (th_ret ?_)
 obtain rfl:=osi h
 exact zV hτ [(2,vB false)]
 refine zQ (yE hτ [] [] (z8 1 ⟨[(2,vB true)],[]⟩ fun τ hτ=>?_))
 obtain rfl:=osi h
 exact zV hτ [(2,vB true)]
theorem W.sheetmetalref06_Within_ok {a b r} (h : sheetmetalref06_Within a b=some r) : PC G.P 47 [(.agg (c_Rect a)),(.agg (c_Rect b))] [] (vB r) []:=by
 refine zU G Tryz.func47 (yK [0,1] [] (y3 3 [2,3] [2,3] (zB ?_)))
 obtain ⟨j3,hj3,h⟩:=bindS h
 refine zT ⟨[(4,vB j3)],[]⟩ ?_ fun τ hτ=>?_
 replace h:=hj3
 refine zA 1 ?_
 obtain ⟨r4,hr4,h⟩:=bindS h
 refine qP (W.sheetmetalref06_Right_ok hr4) (zA 1 (qB h [2,3,7] [2,3] [7] (fun h=>?_) fun h=>?_))
 refine zA 1 ?_
 obtain ⟨r5,hr5,h⟩:=bindS h
 refine qP (W.sheetmetalref06_Right_ok hr5) (zA 2 (qB h [2,3,11] [2,3] [11] (fun h=>?_) fun h=>?_))
 refine zA 7 (qB h [2,3,18] [2,3] [18] (fun h=>?_) fun h=>?_)
 refine zA 7 (qB h [2,3,25] [2,3] [25] (fun h=>?_) fun h=>?_)
 refine zA 13 (qB h [2,3,38] [2,3] [38] (fun h=>?_) fun h=>?_)
 refine z6 13 fun τ hτ=>?_
 cases h
 exact zG hτ
 refine z6 13 fun τ hτ=>?_
 cases h
 exact zG hτ
 refine z6 26 fun τ hτ=>?_
 cases h
 exact zG hτ
 refine z6 33 fun τ hτ=>?_
 cases h
 exact zG hτ
 refine z6 40 fun τ hτ=>?_
 cases h
 exact zG hτ
 refine z6 44 fun τ hτ=>?_
 cases h
 exact zG hτ
 refine yE hτ [4] [] (zN fun τ hτ=>?_)
 obtain rfl:=osi h
 exact zV hτ [(4,vB j3)]
theorem W.sheetmetalref06_inside_ok {s0 l r} (h : sheetmetalref06_inside s0 l=some r) : PC G.P 97 [(.agg (c_Sheet s0)),(.sl (List.map c_Rect l))] [] (vB r) []:=by
 refine zU G Tryz.func97 (yK [0,1] [] (y3 2 [1,2] [2] (zB (y3 1 [1,2,5] [2] (zC ?_)))))
 obtain ⟨x80,hx80,h⟩:=bindS h
 refine ql hx80 (fun s55=>⟨[(1,s_Rect l),(2,.ptr 500000 0),(5,vI s55)],[(500000,.box (c_Sheet s0))]⟩) (fun x80=>match x80 with | .inl j81=>(.ret,⟨[(4,vB false)],[]⟩) | .inr j82=>(.exit 0,⟨[],[]⟩)) (sp [] [(2,500000)]) (fun s55 r h=>?_) (fun τ hτ=>?_) (hout:=(by intro x; rcases x with _ | _ <;> rfl))
 refine zB (z7 (zA 2 (qL c_Rect l (y1 1 [1,2,5,9] [500000] (qc h (fun h=>?_) fun h=>?_)))))
 refine y4 [1,2,5] [500000] (zB (zC (zB (qM 9 (dN 2 ?_)))))
 obtain ⟨x78,hx78,h⟩:=bindS h
 refine dX c_Rect hx78 (dN 6 (dE ?_))
 obtain ⟨r79,hr79,h⟩:=bindS h
 refine oP (W.sheetmetalref06_Within_ok hr79) (oN 1 (zO fun τ hτ=>?_))
 refine yE hτ [1,2,5,22] [500000] (qc h (fun h=>?_) fun h=>?_)
 refine z8 1 ⟨[(4,vB false)],[]⟩ fun τ hτ=>?_
 refine bl_ret (th_ret ?_)
 cases h
 exact zF hτ
 refine zM fun τ hτ=>?_
 refine bl_normal (yE hτ [1,2,5] [500000] (zD (z6 3 fun τ hτ=>?_)))
 cases h
 exact zH hτ
 refine zL 0 fun τ hτ=>?_
 refine th_exit ?_
 cases h
 exact zF hτ
 rcases x80 with j81 | j82
 refine bl_ret (th_ret ?_)
 obtain rfl:=osi h
 exact zV hτ [(4,vB false)]
 refine zQ (yE hτ [] [] (z8 1 ⟨[(4,vB true)],[]⟩ fun τ hτ=>?_))
 obtain rfl:=osi h
 exact zV hτ [(4,vB true)]
theorem W.sheetmetalref06_ValidateSheet_ok {s0 r} (h : sheetmetalref06_ValidateSheet s0=some r) : PC G.P 44 [(.agg (c_Sheet s0))] [] (vI r) []:=by
 refine zU G Tryz.func44 (yK [0] [] (y3 2 [1] [1] (z7 (zA 8 ?_))))
 obtain ⟨r2,hr2,h⟩:=bindS h
 refine qP (W.sheetmetalref06_stuff_ok hr2) (y1 1 [1,3] [1] (zB (y3 2 [1,3,14] [1] (qc h (fun h=>?_) fun h=>?_))))
 refine z8 2 ⟨[(2,vI r2)],[]⟩ fun τ hτ=>?_
 refine th_ret ?_
 obtain rfl:=osi h
 exact zV hτ [(2,vI r2)]
 refine y4 [1] [1] (zB (zB ?_))
 obtain ⟨j4,hj4,h⟩:=bindS h
 refine zT ⟨[(1,.ptr 500000 0),(33,vB j4)],[(500000,.box (c_Sheet s0))]⟩ ?_ fun τ hτ=>?_
 replace h:=hj4
 refine zA 4 (qB h [1,19] [1] [19] (fun h=>?_) fun h=>?_)
 refine z6 14 fun τ hτ=>?_
 cases h
 exact leafC hτ (sp [] [(1,500000)])
 refine zA 5 (qB h [1,24] [1] [24] (fun h=>?_) fun h=>?_)
 refine z6 9 fun τ hτ=>?_
 cases h
 exact leafC hτ (sp [] [(1,500000)])
 refine zA 5 (qB h [1,29] [1] [29] (fun h=>?_) fun h=>?_)
 refine z6 4 fun τ hτ=>?_
 cases h
 exact leafC hτ (sp [] [(1,500000)])
 refine z6 4 fun τ hτ=>?_
 cases h
 exact leafC hτ (sp [] [(1,500000)])
 refine yE hτ [1,33] [500000] (qc h (fun h=>?_) fun h=>?_)
 refine z8 1 ⟨[(2,vI 1)],[]⟩ fun τ hτ=>?_
 refine th_ret ?_
 obtain rfl:=osi h
 exact zV hτ [(2,vI 1)]
 refine y4 [1] [500000] (zB (zB ?_))
 obtain ⟨j6,hj6,h⟩:=bindS h
 refine zT ⟨[(1,.ptr 500000 0),(43,vB j6)],[(500000,.box (c_Sheet s0))]⟩ ?_ fun τ hτ=>?_
 replace h:=hj6
 refine zA 2 (qL c_Rect s0.Clamps (zA 2 (qB h [1,38] [500000] [38] (fun h=>?_) fun h=>?_)))
 refine z6 5 fun τ hτ=>?_
 cases h
 exact zG hτ
 refine zA 2 (qL c_Rect s0.Used (z6 2 fun τ hτ=>?_))
 cases h
 exact zG hτ
 refine yE hτ [1,43] [500000] (qc h (fun h=>?_) fun h=>?_)
 refine z8 1 ⟨[(2,vI 4)],[]⟩ fun τ hτ=>?_
 refine th_ret ?_
 obtain rfl:=osi h
 exact zV hτ [(2,vI 4)]
 refine y4 [1] [500000] (zB (zB ?_))
 obtain ⟨j14,hj14,h⟩:=bindS h
 refine zT ⟨[(1,.ptr 500000 0),(53,vB j14)],[(500000,.box (c_Sheet s0))]⟩ ?_ fun τ hτ=>?_
 replace h:=hj14
 refine zA 2 ?_
 obtain ⟨r15,hr15,h⟩:=bindS h
 refine qP (W.sheetmetalref06_Rights_ok hr15) (zA 2 (zS r15 (fun b0=>⟨[(1,.ptr 500000 0),(48,vB (!b0))],[(500000,.box (c_Sheet s0))]⟩) (fun hb=>?_) fun hb=>?_))
 replace h:=iteT hb h
 refine zA 2 ?_
 obtain ⟨r16,hr16,h⟩:=bindS h
 refine qP (W.sheetmetalref06_Rights_ok hr16) (z6 2 fun τ hτ=>?_)
 cases h
 exact zG hτ
 replace h:=iteF hb h
 refine z6 5 fun τ hτ=>?_
 cases h
 exact zG hτ
 refine yE hτ [1,53] [500000] (qc h (fun h=>?_) fun h=>?_)
 refine z8 1 ⟨[(2,vI 1)],[]⟩ fun τ hτ=>?_
 refine th_ret ?_
 obtain rfl:=osi h
 exact zV hτ [(2,vI 1)]
 refine y4 [1] [500000] (zB (zB ?_))
 obtain ⟨j24,hj24,h⟩:=bindS h
 refine zT ⟨[(65,vB j24)],[]⟩ ?_ fun τ hτ=>?_
 replace h:=hj24
 refine zA 3 ?_
 obtain ⟨r25,hr25,h⟩:=bindS h
 refine qP (W.sheetmetalref06_inside_ok hr25) (zA 2 (zS r25 (fun b0=>⟨[(1,.ptr 500000 0),(59,vB (!b0))],[(500000,.box (c_Sheet s0))]⟩) (fun hb=>?_) fun hb=>?_))
 replace h:=iteT hb h
 refine zA 3 ?_
 obtain ⟨r26,hr26,h⟩:=bindS h
 refine qP (W.sheetmetalref06_inside_ok hr26) (z6 2 fun τ hτ=>?_)
 cases h
 exact zG hτ
 replace h:=iteF hb h
 refine z6 6 fun τ hτ=>?_
 cases h
 exact zG hτ
 refine yE hτ [65] [] (qc h (fun h=>?_) fun h=>?_)
 refine z8 1 ⟨[(2,vI 13)],[]⟩ fun τ hτ=>?_
 refine th_ret ?_
 obtain rfl:=osi h
 exact zV hτ [(2,vI 13)]
 refine y4 [] [] (z8 1 ⟨[(2,vI 0)],[]⟩ fun τ hτ=>?_)
 obtain rfl:=osi h
 exact zV hτ [(2,vI 0)]
theorem W.sheetmetalref06_Shift_ok {l x1 y r} (h : sheetmetalref06_Shift l x1 y=some r) : PC G.P 149 [(.sl (List.map c_Rect l)),(vI x1),(vI y)] [] (.row (.top 0) 98) [(0,.row 98 [] (List.map c_Rect r))]:=by
 refine zU G Tryz.func149 (yK [0,1,2] [] (y3 1 [0,1,2] [] (y3 1 [0,1,2,7] [7] (y3 1 [0,1,2,7,8] [7] (zB (y3 1 [0,1,2,7,8,9] [7] ?_))))))
 refine zC ?_
 obtain ⟨x90,hx90,h⟩:=bindS h
 refine ql hx90 (fun s61=>⟨[(0,s_Rect l),(1,vI x1),(2,vI y),(7,ro 500000 98),(8,vI 2147483648),(9,vI s61.1)],[(500000,w_Rect 98 s61.2)]⟩) (fun x90=>(.exit 0,⟨[(7,ro 500000 98)],[(500000,w_Rect 98 x90)]⟩)) (sp [] [(7,500000)]) (fun s61 r h=>?_) fun τ hτ=>?_
 refine zB (z7 (zA 2 (qL c_Rect l (y1 1 [0,1,2,7,8,9,14] [500000] (qc h (fun h=>?_) fun h=>?_)))))
 refine y4 [0,1,2,7,8,9] [500000] (zB (zC (z7 (zA 2 ?_))))
 obtain ⟨x84,hx84,h⟩:=bindS h
 refine qX c_Rect hx84 (y1 3 [0,1,2,7,8,9,10] [10,500000] (sem_seqJ (fun (j86 : Int×Int)=>⟨[(0,s_Rect l),(1,vI x1),(2,vI y),(7,ro 500000 98),(8,vI 2147483648),(9,vI s61.1),(10,.ptr 500001 0)],[(500000,w_Rect 98 s61.2),(500001,.box [(vI j86.1),(vI j86.2),(vI x84.W),(vI x84.H)])]⟩) (sheetmetalref06_Shift_k1 s61 x84) r (by kernel_rfl) (fun j86 h=>?_) ?_))
 refine zD (zA 3 ?_)
 obtain ⟨l88,hl88,h⟩:=bindS h
 refine qA c_Rect 4 hl88 (z6 1 fun τ hτ=>?_)
 refine bl_normal (yE hτ [0,1,2,7,8,9] [500000] (zD (z6 3 fun τ hτ=>?_)))
 cases h
 exact zH hτ
 refine zB ?_
 obtain ⟨j89,hj89,h⟩:=bindS h
 refine zT ⟨[(0,s_Rect l),(1,vI x1),(2,vI y),(7,ro 500000 98),(8,vI 2147483648),(9,vI s61.1),(10,.ptr 500001 0),(44,vB j89)],[(500000,w_Rect 98 s61.2),(500001,.box (c_Rect x84))]⟩ ?_ fun τ hτ=>?_
 replace h:=hj89
 refine zA 6 (qB h [0,1,2,7,8,9,10,26] [10,500000] [26] (fun h=>?_) fun h=>?_)
 refine zA 6 (qB h [0,1,2,7,8,9,10,32] [10,500000] [32] (fun h=>?_) fun h=>?_)
 refine zA 7 (qB h [0,1,2,7,8,9,10,39] [10,500000] [39] (fun h=>?_) fun h=>?_)
 refine z6 5 fun τ hτ=>?_
 cases h
 exact leafC hτ (sp [] [(10,500001),(500000,500000)])
 refine z6 5 fun τ hτ=>?_
 cases h
 exact leafC hτ (sp [] [(10,500001),(500000,500000)])
 refine z6 12 fun τ hτ=>?_
 cases h
 exact leafC hτ (sp [] [(10,500001),(500000,500000)])
 refine z6 18 fun τ hτ=>?_
 cases h
 exact leafC hτ (sp [] [(10,500001),(500000,500000)])
 refine yE hτ [0,1,2,7,8,9,10,44] [500000,500001] (qc h (fun h=>?_) fun h=>?_)
 refine y3 6 [0,1,2,7,8,9,10] [500000,500001] (zD (z6 6 fun τ hτ=>?_))
 exact jk_normal ((iadd x84.X x1),(iadd x84.Y y)) h hτ (here (by kernel_rfl))
 refine zM fun τ hτ=>?_
 exact jk_normal (x84.X,x84.Y) h hτ (here (by kernel_rfl))
 refine zL 0 fun τ hτ=>?_
 refine th_exit ?_
 cases h
 exact zF hτ
 refine zQ (yE hτ [7] [500000] (z8 2 ⟨[(6,ro 500000 98)],[(500000,w_Rect 98 x90)]⟩ fun τ hτ=>?_))
 obtain rfl:=osi h
 exact qW hτ [(6,ro 0 98)] (sp [] [(500000,0)])
theorem W.sheetmetalref06_Move_ok {x0 dx dy r} (h : sheetmetalref06_Move x0 dx dy=some r) : PC G.P 98 [(.agg (c_Piece x0)),(vI dx),(vI dy)] [] (.agg [(vS r.Name),(vS r.Material),(vI r.Gauge),(vI r.Grain),(.row (.top 1) 98),(.row (.top 2) 98),(.row (.top 3) 98)]) [(0,.box [(vS x0.Name),(vS x0.Material),(vI x0.Gauge),(vI x0.Grain),(.row (.top 1) 98),(.row (.top 2) 98),(.row (.top 3) 98)]),(1,.row 98 [] (List.map c_Rect r.Rects)),(2,.row 98 [] (List.map c_Rect r.Cuts)),(3,.row 98 [] (List.map c_Rect r.Forms))]:=by
 refine zU G Tryz.func98 (yK [0,1,2] [] (y3 2 [1,2,3,6] [3,6] (z7 (zA 4 ?_))))
 obtain ⟨r2,hr2,h⟩:=bindS h
 refine qC [] [(0,700200)] (W.sheetmetalref06_Shift_ok hr2) (y1 2 [1,2,3,6] [3,6,700200] (z7 (zA 4 ?_)))
 obtain ⟨r4,hr4,h⟩:=bindS h
 refine qC [] [(0,700201)] (W.sheetmetalref06_Shift_ok hr4) (y1 2 [1,2,3,6] [3,6,700200,700201] (z7 (zA 4 ?_)))
 obtain ⟨r6,hr6,h⟩:=bindS h
 refine qC [] [(0,700202)] (W.sheetmetalref06_Shift_ok hr6) (y1 2 [3,6] [3,6,700200,700201,700202] (z8 2 ⟨[(6,.ptr 6 0)],[(6,.box [(vS x0.Name),(vS x0.Material),(vI x0.Gauge),(vI x0.Grain),(ro 700200 98),(ro 700201 98),(ro 700202 98)]),(700200,w_Rect 98 r2),(700201,w_Rect 98 r4),(700202,w_Rect 98 r6)]⟩ fun τ hτ=>?_))
 obtain rfl:=osi h
 exact qW hτ [(6,.ptr 0 0)] (sp [] [(6,0),(700200,1),(700201,2),(700202,3)])
theorem W.sheetmetalref07_base_ok {x0 r} (h : sheetmetalref07_base x0=some r) : PC G.P 45 [(.agg (c_Piece x0))] [] (.tup [(.agg (c_Piece r.1)),(vB r.2.1)]) [(0,.box [(vS r.2.2.1),(vS r.2.2.2.1),(vI r.2.2.2.2.1),(vI r.2.2.2.2.2.1),(.sl (List.map c_Rect r.2.2.2.2.2.2.1)),(.sl (List.map c_Rect r.2.2.2.2.2.2.2.1)),(.sl (List.map c_Rect r.2.2.2.2.2.2.2.2))])]:=by
 refine zU G Tryz.func45 (yK [0] [] (y3 3 [1,2] [1,2] (zB (z7 (zA 2 ?_)))))
 obtain ⟨r4,hr4,h⟩:=bindS h
 refine qP (W.sheetmetalref06_Rights_ok hr4) (y1 1 [1,2,10] [1,2] (qc h (fun h=>?_) fun h=>?_))
 refine z8 3 ⟨[(2,.ptr 2 0),(3,vB false)],[(2,.box (c_Piece x0))]⟩ fun τ hτ=>?_
 refine th_ret ?_
 obtain rfl:=osi h
 exact qW hτ [(2,.ptr 0 0),(3,vB false)] (sp [] [(2,0)])
 refine y4 [1,2] [1,2] (zB (z7 (zA 2 (qL c_Rect x0.Rects (y1 1 [1,2,15] [1,2] (qc h (fun h=>?_) fun h=>?_))))))
 refine z8 3 ⟨[(2,.ptr 2 0),(3,vB true)],[(2,.box (c_Piece x0))]⟩ fun τ hτ=>?_
 refine th_ret ?_
 obtain rfl:=osi h
 exact qW hτ [(2,.ptr 0 0),(3,vB true)] (sp [] [(2,0)])
 refine y4 [1,2] [1,2] (zB (qM 11 (dN 2 ?_)))
 obtain ⟨x9,hx9,h⟩:=bindS h
 refine dX c_Rect hx9 (dN 4 ?_)
 obtain ⟨x10,hx10,h⟩:=bindS h
 refine dX c_Rect hx10 (dN 3 (dE (oN 1 (zO fun τ hτ=>?_))))
 refine yE hτ [1,2,4,5] [1,2] (zB (y3 1 [1,2,4,5,6] [1,2] (zC ?_)))
 obtain ⟨x64,hx64,h⟩:=bindS h
 refine ql hx64 (fun s47=>⟨[(1,.ptr 500000 0),(2,.ptr 500001 0),(4,vI s47.1),(5,vI s47.2.1),(6,vI s47.2.2)],[(500000,.box (c_Piece x0)),(500001,.box [(vS ByteArray.empty),(vS ByteArray.empty),(vI 0),(vI 0),.nl,.nl,.nl])]⟩) (fun x64=>(.exit 0,⟨[(1,.ptr 500000 0),(2,.ptr 500001 0),(4,vI x64.1),(5,vI x64.2)],[(500000,.box (c_Piece x0)),(500001,.box [(vS ByteArray.empty),(vS ByteArray.empty),(vI 0),(vI 0),.nl,.nl,.nl])]⟩)) (sp [] [(1,500000),(2,500001)]) (fun s47 r h=>?_) fun τ hτ=>?_
 refine zB (z7 (zA 3 (qL c_Rect x0.Rects (y1 1 [1,2,4,5,6,31] [500000,500001] (qc h (fun h=>?_) fun h=>?_)))))
 refine y4 [1,2,4,5,6] [500000,500001] (zB (zC (z7 (zA 4 ?_))))
 obtain ⟨x61,hx61,h⟩:=bindS h
 refine qX c_Rect hx61 (y1 4 [1,2,4,5,6] [500000,500001] (zD (zA 4 ?_)))
 obtain ⟨x63,hx63,h⟩:=bindS h
 refine qX c_Rect hx63 (z6 4 fun τ hτ=>?_)
 refine bl_normal (yE hτ [1,2,4,5,6] [500000,500001] (zD (z6 3 fun τ hτ=>?_)))
 cases h
 exact zH hτ
 refine zL 0 fun τ hτ=>?_
 refine th_exit ?_
 cases h
 exact zF hτ
 refine zQ (yE hτ [1,2,4,5] [500000,500001] (z7 (zA 5 ?_)))
 obtain ⟨r66,hr66,h⟩:=bindS h
 refine qC [] [(0,700250),(1,700251),(2,700252),(3,700253)] (W.sheetmetalref06_Move_ok hr66) (y1 2 [2,3] [500001,700251,700252,700253] (zN fun τ hτ=>?_))
 obtain rfl:=osi h
 exact qW hτ [(2,.ptr 0 0),(3,vB true)] (sp [.frz 700251,.frz 700252,.frz 700253] [(500001,0)])
theorem W.sheetmetalref06_least_ok {l r} (h : sheetmetalref06_least l=some r) : PC G.P 99 [(.sl (List.map c_Rect l))] [] (.tup [(vI r.1),(vI r.2)]) []:=by
 refine zU G Tryz.func99 (yK [0] [] (y3 2 [0] [] (zB (qM 9 (dN 1 ?_)))))
 obtain ⟨x5,hx5,h⟩:=bindS h
 refine dX c_Rect hx5 (dN 3 ?_)
 obtain ⟨x6,hx6,h⟩:=bindS h
 refine dX c_Rect hx6 (dN 3 (dE (oN 1 (zO fun τ hτ=>?_))))
 refine yE hτ [0,4,5] [] (zB (y3 1 [0,4,5,6] [] (zC ?_)))
 obtain ⟨x60,hx60,h⟩:=bindS h
 refine ql hx60 (fun s43=>⟨[(0,s_Rect l),(4,vI s43.1),(5,vI s43.2.1),(6,vI s43.2.2)],[]⟩) (fun x60=>(.exit 0,⟨[(4,vI x60.1),(5,vI x60.2)],[]⟩)) qH (fun s43 r h=>?_) fun τ hτ=>?_
 refine zB (z7 (zA 2 (qL c_Rect l (y1 1 [0,4,5,6,18] [] (qc h (fun h=>?_) fun h=>?_)))))
 refine y4 [0,4,5,6] [] (zB (zC (z7 (zA 3 ?_))))
 obtain ⟨x57,hx57,h⟩:=bindS h
 refine qX c_Rect hx57 (y1 4 [0,4,5,6] [] (zD (zA 3 ?_)))
 obtain ⟨x59,hx59,h⟩:=bindS h
 refine qX c_Rect hx59 (z6 4 fun τ hτ=>?_)
 refine bl_normal (yE hτ [0,4,5,6] [] (zD (z6 3 fun τ hτ=>?_)))
 cases h
 exact zH hτ
 refine zL 0 fun τ hτ=>?_
 refine th_exit ?_
 cases h
 exact zF hτ
 refine zQ (yE hτ [4,5] [] (z8 4 ⟨[(2,vI x60.1),(3,vI x60.2)],[]⟩ fun τ hτ=>?_))
 obtain rfl:=osi h
 exact zV hτ [(2,vI x60.1),(3,vI x60.2)]
theorem W.sheetmetalref06_Overlaps_ok {a b r} (h : sheetmetalref06_Overlaps a b=some r) : PC G.P 104 [(.agg (c_Rect a)),(.agg (c_Rect b))] [] (vB r) []:=by
 refine zU G Tryz.func104 (yK [0,1] [] (y3 3 [2,3] [2,3] (zB ?_)))
 obtain ⟨j3,hj3,h⟩:=bindS h
 refine zT ⟨[(4,vB j3)],[]⟩ ?_ fun τ hτ=>?_
 replace h:=hj3
 refine zA 1 ?_
 obtain ⟨r4,hr4,h⟩:=bindS h
 refine qP (W.sheetmetalref06_Right_ok hr4) (zA 1 (qB h [2,3,7] [2,3] [7] (fun h=>?_) fun h=>?_))
 refine zA 1 ?_
 obtain ⟨r5,hr5,h⟩:=bindS h
 refine qP (W.sheetmetalref06_Right_ok hr5) (zA 2 (qB h [2,3,11] [2,3] [11] (fun h=>?_) fun h=>?_))
 refine zA 10 (qB h [2,3,21] [2,3] [21] (fun h=>?_) fun h=>?_)
 refine zA 10 (qB h [2,3,31] [2,3] [31] (fun h=>?_) fun h=>?_)
 refine zA 10 (qB h [2,3,41] [2,3] [41] (fun h=>?_) fun h=>?_)
 refine z6 10 fun τ hτ=>?_
 cases h
 exact zG hτ
 refine z6 10 fun τ hτ=>?_
 cases h
 exact zG hτ
 refine z6 20 fun τ hτ=>?_
 cases h
 exact zG hτ
 refine z6 30 fun τ hτ=>?_
 cases h
 exact zG hτ
 refine z6 40 fun τ hτ=>?_
 cases h
 exact zG hτ
 refine z6 44 fun τ hτ=>?_
 cases h
 exact zG hτ
 refine yE hτ [4] [] (zN fun τ hτ=>?_)
 obtain rfl:=osi h
 exact zV hτ [(4,vB j3)]
theorem W.sheetmetalref06_Meets_ok {r0 l r} (h : sheetmetalref06_Meets r0 l=some r) : PC G.P 48 [(.agg (c_Rect r0)),(.sl (List.map c_Rect l))] [] (vB r) []:=by
 refine zU G Tryz.func48 (yK [0,1] [] (y3 2 [1,2] [2] (zB (y3 1 [1,2,5] [2] (zC ?_)))))
 obtain ⟨x80,hx80,h⟩:=bindS h
 refine ql hx80 (fun s55=>⟨[(1,s_Rect l),(2,.ptr 500000 0),(5,vI s55)],[(500000,.box (c_Rect r0))]⟩) (fun x80=>match x80 with | .inl j81=>(.ret,⟨[(4,vB true)],[]⟩) | .inr j82=>(.exit 0,⟨[],[]⟩)) (sp [] [(2,500000)]) (fun s55 r h=>?_) (fun τ hτ=>?_) (hout:=(by intro x; rcases x with _ | _ <;> rfl))
 refine zB (z7 (zA 2 (qL c_Rect l (y1 1 [1,2,5,9] [500000] (qc h (fun h=>?_) fun h=>?_)))))
 refine y4 [1,2,5] [500000] (zB (zC (zB (qM 5 (dN 3 ?_)))))
 obtain ⟨x78,hx78,h⟩:=bindS h
 refine dX c_Rect hx78 (dN 1 (dE ?_))
 obtain ⟨r79,hr79,h⟩:=bindS h
 refine oP (W.sheetmetalref06_Overlaps_ok hr79) (zO fun τ hτ=>?_)
 refine yE hτ [1,2,5,17] [500000] (qc h (fun h=>?_) fun h=>?_)
 refine z8 1 ⟨[(4,vB true)],[]⟩ fun τ hτ=>?_
 refine bl_ret (th_ret ?_)
 cases h
 exact zF hτ
 refine zM fun τ hτ=>?_
 refine bl_normal (yE hτ [1,2,5] [500000] (zD (z6 3 fun τ hτ=>?_)))
 cases h
 exact zH hτ
 refine zL 0 fun τ hτ=>?_
 refine th_exit ?_
 cases h
 exact zF hτ
 rcases x80 with j81 | j82
 refine bl_ret (th_ret ?_)
 obtain rfl:=osi h
 exact zV hτ [(4,vB true)]
 refine zQ (yE hτ [] [] (z8 1 ⟨[(4,vB false)],[]⟩ fun τ hτ=>?_))
 obtain rfl:=osi h
 exact zV hτ [(4,vB false)]
theorem W.sheetmetalref06_touching_ok {a b r} (h : sheetmetalref06_touching a b=some r) : PC G.P 150 [(.agg (c_Rect a)),(.agg (c_Rect b))] [] (vB r) []:=by
 refine zU G Tryz.func150 (yK [0,1] [] (y3 3 [2,3] [2,3] (y3 18 [2,3,5] [2,3] (y3 18 [5,6] [] (zB ?_)))))
 obtain ⟨j1,hj1,h⟩:=bindS h
 refine zT ⟨[(4,vB j1)],[]⟩ ?_ fun τ hτ=>?_
 replace h:=hj1
 refine zA 3 (qB h [5,6,43] [] [43] (fun h=>?_) fun h=>?_)
 refine zA 4 (qB h [5,6,47] [] [47] (fun h=>?_) fun h=>?_)
 refine z6 8 fun τ hτ=>?_
 cases h
 exact zG hτ
 refine zA 3 (qB h [5,47,50] [] [50] (fun h=>?_) fun h=>?_)
 refine z6 5 fun τ hτ=>?_
 cases h
 exact zG hτ
 refine z6 5 fun τ hτ=>?_
 cases h
 exact zG hτ
 refine zA 7 (qB h [5,47,50] [] [50] (fun h=>?_) fun h=>?_)
 refine z6 5 fun τ hτ=>?_
 cases h
 exact zG hτ
 refine z6 5 fun τ hτ=>?_
 cases h
 exact zG hτ
 refine yE hτ [4] [] (zN fun τ hτ=>?_)
 obtain rfl:=osi h
 exact zV hτ [(4,vB j1)]
theorem W.sheetmetalref06_connected_ok {l r} (h : sheetmetalref06_connected l=some r) : PC G.P 100 [(.sl (List.map c_Rect l))] [] (vB r) []:=by
 refine zU G Tryz.func100 (yK [0] [] (y3 1 [0] [] (z7 (zA 1 (qL c_Rect l ?_)))))
 obtain ⟨l2,hl2,h⟩:=bindS h
 refine evs_op (st_mk (c:=cB) (z:=false) (n:=(l.length : Int)) (e:=4) (d:=9) (zs:=[(vB false)]) (k1:=.i64) (k2:=.i64) (by kernel_rfl) rfl hl2) (y1 1 [0,3] [9] (z7 (evs_at (at_build (e:=3) (d:=10) (es:=(List.map cI [0])) (by kernel_rfl)) (y1 1 [0,3,4] [9,10] (z7 (zA 1 ?_))))))
 obtain ⟨x4,hx4,h⟩:=bindS h
 refine qI cB hx4 (qS cB true hx4 (zP fun τ hτ=>?_))
 refine yE hτ [0,3,4] [9,10] (zB (y3 1 [0,3,4,5] [9,10] (zC ?_)))
 obtain ⟨x1522,hx1522,h⟩:=bindS h
 refine ql hx1522 (fun s1017=>⟨[(0,s_Rect l),(3,ro 500000 4),(4,ro 500001 3),(5,vI s1017.1)],[(500000,wB 4 s1017.2.1),(500001,wI 3 s1017.2.2)]⟩) (fun x1522=>(.exit 0,⟨[(0,s_Rect l),(4,ro 500000 3)],[(500000,wI 3 x1522)]⟩)) (sp [] [(9,500000),(10,500001)]) (fun s1017 r h=>?_) fun τ hτ=>?_
 refine zB (z7 (zA 2 (qL cI s1017.2.2 (y1 1 [0,3,4,5,16] [500000,500001] (qc h (fun h=>?_) fun h=>?_)))))
 refine y4 [0,3,4,5] [500000,500001] (zB (zC (y3 1 [0,3,4,5,6] [500000,500001] (zC ?_))))
 obtain ⟨x1521,hx1521,h⟩:=bindS h
 refine ql hx1521 (fun s1438=>⟨[(0,s_Rect l),(3,ro 500000 4),(4,ro 500001 3),(5,vI s1017.1),(6,vI s1438.1)],[(500000,wB 4 s1438.2.1),(500001,wI 3 s1438.2.2)]⟩) (fun x1521=>(.exit 2,⟨[(0,s_Rect l),(3,ro 500000 4),(4,ro 500001 3),(5,vI s1017.1)],[(500000,wB 4 x1521.1),(500001,wI 3 x1521.2)]⟩)) qH (fun s1438 r h=>?_) fun τ hτ=>?_
 refine zB (z7 (zA 2 (qL c_Rect l (y1 1 [0,3,4,5,6,22] [500000,500001] (qc h (fun h=>?_) fun h=>?_)))))
 refine y4 [0,3,4,5,6] [500000,500001] (sem_seqJ (fun (j1500 : (List Bool)×(List Int))=>⟨[(0,s_Rect l),(3,ro 500000 4),(4,ro 500001 3),(5,vI s1017.1),(6,vI s1438.1)],[(500000,wB 4 j1500.1),(500001,wI 3 j1500.2)]⟩) (sheetmetalref06_connected_k1 s1438) r (by kernel_rfl) (fun j1500 h=>?_) ?_)
 refine zD (z6 3 fun τ hτ=>?_)
 cases h
 exact zH hτ
 refine zC (zB ?_)
 obtain ⟨j1511,hj1511,h⟩:=bindS h
 refine sem_drawP ⟨[(0,s_Rect l),(3,ro 500000 4),(4,ro 500001 3),(5,vI s1017.1),(6,vI s1438.1),(43,vB j1511)],[(500000,wB 4 s1438.2.1),(500001,wI 3 s1438.2.2)]⟩ [] [] [] [] [] 17 (by kernel_rfl) (by kernel_rfl) (by kernel_rfl) ?_ fun τ hτ=>?_
 replace h:=hj1511
 refine dN 2 ?_
 obtain ⟨x1512,hx1512,h⟩:=bindS h
 refine dI cB hx1512 (dR cB hx1512 (dN 2 (evd_split x1512 (fun b0=>⟨[(30,vB (!b0)),(29,vB (!b0)),(28,vB b0),(27,.rptr (.top 500000) 4 (Int.toNat s1438.1) 0),(26,vI s1438.1),(25,ro 500000 4),(0,s_Rect l),(3,ro 500000 4),(4,ro 500001 3),(5,vI s1017.1),(6,vI s1438.1)],[(500000,wB 4 s1438.2.1),(500001,wI 3 s1438.2.2)]⟩) (by kernel_rfl) (fun hb=>?_) fun hb=>?_)))
 replace h:=iteT hb h
 refine dN 11 (dE (oN 2 (zO fun τ hτ=>?_)))
 cases h
 exact zG hτ
 replace h:=iteF hb h
 refine dN 3 ?_
 obtain ⟨x1513,hx1513,h⟩:=bindS h
 refine dI cI hx1513 (dR cI hx1513 ?_)
 obtain ⟨x1514,hx1514,h⟩:=bindS h
 refine dX c_Rect hx1514 (dN 3 ?_)
 obtain ⟨x1515,hx1515,h⟩:=bindS h
 refine dX c_Rect hx1515 (dN 1 (dE ?_))
 obtain ⟨r1516,hr1516,h⟩:=bindS h
 refine oP (W.sheetmetalref06_touching_ok hr1516) (oN 1 (zO fun τ hτ=>?_))
 cases h
 exact zG hτ
 refine yE hτ [0,3,4,5,6,43] [500000,500001] (qc h (fun h=>?_) fun h=>?_)
 refine z7 (zA 2 ?_)
 obtain ⟨x1518,hx1518,h⟩:=bindS h
 refine qI cB hx1518 (qS cB true hx1518 (zP fun τ hτ=>?_))
 refine yE hτ [0,3,4,5,6] [500000,500001] (zD (zA 3 ?_))
 obtain ⟨l1520,hl1520,h⟩:=bindS h
 refine qA cI 1 hl1520 (z6 1 fun τ hτ=>?_)
 exact bl_normal (jk_normal ((List.set s1438.2.1 (Int.toNat s1438.1) true),l1520) h hτ (here (by kernel_rfl)))
 refine zM fun τ hτ=>?_
 exact bl_normal (jk_normal (s1438.2.1,s1438.2.2) h hτ (here (by kernel_rfl)))
 refine zL 2 fun τ hτ=>?_
 refine th_exit ?_
 cases h
 exact zF hτ
 refine zQ (bl_normal (yE hτ [0,3,4,5] [500000,500001] (zD (z6 3 fun τ hτ=>?_))))
 cases h
 exact zH hτ
 refine zL 0 fun τ hτ=>?_
 refine th_exit ?_
 cases h
 exact lk_outS hτ rfl (sp [] [(500001,500000)])
 refine zQ (yE hτ [0,4] [500000] (z7 (zA 1 (qL cI x1522 (zA 1 (qL c_Rect l ?_))))))
 refine y1 2 [2] [] (zN fun τ hτ=>?_)
 obtain rfl:=osi h
 exact zV hτ [(2,vB ((x1522.length : Int)==(l.length : Int)))]
theorem W.sheetmetalref06_deep_ok {r0 l r} (h : sheetmetalref06_deep r0 l=some r) : PC G.P 101 [(.agg (c_Rect r0)),(.sl (List.map c_Rect l))] [] (vB r) []:=by
 refine zU G Tryz.func101 (yK [0,1] [] (y3 2 [1,2] [2] (zB (y3 1 [1,2,5] [2] (zC ?_)))))
 obtain ⟨x236,hx236,h⟩:=bindS h
 refine ql hx236 (fun s159=>⟨[(1,s_Rect l),(2,.ptr 500000 0),(5,vI s159)],[(500000,.box (c_Rect r0))]⟩) (fun x236=>match x236 with | .inl j237=>(.ret,⟨[(4,vB true)],[]⟩) | .inr j238=>(.exit 0,⟨[],[]⟩)) (sp [] [(2,500000)]) (fun s159 r h=>?_) (fun τ hτ=>?_) (hout:=(by intro x; rcases x with _ | _ <;> rfl))
 refine zB (z7 (zA 2 (qL c_Rect l (y1 1 [1,2,5,9] [500000] (qc h (fun h=>?_) fun h=>?_)))))
 refine y4 [1,2,5] [500000] (zB (zC (zB ?_)))
 obtain ⟨j229,hj229,h⟩:=bindS h
 refine sem_drawP ⟨[(1,s_Rect l),(2,.ptr 500000 0),(5,vI s159),(67,vB j229)],[(500000,.box (c_Rect r0))]⟩ [] [] [] [] [] 54 (by kernel_rfl) (by kernel_rfl) (by kernel_rfl) ?_ fun τ hτ=>?_
 replace h:=hj229
 refine dN 4 ?_
 obtain ⟨x230,hx230,h⟩:=bindS h
 refine dX c_Rect hx230 (dN 4 (evd_split (decide (r0.X > x230.X)) (fun b0=>⟨[(20,vB b0),(19,vB b0),(18,vI x230.X),(17,.vptr (c_Rect x230) 0),(16,.vptr (c_Rect x230) 0),(15,vI s159),(14,s_Rect l),(13,vI r0.X),(12,.ptr 500000 0),(1,s_Rect l),(2,.ptr 500000 0),(5,vI s159)],[(500000,.box (c_Rect r0))]⟩) (by kernel_rfl) (fun hb=>?_) fun hb=>?_))
 replace h:=iteT hb h
 refine dN 4 ?_
 obtain ⟨x231,hx231,h⟩:=bindS h
 refine dX c_Rect hx231 (dN 5 (evd_split (decide (r0.Y > x231.Y)) (fun b0=>⟨[(30,vB b0),(29,vB b0),(28,vB b0),(27,vI x231.Y),(26,.vptr (c_Rect x231) 1),(25,.vptr (c_Rect x231) 0),(24,vI s159),(23,s_Rect l),(22,vI r0.Y),(21,.ptr 500000 1),(20,vB true),(19,vB true),(18,vI x230.X),(17,.vptr (c_Rect x230) 0),(16,.vptr (c_Rect x230) 0),(15,vI s159),(14,s_Rect l),(13,vI r0.X),(12,.ptr 500000 0),(1,s_Rect l),(2,.ptr 500000 0),(5,vI s159)],[(500000,.box (c_Rect r0))]⟩) (by kernel_rfl) (fun hb=>?_) fun hb=>?_))
 replace h:=iteT hb h
 refine dN 7 ?_
 obtain ⟨x232,hx232,h⟩:=bindS h
 refine dX c_Rect hx232 (dN 4 ?_)
 obtain ⟨x233,hx233,h⟩:=bindS h
 refine dX c_Rect hx233 (dN 6 (evd_split (decide ((iadd r0.X r0.W) < (iadd x232.X x233.W))) (fun b0=>⟨[(49,vB b0),(48,vB b0),(47,vB b0),(46,vI (iadd x232.X x233.W)),(45,vI x233.W),(44,.vptr (c_Rect x233) 2),(43,.vptr (c_Rect x233) 0),(42,vI s159),(41,s_Rect l),(40,vI x232.X),(39,.vptr (c_Rect x232) 0),(38,.vptr (c_Rect x232) 0),(37,vI s159),(36,s_Rect l),(35,vI (iadd r0.X r0.W)),(34,vI r0.W),(33,.ptr 500000 2),(32,vI r0.X),(31,.ptr 500000 0),(30,vB true),(29,vB true),(28,vB true),(27,vI x231.Y),(26,.vptr (c_Rect x231) 1),(25,.vptr (c_Rect x231) 0),(24,vI s159),(23,s_Rect l),(22,vI r0.Y),(21,.ptr 500000 1),(20,vB true),(19,vB true),(18,vI x230.X),(17,.vptr (c_Rect x230) 0),(16,.vptr (c_Rect x230) 0),(15,vI s159),(14,s_Rect l),(13,vI r0.X),(12,.ptr 500000 0),(1,s_Rect l),(2,.ptr 500000 0),(5,vI s159)],[(500000,.box (c_Rect r0))]⟩) (by kernel_rfl) (fun hb=>?_) fun hb=>?_))
 replace h:=iteT hb h
 refine dN 7 ?_
 obtain ⟨x234,hx234,h⟩:=bindS h
 refine dX c_Rect hx234 (dN 4 ?_)
 obtain ⟨x235,hx235,h⟩:=bindS h
 refine dX c_Rect hx235 (dN 3 (dE (oN 2 (zO fun τ hτ=>?_))))
 cases h
 exact zG hτ
 replace h:=iteF hb h
 refine dN 16 (dE (oN 2 (zO fun τ hτ=>?_)))
 cases h
 exact zG hτ
 replace h:=iteF hb h
 refine dN 35 (dE (oN 2 (zO fun τ hτ=>?_)))
 cases h
 exact zG hτ
 replace h:=iteF hb h
 refine dN 45 (dE (oN 2 (zO fun τ hτ=>?_)))
 cases h
 exact zG hτ
 refine yE hτ [1,2,5,67] [500000] (qc h (fun h=>?_) fun h=>?_)
 refine z8 1 ⟨[(4,vB true)],[]⟩ fun τ hτ=>?_
 refine bl_ret (th_ret ?_)
 cases h
 exact zF hτ
 refine zM fun τ hτ=>?_
 refine bl_normal (yE hτ [1,2,5] [500000] (zD (z6 3 fun τ hτ=>?_)))
 cases h
 exact zH hτ
 refine zL 0 fun τ hτ=>?_
 refine th_exit ?_
 cases h
 exact zF hτ
 rcases x236 with j237 | j238
 refine bl_ret (th_ret ?_)
 obtain rfl:=osi h
 exact zV hτ [(4,vB true)]
 refine zQ (yE hτ [] [] (z8 1 ⟨[(4,vB false)],[]⟩ fun τ hτ=>?_))
 obtain rfl:=osi h
 exact zV hτ [(4,vB false)]
theorem W.sheetmetalref06_Apart_ok {a b r} (h : sheetmetalref06_Apart a b=some r) : PC G.P 102 [(.agg (c_Rect a)),(.agg (c_Rect b))] [] (vI r) []:=by
 refine zU G Tryz.func102 (yK [0,1] [] (y3 3 [2,3] [2,3] (zB (zB ?_))))
 obtain ⟨j8,hj8,h⟩:=bindS h
 refine zT ⟨[(2,.ptr 500000 0),(3,.ptr 500001 0),(14,vB j8)],[(500000,.box (c_Rect a)),(500001,.box (c_Rect b))]⟩ ?_ fun τ hτ=>?_
 replace h:=hj8
 refine zA 1 ?_
 obtain ⟨r9,hr9,h⟩:=bindS h
 refine qP (W.sheetmetalref06_Right_ok hr9) (zA 2 (zS r9 (fun b0=>⟨[(2,.ptr 2 0),(3,.ptr 3 0),(10,vB (!b0))],[(2,.box (c_Rect a)),(3,.box (c_Rect b))]⟩) (fun hb=>?_) fun hb=>?_))
 replace h:=iteT hb h
 refine zA 1 ?_
 obtain ⟨r10,hr10,h⟩:=bindS h
 refine qP (W.sheetmetalref06_Right_ok hr10) (z6 2 fun τ hτ=>?_)
 cases h
 exact leafC hτ (sp [] [(2,500000),(3,500001)])
 replace h:=iteF hb h
 refine z6 4 fun τ hτ=>?_
 cases h
 exact leafC hτ (sp [] [(2,500000),(3,500001)])
 refine yE hτ [2,3,14] [500000,500001] (qc h (fun h=>?_) fun h=>?_)
 refine z8 1 ⟨[(4,vI 0)],[]⟩ fun τ hτ=>?_
 refine th_ret ?_
 obtain rfl:=osi h
 exact zV hτ [(4,vI 0)]
 refine y4 [2,3] [500000,500001] (y3 18 [2,3,5] [500000,500001] (y3 18 [5,6] [] (z8 4 ⟨[(4,vI (imax (imax (imax 0 (isub (isub a.X b.X) b.W)) (isub (isub b.X a.X) a.W)) (imax (imax 0 (isub (isub a.Y b.Y) b.H)) (isub (isub b.Y a.Y) a.H))))],[]⟩ fun τ hτ=>?_)))
 obtain rfl:=osi h
 exact zV hτ [(4,vI (imax (imax (imax 0 (isub (isub a.X b.X) b.W)) (isub (isub b.X a.X) a.W)) (imax (imax 0 (isub (isub a.Y b.Y) b.H)) (isub (isub b.Y a.Y) a.H))))]
theorem W.sheetmetalref06_ValidatePiece_ok {x0 r} (h : sheetmetalref06_ValidatePiece x0=some r) : PC G.P 46 [(.agg (c_Piece x0))] [] (vI r) []:=by
 refine zU G Tryz.func46 (yK [0] [] (y3 2 [1] [1] (z7 (zA 8 ?_))))
 obtain ⟨r2,hr2,h⟩:=bindS h
 refine qP (W.sheetmetalref06_stuff_ok hr2) (y1 1 [1,3] [1] (zB (y3 2 [1,3,21] [1] (qc h (fun h=>?_) fun h=>?_))))
 refine z8 2 ⟨[(2,vI r2)],[]⟩ fun τ hτ=>?_
 refine th_ret ?_
 obtain rfl:=osi h
 exact zV hτ [(2,vI r2)]
 refine y4 [1] [1] (zB (zB ?_))
 obtain ⟨j4,hj4,h⟩:=bindS h
 refine zT ⟨[(1,.ptr 500000 0),(38,vB j4)],[(500000,.box (c_Piece x0))]⟩ ?_ fun τ hτ=>?_
 replace h:=hj4
 refine zA 2 (qL c_Rect x0.Rects (zA 2 (qB h [1,27] [1] [27] (fun h=>?_) fun h=>?_)))
 refine z6 11 fun τ hτ=>?_
 cases h
 exact leafC hτ (sp [] [(1,500000)])
 refine zA 2 (qL c_Rect x0.Cuts (zA 3 (qB h [1,33] [1] [33] (fun h=>?_) fun h=>?_)))
 refine z6 5 fun τ hτ=>?_
 cases h
 exact leafC hτ (sp [] [(1,500000)])
 refine zA 2 (qL c_Rect x0.Forms (z6 2 fun τ hτ=>?_))
 cases h
 exact leafC hτ (sp [] [(1,500000)])
 refine yE hτ [1,38] [500000] (qc h (fun h=>?_) fun h=>?_)
 refine z8 1 ⟨[(2,vI 4)],[]⟩ fun τ hτ=>?_
 refine th_ret ?_
 obtain rfl:=osi h
 exact zV hτ [(2,vI 4)]
 refine y4 [1] [500000] (zB (zB ?_))
 obtain ⟨j15,hj15,h⟩:=bindS h
 refine zT ⟨[(1,.ptr 500000 0),(60,vB j15)],[(500000,.box (c_Piece x0))]⟩ ?_ fun τ hτ=>?_
 replace h:=hj15
 refine zA 2 (qL c_Rect x0.Rects (zA 2 (qB h [1,43] [500000] [43] (fun h=>?_) fun h=>?_)))
 refine z6 17 fun τ hτ=>?_
 cases h
 exact zG hτ
 refine zA 2 ?_
 obtain ⟨r16,hr16,h⟩:=bindS h
 refine qP (W.sheetmetalref06_Rights_ok hr16) (zA 3 (zS r16 (fun b0=>⟨[(1,.ptr 500000 0),(49,vB (!b0))],[(500000,.box (c_Piece x0))]⟩) (fun hb=>?_) fun hb=>?_))
 replace h:=iteT hb h
 refine zA 2 ?_
 obtain ⟨r17,hr17,h⟩:=bindS h
 refine qP (W.sheetmetalref06_Rights_ok hr17) (zA 3 (zS r17 (fun b0=>⟨[(1,.ptr 500000 0),(55,vB (!b0))],[(500000,.box (c_Piece x0))]⟩) (fun hb=>?_) fun hb=>?_))
 replace h:=iteT hb h
 refine zA 2 ?_
 obtain ⟨r18,hr18,h⟩:=bindS h
 refine qP (W.sheetmetalref06_Rights_ok hr18) (z6 2 fun τ hτ=>?_)
 cases h
 exact zG hτ
 replace h:=iteF hb h
 refine z6 5 fun τ hτ=>?_
 cases h
 exact zG hτ
 replace h:=iteF hb h
 refine z6 11 fun τ hτ=>?_
 cases h
 exact zG hτ
 refine yE hτ [1,60] [500000] (qc h (fun h=>?_) fun h=>?_)
 refine z8 1 ⟨[(2,vI 1)],[]⟩ fun τ hτ=>?_
 refine th_ret ?_
 obtain rfl:=osi h
 exact zV hτ [(2,vI 1)]
 refine y4 [1] [500000] (z7 (zA 2 ?_))
 obtain ⟨r20,hr20,h⟩:=bindS h
 refine qP (W.sheetmetalref06_least_ok hr20) (y1 5 [1,4,5] [500000] (zB (zB ?_)))
 obtain ⟨j22,hj22,h⟩:=bindS h
 refine zT ⟨[(1,.ptr 500000 0),(72,vB j22)],[(500000,.box (c_Piece x0))]⟩ ?_ fun τ hτ=>?_
 replace h:=hj22
 refine zA 3 (qB h [1,5,69] [500000] [69] (fun h=>?_) fun h=>?_)
 refine z6 3 fun τ hτ=>?_
 cases h
 exact zG hτ
 refine z6 3 fun τ hτ=>?_
 cases h
 exact zG hτ
 refine yE hτ [1,72] [500000] (qc h (fun h=>?_) fun h=>?_)
 refine z8 1 ⟨[(2,vI 1)],[]⟩ fun τ hτ=>?_
 refine th_ret ?_
 obtain rfl:=osi h
 exact zV hτ [(2,vI 1)]
 refine y4 [1] [500000] (zB (y3 1 [1,6] [500000] (zC ?_)))
 obtain ⟨x138,hx138,h⟩:=bindS h
 refine ql hx138 (fun s101=>⟨[(1,.ptr 500000 0),(6,vI s101)],[(500000,.box (c_Piece x0))]⟩) (fun x138=>match x138 with | .inl j139=>(.ret,⟨[(2,vI 7)],[]⟩) | .inr j140=>(.exit 0,⟨[(1,.ptr 500000 0)],[(500000,.box (c_Piece x0))]⟩)) qH (fun s101 r h=>?_) (fun τ hτ=>?_) (hout:=(by intro x; rcases x with _ | _ <;> rfl))
 refine zB (z7 (zA 3 (qL c_Rect x0.Rects (y1 1 [1,6,77] [500000] (qc h (fun h=>?_) fun h=>?_)))))
 refine y4 [1,6] [500000] (zB (zC (zB (qM 9 (dN 3 ?_)))))
 obtain ⟨x135,hx135,h⟩:=bindS h
 refine dX c_Rect hx135 (dN 4 ?_)
 obtain ⟨l136,hl136,h⟩:=bindS h
 refine evd_val (by kernel_rfl) (st_slH (c:=c_Rect) (l:=x0.Rects) (sz:=4) (hi:=s101) (k2:=.i64) (by kernel_rfl) hl136) (by kernel_rfl) (by kernel_rfl) (dE ?_)
 obtain ⟨r137,hr137,h⟩:=bindS h
 refine oP (W.sheetmetalref06_Meets_ok hr137) (zO fun τ hτ=>?_)
 refine yE hτ [1,6,89] [500000] (qc h (fun h=>?_) fun h=>?_)
 refine z8 1 ⟨[(2,vI 7)],[]⟩ fun τ hτ=>?_
 refine bl_ret (th_ret ?_)
 cases h
 exact zF hτ
 refine zM fun τ hτ=>?_
 refine bl_normal (yE hτ [1,6] [500000] (zD (z6 3 fun τ hτ=>?_)))
 cases h
 exact zH hτ
 refine zL 0 fun τ hτ=>?_
 refine th_exit ?_
 cases h
 exact zF hτ
 rcases x138 with j139 | j140
 refine bl_ret (th_ret ?_)
 obtain rfl:=osi h
 exact zV hτ [(2,vI 7)]
 refine zQ (yE hτ [1] [500000] (zB (z7 (zA 2 ?_))))
 obtain ⟨r144,hr144,h⟩:=bindS h
 refine qP (W.sheetmetalref06_connected_ok hr144) (y1 1 [1,93] [500000] (qc h (fun h=>?_) fun h=>?_))
 refine z8 1 ⟨[(2,vI 6)],[]⟩ fun τ hτ=>?_
 refine th_ret ?_
 obtain rfl:=osi h
 exact zV hτ [(2,vI 6)]
 refine y4 [1] [500000] (zB (sem_draw [(0,[94]),(3,[94,600003])] [(0,[94]),(3,[600003])] [] [(1,[94]),(2,[94]),(4,[94,600003]),(5,[94,600003])] [(0,[600003]),(1,[94,600003]),(2,[94,600003]),(4,[94,600003]),(5,[94,600003])] 6 (by kernel_rfl) (by kernel_rfl) [600003,94] (by kernel_rfl) (by kernel_rfl) (evd_build (e:=98) (d:=94) (es:=(List.map c_Rect [])) (by kernel_rfl) (by kernel_rfl) (by kernel_rfl) (by kernel_rfl) (by kernel_rfl) (by kernel_rfl) (dN 2 ?_))))
 obtain ⟨l149,hl149,h⟩:=bindS h
 refine evd_app (c:=c_Rect) (l:=[]) (l2:=x0.Cuts) (x:=(s_Rect x0.Cuts)) (g:=94) (g2:=600003) (e:=98) (sz:=4) (d:=97) (by kernel_rfl) (by kernel_rfl) (by kernel_rfl) (by kernel_rfl) (by kernel_rfl) (fun _=>rfl) hl149 (by kernel_rfl) (by kernel_rfl) (by kernel_rfl) (by kernel_rfl) (by kernel_rfl) (dN 2 (dE ?_))
 obtain ⟨l150,hl150,h⟩:=bindS h
 refine oA c_Rect 4 hl150 (oN 1 (zO fun τ hτ=>?_))
 refine yE hτ [1,7] [500000,600003] (zB (y3 1 [1,7,8] [500000,600003] (zC ?_)))
 obtain ⟨x314,hx314,h⟩:=bindS h
 refine ql hx314 (fun s261=>⟨[(1,.ptr 500000 0),(7,ro 500001 98),(8,vI s261)],[(500000,.box (c_Piece x0)),(500001,w_Rect 98 l150)]⟩) (fun x314=>match x314 with | .inl j315=>(.ret,⟨[(2,vI 13)],[]⟩) | .inr j316=>(.exit 2,⟨[(7,ro 500000 98)],[(500000,w_Rect 98 l150)]⟩)) (sp [] [(500000,500000),(600003,500001)]) (fun s261 r h=>?_) (fun τ hτ=>?_) (hout:=(by intro x; rcases x with _ | _ <;> rfl))
 refine zB (z7 (zA 2 (qL c_Rect l150 (y1 1 [1,7,8,104] [500000,500001] (qc h (fun h=>?_) fun h=>?_)))))
 refine y4 [1,7,8] [500000,500001] (zB (zC (zB ?_)))
 obtain ⟨j309,hj309,h⟩:=bindS h
 refine sem_drawP ⟨[(1,.ptr 500000 0),(7,ro 500001 98),(8,vI s261),(137,vB j309)],[(500000,.box (c_Piece x0)),(500001,w_Rect 98 l150)]⟩ [] [] [] [] [] 24 (by kernel_rfl) (by kernel_rfl) (by kernel_rfl) ?_ fun τ hτ=>?_
 replace h:=hj309
 refine dN 2 ?_
 obtain ⟨x310,hx310,h⟩:=bindS h
 refine dI c_Rect hx310 (dR c_Rect hx310 (dN 2 ?_))
 obtain ⟨r311,hr311,h⟩:=bindS h
 refine dC [] (W.sheetmetalref06_deep_ok hr311) (dN 2 (evd_split r311 (fun b0=>⟨[(115,vB (!b0)),(114,vB (!b0)),(113,vB b0),(112,s_Rect x0.Rects),(111,.ptr 500000 4),(110,.agg (c_Rect x310)),(109,.rptr (.top 500001) 98 (Int.toNat s261) 0),(108,vI s261),(107,ro 500001 98),(1,.ptr 500000 0),(7,ro 500001 98),(8,vI s261)],[(500000,.box (c_Piece x0)),(500001,w_Rect 98 l150)]⟩) (by kernel_rfl) (fun hb=>?_) fun hb=>?_))
 replace h:=iteT hb h
 refine dN 3 (dL c_Rect x0.Cuts (dN 2 (evd_split (decide (s261 < (x0.Cuts.length : Int))) (fun b0=>⟨[(121,vB b0),(120,vB b0),(119,vI (x0.Cuts.length : Int)),(118,s_Rect x0.Cuts),(117,.ptr 500000 5),(116,vI s261),(115,vB false),(114,vB false),(113,vB true),(112,s_Rect x0.Rects),(111,.ptr 500000 4),(110,.agg (c_Rect x310)),(109,.rptr (.top 500001) 98 (Int.toNat s261) 0),(108,vI s261),(107,ro 500001 98),(1,.ptr 500000 0),(7,ro 500001 98),(8,vI s261)],[(500000,.box (c_Piece x0)),(500001,w_Rect 98 l150)]⟩) (by kernel_rfl) (fun hb=>?_) fun hb=>?_)))
 replace h:=iteT hb h
 refine dN 2 ?_
 obtain ⟨x312,hx312,h⟩:=bindS h
 refine dI c_Rect hx312 (dN 1 (dR c_Rect hx312 (dN 2 (evd_split (x312.W==1) (fun b0=>⟨[(128,vB b0),(127,vB b0),(126,vI x312.W),(125,.rptr (.top 500001) 98 (Int.toNat s261) 2),(124,.rptr (.top 500001) 98 (Int.toNat s261) 0),(123,vI s261),(122,ro 500001 98),(121,vB true),(120,vB true),(119,vI (x0.Cuts.length : Int)),(118,s_Rect x0.Cuts),(117,.ptr 500000 5),(116,vI s261),(115,vB false),(114,vB false),(113,vB true),(112,s_Rect x0.Rects),(111,.ptr 500000 4),(110,.agg (c_Rect x310)),(109,.rptr (.top 500001) 98 (Int.toNat s261) 0),(108,vI s261),(107,ro 500001 98),(1,.ptr 500000 0),(7,ro 500001 98),(8,vI s261)],[(500000,.box (c_Piece x0)),(500001,w_Rect 98 l150)]⟩) (by kernel_rfl) (fun hb=>?_) fun hb=>?_))))
 replace h:=iteT hb h
 refine dN 2 (dE (oN 7 (zO fun τ hτ=>?_)))
 cases h
 exact zG hτ
 replace h:=iteF hb h
 refine dN 2 (dE ?_)
 obtain ⟨x313,hx313,h⟩:=bindS h
 refine oI c_Rect hx313 (oN 1 (oR c_Rect hx313 (oN 4 (zO fun τ hτ=>?_))))
 cases h
 exact zG hτ
 replace h:=iteF hb h
 refine dN 9 (dE (oN 7 (zO fun τ hτ=>?_)))
 cases h
 exact zG hτ
 replace h:=iteF hb h
 refine dN 15 (dE (oN 7 (zO fun τ hτ=>?_)))
 cases h
 exact zG hτ
 refine yE hτ [1,7,8,137] [500000,500001] (qc h (fun h=>?_) fun h=>?_)
 refine z8 1 ⟨[(2,vI 13)],[]⟩ fun τ hτ=>?_
 refine bl_ret (th_ret ?_)
 cases h
 exact zF hτ
 refine zM fun τ hτ=>?_
 refine bl_normal (yE hτ [1,7,8] [500000,500001] (zD (z6 3 fun τ hτ=>?_)))
 cases h
 exact zH hτ
 refine zL 2 fun τ hτ=>?_
 refine th_exit ?_
 cases h
 exact lk_outS hτ rfl (sp [] [(500001,500000)])
 rcases x314 with j315 | j316
 refine bl_ret (th_ret ?_)
 obtain rfl:=osi h
 exact zV hτ [(2,vI 13)]
 refine zQ (yE hτ [7] [500000] (zB (y3 1 [7,9] [500000] (zC ?_))))
 obtain ⟨x804,hx804,h⟩:=bindS h
 refine ql hx804 (fun s567=>⟨[(7,ro 500000 98),(9,vI s567)],[(500000,w_Rect 98 l150)]⟩) (fun x804=>match x804 with | .inl j805=>(.ret,⟨[(2,vI 7)],[]⟩) | .inr j806=>(.exit 4,⟨[],[]⟩)) qH (fun s567 r h=>?_) (fun τ hτ=>?_) (hout:=(by intro x; rcases x with _ | _ <;> rfl))
 refine zB (z7 (zA 2 (qL c_Rect l150 (y1 1 [7,9,141] [500000] (qc h (fun h=>?_) fun h=>?_)))))
 refine y4 [7,9] [500000] (zB (zC (y3 1 [7,9,10] [500000] (zC ?_))))
 obtain ⟨x801,hx801,h⟩:=bindS h
 refine ql hx801 (fun s764=>⟨[(7,ro 500000 98),(9,vI s567),(10,vI s764)],[(500000,w_Rect 98 l150)]⟩) (fun x801=>match x801 with | .inl j802=>(.ret,⟨[(2,vI 7)],[]⟩) | .inr j803=>(.exit 6,⟨[(7,ro 500000 98),(9,vI s567)],[(500000,w_Rect 98 l150)]⟩)) qH (fun s764 r h=>?_) (fun τ hτ=>?_) (hout:=(by intro x; rcases x with _ | _ <;> rfl))
 refine zB (y3 3 [7,9,10,146] [500000] (qc h (fun h=>?_) fun h=>?_))
 refine y4 [7,9,10] [500000] (zB (zC (zB (qM 8 (dN 2 ?_)))))
 obtain ⟨x798,hx798,h⟩:=bindS h
 refine dI c_Rect hx798 (dR c_Rect hx798 (dN 2 ?_))
 obtain ⟨x799,hx799,h⟩:=bindS h
 refine dI c_Rect hx799 (dR c_Rect hx799 (dE ?_))
 obtain ⟨r800,hr800,h⟩:=bindS h
 refine oP (W.sheetmetalref06_Apart_ok hr800) (oN 1 (zO fun τ hτ=>?_))
 refine yE hτ [7,9,10,158] [500000] (qc h (fun h=>?_) fun h=>?_)
 refine z8 1 ⟨[(2,vI 7)],[]⟩ fun τ hτ=>?_
 refine bl_ret (th_ret ?_)
 cases h
 exact zF hτ
 refine zM fun τ hτ=>?_
 refine bl_normal (yE hτ [7,9,10] [500000] (zD (z6 3 fun τ hτ=>?_)))
 cases h
 exact zH hτ
 refine zL 6 fun τ hτ=>?_
 refine th_exit ?_
 cases h
 exact zF hτ
 rcases x801 with j802 | j803
 refine bl_ret (bl_ret (th_ret ?_))
 cases h
 exact zF hτ
 refine zQ (bl_normal (yE hτ [7,9] [500000] (zD (z6 3 fun τ hτ=>?_))))
 cases h
 exact zH hτ
 refine zL 4 fun τ hτ=>?_
 refine th_exit ?_
 cases h
 exact zF hτ
 rcases x804 with j805 | j806
 refine bl_ret (th_ret ?_)
 obtain rfl:=osi h
 exact zV hτ [(2,vI 7)]
 refine zQ (yE hτ [] [] (z8 1 ⟨[(2,vI 0)],[]⟩ fun τ hτ=>?_))
 obtain rfl:=osi h
 exact zV hτ [(2,vI 0)]
theorem W.sheetmetalref07_Validate_ok {l r} (h : sheetmetalref07_Validate l=some r) : PC G.P 12 [(.agg (c_LayoutT l))] [] (vI r) []:=by
 refine zU G Tryz.func12 (yK [0] [] (y3 2 [1] [1] (z7 (zA 2 ?_))))
 obtain ⟨r2,hr2,h⟩:=bindS h
 refine qP (W.sheetmetalref06_ValidateSheet_ok hr2) (y1 1 [1,3] [1] (zB (y3 2 [1,3,18] [1] (qc h (fun h=>?_) fun h=>?_))))
 refine z8 2 ⟨[(2,vI r2)],[]⟩ fun τ hτ=>?_
 refine th_ret ?_
 obtain rfl:=osi h
 exact zV hτ [(2,vI r2)]
 refine y4 [1] [1] (zB (z7 (zA 2 (qL c_Piece l.Pieces (y1 1 [1,23] [1] (qc h (fun h=>?_) fun h=>?_))))))
 refine z8 1 ⟨[(2,vI 4)],[]⟩ fun τ hτ=>?_
 refine th_ret ?_
 obtain rfl:=osi h
 exact zV hτ [(2,vI 4)]
 refine y4 [1] [1] (zB (y3 1 [1,4] [1] (zC ?_)))
 obtain ⟨x82,hx82,h⟩:=bindS h
 refine ql hx82 (fun s57=>⟨[(1,.ptr 500000 0),(4,vI s57)],[(500000,.box (c_LayoutT l))]⟩) (fun x82=>match x82 with | .inl j83=>(.ret,⟨[(2,vI j83)],[]⟩) | .inr j84=>(.exit 0,⟨[(1,.ptr 500000 0)],[(500000,.box (c_LayoutT l))]⟩)) (sp [] [(1,500000)]) (fun s57 r h=>?_) (fun τ hτ=>?_) (hout:=(by intro x; rcases x with _ | _ <;> rfl))
 refine zB (z7 (zA 3 (qL c_Piece l.Pieces (y1 1 [1,4,28] [500000] (qc h (fun h=>?_) fun h=>?_)))))
 refine y4 [1,4] [500000] (zB (zC (z7 (zA 3 ?_))))
 obtain ⟨x78,hx78,h⟩:=bindS h
 refine qX c_Piece hx78 (zA 1 ?_)
 obtain ⟨r79,hr79,h⟩:=bindS h
 refine qC [] [(0,700250)] (W.sheetmetalref07_base_ok hr79) (y1 6 [1,4,5,6] [5,500000] (zB (y3 2 [1,4,5,41] [5,500000] (qc h (fun h=>?_) fun h=>?_))))
 refine z8 1 ⟨[(2,vI 1)],[]⟩ fun τ hτ=>?_
 refine th_ret (bl_ret (th_ret ?_))
 cases h
 exact zF hτ
 refine y4 [1,4,5] [5,500000] (z7 (zA 1 ?_))
 obtain ⟨r81,hr81,h⟩:=bindS h
 refine qP (W.sheetmetalref06_ValidatePiece_ok hr81) (y1 1 [1,3,4] [500000] (y3 2 [1,3,4,45] [500000] (qc h (fun h=>?_) fun h=>?_)))
 refine z8 2 ⟨[(2,vI r81)],[]⟩ fun τ hτ=>?_
 refine bl_ret (th_ret ?_)
 cases h
 exact zF hτ
 refine zM fun τ hτ=>?_
 refine bl_normal (yE hτ [1,4] [500000] (zD (z6 3 fun τ hτ=>?_)))
 cases h
 exact zH hτ
 refine zL 0 fun τ hτ=>?_
 refine th_exit ?_
 cases h
 exact zF hτ
 rcases x82 with j83 | j84
 refine bl_ret (th_ret ?_)
 obtain rfl:=osi h
 exact zV hτ [(2,vI j83)]
 refine zQ (yE hτ [1] [500000] (y3 9 [1,7] [7,500000] (zB (y3 1 [1,7,8] [7,500000] (zC ?_)))))
 obtain ⟨x1544,hx1544,h⟩:=bindS h
 refine ql hx1544 (fun s1059=>⟨[(1,.ptr 500000 0),(7,.ptr 500001 0),(8,vI s1059)],[(500000,.box (c_LayoutT l)),(500001,.box [(vI 0),(vI 0),(vI l.Sheet.Width),(vI l.Sheet.Height)])]⟩) (fun x1544=>match x1544 with | .inl j1545=>(.ret,⟨[(2,vI 13)],[]⟩) | .inr j1546=>(.exit 2,⟨[(1,.ptr 500000 0)],[(500000,.box (c_LayoutT l))]⟩)) (sp [] [(7,500001),(500000,500000)]) (fun s1059 r h=>?_) (fun τ hτ=>?_) (hout:=(by intro x; rcases x with _ | _ <;> rfl))
 refine zB (z7 (zA 3 (qL c_Piece l.Pieces (y1 1 [1,7,8,58] [500000,500001] (qc h (fun h=>?_) fun h=>?_)))))
 refine y4 [1,7,8] [500000,500001] (zB (zC (z7 (zA 3 ?_))))
 obtain ⟨x1424,hx1424,h⟩:=bindS h
 refine qX c_Piece hx1424 (y1 3 [1,7,8,9] [500000,500001] (y3 1 [1,7,8,9,10] [500000,500001] (zC ?_)))
 obtain ⟨x1541,hx1541,h⟩:=bindS h
 refine ql hx1541 (fun s1464=>⟨[(1,.ptr 500000 0),(7,.ptr 500001 0),(8,vI s1059),(9,s_Rect x1424.Rects),(10,vI s1464)],[(500000,.box (c_LayoutT l)),(500001,.box [(vI 0),(vI 0),(vI l.Sheet.Width),(vI l.Sheet.Height)])]⟩) (fun x1541=>match x1541 with | .inl j1542=>(.ret,⟨[(2,vI 13)],[]⟩) | .inr j1543=>(.exit 4,⟨[(1,.ptr 500000 0),(7,.ptr 500001 0),(8,vI s1059)],[(500000,.box (c_LayoutT l)),(500001,.box [(vI 0),(vI 0),(vI l.Sheet.Width),(vI l.Sheet.Height)])]⟩)) qH (fun s1464 r h=>?_) (fun τ hτ=>?_) (hout:=(by intro x; rcases x with _ | _ <;> rfl))
 refine zB (z7 (zA 2 (qL c_Rect x1424.Rects (y1 1 [1,7,8,9,10,70] [500000,500001] (qc h (fun h=>?_) fun h=>?_)))))
 refine y4 [1,7,8,9,10] [500000,500001] (zB (zC (zB ?_)))
 obtain ⟨j1534,hj1534,h⟩:=bindS h
 refine sem_drawP ⟨[(1,.ptr 500000 0),(7,.ptr 500001 0),(8,vI s1059),(9,s_Rect x1424.Rects),(10,vI s1464),(99,vB j1534)],[(500000,.box (c_LayoutT l)),(500001,.box [(vI 0),(vI 0),(vI l.Sheet.Width),(vI l.Sheet.Height)])]⟩ [] [] [] [] [] 25 (by kernel_rfl) (by kernel_rfl) (by kernel_rfl) ?_ fun τ hτ=>?_
 replace h:=hj1534
 refine dN 2 ?_
 obtain ⟨x1535,hx1535,h⟩:=bindS h
 refine dX c_Rect hx1535 (dN 2 ?_)
 obtain ⟨r1536,hr1536,h⟩:=bindS h
 refine dC [] (W.sheetmetalref06_Within_ok hr1536) (dN 2 (evd_split r1536 (fun b0=>⟨[(80,vB (!b0)),(79,vB (!b0)),(78,vB b0),(77,.agg [(vI 0),(vI 0),(vI l.Sheet.Width),(vI l.Sheet.Height)]),(76,.agg (c_Rect x1535)),(75,.vptr (c_Rect x1535) 0),(74,vI s1464),(73,s_Rect x1424.Rects),(1,.ptr 500000 0),(7,.ptr 500001 0),(8,vI s1059),(9,s_Rect x1424.Rects),(10,vI s1464)],[(500000,.box (c_LayoutT l)),(500001,.box [(vI 0),(vI 0),(vI l.Sheet.Width),(vI l.Sheet.Height)])]⟩) (by kernel_rfl) (fun hb=>?_) fun hb=>?_))
 replace h:=iteT hb h
 refine dN 2 ?_
 obtain ⟨x1537,hx1537,h⟩:=bindS h
 refine dX c_Rect hx1537 (dN 4 ?_)
 obtain ⟨r1538,hr1538,h⟩:=bindS h
 refine dC [] (W.sheetmetalref06_Meets_ok hr1538) (dN 2 (evd_split r1538 (fun b0=>⟨[(90,vB b0),(89,vB b0),(88,vB b0),(87,s_Rect l.Sheet.Clamps),(86,.ptr 500000 6),(85,.ptr 500000 0),(84,.agg (c_Rect x1537)),(83,.vptr (c_Rect x1537) 0),(82,vI s1464),(81,s_Rect x1424.Rects),(80,vB false),(79,vB false),(78,vB true),(77,.agg [(vI 0),(vI 0),(vI l.Sheet.Width),(vI l.Sheet.Height)]),(76,.agg (c_Rect x1535)),(75,.vptr (c_Rect x1535) 0),(74,vI s1464),(73,s_Rect x1424.Rects),(1,.ptr 500000 0),(7,.ptr 500001 0),(8,vI s1059),(9,s_Rect x1424.Rects),(10,vI s1464)],[(500000,.box (c_LayoutT l)),(500001,.box [(vI 0),(vI 0),(vI l.Sheet.Width),(vI l.Sheet.Height)])]⟩) (by kernel_rfl) (fun hb=>?_) fun hb=>?_))
 replace h:=iteT hb h
 refine dN 7 (dE (oN 2 (zO fun τ hτ=>?_)))
 cases h
 exact zG hτ
 replace h:=iteF hb h
 refine dN 2 ?_
 obtain ⟨x1539,hx1539,h⟩:=bindS h
 refine dX c_Rect hx1539 (dN 4 (dE ?_))
 obtain ⟨r1540,hr1540,h⟩:=bindS h
 refine oP (W.sheetmetalref06_Meets_ok hr1540) (oN 1 (zO fun τ hτ=>?_))
 cases h
 exact zG hτ
 replace h:=iteF hb h
 refine dN 17 (dE (oN 2 (zO fun τ hτ=>?_)))
 cases h
 exact zG hτ
 refine yE hτ [1,7,8,9,10,99] [500000,500001] (qc h (fun h=>?_) fun h=>?_)
 refine z8 1 ⟨[(2,vI 13)],[]⟩ fun τ hτ=>?_
 refine bl_ret (th_ret ?_)
 cases h
 exact zF hτ
 refine zM fun τ hτ=>?_
 refine bl_normal (yE hτ [1,7,8,9,10] [500000,500001] (zD (z6 3 fun τ hτ=>?_)))
 cases h
 exact zH hτ
 refine zL 4 fun τ hτ=>?_
 refine th_exit ?_
 cases h
 exact zF hτ
 rcases x1541 with j1542 | j1543
 refine bl_ret (bl_ret (th_ret ?_))
 cases h
 exact zF hτ
 refine zQ (bl_normal (yE hτ [1,7,8] [500000,500001] (zD (z6 3 fun τ hτ=>?_))))
 cases h
 exact zH hτ
 refine zL 2 fun τ hτ=>?_
 refine th_exit ?_
 cases h
 exact zF hτ
 rcases x1544 with j1545 | j1546
 refine bl_ret (th_ret ?_)
 obtain rfl:=osi h
 exact zV hτ [(2,vI 13)]
 refine zQ (yE hτ [1] [500000] (zB (y3 1 [1,11] [500000] (zC ?_))))
 obtain ⟨x5874,hx5874,h⟩:=bindS h
 refine ql hx5874 (fun s3717=>⟨[(1,.ptr 500000 0),(11,vI s3717)],[(500000,.box (c_LayoutT l))]⟩) (fun x5874=>match x5874 with | .inl j5875=>(.ret,⟨[(2,vI 7)],[]⟩) | .inr j5876=>(.exit 6,⟨[],[]⟩)) qH (fun s3717 r h=>?_) (fun τ hτ=>?_) (hout:=(by intro x; rcases x with _ | _ <;> rfl))
 refine zB (z7 (zA 3 (qL c_Piece l.Pieces (y1 1 [1,11,104] [500000] (qc h (fun h=>?_) fun h=>?_)))))
 refine y4 [1,11] [500000] (zB (zC (y3 1 [1,11,12] [500000] (zC ?_))))
 obtain ⟨x5871,hx5871,h⟩:=bindS h
 refine ql hx5871 (fun s5514=>⟨[(1,.ptr 500000 0),(11,vI s3717),(12,vI s5514)],[(500000,.box (c_LayoutT l))]⟩) (fun x5871=>match x5871 with | .inl j5872=>(.ret,⟨[(2,vI 7)],[]⟩) | .inr j5873=>(.exit 8,⟨[(1,.ptr 500000 0),(11,vI s3717)],[(500000,.box (c_LayoutT l))]⟩)) qH (fun s5514 r h=>?_) (fun τ hτ=>?_) (hout:=(by intro x; rcases x with _ | _ <;> rfl))
 refine zB (y3 3 [1,11,12,109] [500000] (qc h (fun h=>?_) fun h=>?_))
 refine y4 [1,11,12] [500000] (zB (zC (y3 1 [1,11,12,13] [500000] (zC ?_))))
 obtain ⟨x5868,hx5868,h⟩:=bindS h
 refine ql hx5868 (fun s5811=>⟨[(1,.ptr 500000 0),(11,vI s3717),(12,vI s5514),(13,vI s5811)],[(500000,.box (c_LayoutT l))]⟩) (fun x5868=>match x5868 with | .inl j5869=>(.ret,⟨[(2,vI 7)],[]⟩) | .inr j5870=>(.exit 10,⟨[(1,.ptr 500000 0),(11,vI s3717),(12,vI s5514)],[(500000,.box (c_LayoutT l))]⟩)) qH (fun s5811 r h=>?_) (fun τ hτ=>?_) (hout:=(by intro x; rcases x with _ | _ <;> rfl))
 refine zB (z7 (zA 4 ?_))
 obtain ⟨x5843,hx5843,h⟩:=bindS h
 refine qX c_Piece hx5843 (zA 2 (qL c_Rect x5843.Rects (y1 1 [1,11,12,13,120] [500000] (qc h (fun h=>?_) fun h=>?_))))
 refine y4 [1,11,12,13] [500000] (zB (zC (zB (qM 15 (dN 3 ?_)))))
 obtain ⟨x5864,hx5864,h⟩:=bindS h
 refine dX c_Piece hx5864 (dN 3 ?_)
 obtain ⟨x5865,hx5865,h⟩:=bindS h
 refine dX c_Rect hx5865 (dN 4 ?_)
 obtain ⟨x5866,hx5866,h⟩:=bindS h
 refine dX c_Piece hx5866 (dN 2 (dE ?_))
 obtain ⟨r5867,hr5867,h⟩:=bindS h
 refine oP (W.sheetmetalref06_Meets_ok hr5867) (zO fun τ hτ=>?_)
 refine yE hτ [1,11,12,13,138] [500000] (qc h (fun h=>?_) fun h=>?_)
 refine z8 1 ⟨[(2,vI 7)],[]⟩ fun τ hτ=>?_
 refine bl_ret (th_ret ?_)
 cases h
 exact zF hτ
 refine zM fun τ hτ=>?_
 refine bl_normal (yE hτ [1,11,12,13] [500000] (zD (z6 3 fun τ hτ=>?_)))
 cases h
 exact zH hτ
 refine zL 10 fun τ hτ=>?_
 refine th_exit ?_
 cases h
 exact zF hτ
 rcases x5868 with j5869 | j5870
 refine bl_ret (bl_ret (th_ret ?_))
 cases h
 exact zF hτ
 refine zQ (bl_normal (yE hτ [1,11,12] [500000] (zD (z6 3 fun τ hτ=>?_))))
 cases h
 exact zH hτ
 refine zL 8 fun τ hτ=>?_
 refine th_exit ?_
 cases h
 exact zF hτ
 rcases x5871 with j5872 | j5873
 refine bl_ret (bl_ret (th_ret ?_))
 cases h
 exact zF hτ
 refine zQ (bl_normal (yE hτ [1,11] [500000] (zD (z6 3 fun τ hτ=>?_))))
 cases h
 exact zH hτ
 refine zL 6 fun τ hτ=>?_
 refine th_exit ?_
 cases h
 exact zF hτ
 rcases x5874 with j5875 | j5876
 refine bl_ret (th_ret ?_)
 obtain rfl:=osi h
 exact zV hτ [(2,vI 7)]
 refine zQ (yE hτ [] [] (z8 1 ⟨[(2,vI 0)],[]⟩ fun τ hτ=>?_))
 obtain rfl:=osi h
 exact zV hτ [(2,vI 0)]
theorem W.bits_Len64_ok {x0 r} (h : bits_Len64 x0=some r) : PC G.P 199 [(vK .u64 x0)] [] (vI r) []:=by
 refine zU G Tryz.func199 (yK [0] [] (y3 1 [0,2] [] (sem_seqJ (fun (j1 : Int×Int)=>⟨[(0,vK .u64 j1.1),(2,vI j1.2)],[]⟩) (bits_Len64_k3) r (by kernel_rfl) (fun j1 h=>?_) ?_)))
 refine sem_seqJ (fun (j2 : Int×Int)=>⟨[(0,vK .u64 j2.1),(2,vI j2.2)],[]⟩) (bits_Len64_k2) r (by kernel_rfl) (fun j2 h=>?_) ?_
 refine sem_seqJ (fun (j3 : Int×Int)=>⟨[(0,vK .u64 j3.1),(2,vI j3.2)],[]⟩) (bits_Len64_k1) r (by kernel_rfl) (fun j3 h=>?_) ?_
 refine z7 (zA 3 ?_)
 obtain ⟨x5,hx5,h⟩:=bindS h
 refine evs_at (at_sidx (s:=(ByteArray.mk #[0,1,2,2,3,3,3,3,4,4,4,4,4,4,4,4,5,5,5,5,5,5,5,5,5,5,5,5,5,5,5,5,6,6,6,6,6,6,6,6,6,6,6,6,6,6,6,6,6,6,6,6,6,6,6,6,6,6,6,6,6,6,6,6,7,7,7,7,7,7,7,7,7,7,7,7,7,7,7,7,7,7,7,7,7,7,7,7,7,7,7,7,7,7,7,7,7,7,7,7,7,7,7,7,7,7,7,7,7,7,7,7,7,7,7,7,7,7,7,7,7,7,7,7,7,7,7,7,8,8,8,8,8,8,8,8,8,8,8,8,8,8,8,8,8,8,8,8,8,8,8,8,8,8,8,8,8,8,8,8,8,8,8,8,8,8,8,8,8,8,8,8,8,8,8,8,8,8,8,8,8,8,8,8,8,8,8,8,8,8,8,8,8,8,8,8,8,8,8,8,8,8,8,8,8,8,8,8,8,8,8,8,8,8,8,8,8,8,8,8,8,8,8,8,8,8,8,8,8,8,8,8,8,8,8,8,8,8,8,8,8,8,8,8,8,8,8,8,8,8,8,8,8,8,8,8])) (i:=(IntKind.wrap .u8 j3.1)) (kd:=.u8) (by kernel_rfl) hx5) (y1 3 [2] [] (zN fun τ hτ=>?_))
 obtain rfl:=osi h
 exact zV hτ [(2,vI (iadd j3.2 (IntKind.wrap .i64 x5)))]
 refine y3 2 [0,2,14] [] (qc h (fun h=>?_) fun h=>?_)
 refine y3 3 [0,2] [] (zD (z6 3 fun τ hτ=>?_))
 exact jk_normal ((Int.fdiv j2.1 (2 ^ (min (Int.toNat 8) 64))),(iadd j2.2 8)) h hτ (here (by kernel_rfl))
 refine zM fun τ hτ=>?_
 exact jk_normal (j2.1,j2.2) h hτ (here (by kernel_rfl))
 refine y3 2 [0,2,8] [] (qc h (fun h=>?_) fun h=>?_)
 refine y3 3 [0,2] [] (zD (z6 3 fun τ hτ=>?_))
 exact jk_normal ((Int.fdiv j1.1 (2 ^ (min (Int.toNat 16) 64))),(iadd j1.2 16)) h hτ (here (by kernel_rfl))
 refine zM fun τ hτ=>?_
 exact jk_normal (j1.1,j1.2) h hτ (here (by kernel_rfl))
 refine y3 2 [0,2,4] [] (qc h (fun h=>?_) fun h=>?_)
 refine y3 3 [0] [] (zD (z6 1 fun τ hτ=>?_))
 exact jk_normal ((Int.fdiv x0 (2 ^ (min (Int.toNat 32) 64))),32) h hτ (here (by kernel_rfl))
 refine zM fun τ hτ=>?_
 exact jk_normal (x0,0) h hτ (here (by kernel_rfl))
theorem W.bits_Len_ok {x0 r} (h : bits_Len x0=some r) : PC G.P 181 [(vK .u64 x0)] [] (vI r) []:=by
 refine zU G Tryz.func181 (yK [0] [] (y3 1 [0] [] (zB (sem_condF (by kernel_rfl) (by kernel_rfl) (y4 [0] [] (z7 ?_))))))
 refine zA 1 ?_
 obtain ⟨r2,hr2,h⟩:=bindS h
 refine qP (W.bits_Len64_ok hr2) (y1 1 [2] [] (zN fun τ hτ=>?_))
 obtain rfl:=osi h
 exact zV hτ [(2,vI r2)]
theorem W.cmp_isNaN_int_ok {x0 r} (h : cmp_isNaN_int x0=some r) : PC G.P 165 [(vI x0)] [] (vB r) []:=by
 refine zU G Tryz.func165 (yK [0] [] (y3 1 [0] [] (z8 4 ⟨[(2,vB (x0 != x0))],[]⟩ fun τ hτ=>?_)))
 obtain rfl:=osi h
 exact zV hτ [(2,vB (x0 != x0))]
theorem W.cmp_Compare_int_ok {x0 y r} (h : cmp_Compare_int x0 y=some r) : PC G.P 129 [(vI x0),(vI y)] [] (vI r) []:=by
 refine zU G Tryz.func129 (yK [0,1] [] (y3 1 [0,1] [] (z7 (zA 1 ?_))))
 obtain ⟨r2,hr2,h⟩:=bindS h
 refine qP (W.cmp_isNaN_int_ok hr2) (y1 1 [0,1,5] [] (z7 (zA 1 ?_)))
 obtain ⟨r4,hr4,h⟩:=bindS h
 refine qP (W.cmp_isNaN_int_ok hr4) (y1 1 [0,1,5,6] [] (zB (y3 1 [0,1,6,11] [] (qc h (fun h=>?_) fun h=>?_))))
 refine zB (y3 1 [12] [] (qc h (fun h=>?_) fun h=>?_))
 refine z8 1 ⟨[(4,vI 0)],[]⟩ fun τ hτ=>?_
 refine th_ret (th_ret ?_)
 obtain rfl:=osi h
 exact zV hτ [(4,vI 0)]
 refine y4 [] [] (z8 1 ⟨[(4,vI (-1))],[]⟩ fun τ hτ=>?_)
 refine th_ret ?_
 obtain rfl:=osi h
 exact zV hτ [(4,vI (-1))]
 refine y4 [0,1,6] [] (zB (y3 1 [0,1,13] [] (qc h (fun h=>?_) fun h=>?_)))
 refine z8 1 ⟨[(4,vI 1)],[]⟩ fun τ hτ=>?_
 refine th_ret ?_
 obtain rfl:=osi h
 exact zV hτ [(4,vI 1)]
 refine y4 [0,1] [] (zB (y3 3 [0,1,16] [] (qc h (fun h=>?_) fun h=>?_)))
 refine z8 1 ⟨[(4,vI (-1))],[]⟩ fun τ hτ=>?_
 refine th_ret ?_
 obtain rfl:=osi h
 exact zV hτ [(4,vI (-1))]
 refine y4 [0,1] [] (zB (y3 3 [19] [] (qc h (fun h=>?_) fun h=>?_)))
 refine z8 1 ⟨[(4,vI 1)],[]⟩ fun τ hτ=>?_
 refine th_ret ?_
 obtain rfl:=osi h
 exact zV hτ [(4,vI 1)]
 refine y4 [] [] (z8 1 ⟨[(4,vI 0)],[]⟩ fun τ hτ=>?_)
 obtain rfl:=osi h
 exact zV hτ [(4,vI 0)]
theorem W.slices_insertionSortCmpFunc_int__cmp_Compare_int_ok {a b h0 r} (h : slices_insertionSortCmpFunc_int__cmp_Compare_int a b h0=some r) : PC G.P 190 [(.row (.top 1000000) 3),(vI a),(vI b),(.fn 129 [])] [(1000000,.row 3 [] (List.map cI h0))] (.tup []) [(1000000,.row 3 [] (List.map cI r))]:=by
 refine zU G Tryz.func190 (yK [0,1,2,3] [1000000] (y3 3 [0,1,2,3,8] [1000000] (zC ?_)))
 obtain ⟨x813,hx813,h⟩:=bindS h
 refine ql hx813 (fun s272=>⟨[(0,ro 1000000 3),(1,vI a),(2,vI b),(3,.fn 129 []),(8,vI s272.1)],[(1000000,wI 3 s272.2)]⟩) (fun x813=>(.exit 0,⟨[],[(1000000,wI 3 x813)]⟩)) qH (fun s272 r h=>?_) fun τ hτ=>?_
 refine zB (y3 3 [0,1,2,3,8,14] [1000000] (qc h (fun h=>?_) fun h=>?_))
 refine y4 [0,1,2,3,8] [1000000] (zB (zC (y3 2 [0,1,2,3,8,9] [1000000] (zC ?_))))
 obtain ⟨x812,hx812,h⟩:=bindS h
 refine ql hx812 (fun s723=>⟨[(0,ro 1000000 3),(1,vI a),(2,vI b),(3,.fn 129 []),(8,vI s272.1),(9,vI s723.1)],[(1000000,wI 3 s723.2)]⟩) (fun x812=>(.exit 2,⟨[(0,ro 1000000 3),(1,vI a),(2,vI b),(3,.fn 129 []),(8,vI s272.1)],[(1000000,wI 3 x812)]⟩)) qH (fun s723 r h=>?_) fun τ hτ=>?_
 refine zB (zB ?_)
 obtain ⟨j784,hj784,h⟩:=bindS h
 refine sem_drawP ⟨[(0,ro 1000000 3),(1,vI a),(2,vI b),(3,.fn 129 []),(8,vI s272.1),(9,vI s723.1),(34,vB j784)],[(1000000,wI 3 s723.2)]⟩ [] [] [] [] [] 14 (by kernel_rfl) (by kernel_rfl) (by kernel_rfl) ?_ fun τ hτ=>?_
 replace h:=hj784
 refine dN 4 (evd_split (decide (s723.1 > a)) (fun b0=>⟨[(21,vB b0),(20,vB b0),(19,vI a),(18,vI s723.1),(0,ro 1000000 3),(1,vI a),(2,vI b),(3,.fn 129 []),(8,vI s272.1),(9,vI s723.1)],[(1000000,wI 3 s723.2)]⟩) (by kernel_rfl) (fun hb=>?_) fun hb=>?_)
 replace h:=iteT hb h
 refine dN 3 ?_
 obtain ⟨x785,hx785,h⟩:=bindS h
 refine dI cI hx785 (dR cI hx785 (dN 3 ?_))
 obtain ⟨x786,hx786,h⟩:=bindS h
 refine dI cI hx786 (dR cI hx786 (dE ?_))
 obtain ⟨r787,hr787,h⟩:=bindS h
 refine oP (W.cmp_Compare_int_ok hr787) (oN 2 (zO fun τ hτ=>?_))
 cases h
 exact zG hτ
 replace h:=iteF hb h
 refine dN 10 (dE (oN 3 (zO fun τ hτ=>?_)))
 cases h
 exact zG hτ
 refine yE hτ [0,1,2,3,8,9,34] [1000000] (qc h (fun h=>?_) fun h=>?_)
 refine y4 [0,1,2,3,8,9] [1000000] (zB (zC (qN [(15,[1000000])] [] [] [(2,[1000000]),(3,[1000000]),(4,[1000000])] [] 16 (dN 8 ?_))))
 obtain ⟨x808,hx808,h⟩:=bindS h
 refine dI cI hx808 (dR cI hx808 (dN 2 ?_))
 obtain ⟨x809,hx809,h⟩:=bindS h
 refine dI cI hx809 (dR cI hx809 ?_)
 obtain ⟨x810,hx810,h⟩:=bindS h
 refine dI cI hx810 (dS cI x808 hx810 (dE ?_))
 obtain ⟨x811,hx811,h⟩:=bindS h
 refine oI cI hx811 (oS cI x809 hx811 (zO fun τ hτ=>?_))
 refine bl_normal (yE hτ [0,1,2,3,8,9] [1000000] (zD (z6 3 fun τ hτ=>?_)))
 cases h
 exact zH hτ
 refine zL 2 fun τ hτ=>?_
 refine th_exit ?_
 cases h
 exact zF hτ
 refine zQ (bl_normal (yE hτ [0,1,2,3,8] [1000000] (zD (z6 3 fun τ hτ=>?_))))
 cases h
 exact zH hτ
 refine zL 0 fun τ hτ=>?_
 refine th_exit ?_
 cases h
 exact zF hτ
 refine zQ ?_
 obtain rfl:=osi h
 exact rk_normal hτ [] (here (by kernel_rfl)) (by kernel_rfl)
theorem W.slices_siftDownCmpFunc_int__cmp_Compare_int_ok {lo hi first h0 r} (h : slices_siftDownCmpFunc_int__cmp_Compare_int lo hi first h0=some r) : PC G.P 212 [(.row (.top 1000000) 3),(vI lo),(vI hi),(vI first),(.fn 129 [])] [(1000000,.row 3 [] (List.map cI h0))] (.tup []) [(1000000,.row 3 [] (List.map cI r))]:=by
 refine zU G Tryz.func212 (yK [0,1,2,3,4] [1000000] (y3 2 [0,2,3,4,10] [1000000] (zC ?_)))
 obtain ⟨x156,hx156,h⟩:=bindS h
 refine ql hx156 (fun s53=>⟨[(0,ro 1000000 3),(2,vI hi),(3,vI first),(4,.fn 129 []),(10,vI s53.1)],[(1000000,wI 3 s53.2)]⟩) (fun x156=>match x156 with | .inl j157=>(.exit 0,⟨[],[(1000000,wI 3 j157)]⟩) | .inr j158=>(.ret,⟨[],[(1000000,wI 3 j158)]⟩)) qH (fun s53 r h=>?_) (fun τ hτ=>?_) (hout:=(by intro x; rcases x with _ | _ <;> rfl))
 refine zC (y3 4 [0,2,3,4,10,11] [1000000] (zB (y3 3 [0,2,3,4,10,11,18] [1000000] (qc h (fun h=>?_) fun h=>?_))))
 refine zL 0 fun τ hτ=>?_
 refine th_exit (bl_miss (by kernel_rfl) ?_)
 cases h
 exact zF hτ
 refine y4 [0,2,3,4,10,11] [1000000] (sem_seqJ (fun (j115 : Int)=>⟨[(0,ro 1000000 3),(2,vI hi),(3,vI first),(4,.fn 129 []),(10,vI s53.1),(11,vI j115)],[(1000000,wI 3 s53.2)]⟩) (slices_siftDownCmpFunc_int__cmp_Compare_int_k1 first s53) r (by kernel_rfl) (fun j115 h=>?_) ?_)
 refine zB (zB (qM 13 (dN 5 ?_)))
 obtain ⟨x131,hx131,h⟩:=bindS h
 refine dI cI hx131 (dR cI hx131 (dN 4 ?_))
 obtain ⟨x132,hx132,h⟩:=bindS h
 refine dI cI hx132 (dR cI hx132 (dE ?_))
 obtain ⟨r133,hr133,h⟩:=bindS h
 refine oP (W.cmp_Compare_int_ok hr133) (oN 2 (zO fun τ hτ=>?_))
 refine yE hτ [0,2,3,4,10,11,58] [1000000] (qc h (fun h=>?_) fun h=>?_)
 refine zN fun τ hτ=>?_
 refine th_ret (bl_ret ?_)
 cases h
 exact zF hτ
 refine y4 [0,2,3,4,10,11] [1000000] (zB (qN [(21,[1000000])] [] [] [(4,[1000000]),(5,[1000000]),(6,[1000000]),(7,[1000000])] [] 22 (dN 12 ?_)))
 obtain ⟨x142,hx142,h⟩:=bindS h
 refine dI cI hx142 (dR cI hx142 (dN 4 ?_))
 obtain ⟨x143,hx143,h⟩:=bindS h
 refine dI cI hx143 (dR cI hx143 ?_)
 obtain ⟨x144,hx144,h⟩:=bindS h
 refine dI cI hx144 (dS cI x142 hx144 (dE ?_))
 obtain ⟨x145,hx145,h⟩:=bindS h
 refine oI cI hx145 (oS cI x143 hx145 (zO fun τ hτ=>?_))
 refine yE hτ [0,2,3,4,11] [1000000] (zD (z6 2 fun τ hτ=>?_))
 refine bl_normal ?_
 cases h
 exact zH hτ
 refine zB ?_
 obtain ⟨j152,hj152,h⟩:=bindS h
 refine sem_drawP ⟨[(0,ro 1000000 3),(2,vI hi),(3,vI first),(4,.fn 129 []),(10,vI s53.1),(11,vI (iadd (imul 2 s53.1) 1)),(40,vB j152)],[(1000000,wI 3 s53.2)]⟩ [] [] [] [] [] 19 (by kernel_rfl) (by kernel_rfl) (by kernel_rfl) ?_ fun τ hτ=>?_
 replace h:=hj152
 refine dN 5 (evd_split (decide ((iadd (iadd (imul 2 s53.1) 1) 1) < hi)) (fun b0=>⟨[(23,vB b0),(22,vB b0),(21,vI hi),(20,vI (iadd (iadd (imul 2 s53.1) 1) 1)),(19,vI (iadd (imul 2 s53.1) 1)),(0,ro 1000000 3),(2,vI hi),(3,vI first),(4,.fn 129 []),(10,vI s53.1),(11,vI (iadd (imul 2 s53.1) 1))],[(1000000,wI 3 s53.2)]⟩) (by kernel_rfl) (fun hb=>?_) fun hb=>?_)
 replace h:=iteT hb h
 refine dN 5 ?_
 obtain ⟨x153,hx153,h⟩:=bindS h
 refine dI cI hx153 (dR cI hx153 (dN 5 ?_))
 obtain ⟨x154,hx154,h⟩:=bindS h
 refine dI cI hx154 (dR cI hx154 (dE ?_))
 obtain ⟨r155,hr155,h⟩:=bindS h
 refine oP (W.cmp_Compare_int_ok hr155) (oN 2 (zO fun τ hτ=>?_))
 cases h
 exact zG hτ
 replace h:=iteF hb h
 refine dN 14 (dE (oN 3 (zO fun τ hτ=>?_)))
 cases h
 exact zG hτ
 refine yE hτ [0,2,3,4,10,11,40] [1000000] (qc h (fun h=>?_) fun h=>?_)
 refine zD (z6 3 fun τ hτ=>?_)
 exact jk_normal (iadd (iadd (imul 2 s53.1) 1) 1) h hτ (here (by kernel_rfl))
 refine zM fun τ hτ=>?_
 exact jk_normal (iadd (imul 2 s53.1) 1) h hτ (here (by kernel_rfl))
 rcases x156 with j157 | j158
 refine zQ ?_
 obtain rfl:=osi h
 exact rk_normal hτ [] (here (by kernel_rfl)) (by kernel_rfl)
 refine bl_ret ?_
 obtain rfl:=osi h
 exact zV hτ []
theorem W.slices_heapSortCmpFunc_int__cmp_Compare_int_ok {a b h0 r} (h : slices_heapSortCmpFunc_int__cmp_Compare_int a b h0=some r) : PC G.P 191 [(.row (.top 1000000) 3),(vI a),(vI b),(.fn 129 [])] [(1000000,.row 3 [] (List.map cI h0))] (.tup []) [(1000000,.row 3 [] (List.map cI r))]:=by
 refine zU G Tryz.func191 (yK [0,1,2,3] [1000000] (y3 2 [0,1,2,3,8] [1000000] (y3 1 [0,1,2,3,8,9] [1000000] (y3 4 [0,3,8,9,10] [1000000] (zB (y3 4 [0,3,8,9,10,11] [1000000] ?_))))))
 refine zC ?_
 obtain ⟨x30,hx30,h⟩:=bindS h
 refine ql hx30 (fun s21=>⟨[(0,ro 1000000 3),(3,.fn 129 []),(8,vI a),(9,vI 0),(10,vI (isub b a)),(11,vI s21.1)],[(1000000,wI 3 s21.2)]⟩) (fun x30=>(.exit 0,⟨[(0,ro 1000000 3),(3,.fn 129 []),(8,vI a),(9,vI 0),(10,vI (isub b a))],[(1000000,wI 3 x30)]⟩)) qH (fun s21 r h=>?_) fun τ hτ=>?_
 refine zB (y3 2 [0,3,8,9,10,11,21] [1000000] (qc h (fun h=>?_) fun h=>?_))
 refine y4 [0,3,8,9,10,11] [1000000] (zB (zC (zD (zA 5 ?_))))
 obtain ⟨r29,hr29,h⟩:=bindS h
 refine qC [(1000000,1000000)] [] (W.slices_siftDownCmpFunc_int__cmp_Compare_int_ok hr29) (zP fun τ hτ=>?_)
 refine bl_normal (yE hτ [0,3,8,9,10,11] [1000000] (zD (z6 3 fun τ hτ=>?_)))
 cases h
 exact zH hτ
 refine zL 0 fun τ hτ=>?_
 refine th_exit ?_
 cases h
 exact zF hτ
 refine zQ (yE hτ [0,3,8,9,10] [1000000] (y3 3 [0,3,8,9,12] [1000000] (zC ?_)))
 obtain ⟨x117,hx117,h⟩:=bindS h
 refine ql hx117 (fun s60=>⟨[(0,ro 1000000 3),(3,.fn 129 []),(8,vI a),(9,vI 0),(12,vI s60.1)],[(1000000,wI 3 s60.2)]⟩) (fun x117=>(.exit 2,⟨[],[(1000000,wI 3 x117)]⟩)) qH (fun s60 r h=>?_) fun τ hτ=>?_
 refine zB (y3 2 [0,3,8,9,12,33] [1000000] (qc h (fun h=>?_) fun h=>?_))
 refine y4 [0,3,8,9,12] [1000000] (zB (zC (zB (qN [(17,[1000000])] [] [] [(2,[1000000]),(3,[1000000]),(4,[1000000]),(5,[1000000])] [] 18 (dN 10 ?_)))))
 obtain ⟨x111,hx111,h⟩:=bindS h
 refine dI cI hx111 (dR cI hx111 (dN 2 ?_))
 obtain ⟨x112,hx112,h⟩:=bindS h
 refine dI cI hx112 (dR cI hx112 ?_)
 obtain ⟨x113,hx113,h⟩:=bindS h
 refine dI cI hx113 (dS cI x111 hx113 (dE ?_))
 obtain ⟨x114,hx114,h⟩:=bindS h
 refine oI cI hx114 (oS cI x112 hx114 (zO fun τ hτ=>?_))
 refine yE hτ [0,3,8,9,12] [1000000] (zD (zA 5 ?_))
 obtain ⟨r116,hr116,h⟩:=bindS h
 refine qC [(1000000,1000000)] [] (W.slices_siftDownCmpFunc_int__cmp_Compare_int_ok hr116) (zP fun τ hτ=>?_)
 refine bl_normal (yE hτ [0,3,8,9,12] [1000000] (zD (z6 3 fun τ hτ=>?_)))
 cases h
 exact zH hτ
 refine zL 2 fun τ hτ=>?_
 refine th_exit ?_
 cases h
 exact zF hτ
 refine zQ ?_
 obtain rfl:=osi h
 exact rk_normal hτ [] (here (by kernel_rfl)) (by kernel_rfl)
theorem W.slices_nextPowerOfTwo_ok {length r} (h : slices_nextPowerOfTwo length=some r) : PC G.P 213 [(vI length)] [] (vK .u64 r) []:=by
 refine zU G Tryz.func213 (yK [0] [] (y3 1 [0] [] (z7 (zA 2 ?_))))
 obtain ⟨r2,hr2,h⟩:=bindS h
 refine qP (W.bits_Len_ok hr2) ?_
 obtain ⟨hb,h⟩:=iteN h
 refine evs_op (st_shl (a:=1) (b:=r2) (kd:=.u64) (k2:=.i64) (by kernel_rfl) (of_decide_eq_true hb)) (y1 1 [2] [] (zN fun τ hτ=>?_))
 obtain rfl:=osi h
 exact zV hτ [(2,vK .u64 (IntKind.wrap .u64 (1 * 2 ^ (min (Int.toNat r2) 64))))]
theorem W.slices_xorshift_Next_ok {h0_0 r} (h : slices_xorshift_Next h0_0=some r) : PC G.P 214 [(.ptr 1000000 0)] [(1000000,.box [(vK .u64 h0_0)])] (vK .u64 r) [(1000000,.box [(vK .u64 (kxor .u64 (kxor .u64 (kxor .u64 h0_0 (IntKind.wrap .u64 (h0_0 * 2 ^ (min (Int.toNat 13) 64)))) (Int.fdiv (kxor .u64 h0_0 (IntKind.wrap .u64 (h0_0 * 2 ^ (min (Int.toNat 13) 64)))) (2 ^ (min (Int.toNat 7) 64)))) (IntKind.wrap .u64 ((kxor .u64 (kxor .u64 h0_0 (IntKind.wrap .u64 (h0_0 * 2 ^ (min (Int.toNat 13) 64)))) (Int.fdiv (kxor .u64 h0_0 (IntKind.wrap .u64 (h0_0 * 2 ^ (min (Int.toNat 13) 64)))) (2 ^ (min (Int.toNat 7) 64)))) * 2 ^ (min (Int.toNat 17) 64)))))])]:=by
 refine zU G Tryz.func214 (yK [0] [1000000] (y3 1 [0] [1000000] (zB (qM 7 (dN 7 (dE ?_))))))
 refine oN 3 (zO fun τ hτ=>?_)
 refine yE hτ [0] [1000000] (zB (qM 7 (dN 7 (dE (oN 3 (zO fun τ hτ=>?_))))))
 refine yE hτ [0] [1000000] (zB (qM 7 (dN 7 (dE (oN 3 (zO fun τ hτ=>?_))))))
 refine yE hτ [0] [1000000] (z8 4 ⟨[(2,vK .u64 (kxor .u64 (kxor .u64 (kxor .u64 h0_0 (IntKind.wrap .u64 (h0_0 * 2 ^ (min (Int.toNat 13) 64)))) (Int.fdiv (kxor .u64 h0_0 (IntKind.wrap .u64 (h0_0 * 2 ^ (min (Int.toNat 13) 64)))) (2 ^ (min (Int.toNat 7) 64)))) (IntKind.wrap .u64 ((kxor .u64 (kxor .u64 h0_0 (IntKind.wrap .u64 (h0_0 * 2 ^ (min (Int.toNat 13) 64)))) (Int.fdiv (kxor .u64 h0_0 (IntKind.wrap .u64 (h0_0 * 2 ^ (min (Int.toNat 13) 64)))) (2 ^ (min (Int.toNat 7) 64)))) * 2 ^ (min (Int.toNat 17) 64)))))],[(1000000,.box [(vK .u64 (kxor .u64 (kxor .u64 (kxor .u64 h0_0 (IntKind.wrap .u64 (h0_0 * 2 ^ (min (Int.toNat 13) 64)))) (Int.fdiv (kxor .u64 h0_0 (IntKind.wrap .u64 (h0_0 * 2 ^ (min (Int.toNat 13) 64)))) (2 ^ (min (Int.toNat 7) 64)))) (IntKind.wrap .u64 ((kxor .u64 (kxor .u64 h0_0 (IntKind.wrap .u64 (h0_0 * 2 ^ (min (Int.toNat 13) 64)))) (Int.fdiv (kxor .u64 h0_0 (IntKind.wrap .u64 (h0_0 * 2 ^ (min (Int.toNat 13) 64)))) (2 ^ (min (Int.toNat 7) 64)))) * 2 ^ (min (Int.toNat 17) 64)))))])]⟩ fun τ hτ=>?_)
 obtain rfl:=osi h
 exact zV hτ [(2,vK .u64 (kxor .u64 (kxor .u64 (kxor .u64 h0_0 (IntKind.wrap .u64 (h0_0 * 2 ^ (min (Int.toNat 13) 64)))) (Int.fdiv (kxor .u64 h0_0 (IntKind.wrap .u64 (h0_0 * 2 ^ (min (Int.toNat 13) 64)))) (2 ^ (min (Int.toNat 7) 64)))) (IntKind.wrap .u64 ((kxor .u64 (kxor .u64 h0_0 (IntKind.wrap .u64 (h0_0 * 2 ^ (min (Int.toNat 13) 64)))) (Int.fdiv (kxor .u64 h0_0 (IntKind.wrap .u64 (h0_0 * 2 ^ (min (Int.toNat 13) 64)))) (2 ^ (min (Int.toNat 7) 64)))) * 2 ^ (min (Int.toNat 17) 64)))))]
theorem W.slices_breakPatternsCmpFunc_int__cmp_Compare_int_ok {a b h0 r} (h : slices_breakPatternsCmpFunc_int__cmp_Compare_int a b h0=some r) : PC G.P 192 [(.row (.top 1000000) 3),(vI a),(vI b),(.fn 129 [])] [(1000000,.row 3 [] (List.map cI h0))] (.tup []) [(1000000,.row 3 [] (List.map cI r))]:=by
 refine zU G Tryz.func192 (yK [0,1,2] [1000000] (y3 4 [0,1,8] [1000000] (y3 2 [0,1,8,17] [1000000] (qc h (fun h=>?_) fun h=>?_))))
 refine y3 4 [0,1,8,9] [9,1000000] (z7 (zA 1 ?_))
 obtain ⟨r2,hr2,h⟩:=bindS h
 refine qP (W.slices_nextPowerOfTwo_ok hr2) (y1 1 [0,1,8,9,10] [9,1000000] (y3 7 [0,1,8,9,10,11] [9,1000000] (zC ?_)))
 obtain ⟨x95,hx95,h⟩:=bindS h
 refine ql hx95 (fun s34=>⟨[(0,ro 1000000 3),(1,vI a),(8,vI (isub b a)),(9,.ptr 500000 0),(10,vK .u64 r2),(11,vI s34.1)],[(500000,.box [(vK .u64 s34.2.1)]),(1000000,wI 3 s34.2.2)]⟩) (fun x95=>(.exit 0,⟨[],[(1000000,wI 3 x95)]⟩)) (sp [] [(9,500000),(1000000,1000000)]) (fun s34 r h=>?_) fun τ hτ=>?_
 refine zB (y3 8 [0,1,8,9,10,11,35] [500000,1000000] (qc h (fun h=>?_) fun h=>?_))
 refine y4 [0,1,8,9,10,11] [500000,1000000] (zB (zC (z7 ?_)))
 obtain ⟨r81,hr81,h⟩:=bindS h
 refine qC [(1000000,500000)] [] (W.slices_xorshift_Next_ok hr81) (y1 5 [0,1,8,9,10,11,12] [500000,1000000] (sem_seqJ (fun (j82 : Int)=>⟨[(0,ro 1000000 3),(1,vI a),(8,vI (isub b a)),(9,.ptr 500000 0),(10,vK .u64 r2),(11,vI s34.1),(12,vI j82)],[(500000,.box [(vK .u64 (kxor .u64 (kxor .u64 (kxor .u64 s34.2.1 (IntKind.wrap .u64 (s34.2.1 * 2 ^ (min (Int.toNat 13) 64)))) (Int.fdiv (kxor .u64 s34.2.1 (IntKind.wrap .u64 (s34.2.1 * 2 ^ (min (Int.toNat 13) 64)))) (2 ^ (min (Int.toNat 7) 64)))) (IntKind.wrap .u64 ((kxor .u64 (kxor .u64 s34.2.1 (IntKind.wrap .u64 (s34.2.1 * 2 ^ (min (Int.toNat 13) 64)))) (Int.fdiv (kxor .u64 s34.2.1 (IntKind.wrap .u64 (s34.2.1 * 2 ^ (min (Int.toNat 13) 64)))) (2 ^ (min (Int.toNat 7) 64)))) * 2 ^ (min (Int.toNat 17) 64)))))]),(1000000,wI 3 s34.2.2)]⟩) (slices_breakPatternsCmpFunc_int__cmp_Compare_int_k1 a s34) r (by kernel_rfl) (fun j82 h=>?_) ?_))
 refine qN [(17,[1000000])] [] [] [(2,[1000000]),(3,[1000000]),(4,[1000000]),(5,[1000000])] [] 18 (dN 10 ?_)
 obtain ⟨x91,hx91,h⟩:=bindS h
 refine dI cI hx91 (dR cI hx91 (dN 2 ?_))
 obtain ⟨x92,hx92,h⟩:=bindS h
 refine dI cI hx92 (dR cI hx92 ?_)
 obtain ⟨x93,hx93,h⟩:=bindS h
 refine dI cI hx93 (dS cI x91 hx93 (dE ?_))
 obtain ⟨x94,hx94,h⟩:=bindS h
 refine oI cI hx94 (oS cI x92 hx94 (zO fun τ hτ=>?_))
 refine bl_normal (yE hτ [0,1,8,9,10,11] [500000,1000000] (zD (z6 3 fun τ hτ=>?_)))
 cases h
 exact zH hτ
 refine y3 3 [0,1,8,9,10,11,12,45] [500000,1000000] (qc h (fun h=>?_) fun h=>?_)
 refine zD (z6 4 fun τ hτ=>?_)
 exact jk_normal (isub (IntKind.wrap .i64 (kand .u64 r81 (IntKind.wrap .u64 (r2 - 1)))) (isub b a)) h hτ (here (by kernel_rfl))
 refine zM fun τ hτ=>?_
 exact jk_normal (IntKind.wrap .i64 (kand .u64 r81 (IntKind.wrap .u64 (r2 - 1)))) h hτ (here (by kernel_rfl))
 refine zL 0 fun τ hτ=>?_
 refine th_exit ?_
 cases h
 exact zF hτ
 refine zQ ?_
 obtain rfl:=osi h
 exact rk_normal hτ [] (here (by kernel_rfl)) (by kernel_rfl)
 refine zM fun τ hτ=>?_
 obtain rfl:=osi h
 exact rk_normal hτ [] (here (by kernel_rfl)) (by kernel_rfl)
end Go.Proofs.YtgfjbgoehhnaeaaGreat
