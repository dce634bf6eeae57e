/- Each Go function does what its model says; written by a program out of the translation. -/
import Derived.Test.YtgfjbgoehhnaeaaGreatBase
import Derived.Test.YtgfjbgoehhnaeaaGreatCzML
set_option linter.unusedVariables false
set_option linter.unusedSimpArgs false
set_option linter.unusedSectionVars false
namespace Go.Proofs.YtgfjbgoehhnaeaaGreat
open Go Go.VI Go.SM Go.Proofs
set_option maxRecDepth 100000
set_option maxHeartbeats 4000000
theorem W.strings_Contains_ok {s sub : ByteArray} {r : Bool} (h : strings_Contains s sub=some r) : PC G.P 142 [vS s,vS sub] [] (vB r) []:=by
 unfold strings_Contains at h
 split at h
 rename_i hs
 injection h with h; subst h
 exact pc_pure (args:=[.string s,.string sub]) (by kernel_rfl) 0 (by kernel_rfl) fun m w hm=>Any.strings_Contains Tryz.contains_lays s sub m w hs hm
 cases h
theorem W.part_ValidName_ok {s0 : ByteArray} {r : Bool} (h : part_ValidName s0=some r) : PC G.P 84 [(vS s0)] [] (vB r) []:=by
 refine zU G Tryz.func84 (yK [0] [] (y3 1 [0] [] (zB (zB ?_))))
 obtain ⟨j8,hj8,h⟩:=bindS h
 refine zT ⟨[(0,vS s0),(22,vB j8)],[]⟩ ?_ fun τ hτ=>?_
 replace h:=hj8
 refine zA 4 (zS (decide ((s0.size : Int) < 1)) (fun b0=>⟨[(0,vS s0),(8,vB b0)],[]⟩) (fun hb=>?_) fun hb=>?_)
 replace h:=iteT hb h
 refine z6 14 fun τ hτ=>?_
 obtain rfl:=osi h
 exact zG hτ
 replace h:=iteF hb h
 refine zA 5 (zS (decide ((s0.size : Int) > 8)) (fun b0=>⟨[(0,vS s0),(13,vB b0)],[]⟩) (fun hb=>?_) fun hb=>?_)
 replace h:=iteT hb h
 refine z6 9 fun τ hτ=>?_
 obtain rfl:=osi h
 exact zG hτ
 replace h:=iteF hb h
 refine zA 1 ?_
 obtain ⟨x9,hx9,h⟩:=bindS h
 refine evs_at (at_sidx (s:=s0) (i:=0) (kd:=.i64) (by kernel_rfl) hx9) (zA 3 (zS (decide (x9 < 97)) (fun b0=>⟨[(0,vS s0),(18,vB b0)],[]⟩) (fun hb=>?_) fun hb=>?_))
 replace h:=iteT hb h
 refine z6 4 fun τ hτ=>?_
 obtain rfl:=osi h
 exact zG hτ
 replace h:=iteF hb h
 refine zA 1 ?_
 obtain ⟨x10,hx10,h⟩:=bindS h
 refine evs_at (at_sidx (s:=s0) (i:=0) (kd:=.i64) (by kernel_rfl) hx10) (z6 2 fun τ hτ=>?_)
 obtain rfl:=osi h
 exact zG hτ
 refine yE hτ [0,22] [] (zI j8 (fun hb=>?_) fun hb=>?_)
 replace h:=iteT hb h
 refine z8 1 ⟨[(2,vB false)],[]⟩ fun τ hτ=>?_
 refine th_ret ?_
 obtain rfl:=osi h
 exact zV hτ [(2,vB false)]
 replace h:=iteF hb h
 refine y4 [0] [] (zB (y3 3 [0,24,25] [] (zC ?_)))
 obtain ⟨x54,hx54,h⟩:=bindS h
 refine sem_loopS (fun (s41 : Int)=>⟨[(0,vS s0),(24,vI (s0.size : Int)),(25,vI s41)],[]⟩) (fun (x54 : Unit ⊕ Unit)=>match x54 with | .inl j55=>(.ret,⟨[(2,vB false)],[]⟩) | .inr j56=>(.exit 0,⟨[(0,vS s0)],[]⟩)) (part_ValidName_l1 s0) 0 x54 (by kernel_rfl) (here (by kernel_rfl)) hx54 ?_ ?_ ?_
 intro s41 r h
 refine y3 1 [0,24,25,26] [] (zB (zI (decide (s41 < (s0.size : Int))) (fun hb=>?_) fun hb=>?_))
 replace h:=iteT hb h
 refine y4 [0,24,25] [] (zB (zC (y3 2 [0,3,24,25] [] (z7 (zA 2 ?_)))))
 obtain ⟨x52,hx52,h⟩:=bindS h
 refine evs_at (at_sidx (s:=s0) (i:=s41) (kd:=.i64) (by kernel_rfl) hx52) (y1 1 [0,4,24,25] [] (zB ?_))
 obtain ⟨j53,hj53,h⟩:=bindS h
 refine zT ⟨[(0,vS s0),(24,vI (s0.size : Int)),(25,vI s41),(44,vB j53)],[]⟩ ?_ fun τ hτ=>?_
 replace h:=hj53
 refine zA 3 (zS (decide (x52 < 97)) (fun b0=>⟨[(0,vS s0),(4,vK .u8 x52),(24,vI (s0.size : Int)),(25,vI s41),(33,vB b0)],[]⟩) (fun hb=>?_) fun hb=>?_)
 replace h:=iteT hb h
 refine zA 7 (zS (decide (x52 < 48)) (fun b0=>⟨[(0,vS s0),(4,vK .u8 x52),(24,vI (s0.size : Int)),(25,vI s41),(37,vB true),(40,vB b0)],[]⟩) (fun hb=>?_) fun hb=>?_)
 replace h:=iteT hb h
 refine z6 4 fun τ hτ=>?_
 obtain rfl:=osi h
 exact zG hτ
 replace h:=iteF hb h
 refine z6 4 fun τ hτ=>?_
 obtain rfl:=osi h
 exact zG hτ
 replace h:=iteF hb h
 refine zA 4 (zS (decide (x52 > 122)) (fun b0=>⟨[(0,vS s0),(4,vK .u8 x52),(24,vI (s0.size : Int)),(25,vI s41),(37,vB b0)],[]⟩) (fun hb=>?_) fun hb=>?_)
 replace h:=iteT hb h
 refine zA 3 (zS (decide (x52 < 48)) (fun b0=>⟨[(0,vS s0),(4,vK .u8 x52),(24,vI (s0.size : Int)),(25,vI s41),(37,vB true),(40,vB b0)],[]⟩) (fun hb=>?_) fun hb=>?_)
 replace h:=iteT hb h
 refine z6 4 fun τ hτ=>?_
 obtain rfl:=osi h
 exact zG hτ
 replace h:=iteF hb h
 refine z6 4 fun τ hτ=>?_
 obtain rfl:=osi h
 exact zG hτ
 replace h:=iteF hb h
 refine z6 7 fun τ hτ=>?_
 obtain rfl:=osi h
 exact zG hτ
 refine yE hτ [0,24,25,44] [] (zI j53 (fun hb=>?_) fun hb=>?_)
 replace h:=iteT hb h
 refine z8 1 ⟨[(2,vB false)],[]⟩ fun τ hτ=>?_
 refine bl_ret (th_ret ?_)
 obtain rfl:=osi h
 exact zF hτ
 replace h:=iteF hb h
 refine zM fun τ hτ=>?_
 refine bl_normal (yE hτ [0,24,25] [] (zD (z6 2 fun τ hτ=>?_)))
 obtain rfl:=osi h
 exact zH hτ
 replace h:=iteF hb h
 refine zL 0 fun τ hτ=>?_
 refine th_exit ?_
 obtain rfl:=osi h
 exact zF hτ
 intro x
 rcases x with _ | _ <;> rfl
 intro τ hτ
 rcases x54 with j55 | j56
 refine bl_ret (th_ret ?_)
 obtain rfl:=osi h
 exact zV hτ [(2,vB false)]
 refine zQ (yE hτ [0] [] (z7 (zA 1 ?_)))
 obtain ⟨s60,hs60,h⟩:=bindS h
 refine evs_op (st_cat (a:=(ByteArray.mk #[32])) (b:=s0) (by kernel_rfl) hs60) ?_
 obtain ⟨s61,hs61,h⟩:=bindS h
 refine evs_op (st_cat (a:=s60) (b:=(ByteArray.mk #[32])) (by kernel_rfl) hs61) ?_
 obtain ⟨r62,hr62,h⟩:=bindS h
 refine evs_callP [] (by kernel_rfl) (W.strings_Contains_ok hr62) (by kernel_rfl) (.inl rfl) (by kernel_rfl) (y1 2 [2] [] (zN fun τ hτ=>?_))
 obtain rfl:=osi h
 exact zV hτ [(2,vB (!r62))]
theorem W.nest_from_ok {n : Int} {lo : Int} {hi : Int} {r : Bool} (h : nest_from n lo hi=some r) : PC G.P 86 [(vI n),(vI lo),(vI hi)] [] (vB r) []:=by
 refine zU G Tryz.func86 (yK [0,1,2] [] (y3 1 [0,1,2] [] (zB ?_)))
 obtain ⟨j1,hj1,h⟩:=bindS h
 refine zT ⟨[(6,vB j1)],[]⟩ ?_ fun τ hτ=>?_
 replace h:=hj1
 refine zA 4 (zS (decide (lo≤n)) (fun b0=>⟨[(0,vI n),(2,vI hi),(10,vB b0)],[]⟩) (fun hb=>?_) fun hb=>?_)
 replace h:=iteT hb h
 refine z6 5 fun τ hτ=>?_
 obtain rfl:=osi h
 exact zG hτ
 replace h:=iteF hb h
 refine z6 5 fun τ hτ=>?_
 obtain rfl:=osi h
 exact zG hτ
 refine yE hτ [6] [] (zN fun τ hτ=>?_)
 obtain rfl:=osi h
 exact zV hτ [(6,vB j1)]
theorem W.nest_plain_ok {gauge : Int} {grain : Int} {r : Bool} (h : nest_plain gauge grain=some r) : PC G.P 85 [(vI gauge),(vI grain)] [] (vB r) []:=by
 refine zU G Tryz.func85 (yK [0,1] [] (y3 1 [0,1] [] (zB ?_)))
 obtain ⟨j3,hj3,h⟩:=bindS h
 refine zT ⟨[(4,vB j3)],[]⟩ ?_ fun τ hτ=>?_
 replace h:=hj3
 refine zA 1 ?_
 obtain ⟨r4,hr4,h⟩:=bindS h
 refine evs_callP [] (by kernel_rfl) (W.nest_from_ok hr4) (by kernel_rfl) (.inl rfl) (by kernel_rfl) (zA 1 (zS r4 (fun b0=>⟨[(1,vI grain),(7,vB b0)],[]⟩) (fun hb=>?_) fun hb=>?_))
 replace h:=iteT hb h
 refine zA 1 ?_
 obtain ⟨r5,hr5,h⟩:=bindS h
 refine evs_callP [] (by kernel_rfl) (W.nest_from_ok hr5) (by kernel_rfl) (.inl rfl) (by kernel_rfl) (z6 2 fun τ hτ=>?_)
 obtain rfl:=osi h
 exact zG hτ
 replace h:=iteF hb h
 refine z6 4 fun τ hτ=>?_
 obtain rfl:=osi h
 exact zG hτ
 refine yE hτ [4] [] (zN fun τ hτ=>?_)
 obtain rfl:=osi h
 exact zV hτ [(4,vB j3)]
theorem W.geom_within_ok {n : Int} {most : Int} {r : Bool} (h : geom_within n most=some r) : PC G.P 144 [(vI n),(vI most)] [] (vB r) []:=by
 refine zU G Tryz.func144 (yK [0,1] [] (y3 1 [0,1] [] (zB ?_)))
 obtain ⟨j1,hj1,h⟩:=bindS h
 refine zT ⟨[(4,vB j1)],[]⟩ ?_ fun τ hτ=>?_
 replace h:=hj1
 refine zA 5 (zS (decide ((ineg most)≤n)) (fun b0=>⟨[(0,vI n),(1,vI most),(9,vB b0)],[]⟩) (fun hb=>?_) fun hb=>?_)
 replace h:=iteT hb h
 refine z6 5 fun τ hτ=>?_
 obtain rfl:=osi h
 exact zG hτ
 replace h:=iteF hb h
 refine z6 5 fun τ hτ=>?_
 obtain rfl:=osi h
 exact zG hτ
 refine yE hτ [4] [] (zN fun τ hτ=>?_)
 obtain rfl:=osi h
 exact zV hτ [(4,vB j1)]
theorem W.geom_ValidRect_1_ok {x0 : Int} {w : Int} {r : Bool} (h : geom_ValidRect_1 x0 w=some r) : PC G.P 143 [(vI x0),(vI w)] [] (vB r) []:=by
 refine zU G Tryz.func143 (yK [0,1] [] (y3 1 [0,1] [] (zB ?_)))
 obtain ⟨j2,hj2,h⟩:=bindS h
 refine zT ⟨[(4,vB j2)],[]⟩ ?_ fun τ hτ=>?_
 replace h:=hj2
 refine zA 1 ?_
 obtain ⟨r3,hr3,h⟩:=bindS h
 refine evs_callP [] (by kernel_rfl) (W.geom_within_ok hr3) (by kernel_rfl) (.inl rfl) (by kernel_rfl) (zA 1 (zS r3 (fun b0=>⟨[(0,vI x0),(1,vI w),(7,vB b0)],[]⟩) (fun hb=>?_) fun hb=>?_))
 replace h:=iteT hb h
 refine zA 4 (zS (decide (w > 0)) (fun b0=>⟨[(0,vI x0),(1,vI w),(11,vB b0)],[]⟩) (fun hb=>?_) fun hb=>?_)
 replace h:=iteT hb h
 refine zA 4 (zS (decide (w≤2097152)) (fun b0=>⟨[(0,vI x0),(1,vI w),(15,vB b0)],[]⟩) (fun hb=>?_) fun hb=>?_)
 replace h:=iteT hb h
 refine z6 6 fun τ hτ=>?_
 obtain rfl:=osi h
 exact zG hτ
 replace h:=iteF hb h
 refine z6 6 fun τ hτ=>?_
 obtain rfl:=osi h
 exact zG hτ
 replace h:=iteF hb h
 refine z6 10 fun τ hτ=>?_
 obtain rfl:=osi h
 exact zG hτ
 replace h:=iteF hb h
 refine z6 14 fun τ hτ=>?_
 obtain rfl:=osi h
 exact zG hτ
 refine yE hτ [4] [] (zN fun τ hτ=>?_)
 obtain rfl:=osi h
 exact zV hτ [(4,vB j2)]
theorem W.geom_ValidRect_ok {r0 : Rect} {r : Bool} (h : geom_ValidRect r0=some r) : PC G.P 89 [(.agg (c_Rect r0))] [] (vB r) []:=by
 refine zU G Tryz.func89 (yK [0] [] (y3 2 [1] [1] (y3 1 [1,3] [1] (zB ?_))))
 obtain ⟨j3,hj3,h⟩:=bindS h
 refine zT ⟨[(2,vB j3)],[]⟩ ?_ fun τ hτ=>?_
 replace h:=hj3
 refine zA 5 ?_
 obtain ⟨r4,hr4,h⟩:=bindS h
 refine evs_callP [] (by kernel_rfl) (W.geom_ValidRect_1_ok hr4) (by kernel_rfl) (.inl rfl) (by kernel_rfl) (zA 1 (zS r4 (fun b0=>⟨[(1,.ptr 1 0),(3,.fn 143 []),(10,vB b0)],[(1,.box (c_Rect r0))]⟩) (fun hb=>?_) fun hb=>?_))
 replace h:=iteT hb h
 refine zA 5 ?_
 obtain ⟨r5,hr5,h⟩:=bindS h
 refine evs_callP [] (by kernel_rfl) (W.geom_ValidRect_1_ok hr5) (by kernel_rfl) (.inl rfl) (by kernel_rfl) (z6 2 fun τ hτ=>?_)
 obtain rfl:=osi h
 exact zG hτ
 replace h:=iteF hb h
 refine z6 8 fun τ hτ=>?_
 obtain rfl:=osi h
 exact zG hτ
 refine yE hτ [2] [] (zN fun τ hτ=>?_)
 obtain rfl:=osi h
 exact zV hτ [(2,vB j3)]
theorem W.nest_valid_ok {l : (List Rect)} {r : Bool} (h : nest_valid l=some r) : PC G.P 87 [(.sl (List.map c_Rect l))] [] (vB r) []:=by
 refine zU G Tryz.func87 (yK [0] [] (y3 1 [0] [] (zB (z7 (zA 1 (evs_op (st_len (c:=c_Rect) (l:=l) (x:=(s_Rect l)) (by kernel_rfl) (by kernel_rfl)) ?_))))))
 refine y1 1 [5,6,7] [] (zC ?_)
 obtain ⟨x56,hx56,h⟩:=bindS h
 refine sem_loopS (fun (s39 : Int)=>⟨[(5,s_Rect l),(6,vI (l.length : Int)),(7,vI s39)],[]⟩) (fun (x56 : Unit ⊕ Unit)=>match x56 with | .inl j57=>(.ret,⟨[(2,vB false)],[]⟩) | .inr j58=>(.exit 0,⟨[],[]⟩)) (nest_valid_l1 l) 0 x56 (by kernel_rfl) (here (by kernel_rfl)) hx56 ?_ ?_ ?_
 intro s39 r h
 refine y3 1 [5,6,7,8] [] (zB (zI (decide (s39 < (l.length : Int))) (fun hb=>?_) fun hb=>?_))
 replace h:=iteT hb h
 refine y4 [5,6,7] [] (zB (zC (z7 ?_)))
 obtain ⟨x53,hx53,h⟩:=bindS h
 refine evs_op (st_idx (c:=c_Rect) (l:=l) (i:=s39) (kd:=.i64) (sz:=4) (by kernel_rfl) hx53 rfl) (y1 3 [4,5,6,7] [4] (z7 (zA 1 ?_)))
 obtain ⟨r55,hr55,h⟩:=bindS h
 refine evs_callP [] (by kernel_rfl) (W.geom_ValidRect_ok hr55) (by kernel_rfl) (.inl rfl) (by kernel_rfl) (y1 1 [5,6,7,13] [] (zI (!r55) (fun hb=>?_) fun hb=>?_))
 replace h:=iteT hb h
 refine z8 1 ⟨[(2,vB false)],[]⟩ fun τ hτ=>?_
 refine bl_ret (th_ret ?_)
 obtain rfl:=osi h
 exact zF hτ
 replace h:=iteF hb h
 refine zM fun τ hτ=>?_
 refine bl_normal (yE hτ [5,6,7] [] (zD (z6 2 fun τ hτ=>?_)))
 obtain rfl:=osi h
 exact zH hτ
 replace h:=iteF hb h
 refine zL 0 fun τ hτ=>?_
 refine th_exit ?_
 obtain rfl:=osi h
 exact zF hτ
 intro x
 rcases x with _ | _ <;> rfl
 intro τ hτ
 rcases x56 with j57 | j58
 refine bl_ret (th_ret ?_)
 obtain rfl:=osi h
 exact zV hτ [(2,vB false)]
 refine zQ (yE hτ [] [] (z8 1 ⟨[(2,vB true)],[]⟩ fun τ hτ=>?_))
 obtain rfl:=osi h
 exact zV hτ [(2,vB true)]
theorem W.nest_inner_ok {s0 : Sheet} {margin : Int} {r : Rect×Bool} (h : nest_inner s0 margin=some r) : PC G.P 88 [(.agg (c_Sheet s0)),(vI margin)] [] (.tup [(.agg (c_Rect r.1)),(vB r.2)]) [(0,.box [(vI margin),(vI margin),(vI (isub s0.Width (imul 2 margin))),(vI (isub s0.Height (imul 2 margin)))])]:=by
 refine zU G Tryz.func88 (yK [0,1] [] (y3 3 [1,2,4] [2,4] (y3 15 [4,6] [4,6] (zB (sem_drawN [] [] [] [] [] 3 (by kernel_rfl) (by kernel_rfl) (by kernel_rfl) (evd_run 2 (by kernel_rfl) ?_))))))
 obtain ⟨r3,hr3,h⟩:=bindS h
 refine evd_callS [] [] (by kernel_rfl) (by kernel_rfl) (W.geom_ValidRect_ok hr3) (by kernel_rfl) (.inl rfl) (by kernel_rfl) (by kernel_rfl) (evd_end (by kernel_rfl) (evo_run 2 (by kernel_rfl) (zO fun τ hτ=>?_)))
 refine yE hτ [4,5] [4] (zN fun τ hτ=>?_)
 obtain rfl:=osi h
 exact rk_ret hτ [(4,.ptr 0 0),(5,vB r3)] (subR_prep [] [(4,0)] (by kernel_rfl) rfl rfl (by kernel_rfl)) (by kernel_rfl)
theorem W.geom_Inside_ok {a : Rect} {b : Rect} {r : Bool} (h : geom_Inside a b=some r) : PC G.P 42 [(.agg (c_Rect a)),(.agg (c_Rect b))] [] (vB r) []:=by
 refine zU G Tryz.func42 (yK [0,1] [] (y3 3 [2,3] [2,3] (zB ?_)))
 obtain ⟨j3,hj3,h⟩:=bindS h
 refine zT ⟨[(4,vB j3)],[]⟩ ?_ fun τ hτ=>?_
 replace h:=hj3
 refine zA 1 ?_
 obtain ⟨r4,hr4,h⟩:=bindS h
 refine evs_callP [] (by kernel_rfl) (W.geom_ValidRect_ok hr4) (by kernel_rfl) (.inl rfl) (by kernel_rfl) (zA 1 (zS r4 (fun b0=>⟨[(2,.ptr 2 0),(3,.ptr 3 0),(7,vB b0)],[(2,.box (c_Rect a)),(3,.box (c_Rect b))]⟩) (fun hb=>?_) fun hb=>?_))
 replace h:=iteT hb h
 refine zA 1 ?_
 obtain ⟨r5,hr5,h⟩:=bindS h
 refine evs_callP [] (by kernel_rfl) (W.geom_ValidRect_ok hr5) (by kernel_rfl) (.inl rfl) (by kernel_rfl) (zA 2 (zS r5 (fun b0=>⟨[(2,.ptr 2 0),(3,.ptr 3 0),(11,vB b0)],[(2,.box (c_Rect a)),(3,.box (c_Rect b))]⟩) (fun hb=>?_) fun hb=>?_))
 replace h:=iteT hb h
 refine zA 7 (zS (decide (b.X≤a.X)) (fun b0=>⟨[(2,.ptr 2 0),(3,.ptr 3 0),(18,vB b0)],[(2,.box (c_Rect a)),(3,.box (c_Rect b))]⟩) (fun hb=>?_) fun hb=>?_)
 replace h:=iteT hb h
 refine zA 13 (zS (decide ((iadd a.X a.W)≤(iadd b.X b.W))) (fun b0=>⟨[(2,.ptr 2 0),(3,.ptr 3 0),(31,vB b0)],[(2,.box (c_Rect a)),(3,.box (c_Rect b))]⟩) (fun hb=>?_) fun hb=>?_)
 replace h:=iteT hb h
 refine zA 7 (zS (decide (b.Y≤a.Y)) (fun b0=>⟨[(2,.ptr 2 0),(3,.ptr 3 0),(38,vB b0)],[(2,.box (c_Rect a)),(3,.box (c_Rect b))]⟩) (fun hb=>?_) fun hb=>?_)
 replace h:=iteT hb h
 refine z6 13 fun τ hτ=>?_
 obtain rfl:=osi h
 exact zG hτ
 replace h:=iteF hb h
 refine z6 13 fun τ hτ=>?_
 obtain rfl:=osi h
 exact zG hτ
 replace h:=iteF hb h
 refine z6 20 fun τ hτ=>?_
 obtain rfl:=osi h
 exact zG hτ
 replace h:=iteF hb h
 refine z6 33 fun τ hτ=>?_
 obtain rfl:=osi h
 exact zG hτ
 replace h:=iteF hb h
 refine z6 40 fun τ hτ=>?_
 obtain rfl:=osi h
 exact zG hτ
 replace h:=iteF hb h
 refine z6 44 fun τ hτ=>?_
 obtain rfl:=osi h
 exact zG hτ
 refine yE hτ [4] [] (zN fun τ hτ=>?_)
 obtain rfl:=osi h
 exact zV hτ [(4,vB j3)]
theorem W.nest_ValidateSheet_ok {s0 : Sheet} {r : Int} (h : nest_ValidateSheet s0=some r) : PC G.P 40 [(.agg (c_Sheet s0))] [] (vI r) []:=by
 refine zU G Tryz.func40 (yK [0] [] (y3 2 [1] [1] (zB (zC (zB ?_)))))
 obtain ⟨j21,hj21,h⟩:=bindS h
 refine zT ⟨[(1,.ptr 500000 0),(9,vB j21)],[(500000,.box (c_Sheet s0))]⟩ ?_ fun τ hτ=>?_
 replace h:=hj21
 refine zA 2 ?_
 obtain ⟨r22,hr22,h⟩:=bindS h
 refine evs_callP [] (by kernel_rfl) (W.part_ValidName_ok hr22) (by kernel_rfl) (.inl rfl) (by kernel_rfl) (zA 2 (zS r22 (fun b0=>⟨[(1,.ptr 1 0),(14,vB (!b0))],[(1,.box (c_Sheet s0))]⟩) (fun hb=>?_) fun hb=>?_))
 replace h:=iteT hb h
 refine zA 2 ?_
 obtain ⟨r23,hr23,h⟩:=bindS h
 refine evs_callP [] (by kernel_rfl) (W.part_ValidName_ok hr23) (by kernel_rfl) (.inl rfl) (by kernel_rfl) (z6 3 fun τ hτ=>?_)
 obtain rfl:=osi h
 exact leafC hτ (subR_prep [] [(1,500000)] (by kernel_rfl) rfl rfl (by kernel_rfl))
 replace h:=iteF hb h
 refine z6 6 fun τ hτ=>?_
 obtain rfl:=osi h
 exact leafC hτ (subR_prep [] [(1,500000)] (by kernel_rfl) rfl rfl (by kernel_rfl))
 refine yE hτ [1,9] [500000] (zI j21 (fun hb=>?_) fun hb=>?_)
 replace h:=iteT hb h
 refine z8 1 ⟨[(2,vI 2)],[]⟩ fun τ hτ=>?_
 refine bl_ret (th_ret ?_)
 obtain rfl:=osi h
 exact zV hτ [(2,vI 2)]
 replace h:=iteF hb h
 refine zB ?_
 obtain ⟨j27,hj27,h⟩:=bindS h
 refine zT ⟨[(1,.ptr 500000 0),(20,vB j27)],[(500000,.box (c_Sheet s0))]⟩ ?_ fun τ hτ=>?_
 replace h:=hj27
 refine zA 4 ?_
 obtain ⟨r28,hr28,h⟩:=bindS h
 refine evs_callP [] (by kernel_rfl) (W.nest_plain_ok hr28) (by kernel_rfl) (.inl rfl) (by kernel_rfl) (zA 2 (zS r28 (fun b0=>⟨[(1,.ptr 500000 0),(27,vB (!b0))],[(500000,.box (c_Sheet s0))]⟩) (fun hb=>?_) fun hb=>?_))
 replace h:=iteT hb h
 refine zA 2 ?_
 obtain ⟨r29,hr29,h⟩:=bindS h
 refine evs_callP [] (by kernel_rfl) (W.nest_from_ok hr29) (by kernel_rfl) (.inl rfl) (by kernel_rfl) (zA 3 (zS r29 (fun b0=>⟨[(1,.ptr 500000 0),(33,vB (!b0))],[(500000,.box (c_Sheet s0))]⟩) (fun hb=>?_) fun hb=>?_))
 replace h:=iteT hb h
 refine zA 2 ?_
 obtain ⟨r30,hr30,h⟩:=bindS h
 refine evs_callP [] (by kernel_rfl) (W.nest_from_ok hr30) (by kernel_rfl) (.inl rfl) (by kernel_rfl) (z6 3 fun τ hτ=>?_)
 obtain rfl:=osi h
 exact zG hτ
 replace h:=iteF hb h
 refine z6 6 fun τ hτ=>?_
 obtain rfl:=osi h
 exact zG hτ
 replace h:=iteF hb h
 refine z6 12 fun τ hτ=>?_
 obtain rfl:=osi h
 exact zG hτ
 refine yE hτ [1,20] [500000] (zI j27 (fun hb=>?_) fun hb=>?_)
 replace h:=iteT hb h
 refine z8 1 ⟨[(2,vI 1)],[]⟩ fun τ hτ=>?_
 refine bl_ret (th_ret ?_)
 obtain rfl:=osi h
 exact zV hτ [(2,vI 1)]
 replace h:=iteF hb h
 refine zB ?_
 obtain ⟨j31,hj31,h⟩:=bindS h
 refine zT ⟨[(1,.ptr 500000 0),(39,vB j31)],[(500000,.box (c_Sheet s0))]⟩ ?_ fun τ hτ=>?_
 replace h:=hj31
 refine zA 2 (evs_op (st_len (c:=c_Rect) (l:=s0.Clamps) (x:=(s_Rect s0.Clamps)) (by kernel_rfl) (by kernel_rfl)) (zA 2 (zS (decide ((s0.Clamps.length : Int) > 4)) (fun b0=>⟨[(1,.ptr 500000 0),(44,vB b0)],[(500000,.box (c_Sheet s0))]⟩) (fun hb=>?_) fun hb=>?_)))
 replace h:=iteT hb h
 refine z6 6 fun τ hτ=>?_
 obtain rfl:=osi h
 exact zG hτ
 replace h:=iteF hb h
 refine zA 2 (evs_op (st_len (c:=c_Rect) (l:=s0.Used) (x:=(s_Rect s0.Used)) (by kernel_rfl) (by kernel_rfl)) (z6 3 fun τ hτ=>?_))
 obtain rfl:=osi h
 exact zG hτ
 refine yE hτ [1,39] [500000] (zI j31 (fun hb=>?_) fun hb=>?_)
 replace h:=iteT hb h
 refine z8 1 ⟨[(2,vI 4)],[]⟩ fun τ hτ=>?_
 refine bl_ret (th_ret ?_)
 obtain rfl:=osi h
 exact zV hτ [(2,vI 4)]
 replace h:=iteF hb h
 refine zB ?_
 obtain ⟨j34,hj34,h⟩:=bindS h
 refine zT ⟨[(1,.ptr 500000 0),(50,vB j34)],[(500000,.box (c_Sheet s0))]⟩ ?_ fun τ hτ=>?_
 replace h:=hj34
 refine zA 2 ?_
 obtain ⟨r35,hr35,h⟩:=bindS h
 refine evs_callP [] (by kernel_rfl) (W.nest_valid_ok hr35) (by kernel_rfl) (.inl rfl) (by kernel_rfl) (zA 2 (zS r35 (fun b0=>⟨[(1,.ptr 500000 0),(55,vB (!b0))],[(500000,.box (c_Sheet s0))]⟩) (fun hb=>?_) fun hb=>?_))
 replace h:=iteT hb h
 refine zA 2 ?_
 obtain ⟨r36,hr36,h⟩:=bindS h
 refine evs_callP [] (by kernel_rfl) (W.nest_valid_ok hr36) (by kernel_rfl) (.inl rfl) (by kernel_rfl) (z6 3 fun τ hτ=>?_)
 obtain rfl:=osi h
 exact zG hτ
 replace h:=iteF hb h
 refine z6 6 fun τ hτ=>?_
 obtain rfl:=osi h
 exact zG hτ
 refine yE hτ [1,50] [500000] (zI j34 (fun hb=>?_) fun hb=>?_)
 replace h:=iteT hb h
 refine z8 1 ⟨[(2,vI 1)],[]⟩ fun τ hτ=>?_
 refine bl_ret (th_ret ?_)
 obtain rfl:=osi h
 exact zV hτ [(2,vI 1)]
 replace h:=iteF hb h
 refine zM fun τ hτ=>?_
 refine bl_normal (yE hτ [1] [500000] (z7 (zA 1 ?_)))
 obtain ⟨r38,hr38,h⟩:=bindS h
 refine evs_callS [] [(0,700050)] [] (by kernel_rfl) (W.nest_inner_ok hr38) (by kernel_rfl) (by kernel_rfl) (.inl rfl) (y1 6 [1,3] [3,500000] (zB (z7 (zA 5 (evs_op (st_len (c:=(cS c_Rect)) (l:=[s0.Clamps,s0.Used]) (x:=(.sl (List.map (cS c_Rect) [s0.Clamps,s0.Used]))) (by kernel_rfl) (by kernel_rfl)) (y1 1 [3,70,71,72] [3] ?_))))))
 refine zC ?_
 obtain ⟨x418,hx418,h⟩:=bindS h
 refine sem_loopS (fun (s293 : Int)=>⟨[(3,.ptr 500000 0),(70,.sl (List.map (cS c_Rect) [s0.Clamps,s0.Used])),(71,vI ([s0.Clamps,s0.Used].length : Int)),(72,vI s293)],[(500000,.box (c_Rect r38.1))]⟩) (fun (x418 : Unit ⊕ Unit)=>match x418 with | .inl j419=>(.ret,⟨[(2,vI 13)],[]⟩) | .inr j420=>(.exit 1,⟨[],[]⟩)) (nest_ValidateSheet_l2 s0 r38) 0 x418 (by kernel_rfl) (subR_prep [] [(3,500000)] (by kernel_rfl) rfl rfl (by kernel_rfl)) hx418 ?_ ?_ ?_
 intro s293 r h
 refine y3 1 [3,70,71,72,73] [500000] (zB (zI (decide (s293 < ([s0.Clamps,s0.Used].length : Int))) (fun hb=>?_) fun hb=>?_))
 replace h:=iteT hb h
 refine y4 [3,70,71,72] [500000] (zB (zC (z7 ?_)))
 obtain ⟨x388,hx388,h⟩:=bindS h
 refine evs_op (st_idx (c:=(cS c_Rect)) (l:=[s0.Clamps,s0.Used]) (i:=s293) (kd:=.i64) (sz:=1) (by kernel_rfl) hx388 rfl) (y1 2 [3,6,70,71,72] [500000] (z7 (zA 1 (evs_op (st_len (c:=c_Rect) (l:=x388) (x:=(s_Rect x388)) (by kernel_rfl) (by kernel_rfl)) (y1 1 [3,70,71,72,76,77,78] [500000] (zC ?_))))))
 obtain ⟨x415,hx415,h⟩:=bindS h
 refine sem_loopS (fun (s398 : Int)=>⟨[(3,.ptr 500000 0),(70,.sl (List.map (cS c_Rect) [s0.Clamps,s0.Used])),(71,vI ([s0.Clamps,s0.Used].length : Int)),(72,vI s293),(76,s_Rect x388),(77,vI (x388.length : Int)),(78,vI s398)],[(500000,.box (c_Rect r38.1))]⟩) (fun (x415 : Unit ⊕ Unit)=>match x415 with | .inl j416=>(.ret,⟨[(2,vI 13)],[]⟩) | .inr j417=>(.exit 3,⟨[(3,.ptr 500000 0),(70,.sl (List.map (cS c_Rect) [s0.Clamps,s0.Used])),(71,vI ([s0.Clamps,s0.Used].length : Int)),(72,vI s293)],[(500000,.box (c_Rect r38.1))]⟩)) (nest_ValidateSheet_l1 r38 x388) 0 x415 (by kernel_rfl) (here (by kernel_rfl)) hx415 ?_ ?_ ?_
 intro s398 r h
 refine y3 1 [3,70,71,72,76,77,78,79] [500000] (zB (zI (decide (s398 < (x388.length : Int))) (fun hb=>?_) fun hb=>?_))
 replace h:=iteT hb h
 refine y4 [3,70,71,72,76,77,78] [500000] (zB (zC (z7 ?_)))
 obtain ⟨x412,hx412,h⟩:=bindS h
 refine evs_op (st_idx (c:=c_Rect) (l:=x388) (i:=s398) (kd:=.i64) (sz:=4) (by kernel_rfl) hx412 rfl) (y1 3 [3,8,70,71,72,76,77,78] [8,500000] (z7 (zA 2 ?_)))
 obtain ⟨r414,hr414,h⟩:=bindS h
 refine evs_callP [] (by kernel_rfl) (W.geom_Inside_ok hr414) (by kernel_rfl) (.inl rfl) (by kernel_rfl) (y1 1 [3,70,71,72,76,77,78,85] [500000] (zI (!r414) (fun hb=>?_) fun hb=>?_))
 replace h:=iteT hb h
 refine z8 1 ⟨[(2,vI 13)],[]⟩ fun τ hτ=>?_
 refine bl_ret (th_ret ?_)
 obtain rfl:=osi h
 exact zF hτ
 replace h:=iteF hb h
 refine zM fun τ hτ=>?_
 refine bl_normal (yE hτ [3,70,71,72,76,77,78] [500000] (zD (z6 2 fun τ hτ=>?_)))
 obtain rfl:=osi h
 exact zH hτ
 replace h:=iteF hb h
 refine zL 3 fun τ hτ=>?_
 refine th_exit ?_
 obtain rfl:=osi h
 exact zF hτ
 intro x
 rcases x with _ | _ <;> rfl
 intro τ hτ
 rcases x415 with j416 | j417
 refine bl_ret (bl_ret (th_ret ?_))
 obtain rfl:=osi h
 exact zF hτ
 refine zQ (bl_normal (yE hτ [3,70,71,72] [500000] (zD (z6 2 fun τ hτ=>?_))))
 obtain rfl:=osi h
 exact zH hτ
 replace h:=iteF hb h
 refine zL 1 fun τ hτ=>?_
 refine th_exit ?_
 obtain rfl:=osi h
 exact zF hτ
 intro x
 rcases x with _ | _ <;> rfl
 intro τ hτ
 rcases x418 with j419 | j420
 refine bl_ret (th_ret ?_)
 obtain rfl:=osi h
 exact zV hτ [(2,vI 13)]
 refine zQ (yE hτ [] [] (z8 1 ⟨[(2,vI 0)],[]⟩ fun τ hτ=>?_))
 obtain rfl:=osi h
 exact zV hτ [(2,vI 0)]
theorem W.geom_Overlap_ok {a : Rect} {b : Rect} {r : Bool} (h : geom_Overlap a b=some r) : PC G.P 94 [(.agg (c_Rect a)),(.agg (c_Rect b))] [] (vB r) []:=by
 refine zU G Tryz.func94 (yK [0,1] [] (y3 3 [2,3] [2,3] (zB ?_)))
 obtain ⟨j3,hj3,h⟩:=bindS h
 refine zT ⟨[(4,vB j3)],[]⟩ ?_ fun τ hτ=>?_
 replace h:=hj3
 refine zA 1 ?_
 obtain ⟨r4,hr4,h⟩:=bindS h
 refine evs_callP [] (by kernel_rfl) (W.geom_ValidRect_ok hr4) (by kernel_rfl) (.inl rfl) (by kernel_rfl) (zA 1 (zS r4 (fun b0=>⟨[(2,.ptr 2 0),(3,.ptr 3 0),(7,vB b0)],[(2,.box (c_Rect a)),(3,.box (c_Rect b))]⟩) (fun hb=>?_) fun hb=>?_))
 replace h:=iteT hb h
 refine zA 1 ?_
 obtain ⟨r5,hr5,h⟩:=bindS h
 refine evs_callP [] (by kernel_rfl) (W.geom_ValidRect_ok hr5) (by kernel_rfl) (.inl rfl) (by kernel_rfl) (zA 2 (zS r5 (fun b0=>⟨[(2,.ptr 2 0),(3,.ptr 3 0),(11,vB b0)],[(2,.box (c_Rect a)),(3,.box (c_Rect b))]⟩) (fun hb=>?_) fun hb=>?_))
 replace h:=iteT hb h
 refine zA 10 (zS (decide (a.X < (iadd b.X b.W))) (fun b0=>⟨[(2,.ptr 2 0),(3,.ptr 3 0),(21,vB b0)],[(2,.box (c_Rect a)),(3,.box (c_Rect b))]⟩) (fun hb=>?_) fun hb=>?_)
 replace h:=iteT hb h
 refine zA 10 (zS (decide (b.X < (iadd a.X a.W))) (fun b0=>⟨[(2,.ptr 2 0),(3,.ptr 3 0),(31,vB b0)],[(2,.box (c_Rect a)),(3,.box (c_Rect b))]⟩) (fun hb=>?_) fun hb=>?_)
 replace h:=iteT hb h
 refine zA 10 (zS (decide (a.Y < (iadd b.Y b.H))) (fun b0=>⟨[(2,.ptr 2 0),(3,.ptr 3 0),(41,vB b0)],[(2,.box (c_Rect a)),(3,.box (c_Rect b))]⟩) (fun hb=>?_) fun hb=>?_)
 replace h:=iteT hb h
 refine z6 10 fun τ hτ=>?_
 obtain rfl:=osi h
 exact zG hτ
 replace h:=iteF hb h
 refine z6 10 fun τ hτ=>?_
 obtain rfl:=osi h
 exact zG hτ
 replace h:=iteF hb h
 refine z6 20 fun τ hτ=>?_
 obtain rfl:=osi h
 exact zG hτ
 replace h:=iteF hb h
 refine z6 30 fun τ hτ=>?_
 obtain rfl:=osi h
 exact zG hτ
 replace h:=iteF hb h
 refine z6 40 fun τ hτ=>?_
 obtain rfl:=osi h
 exact zG hτ
 replace h:=iteF hb h
 refine z6 44 fun τ hτ=>?_
 obtain rfl:=osi h
 exact zG hτ
 refine yE hτ [4] [] (zN fun τ hτ=>?_)
 obtain rfl:=osi h
 exact zV hτ [(4,vB j3)]
theorem W.nest_touch_ok {a : Rect} {b : Rect} {r : Bool} (h : nest_touch a b=some r) : PC G.P 175 [(.agg (c_Rect a)),(.agg (c_Rect b))] [] (vB r) []:=by
 refine zU G Tryz.func175 (yK [0,1] [] (y3 3 [2,3] [2,3] (y3 18 [2,3,5] [2,3] (y3 18 [5,6] [] (zB ?_)))))
 obtain ⟨j1,hj1,h⟩:=bindS h
 refine zT ⟨[(4,vB j1)],[]⟩ ?_ fun τ hτ=>?_
 replace h:=hj1
 refine zA 3 (zS ((isub (imin (iadd a.X a.W) (iadd b.X b.W)) (imax a.X b.X))==0) (fun b0=>⟨[(5,vI (isub (imin (iadd a.X a.W) (iadd b.X b.W)) (imax a.X b.X))),(6,vI (isub (imin (iadd a.Y a.H) (iadd b.Y b.H)) (imax a.Y b.Y))),(43,vB b0)],[]⟩) (fun hb=>?_) fun hb=>?_)
 replace h:=iteT hb h
 refine zA 4 (zS (decide ((isub (imin (iadd a.Y a.H) (iadd b.Y b.H)) (imax a.Y b.Y)) > 0)) (fun b0=>⟨[(5,vI (isub (imin (iadd a.X a.W) (iadd b.X b.W)) (imax a.X b.X))),(6,vI (isub (imin (iadd a.Y a.H) (iadd b.Y b.H)) (imax a.Y b.Y))),(47,vB b0)],[]⟩) (fun hb=>?_) fun hb=>?_)
 replace h:=iteT hb h
 refine z6 8 fun τ hτ=>?_
 obtain rfl:=osi h
 exact zG hτ
 replace h:=iteF hb h
 refine zA 3 (zS ((isub (imin (iadd a.Y a.H) (iadd b.Y b.H)) (imax a.Y b.Y))==0) (fun b0=>⟨[(5,vI (isub (imin (iadd a.X a.W) (iadd b.X b.W)) (imax a.X b.X))),(47,vB false),(50,vB b0)],[]⟩) (fun hb=>?_) fun hb=>?_)
 replace h:=iteT hb h
 refine z6 5 fun τ hτ=>?_
 obtain rfl:=osi h
 exact zG hτ
 replace h:=iteF hb h
 refine z6 5 fun τ hτ=>?_
 obtain rfl:=osi h
 exact zG hτ
 replace h:=iteF hb h
 refine zA 7 (zS ((isub (imin (iadd a.Y a.H) (iadd b.Y b.H)) (imax a.Y b.Y))==0) (fun b0=>⟨[(5,vI (isub (imin (iadd a.X a.W) (iadd b.X b.W)) (imax a.X b.X))),(47,vB false),(50,vB b0)],[]⟩) (fun hb=>?_) fun hb=>?_)
 replace h:=iteT hb h
 refine z6 5 fun τ hτ=>?_
 obtain rfl:=osi h
 exact zG hτ
 replace h:=iteF hb h
 refine z6 5 fun τ hτ=>?_
 obtain rfl:=osi h
 exact zG hτ
 refine yE hτ [4] [] (zN fun τ hτ=>?_)
 obtain rfl:=osi h
 exact zV hτ [(4,vB j1)]
theorem W.nest_connected_ok {l : (List Rect)} {r : Bool} (h : nest_connected l=some r) : PC G.P 145 [(.sl (List.map c_Rect l))] [] (vB r) []:=by
 refine zU G Tryz.func145 (yK [0] [] (y3 1 [0] [] (z7 (zA 1 (evs_op (st_len (c:=c_Rect) (l:=l) (x:=(s_Rect l)) (by kernel_rfl) (by kernel_rfl)) ?_)))))
 obtain ⟨l2,hl2,h⟩:=bindS h
 refine evs_op (st_mk (c:=cB) (z:=false) (n:=(l.length : Int)) (e:=4) (d:=11) (zs:=[(vB false)]) (k1:=.i64) (k2:=.i64) (by kernel_rfl) rfl hl2) (y1 1 [0,3] [11] (z7 (zA 1 ?_)))
 obtain ⟨x4,hx4,h⟩:=bindS h
 refine evs_op (st_idxO (c:=cB) (l:=l2) (i:=0) (kd:=.i64) (kk:=(.top 11)) (e:=4) (sz:=1) (by kernel_rfl) (by kernel_rfl) hx4 rfl) (evs_op (st_stO (c:=cB) (l:=l2) (i:=(Int.toNat 0)) (x:=x4) (x':=true) (v:=(vB true)) (agg:=false) (sz:=1) (kk:=(.top 11)) (e:=4) (off:=0) (J:=[]) (o:=wB 4 (List.set l2 (Int.toNat 0) true)) (by kernel_rfl) (by kernel_rfl) (by kernel_rfl) ((idxS hx4).2) (by kernel_rfl) (by kernel_rfl) (by kernel_rfl)) (zP fun τ hτ=>?_))
 refine yE hτ [0,3] [11] (z7 (evs_at (at_build (e:=3) (d:=14) (es:=(List.map cI [0])) (by kernel_rfl)) (evs_toTl (g:=14) (e:=3) (l:=[0]) (by kernel_rfl) (by kernel_rfl) (by kernel_rfl) (y1 1 [0,3,4] [11,14] (zB (zC ?_))))))
 obtain ⟨x670,hx670,h⟩:=bindS h
 refine sem_loopS (fun (s449 : (List Bool)×(List Int))=>⟨[(0,s_Rect l),(3,ro 500000 4),(4,ro 500001 3)],[(500000,wB 4 s449.1),(500001,.tl 3 s449.2)]⟩) (fun (x670 : (List Bool))=>(.exit 0,⟨[(3,ro 500000 4)],[(500000,wB 4 x670)]⟩)) (nest_connected_l3 l) ((List.set l2 (Int.toNat 0) true),[0]) x670 (by kernel_rfl) (subR_prep [] [(11,500000),(14,500001)] (by kernel_rfl) rfl rfl (by kernel_rfl)) hx670 ?_ ?_ ?_
 intro s449 r h
 refine zB (z7 (zA 1 (evs_at (at_lenT (g:=500001) (e:=3) (l:=s449.2) (by kernel_rfl) (by kernel_rfl)) (y1 1 [0,3,4,17] [500000,500001] (zI (decide ((s449.2.length : Int) > 0)) (fun hb=>?_) fun hb=>?_)))))
 replace h:=iteT hb h
 refine y4 [0,3,4] [500000,500001] (zC (z7 (zA 1 ?_)))
 obtain ⟨x561,hx561,h⟩:=bindS h
 refine evs_getT (g:=500001) (e:=3) (d1:=19) (d2:=20) (l:=s449.2) (i:=0) (kd:=.i64) (by kernel_rfl) (by kernel_rfl) (by kernel_rfl) hx561 (y1 1 [0,3,4,5] [500000,500001] (z7 (zA 1 ?_)))
 obtain ⟨hb1,h⟩:=iteN h
 refine evs_at (at_dropT (g:=500001) (e:=3) (n:=1) (kd:=.i64) (l:=s449.2) (by kernel_rfl) (by kernel_rfl) (by kernel_rfl) hb1) (y1 1 [0,3,4,5] [500000,500001] (z7 (zA 1 (evs_op (st_len (c:=c_Rect) (l:=l) (x:=(s_Rect l)) (by kernel_rfl) (by kernel_rfl)) (y1 1 [0,3,4,5,24,25] [500000,500001] (zC ?_))))))
 obtain ⟨x669,hx669,h⟩:=bindS h
 refine sem_loopS (fun (s598 : Int×(List Bool)×(List Int))=>⟨[(0,s_Rect l),(3,ro 500000 4),(4,ro 500001 3),(5,vI x561),(24,vI (l.length : Int)),(25,vI s598.1)],[(500000,wB 4 s598.2.1),(500001,.tl 3 s598.2.2)]⟩) (fun (x669 : (List Bool)×(List Int))=>(.exit 2,⟨[(0,s_Rect l),(3,ro 500000 4),(4,ro 500001 3)],[(500000,wB 4 x669.1),(500001,.tl 3 x669.2)]⟩)) (nest_connected_l2 l x561) (0,s449.1,(List.drop 1 s449.2)) x669 (by kernel_rfl) (here (by kernel_rfl)) hx669 ?_ ?_ ?_
 intro s598 r h
 refine y3 1 [0,3,4,5,24,25,26] [500000,500001] (zB (zI (decide (s598.1 < (l.length : Int))) (fun hb=>?_) fun hb=>?_))
 replace h:=iteT hb h
 refine y4 [0,3,4,5,24,25] [500000,500001] (sem_seqJ (fun (j651 : (List Bool)×(List Int))=>⟨[(0,s_Rect l),(3,ro 500000 4),(4,ro 500001 3),(5,vI x561),(24,vI (l.length : Int)),(25,vI s598.1)],[(500000,wB 4 j651.1),(500001,.tl 3 j651.2)]⟩) (nest_connected_k1 s598) r (by kernel_rfl) (fun j651 h=>?_) ?_)
 refine zD (z6 2 fun τ hτ=>?_)
 obtain rfl:=osi h
 exact zH hτ
 refine zC (y3 2 [0,3,4,5,6,24,25] [500000,500001] (zB ?_))
 obtain ⟨j660,hj660,h⟩:=bindS h
 refine sem_drawP ⟨[(0,s_Rect l),(3,ro 500000 4),(4,ro 500001 3),(5,vI x561),(6,vI s598.1),(24,vI (l.length : Int)),(25,vI s598.1),(43,vB j660)],[(500000,wB 4 s598.2.1),(500001,.tl 3 s598.2.2)]⟩ [] [] [] [] [] 14 (by kernel_rfl) (by kernel_rfl) (by kernel_rfl) ?_ fun τ hτ=>?_
 replace h:=hj660
 refine evd_run 2 (by kernel_rfl) ?_
 obtain ⟨x661,hx661,h⟩:=bindS h
 refine evd_val (by kernel_rfl) (st_idxO (c:=cB) (l:=s598.2.1) (i:=s598.1) (kd:=.i64) (kk:=(.top 500000)) (e:=4) (sz:=1) (by kernel_rfl) (by kernel_rfl) hx661 rfl) (by kernel_rfl) (by kernel_rfl) (evd_val (by kernel_rfl) (st_ldO (c:=cB) (l:=s598.2.1) (i:=(Int.toNat s598.1)) (v:=(vB x661)) (agg:=false) (sz:=1) (kk:=(.top 500000)) (e:=4) (off:=0) (J:=[]) (by kernel_rfl) (by kernel_rfl) (by kernel_rfl) ((idxS hx661).2) (by kernel_rfl)) (by kernel_rfl) (by kernel_rfl) (evd_run 2 (by kernel_rfl) (evd_split x661 (fun b0=>⟨[(33,vB (!b0)),(32,vB (!b0)),(31,vB b0),(30,.rptr (.top 500000) 4 (Int.toNat s598.1) 0),(29,vI s598.1),(28,ro 500000 4),(0,s_Rect l),(3,ro 500000 4),(4,ro 500001 3),(5,vI x561),(6,vI s598.1),(24,vI (l.length : Int)),(25,vI s598.1)],[(500000,wB 4 s598.2.1),(500001,.tl 3 s598.2.2)]⟩) (by kernel_rfl) (fun hb=>?_) fun hb=>?_)))
 replace h:=iteT hb h
 refine evd_run 8 (by kernel_rfl) (evd_end (by kernel_rfl) (evo_run 2 (by kernel_rfl) (zO fun τ hτ=>?_)))
 obtain rfl:=osi h
 exact zG hτ
 replace h:=iteF hb h
 refine evd_run 2 (by kernel_rfl) ?_
 obtain ⟨x662,hx662,h⟩:=bindS h
 refine evd_val (by kernel_rfl) (st_idx (c:=c_Rect) (l:=l) (i:=x561) (kd:=.i64) (sz:=4) (by kernel_rfl) hx662 rfl) (by kernel_rfl) (by kernel_rfl) (evd_run 3 (by kernel_rfl) ?_)
 obtain ⟨x663,hx663,h⟩:=bindS h
 refine evd_val (by kernel_rfl) (st_idx (c:=c_Rect) (l:=l) (i:=s598.1) (kd:=.i64) (sz:=4) (by kernel_rfl) hx663 rfl) (by kernel_rfl) (by kernel_rfl) (evd_run 1 (by kernel_rfl) (evd_end (by kernel_rfl) ?_))
 obtain ⟨r664,hr664,h⟩:=bindS h
 refine evo_callP [] (by kernel_rfl) (W.nest_touch_ok hr664) (by kernel_rfl) (.inl rfl) (by kernel_rfl) (evo_run 1 (by kernel_rfl) (zO fun τ hτ=>?_))
 obtain rfl:=osi h
 exact zG hτ
 refine yE hτ [0,3,4,5,6,24,25,43] [500000,500001] (zI j660 (fun hb=>?_) fun hb=>?_)
 replace h:=iteT hb h
 refine z7 (zA 2 ?_)
 obtain ⟨x666,hx666,h⟩:=bindS h
 refine evs_op (st_idxO (c:=cB) (l:=s598.2.1) (i:=s598.1) (kd:=.i64) (kk:=(.top 500000)) (e:=4) (sz:=1) (by kernel_rfl) (by kernel_rfl) hx666 rfl) (evs_op (st_stO (c:=cB) (l:=s598.2.1) (i:=(Int.toNat s598.1)) (x:=x666) (x':=true) (v:=(vB true)) (agg:=false) (sz:=1) (kk:=(.top 500000)) (e:=4) (off:=0) (J:=[]) (o:=wB 4 (List.set s598.2.1 (Int.toNat s598.1) true)) (by kernel_rfl) (by kernel_rfl) (by kernel_rfl) ((idxS hx666).2) (by kernel_rfl) (by kernel_rfl) (by kernel_rfl)) (zP fun τ hτ=>?_))
 refine yE hτ [0,3,4,5,6,24,25] [500000,500001] (zD (zA 3 ?_))
 obtain ⟨l668,hl668,h⟩:=bindS h
 refine evs_at (at_appT (g:=500001) (e:=3) (l:=s598.2.2) (y:=s598.1) (x:=(sI [s598.1])) (by kernel_rfl) (by kernel_rfl) (by kernel_rfl) (by kernel_rfl) (by kernel_rfl) hl668) (z6 1 fun τ hτ=>?_)
 exact bl_normal (jk_normal ((List.set s598.2.1 (Int.toNat s598.1) true),l668) h hτ (here (by kernel_rfl)))
 replace h:=iteF hb h
 refine zM fun τ hτ=>?_
 exact bl_normal (jk_normal (s598.2.1,s598.2.2) h hτ (here (by kernel_rfl)))
 replace h:=iteF hb h
 refine zL 2 fun τ hτ=>?_
 refine th_exit ?_
 obtain rfl:=osi h
 exact zF hτ
 intro x
 rfl
 intro τ hτ
 refine zQ (bl_normal ?_)
 obtain rfl:=osi h
 exact zH hτ
 replace h:=iteF hb h
 refine zL 0 fun τ hτ=>?_
 refine th_exit ?_
 obtain rfl:=osi h
 exact zF hτ
 intro x
 rfl
 intro τ hτ
 refine zQ (yE hτ [3] [500000] (zB (z7 (zA 1 (evs_op (st_len (c:=cB) (l:=x670) (x:=(ro 500000 4)) (by kernel_rfl) (by kernel_rfl)) (y1 1 [52,53,54] [500000] ?_))))))
 refine zC ?_
 obtain ⟨x702,hx702,h⟩:=bindS h
 refine sem_loopS (fun (s693 : Int)=>⟨[(52,ro 500000 4),(53,vI (x670.length : Int)),(54,vI s693)],[(500000,wB 4 x670)]⟩) (fun (x702 : Unit ⊕ Unit)=>match x702 with | .inl j703=>(.ret,⟨[(2,vB false)],[]⟩) | .inr j704=>(.exit 4,⟨[],[]⟩)) (nest_connected_l4 x670) 0 x702 (by kernel_rfl) (here (by kernel_rfl)) hx702 ?_ ?_ ?_
 intro s693 r h
 refine y3 1 [52,53,54,55] [500000] (zB (zI (decide (s693 < (x670.length : Int))) (fun hb=>?_) fun hb=>?_))
 replace h:=iteT hb h
 refine y4 [52,53,54] [500000] (zB (zC (z7 ?_)))
 obtain ⟨x701,hx701,h⟩:=bindS h
 refine evs_op (st_idxO (c:=cB) (l:=x670) (i:=s693) (kd:=.i64) (kk:=(.top 500000)) (e:=4) (sz:=1) (by kernel_rfl) (by kernel_rfl) hx701 rfl) (evs_op (st_ldO (c:=cB) (l:=x670) (i:=(Int.toNat s693)) (v:=(vB x701)) (agg:=false) (sz:=1) (kk:=(.top 500000)) (e:=4) (off:=0) (J:=[]) (by kernel_rfl) (by kernel_rfl) (by kernel_rfl) ((idxS hx701).2) (by kernel_rfl)) (y1 1 [8,52,53,54] [500000] (y3 2 [52,53,54,59] [500000] (zI (!x701) (fun hb=>?_) fun hb=>?_))))
 replace h:=iteT hb h
 refine z8 1 ⟨[(2,vB false)],[]⟩ fun τ hτ=>?_
 refine bl_ret (th_ret ?_)
 obtain rfl:=osi h
 exact zF hτ
 replace h:=iteF hb h
 refine zM fun τ hτ=>?_
 refine bl_normal (yE hτ [52,53,54] [500000] (zD (z6 2 fun τ hτ=>?_)))
 obtain rfl:=osi h
 exact zH hτ
 replace h:=iteF hb h
 refine zL 4 fun τ hτ=>?_
 refine th_exit ?_
 obtain rfl:=osi h
 exact zF hτ
 intro x
 rcases x with _ | _ <;> rfl
 intro τ hτ
 rcases x702 with j703 | j704
 refine bl_ret (th_ret ?_)
 obtain rfl:=osi h
 exact zV hτ [(2,vB false)]
 refine zQ (yE hτ [] [] (z8 1 ⟨[(2,vB true)],[]⟩ fun τ hτ=>?_))
 obtain rfl:=osi h
 exact zV hτ [(2,vB true)]
theorem W.nest_strictly_ok {h0 : Rect} {l : (List Rect)} {r : Bool} (h : nest_strictly h0 l=some r) : PC G.P 176 [(.agg (c_Rect h0)),(.sl (List.map c_Rect l))] [] (vB r) []:=by
 refine zU G Tryz.func176 (yK [0,1] [] (y3 2 [1,2] [2] (zB (z7 (zA 1 (evs_op (st_len (c:=c_Rect) (l:=l) (x:=(s_Rect l)) (by kernel_rfl) (by kernel_rfl)) ?_))))))
 refine y1 1 [2,7,8,9] [2] (zC ?_)
 obtain ⟨x44,hx44,h⟩:=bindS h
 refine sem_loopS (fun (s31 : Int)=>⟨[(2,.ptr 500000 0),(7,s_Rect l),(8,vI (l.length : Int)),(9,vI s31)],[(500000,.box (c_Rect h0))]⟩) (fun (x44 : Unit ⊕ Unit)=>match x44 with | .inl j45=>(.ret,⟨[(4,vB true)],[]⟩) | .inr j46=>(.exit 0,⟨[],[]⟩)) (nest_strictly_l1 h0 l) 0 x44 (by kernel_rfl) (subR_prep [] [(2,500000)] (by kernel_rfl) rfl rfl (by kernel_rfl)) hx44 ?_ ?_ ?_
 intro s31 r h
 refine y3 1 [2,7,8,9,10] [500000] (zB (zI (decide (s31 < (l.length : Int))) (fun hb=>?_) fun hb=>?_))
 replace h:=iteT hb h
 refine y4 [2,7,8,9] [500000] (zB (zC (z7 ?_)))
 obtain ⟨x42,hx42,h⟩:=bindS h
 refine evs_op (st_idx (c:=c_Rect) (l:=l) (i:=s31) (kd:=.i64) (sz:=4) (by kernel_rfl) hx42 rfl) (y1 3 [2,6,7,8,9] [6,500000] (zB ?_))
 obtain ⟨j43,hj43,h⟩:=bindS h
 refine zT ⟨[(2,.ptr 500000 0),(7,s_Rect l),(8,vI (l.length : Int)),(9,vI s31),(50,vB j43)],[(500000,.box (c_Rect h0))]⟩ ?_ fun τ hτ=>?_
 replace h:=hj43
 refine zA 6 (zS (decide (h0.X > x42.X)) (fun b0=>⟨[(2,.ptr 500000 0),(6,.ptr 6 0),(7,s_Rect l),(8,vI (l.length : Int)),(9,vI s31),(18,vB b0)],[(6,.box (c_Rect x42)),(500000,.box (c_Rect h0))]⟩) (fun hb=>?_) fun hb=>?_)
 replace h:=iteT hb h
 refine zA 7 (zS (decide (h0.Y > x42.Y)) (fun b0=>⟨[(2,.ptr 500000 0),(6,.ptr 6 0),(7,s_Rect l),(8,vI (l.length : Int)),(9,vI s31),(25,vB b0)],[(6,.box (c_Rect x42)),(500000,.box (c_Rect h0))]⟩) (fun hb=>?_) fun hb=>?_)
 replace h:=iteT hb h
 refine zA 13 (zS (decide ((iadd h0.X h0.W) < (iadd x42.X x42.W))) (fun b0=>⟨[(2,.ptr 500000 0),(6,.ptr 6 0),(7,s_Rect l),(8,vI (l.length : Int)),(9,vI s31),(38,vB b0)],[(6,.box (c_Rect x42)),(500000,.box (c_Rect h0))]⟩) (fun hb=>?_) fun hb=>?_)
 replace h:=iteT hb h
 refine z6 12 fun τ hτ=>?_
 obtain rfl:=osi h
 exact zG hτ
 replace h:=iteF hb h
 refine z6 12 fun τ hτ=>?_
 obtain rfl:=osi h
 exact zG hτ
 replace h:=iteF hb h
 refine z6 25 fun τ hτ=>?_
 obtain rfl:=osi h
 exact zG hτ
 replace h:=iteF hb h
 refine z6 32 fun τ hτ=>?_
 obtain rfl:=osi h
 exact zG hτ
 refine yE hτ [2,7,8,9,50] [500000] (zI j43 (fun hb=>?_) fun hb=>?_)
 replace h:=iteT hb h
 refine z8 1 ⟨[(4,vB true)],[]⟩ fun τ hτ=>?_
 refine bl_ret (th_ret ?_)
 obtain rfl:=osi h
 exact zF hτ
 replace h:=iteF hb h
 refine zM fun τ hτ=>?_
 refine bl_normal (yE hτ [2,7,8,9] [500000] (zD (z6 2 fun τ hτ=>?_)))
 obtain rfl:=osi h
 exact zH hτ
 replace h:=iteF hb h
 refine zL 0 fun τ hτ=>?_
 refine th_exit ?_
 obtain rfl:=osi h
 exact zF hτ
 intro x
 rcases x with _ | _ <;> rfl
 intro τ hτ
 rcases x44 with j45 | j46
 refine bl_ret (th_ret ?_)
 obtain rfl:=osi h
 exact zV hτ [(4,vB true)]
 refine zQ (yE hτ [] [] (z8 1 ⟨[(4,vB false)],[]⟩ fun τ hτ=>?_))
 obtain rfl:=osi h
 exact zV hτ [(4,vB false)]
theorem W.geom_Distance_ok {a : Rect} {b : Rect} {r : Int} (h : geom_Distance a b=some r) : PC G.P 167 [(.agg (c_Rect a)),(.agg (c_Rect b))] [] (vI r) []:=by
 refine zU G Tryz.func167 (yK [0,1] [] (y3 3 [2,3] [2,3] (zB (zB ?_))))
 obtain ⟨j8,hj8,h⟩:=bindS h
 refine zT ⟨[(2,.ptr 500000 0),(3,.ptr 500001 0),(13,vB j8)],[(500000,.box (c_Rect a)),(500001,.box (c_Rect b))]⟩ ?_ fun τ hτ=>?_
 replace h:=hj8
 refine zA 1 ?_
 obtain ⟨r9,hr9,h⟩:=bindS h
 refine evs_callP [] (by kernel_rfl) (W.geom_ValidRect_ok hr9) (by kernel_rfl) (.inl rfl) (by kernel_rfl) (zA 2 (zS r9 (fun b0=>⟨[(2,.ptr 2 0),(3,.ptr 3 0),(9,vB (!b0))],[(2,.box (c_Rect a)),(3,.box (c_Rect b))]⟩) (fun hb=>?_) fun hb=>?_))
 replace h:=iteT hb h
 refine zA 1 ?_
 obtain ⟨r10,hr10,h⟩:=bindS h
 refine evs_callP [] (by kernel_rfl) (W.geom_ValidRect_ok hr10) (by kernel_rfl) (.inl rfl) (by kernel_rfl) (z6 2 fun τ hτ=>?_)
 obtain rfl:=osi h
 exact leafC hτ (subR_prep [] [(2,500000),(3,500001)] (by kernel_rfl) rfl rfl (by kernel_rfl))
 replace h:=iteF hb h
 refine z6 4 fun τ hτ=>?_
 obtain rfl:=osi h
 exact leafC hτ (subR_prep [] [(2,500000),(3,500001)] (by kernel_rfl) rfl rfl (by kernel_rfl))
 refine yE hτ [2,3,13] [500000,500001] (zI j8 (fun hb=>?_) fun hb=>?_)
 replace h:=iteT hb h
 refine z8 1 ⟨[(4,vI 0)],[]⟩ fun τ hτ=>?_
 refine th_ret ?_
 obtain rfl:=osi h
 exact zV hτ [(4,vI 0)]
 replace h:=iteF hb h
 refine y4 [2,3] [500000,500001] (y3 18 [2,3,5] [500000,500001] (z8 19 ⟨[(4,vI (imax (imax (imax (imax 0 (isub (isub b.X a.X) a.W)) (isub (isub a.X b.X) b.W)) (isub (isub b.Y a.Y) a.H)) (isub (isub a.Y b.Y) b.H)))],[]⟩ fun τ hτ=>?_))
 obtain rfl:=osi h
 exact zV hτ [(4,vI (imax (imax (imax (imax 0 (isub (isub b.X a.X) a.W)) (isub (isub a.X b.X) b.W)) (isub (isub b.Y a.Y) a.H)) (isub (isub a.Y b.Y) b.H)))]
theorem W.nest_inside_ok {x0 : Piece} {r : Int} (h : nest_inside x0=some r) : PC G.P 146 [(.agg (c_Piece x0))] [] (vI r) []:=by
 refine zU G Tryz.func146 (yK [0] [] (y3 2 [1] [1] (zB (sem_draw [(2,[12])] [(2,[12])] [] [(3,[12]),(4,[12])] [(0,[12]),(1,[12]),(3,[12]),(4,[12])] 5 (by kernel_rfl) (by kernel_rfl) [12] (by kernel_rfl) (by kernel_rfl) (evd_run 2 (by kernel_rfl) ?_)))))
 obtain ⟨l5,hl5,h⟩:=bindS h
 refine evd_new (by kernel_rfl) (st_appN (c:=c_Rect) (l2:=x0.Cuts) (x:=(s_Rect x0.Cuts)) (e:=98) (sz:=4) (d:=12) (by kernel_rfl) (by kernel_rfl) (by kernel_rfl) (fun _=>rfl) hl5) (by kernel_rfl) (by kernel_rfl) (by kernel_rfl) (by kernel_rfl) (evd_run 2 (by kernel_rfl) (evd_end (by kernel_rfl) ?_))
 obtain ⟨l6,hl6,h⟩:=bindS h
 refine evo_op (st_app (c:=c_Rect) (l:=l5) (l2:=x0.Forms) (x:=(s_Rect x0.Forms)) (g:=12) (e:=98) (sz:=4) (d:=15) (by kernel_rfl) (by kernel_rfl) (by kernel_rfl) (by kernel_rfl) (fun _=>rfl) rfl hl6) (evo_run 1 (by kernel_rfl) (zO fun τ hτ=>?_))
 refine yE hτ [1,3] [1,12] (zB (z7 (zA 1 (evs_op (st_len (c:=c_Rect) (l:=l6) (x:=(ro 12 98)) (by kernel_rfl) (by kernel_rfl)) (y1 1 [1,3,16,17,18] [1,12] (zC ?_))))))
 obtain ⟨x98,hx98,h⟩:=bindS h
 refine sem_loopS (fun (s69 : Int)=>⟨[(1,.ptr 500000 0),(3,ro 500001 98),(16,ro 500001 98),(17,vI (l6.length : Int)),(18,vI s69)],[(500000,.box (c_Piece x0)),(500001,w_Rect 98 l6)]⟩) (fun (x98 : Unit ⊕ Unit)=>match x98 with | .inl j99=>(.ret,⟨[(2,vI 13)],[]⟩) | .inr j100=>(.exit 0,⟨[(3,ro 500000 98)],[(500000,w_Rect 98 l6)]⟩)) (nest_inside_l1 x0 l6) 0 x98 (by kernel_rfl) (subR_prep [] [(1,500000),(12,500001)] (by kernel_rfl) rfl rfl (by kernel_rfl)) hx98 ?_ ?_ ?_
 intro s69 r h
 refine y3 1 [1,3,16,17,18,19] [500000,500001] (zB (zI (decide (s69 < (l6.length : Int))) (fun hb=>?_) fun hb=>?_))
 replace h:=iteT hb h
 refine y4 [1,3,16,17,18] [500000,500001] (zB (zC (z7 (zA 1 ?_))))
 obtain ⟨x92,hx92,h⟩:=bindS h
 refine evs_op (st_idxO (c:=c_Rect) (l:=l6) (i:=s69) (kd:=.i64) (kk:=(.top 500001)) (e:=98) (sz:=4) (by kernel_rfl) (by kernel_rfl) hx92 rfl) (evs_op (st_ldO (c:=c_Rect) (l:=l6) (i:=(Int.toNat s69)) (v:=(.agg (c_Rect x92))) (agg:=true) (sz:=4) (kk:=(.top 500001)) (e:=98) (off:=0) (J:=[]) (by kernel_rfl) (by kernel_rfl) (by kernel_rfl) ((idxS hx92).2) (by kernel_rfl)) (y1 3 [1,3,4,5,16,17,18] [5,500000,500001] (zB ?_)))
 obtain ⟨j95,hj95,h⟩:=bindS h
 refine zT ⟨[(1,.ptr 500000 0),(3,ro 500001 98),(16,ro 500001 98),(17,vI (l6.length : Int)),(18,vI s69),(44,vB j95)],[(500000,.box (c_Piece x0)),(500001,w_Rect 98 l6)]⟩ ?_ fun τ hτ=>?_
 replace h:=hj95
 refine zA 3 (evs_op (st_len (c:=c_Rect) (l:=x0.Cuts) (x:=(s_Rect x0.Cuts)) (by kernel_rfl) (by kernel_rfl)) (zA 2 (zS (decide (s69 < (x0.Cuts.length : Int))) (fun b0=>⟨[(1,.ptr 500000 0),(3,ro 500001 98),(5,.ptr 5 0),(16,ro 500001 98),(17,vI (l6.length : Int)),(18,vI s69),(28,vB b0)],[(5,.box (c_Rect x92)),(500000,.box (c_Piece x0)),(500001,w_Rect 98 l6)]⟩) (fun hb=>?_) fun hb=>?_)))
 replace h:=iteT hb h
 refine zA 4 (zS (x92.W==1) (fun b0=>⟨[(1,.ptr 500000 0),(3,ro 500001 98),(5,.ptr 5 0),(16,ro 500001 98),(17,vI (l6.length : Int)),(18,vI s69),(28,vB true),(32,vB b0)],[(5,.box (c_Rect x92)),(500000,.box (c_Piece x0)),(500001,w_Rect 98 l6)]⟩) (fun hb=>?_) fun hb=>?_)
 replace h:=iteT hb h
 refine z6 12 fun τ hτ=>?_
 obtain rfl:=osi h
 exact zG hτ
 replace h:=iteF hb h
 refine zA 6 (zS (x92.H==1) (fun b0=>⟨[(1,.ptr 500000 0),(3,ro 500001 98),(5,.ptr 5 0),(16,ro 500001 98),(17,vI (l6.length : Int)),(18,vI s69),(38,vB b0)],[(5,.box (c_Rect x92)),(500000,.box (c_Piece x0)),(500001,w_Rect 98 l6)]⟩) (fun hb=>?_) fun hb=>?_)
 replace h:=iteT hb h
 refine z6 6 fun τ hτ=>?_
 obtain rfl:=osi h
 exact zG hτ
 replace h:=iteF hb h
 refine zA 3 ?_
 obtain ⟨r96,hr96,h⟩:=bindS h
 refine evs_callP [] (by kernel_rfl) (W.nest_strictly_ok hr96) (by kernel_rfl) (.inl rfl) (by kernel_rfl) (z6 2 fun τ hτ=>?_)
 obtain rfl:=osi h
 exact zG hτ
 replace h:=iteF hb h
 refine zA 13 ?_
 obtain ⟨r97,hr97,h⟩:=bindS h
 refine evs_callP [] (by kernel_rfl) (W.nest_strictly_ok hr97) (by kernel_rfl) (.inl rfl) (by kernel_rfl) (z6 2 fun τ hτ=>?_)
 obtain rfl:=osi h
 exact zG hτ
 refine yE hτ [1,3,16,17,18,44] [500000,500001] (zI j95 (fun hb=>?_) fun hb=>?_)
 replace h:=iteT hb h
 refine z8 1 ⟨[(2,vI 13)],[]⟩ fun τ hτ=>?_
 refine bl_ret (th_ret ?_)
 obtain rfl:=osi h
 exact zF hτ
 replace h:=iteF hb h
 refine zM fun τ hτ=>?_
 refine bl_normal (yE hτ [1,3,16,17,18] [500000,500001] (zD (z6 2 fun τ hτ=>?_)))
 obtain rfl:=osi h
 exact zH hτ
 replace h:=iteF hb h
 refine zL 0 fun τ hτ=>?_
 refine th_exit ?_
 obtain rfl:=osi h
 exact lk_outS hτ rfl (subR_prep [] [(500001,500000)] (by kernel_rfl) rfl rfl (by kernel_rfl))
 intro x
 rcases x with _ | _ <;> rfl
 intro τ hτ
 rcases x98 with j99 | j100
 refine bl_ret (th_ret ?_)
 obtain rfl:=osi h
 exact zV hτ [(2,vI 13)]
 refine zQ (yE hτ [3] [500000] (zB (z7 (zA 1 (evs_op (st_len (c:=c_Rect) (l:=l6) (x:=(ro 500000 98)) (by kernel_rfl) (by kernel_rfl)) (y1 1 [3,46,47,48] [500000] ?_))))))
 refine zC ?_
 obtain ⟨x504,hx504,h⟩:=bindS h
 refine sem_loopS (fun (s371 : Int)=>⟨[(3,s_Rect l6),(46,s_Rect l6),(47,vI (l6.length : Int)),(48,vI s371)],[]⟩) (fun (x504 : Unit ⊕ Unit)=>match x504 with | .inl j505=>(.ret,⟨[(2,vI 7)],[]⟩) | .inr j506=>(.exit 2,⟨[],[]⟩)) (nest_inside_l3 l6) 0 x504 (by kernel_rfl) (subR_prep [.frz 500000] [] (by kernel_rfl) rfl rfl (by kernel_rfl)) hx504 ?_ ?_ ?_
 intro s371 r h
 refine y3 1 [3,46,47,48,49] [] (zB (zI (decide (s371 < (l6.length : Int))) (fun hb=>?_) fun hb=>?_))
 replace h:=iteT hb h
 refine y4 [3,46,47,48] [] (zB (zC (z7 (zA 1 ?_))))
 obtain ⟨x472,hx472,h⟩:=bindS h
 refine evs_op (st_idx (c:=c_Rect) (l:=l6) (i:=s371) (kd:=.i64) (sz:=4) (by kernel_rfl) hx472 rfl) (y1 4 [3,6,7,46,47,48] [7] (z7 (zA 2 ?_)))
 obtain ⟨l474,hl474,h⟩:=bindS h
 refine evs_op (st_slH (c:=c_Rect) (l:=l6) (sz:=4) (hi:=s371) (k2:=.i64) (by kernel_rfl) hl474) (evs_op (st_len (c:=c_Rect) (l:=l474) (x:=(s_Rect l474)) (by kernel_rfl) (by kernel_rfl)) (y1 1 [3,7,46,47,48,55,56,57] [7] (zC ?_)))
 obtain ⟨x501,hx501,h⟩:=bindS h
 refine sem_loopS (fun (s484 : Int)=>⟨[(3,s_Rect l6),(7,.ptr 500000 0),(46,s_Rect l6),(47,vI (l6.length : Int)),(48,vI s371),(55,s_Rect l474),(56,vI (l474.length : Int)),(57,vI s484)],[(500000,.box (c_Rect x472))]⟩) (fun (x501 : Unit ⊕ Unit)=>match x501 with | .inl j502=>(.ret,⟨[(2,vI 7)],[]⟩) | .inr j503=>(.exit 4,⟨[(3,s_Rect l6),(46,s_Rect l6),(47,vI (l6.length : Int)),(48,vI s371)],[]⟩)) (nest_inside_l2 x472 l474) 0 x501 (by kernel_rfl) (subR_prep [] [(7,500000)] (by kernel_rfl) rfl rfl (by kernel_rfl)) hx501 ?_ ?_ ?_
 intro s484 r h
 refine y3 1 [3,7,46,47,48,55,56,57,58] [500000] (zB (zI (decide (s484 < (l474.length : Int))) (fun hb=>?_) fun hb=>?_))
 replace h:=iteT hb h
 refine y4 [3,7,46,47,48,55,56,57] [500000] (zB (zC (z7 ?_)))
 obtain ⟨x498,hx498,h⟩:=bindS h
 refine evs_op (st_idx (c:=c_Rect) (l:=l474) (i:=s484) (kd:=.i64) (sz:=4) (by kernel_rfl) hx498 rfl) (y1 3 [3,7,9,46,47,48,55,56,57] [9,500000] (z7 (zA 2 ?_)))
 obtain ⟨r500,hr500,h⟩:=bindS h
 refine evs_callP [] (by kernel_rfl) (W.geom_Distance_ok hr500) (by kernel_rfl) (.inl rfl) (by kernel_rfl) (y1 1 [3,7,46,47,48,55,56,57,64] [500000] (zI (r500==0) (fun hb=>?_) fun hb=>?_))
 replace h:=iteT hb h
 refine z8 1 ⟨[(2,vI 7)],[]⟩ fun τ hτ=>?_
 refine bl_ret (th_ret ?_)
 obtain rfl:=osi h
 exact zF hτ
 replace h:=iteF hb h
 refine zM fun τ hτ=>?_
 refine bl_normal (yE hτ [3,7,46,47,48,55,56,57] [500000] (zD (z6 2 fun τ hτ=>?_)))
 obtain rfl:=osi h
 exact zH hτ
 replace h:=iteF hb h
 refine zL 4 fun τ hτ=>?_
 refine th_exit ?_
 obtain rfl:=osi h
 exact zF hτ
 intro x
 rcases x with _ | _ <;> rfl
 intro τ hτ
 rcases x501 with j502 | j503
 refine bl_ret (bl_ret (th_ret ?_))
 obtain rfl:=osi h
 exact zF hτ
 refine zQ (bl_normal (yE hτ [3,46,47,48] [] (zD (z6 2 fun τ hτ=>?_))))
 obtain rfl:=osi h
 exact zH hτ
 replace h:=iteF hb h
 refine zL 2 fun τ hτ=>?_
 refine th_exit ?_
 obtain rfl:=osi h
 exact zF hτ
 intro x
 rcases x with _ | _ <;> rfl
 intro τ hτ
 rcases x504 with j505 | j506
 refine bl_ret (th_ret ?_)
 obtain rfl:=osi h
 exact zV hτ [(2,vI 7)]
 refine zQ (yE hτ [] [] (z8 1 ⟨[(2,vI 0)],[]⟩ fun τ hτ=>?_))
 obtain rfl:=osi h
 exact zV hτ [(2,vI 0)]
theorem W.nest_ValidatePiece_ok {x0 : Piece} {r : Int} (h : nest_ValidatePiece x0=some r) : PC G.P 90 [(.agg (c_Piece x0))] [] (vI r) []:=by
 refine zU G Tryz.func90 (yK [0] [] (y3 2 [1] [1] (zB (zC (zB ?_)))))
 obtain ⟨j18,hj18,h⟩:=bindS h
 refine zT ⟨[(1,.ptr 500000 0),(11,vB j18)],[(500000,.box (c_Piece x0))]⟩ ?_ fun τ hτ=>?_
 replace h:=hj18
 refine zA 2 ?_
 obtain ⟨r19,hr19,h⟩:=bindS h
 refine evs_callP [] (by kernel_rfl) (W.part_ValidName_ok hr19) (by kernel_rfl) (.inl rfl) (by kernel_rfl) (zA 2 (zS r19 (fun b0=>⟨[(1,.ptr 1 0),(16,vB (!b0))],[(1,.box (c_Piece x0))]⟩) (fun hb=>?_) fun hb=>?_))
 replace h:=iteT hb h
 refine zA 2 ?_
 obtain ⟨r20,hr20,h⟩:=bindS h
 refine evs_callP [] (by kernel_rfl) (W.part_ValidName_ok hr20) (by kernel_rfl) (.inl rfl) (by kernel_rfl) (z6 3 fun τ hτ=>?_)
 obtain rfl:=osi h
 exact leafC hτ (subR_prep [] [(1,500000)] (by kernel_rfl) rfl rfl (by kernel_rfl))
 replace h:=iteF hb h
 refine z6 6 fun τ hτ=>?_
 obtain rfl:=osi h
 exact leafC hτ (subR_prep [] [(1,500000)] (by kernel_rfl) rfl rfl (by kernel_rfl))
 refine yE hτ [1,11] [500000] (zI j18 (fun hb=>?_) fun hb=>?_)
 replace h:=iteT hb h
 refine z8 1 ⟨[(2,vI 2)],[]⟩ fun τ hτ=>?_
 refine bl_ret (th_ret ?_)
 obtain rfl:=osi h
 exact zV hτ [(2,vI 2)]
 replace h:=iteF hb h
 refine z7 (zA 4 ?_)
 obtain ⟨r22,hr22,h⟩:=bindS h
 refine evs_callP [] (by kernel_rfl) (W.nest_plain_ok hr22) (by kernel_rfl) (.inl rfl) (by kernel_rfl) (y1 2 [1,22] [500000] (zI (!r22) (fun hb=>?_) fun hb=>?_))
 replace h:=iteT hb h
 refine z8 1 ⟨[(2,vI 1)],[]⟩ fun τ hτ=>?_
 refine bl_ret (th_ret ?_)
 obtain rfl:=osi h
 exact zV hτ [(2,vI 1)]
 replace h:=iteF hb h
 refine zB ?_
 obtain ⟨j23,hj23,h⟩:=bindS h
 refine zT ⟨[(1,.ptr 500000 0),(29,vB j23)],[(500000,.box (c_Piece x0))]⟩ ?_ fun τ hτ=>?_
 replace h:=hj23
 refine zA 2 (evs_op (st_len (c:=c_Rect) (l:=x0.Rects) (x:=(s_Rect x0.Rects)) (by kernel_rfl) (by kernel_rfl)) (zA 2 (zS (decide ((x0.Rects.length : Int) > 12)) (fun b0=>⟨[(1,.ptr 500000 0),(34,vB b0)],[(500000,.box (c_Piece x0))]⟩) (fun hb=>?_) fun hb=>?_)))
 replace h:=iteT hb h
 refine z6 12 fun τ hτ=>?_
 obtain rfl:=osi h
 exact zG hτ
 replace h:=iteF hb h
 refine zA 2 (evs_op (st_len (c:=c_Rect) (l:=x0.Cuts) (x:=(s_Rect x0.Cuts)) (by kernel_rfl) (by kernel_rfl)) (zA 3 (zS (decide ((x0.Cuts.length : Int) > 12)) (fun b0=>⟨[(1,.ptr 500000 0),(40,vB b0)],[(500000,.box (c_Piece x0))]⟩) (fun hb=>?_) fun hb=>?_)))
 replace h:=iteT hb h
 refine z6 6 fun τ hτ=>?_
 obtain rfl:=osi h
 exact zG hτ
 replace h:=iteF hb h
 refine zA 2 (evs_op (st_len (c:=c_Rect) (l:=x0.Forms) (x:=(s_Rect x0.Forms)) (by kernel_rfl) (by kernel_rfl)) (z6 3 fun τ hτ=>?_))
 obtain rfl:=osi h
 exact zG hτ
 refine yE hτ [1,29] [500000] (zI j23 (fun hb=>?_) fun hb=>?_)
 replace h:=iteT hb h
 refine z8 1 ⟨[(2,vI 4)],[]⟩ fun τ hτ=>?_
 refine bl_ret (th_ret ?_)
 obtain rfl:=osi h
 exact zV hτ [(2,vI 4)]
 replace h:=iteF hb h
 refine zB ?_
 obtain ⟨j27,hj27,h⟩:=bindS h
 refine zT ⟨[(1,.ptr 500000 0),(46,vB j27)],[(500000,.box (c_Piece x0))]⟩ ?_ fun τ hτ=>?_
 replace h:=hj27
 refine zA 2 (evs_op (st_len (c:=c_Rect) (l:=x0.Rects) (x:=(s_Rect x0.Rects)) (by kernel_rfl) (by kernel_rfl)) (zA 2 (zS ((x0.Rects.length : Int)==0) (fun b0=>⟨[(1,.ptr 500000 0),(51,vB b0)],[(500000,.box (c_Piece x0))]⟩) (fun hb=>?_) fun hb=>?_)))
 replace h:=iteT hb h
 refine z6 18 fun τ hτ=>?_
 obtain rfl:=osi h
 exact zG hτ
 replace h:=iteF hb h
 refine zA 2 ?_
 obtain ⟨r28,hr28,h⟩:=bindS h
 refine evs_callP [] (by kernel_rfl) (W.nest_valid_ok hr28) (by kernel_rfl) (.inl rfl) (by kernel_rfl) (zA 3 (zS r28 (fun b0=>⟨[(1,.ptr 500000 0),(57,vB (!b0))],[(500000,.box (c_Piece x0))]⟩) (fun hb=>?_) fun hb=>?_))
 replace h:=iteT hb h
 refine zA 2 ?_
 obtain ⟨r29,hr29,h⟩:=bindS h
 refine evs_callP [] (by kernel_rfl) (W.nest_valid_ok hr29) (by kernel_rfl) (.inl rfl) (by kernel_rfl) (zA 3 (zS r29 (fun b0=>⟨[(1,.ptr 500000 0),(63,vB (!b0))],[(500000,.box (c_Piece x0))]⟩) (fun hb=>?_) fun hb=>?_))
 replace h:=iteT hb h
 refine zA 2 ?_
 obtain ⟨r30,hr30,h⟩:=bindS h
 refine evs_callP [] (by kernel_rfl) (W.nest_valid_ok hr30) (by kernel_rfl) (.inl rfl) (by kernel_rfl) (z6 3 fun τ hτ=>?_)
 obtain rfl:=osi h
 exact zG hτ
 replace h:=iteF hb h
 refine z6 6 fun τ hτ=>?_
 obtain rfl:=osi h
 exact zG hτ
 replace h:=iteF hb h
 refine z6 12 fun τ hτ=>?_
 obtain rfl:=osi h
 exact zG hτ
 refine yE hτ [1,46] [500000] (zI j27 (fun hb=>?_) fun hb=>?_)
 replace h:=iteT hb h
 refine z8 1 ⟨[(2,vI 1)],[]⟩ fun τ hτ=>?_
 refine bl_ret (th_ret ?_)
 obtain rfl:=osi h
 exact zV hτ [(2,vI 1)]
 replace h:=iteF hb h
 refine zM fun τ hτ=>?_
 refine bl_normal (yE hτ [1] [500000] (zB (sem_drawN [] [] [] [] [] 11 (by kernel_rfl) (by kernel_rfl) (by kernel_rfl) (evd_run 2 (by kernel_rfl) ?_))))
 obtain ⟨x35,hx35,h⟩:=bindS h
 refine evd_val (by kernel_rfl) (st_idx (c:=c_Rect) (l:=x0.Rects) (i:=0) (kd:=.i64) (sz:=4) (by kernel_rfl) hx35 rfl) (by kernel_rfl) (by kernel_rfl) (evd_run 4 (by kernel_rfl) ?_)
 obtain ⟨x36,hx36,h⟩:=bindS h
 refine evd_val (by kernel_rfl) (st_idx (c:=c_Rect) (l:=x0.Rects) (i:=0) (kd:=.i64) (sz:=4) (by kernel_rfl) hx36 rfl) (by kernel_rfl) (by kernel_rfl) (evd_run 3 (by kernel_rfl) (evd_end (by kernel_rfl) (evo_run 1 (by kernel_rfl) (zO fun τ hτ=>?_))))
 refine yE hτ [1,3,4] [500000] (zB (z7 (zA 2 (evs_op (st_len (c:=c_Rect) (l:=x0.Rects) (x:=(s_Rect x0.Rects)) (by kernel_rfl) (by kernel_rfl)) (y1 1 [1,3,4,80,81,82] [500000] (zC ?_))))))
 obtain ⟨x66,hx66,h⟩:=bindS h
 refine sem_loopS (fun (s57 : Int×Int×Int)=>⟨[(1,.ptr 500000 0),(3,vI s57.1),(4,vI s57.2.1),(80,s_Rect x0.Rects),(81,vI (x0.Rects.length : Int)),(82,vI s57.2.2)],[(500000,.box (c_Piece x0))]⟩) (fun (x66 : Int×Int)=>(.exit 1,⟨[(1,.ptr 500000 0),(3,vI x66.1),(4,vI x66.2)],[(500000,.box (c_Piece x0))]⟩)) (nest_ValidatePiece_l1 x0) (x35.X,x36.Y,0) x66 (by kernel_rfl) (here (by kernel_rfl)) hx66 ?_ ?_ ?_
 intro s57 r h
 refine y3 1 [1,3,4,80,81,82,83] [500000] (zB (zI (decide (s57.2.2 < (x0.Rects.length : Int))) (fun hb=>?_) fun hb=>?_))
 replace h:=iteT hb h
 refine y4 [1,3,4,80,81,82] [500000] (zB (zC (z7 ?_)))
 obtain ⟨x65,hx65,h⟩:=bindS h
 refine evs_op (st_idx (c:=c_Rect) (l:=x0.Rects) (i:=s57.2.2) (kd:=.i64) (sz:=4) (by kernel_rfl) hx65 rfl) (y1 3 [1,3,4,6,80,81,82] [6,500000] (sem_drawN [] [] [] [] [] 9 (by kernel_rfl) (by kernel_rfl) (by kernel_rfl) (evd_run 9 (by kernel_rfl) (evd_end (by kernel_rfl) (evo_run 1 (by kernel_rfl) (zO fun τ hτ=>?_))))))
 refine bl_normal (yE hτ [1,3,4,80,81,82] [500000] (zD (z6 2 fun τ hτ=>?_)))
 obtain rfl:=osi h
 exact zH hτ
 replace h:=iteF hb h
 refine zL 1 fun τ hτ=>?_
 refine th_exit ?_
 obtain rfl:=osi h
 exact zF hτ
 intro x
 rfl
 intro τ hτ
 refine zQ (yE hτ [1,3,4] [500000] (zB (zB ?_)))
 obtain ⟨j68,hj68,h⟩:=bindS h
 refine zT ⟨[(1,.ptr 500000 0),(100,vB j68)],[(500000,.box (c_Piece x0))]⟩ ?_ fun τ hτ=>?_
 replace h:=hj68
 refine zA 3 (zS (x66.1 != 0) (fun b0=>⟨[(1,.ptr 500000 0),(4,vI x66.2),(97,vB b0)],[(500000,.box (c_Piece x0))]⟩) (fun hb=>?_) fun hb=>?_)
 replace h:=iteT hb h
 refine z6 3 fun τ hτ=>?_
 obtain rfl:=osi h
 exact zG hτ
 replace h:=iteF hb h
 refine z6 3 fun τ hτ=>?_
 obtain rfl:=osi h
 exact zG hτ
 refine yE hτ [1,100] [500000] (zI j68 (fun hb=>?_) fun hb=>?_)
 replace h:=iteT hb h
 refine z8 1 ⟨[(2,vI 1)],[]⟩ fun τ hτ=>?_
 refine th_ret ?_
 obtain rfl:=osi h
 exact zV hτ [(2,vI 1)]
 replace h:=iteF hb h
 refine y4 [1] [500000] (zB (z7 (zA 2 (evs_op (st_len (c:=c_Rect) (l:=x0.Rects) (x:=(s_Rect x0.Rects)) (by kernel_rfl) (by kernel_rfl)) (y1 1 [1,102,103,104] [500000] (zC ?_))))))
 obtain ⟨x472,hx472,h⟩:=bindS h
 refine sem_loopS (fun (s339 : Int)=>⟨[(1,.ptr 500000 0),(102,s_Rect x0.Rects),(103,vI (x0.Rects.length : Int)),(104,vI s339)],[(500000,.box (c_Piece x0))]⟩) (fun (x472 : Unit ⊕ Unit)=>match x472 with | .inl j473=>(.ret,⟨[(2,vI 7)],[]⟩) | .inr j474=>(.exit 3,⟨[(1,.ptr 500000 0)],[(500000,.box (c_Piece x0))]⟩)) (nest_ValidatePiece_l3 x0) 0 x472 (by kernel_rfl) (here (by kernel_rfl)) hx472 ?_ ?_ ?_
 intro s339 r h
 refine y3 1 [1,102,103,104,105] [500000] (zB (zI (decide (s339 < (x0.Rects.length : Int))) (fun hb=>?_) fun hb=>?_))
 replace h:=iteT hb h
 refine y4 [1,102,103,104] [500000] (zB (zC (z7 (zA 1 ?_))))
 obtain ⟨x440,hx440,h⟩:=bindS h
 refine evs_op (st_idx (c:=c_Rect) (l:=x0.Rects) (i:=s339) (kd:=.i64) (sz:=4) (by kernel_rfl) hx440 rfl) (y1 4 [1,7,8,102,103,104] [8,500000] (z7 (zA 3 ?_)))
 obtain ⟨l442,hl442,h⟩:=bindS h
 refine evs_op (st_slH (c:=c_Rect) (l:=x0.Rects) (sz:=4) (hi:=s339) (k2:=.i64) (by kernel_rfl) hl442) (evs_op (st_len (c:=c_Rect) (l:=l442) (x:=(s_Rect l442)) (by kernel_rfl) (by kernel_rfl)) (y1 1 [1,8,102,103,104,112,113,114] [8,500000] (zC ?_)))
 obtain ⟨x469,hx469,h⟩:=bindS h
 refine sem_loopS (fun (s452 : Int)=>⟨[(1,.ptr 500000 0),(8,.ptr 500001 0),(102,s_Rect x0.Rects),(103,vI (x0.Rects.length : Int)),(104,vI s339),(112,s_Rect l442),(113,vI (l442.length : Int)),(114,vI s452)],[(500000,.box (c_Piece x0)),(500001,.box (c_Rect x440))]⟩) (fun (x469 : Unit ⊕ Unit)=>match x469 with | .inl j470=>(.ret,⟨[(2,vI 7)],[]⟩) | .inr j471=>(.exit 5,⟨[(1,.ptr 500000 0),(102,s_Rect x0.Rects),(103,vI (x0.Rects.length : Int)),(104,vI s339)],[(500000,.box (c_Piece x0))]⟩)) (nest_ValidatePiece_l2 x440 l442) 0 x469 (by kernel_rfl) (subR_prep [] [(8,500001),(500000,500000)] (by kernel_rfl) rfl rfl (by kernel_rfl)) hx469 ?_ ?_ ?_
 intro s452 r h
 refine y3 1 [1,8,102,103,104,112,113,114,115] [500000,500001] (zB (zI (decide (s452 < (l442.length : Int))) (fun hb=>?_) fun hb=>?_))
 replace h:=iteT hb h
 refine y4 [1,8,102,103,104,112,113,114] [500000,500001] (zB (zC (z7 ?_)))
 obtain ⟨x466,hx466,h⟩:=bindS h
 refine evs_op (st_idx (c:=c_Rect) (l:=l442) (i:=s452) (kd:=.i64) (sz:=4) (by kernel_rfl) hx466 rfl) (y1 3 [1,8,10,102,103,104,112,113,114] [10,500000,500001] (z7 (zA 2 ?_)))
 obtain ⟨r468,hr468,h⟩:=bindS h
 refine evs_callP [] (by kernel_rfl) (W.geom_Overlap_ok hr468) (by kernel_rfl) (.inl rfl) (by kernel_rfl) (zP fun τ hτ=>?_)
 refine yE hτ [1,8,102,103,104,112,113,114,120] [500000,500001] (zI r468 (fun hb=>?_) fun hb=>?_)
 replace h:=iteT hb h
 refine z8 1 ⟨[(2,vI 7)],[]⟩ fun τ hτ=>?_
 refine bl_ret (th_ret ?_)
 obtain rfl:=osi h
 exact zF hτ
 replace h:=iteF hb h
 refine zM fun τ hτ=>?_
 refine bl_normal (yE hτ [1,8,102,103,104,112,113,114] [500000,500001] (zD (z6 2 fun τ hτ=>?_)))
 obtain rfl:=osi h
 exact zH hτ
 replace h:=iteF hb h
 refine zL 5 fun τ hτ=>?_
 refine th_exit ?_
 obtain rfl:=osi h
 exact zF hτ
 intro x
 rcases x with _ | _ <;> rfl
 intro τ hτ
 rcases x469 with j470 | j471
 refine bl_ret (bl_ret (th_ret ?_))
 obtain rfl:=osi h
 exact zF hτ
 refine zQ (bl_normal (yE hτ [1,102,103,104] [500000] (zD (z6 2 fun τ hτ=>?_))))
 obtain rfl:=osi h
 exact zH hτ
 replace h:=iteF hb h
 refine zL 3 fun τ hτ=>?_
 refine th_exit ?_
 obtain rfl:=osi h
 exact zF hτ
 intro x
 rcases x with _ | _ <;> rfl
 intro τ hτ
 rcases x472 with j473 | j474
 refine bl_ret (th_ret ?_)
 obtain rfl:=osi h
 exact zV hτ [(2,vI 7)]
 refine zQ (yE hτ [1] [500000] (zB (z7 (zA 2 ?_))))
 obtain ⟨r478,hr478,h⟩:=bindS h
 refine evs_callP [] (by kernel_rfl) (W.nest_connected_ok hr478) (by kernel_rfl) (.inl rfl) (by kernel_rfl) (y1 1 [1,126] [500000] (zI (!r478) (fun hb=>?_) fun hb=>?_))
 replace h:=iteT hb h
 refine z8 1 ⟨[(2,vI 6)],[]⟩ fun τ hτ=>?_
 refine th_ret ?_
 obtain rfl:=osi h
 exact zV hτ [(2,vI 6)]
 replace h:=iteF hb h
 refine y4 [1] [500000] (z7 (zA 1 ?_))
 obtain ⟨r480,hr480,h⟩:=bindS h
 refine evs_callP [] (by kernel_rfl) (W.nest_inside_ok hr480) (by kernel_rfl) (.inl rfl) (by kernel_rfl) (y1 1 [2] [] (zN fun τ hτ=>?_))
 obtain rfl:=osi h
 exact zV hτ [(2,vI r480)]
theorem W.slices_Clone_Lapi_Rect_api_Rect_ok {s r : (List Rect)} (h : slices_Clone_Lapi_Rect_api_Rect s=some r) : PC G.P 134 [.sl (List.map c_Rect s)] [] (.row (.top 0) 98) [(0,.row 98 [] (List.map c_Rect r))]:=by
 replace h : app [] s=some r:=h
 refine zU G Tryz.func134 (y3 1 [0] [] (zB (z7 (zA 1 (evs_isnil (es:=List.map c_Rect s) (by kernel_rfl) (fun hn=>?_) ?_)))))
 obtain rfl : s=[]:=List.map_eq_nil_iff.1 hn
 obtain rfl : []=r:=Option.some.inj ((app_eq (by simp [LIM])).symm.trans h)
 refine zP fun τ hτ=>?_
 refine yE hτ [0,4] [] (sem_condT (by kernel_rfl) (by kernel_rfl) (z8 1 ⟨[(2,ro 2 98)],[(2,w_Rect 98 [])]⟩ fun τ hτ=>?_))
 exact th_ret (rk_ret hτ [(2,ro 0 98)] (subR_of [(2,0)] rfl rfl (by kernel_rfl)) (by kernel_rfl))
 refine zP fun τ hτ=>?_
 refine yE hτ [0,4] [] (sem_condF (by kernel_rfl) (by kernel_rfl) (y4 [0] [] (z7 (evs_at (at_build (es:=List.map c_Rect []) (e:=98) (d:=5) (by kernel_rfl)) (zA 1 (evs_op (st_app (c:=c_Rect) (l:=[]) (l2:=s) (x:=s_Rect s) (g:=5) (e:=98) (sz:=4) (d:=7) (by kernel_rfl) (by kernel_rfl) (by kernel_rfl) (by kernel_rfl) (fun _=>rfl) rfl h) ?_))))))
 refine y1 1 [2] [5] (zN fun τ hτ=>?_)
 exact rk_ret hτ [(2,ro 0 98)] (subR_of [(5,0)] rfl rfl (by kernel_rfl)) (by kernel_rfl)
theorem W.cut_back_ok {l : (List Rect)} {x1 : Int} {y : Int} {r : (List Rect)} (h : cut_back l x1 y=some r) : PC G.P 91 [(.sl (List.map c_Rect l)),(vI x1),(vI y)] [] (.row (.top 0) 98) [(0,.row 98 [] (List.map c_Rect r))]:=by
 refine zU G Tryz.func91 (yK [0,1,2] [] (y3 1 [0,1,2] [] (z7 (zA 1 ?_))))
 obtain ⟨r2,hr2,h⟩:=bindS h
 refine evs_callS [] [(0,700050)] [] (by kernel_rfl) (W.slices_Clone_Lapi_Rect_api_Rect_ok hr2) (by kernel_rfl) (by kernel_rfl) (.inl rfl) (y1 1 [1,2,7] [700050] (zB (z7 (zA 1 (evs_op (st_len (c:=c_Rect) (l:=r2) (x:=(ro 700050 98)) (by kernel_rfl) (by kernel_rfl)) (y1 1 [1,2,7,13,14] [700050] ?_))))))
 refine zC ?_
 obtain ⟨x158,hx158,h⟩:=bindS h
 refine sem_loopS (fun (s107 : Int×(List Rect))=>⟨[(1,vI x1),(2,vI y),(7,ro 500000 98),(13,vI (r2.length : Int)),(14,vI s107.1)],[(500000,w_Rect 98 s107.2)]⟩) (fun (x158 : (List Rect))=>(.exit 0,⟨[(7,ro 500000 98)],[(500000,w_Rect 98 x158)]⟩)) (cut_back_l2 x1 y r2) (0,r2) x158 (by kernel_rfl) (subR_prep [] [(700050,500000)] (by kernel_rfl) rfl rfl (by kernel_rfl)) hx158 ?_ ?_ ?_
 intro s107 r h
 refine y3 1 [1,2,7,13,14,15] [500000] (zB (zI (decide (s107.1 < (r2.length : Int))) (fun hb=>?_) fun hb=>?_))
 replace h:=iteT hb h
 refine y4 [1,2,7,13,14] [500000] (sem_seqJ (fun (j145 : (List Rect))=>⟨[(1,vI x1),(2,vI y),(7,ro 500000 98),(13,vI (r2.length : Int)),(14,vI s107.1)],[(500000,w_Rect 98 j145)]⟩) (cut_back_k1 s107) r (by kernel_rfl) (fun j145 h=>?_) ?_)
 refine zD (z6 2 fun τ hτ=>?_)
 obtain rfl:=osi h
 exact zH hτ
 refine zC (y3 2 [1,2,7,8,13,14] [500000] (z7 (zA 2 ?_)))
 obtain ⟨x147,hx147,h⟩:=bindS h
 refine evs_op (st_idxO (c:=c_Rect) (l:=s107.2) (i:=s107.1) (kd:=.i64) (kk:=(.top 500000)) (e:=98) (sz:=4) (by kernel_rfl) (by kernel_rfl) hx147 rfl) (y1 1 [1,2,7,9,13,14] [500000] (zB (zB ?_)))
 obtain ⟨j151,hj151,h⟩:=bindS h
 refine zT ⟨[(1,vI x1),(2,vI y),(7,ro 500000 98),(9,.rptr (.top 500000) 98 (Int.toNat s107.1) 0),(13,vI (r2.length : Int)),(14,vI s107.1),(45,vB j151)],[(500000,w_Rect 98 s107.2)]⟩ ?_ fun τ hτ=>?_
 replace h:=hj151
 refine zA 3 (evs_op (st_ldO (c:=c_Rect) (l:=s107.2) (i:=(Int.toNat s107.1)) (v:=(vI x147.X)) (agg:=false) (sz:=1) (kk:=(.top 500000)) (e:=98) (off:=0) (J:=[]) (by kernel_rfl) (by kernel_rfl) (by kernel_rfl) ((idxS hx147).2) (by kernel_rfl)) (zA 2 (zS (decide (x147.X < (-4194304))) (fun b0=>⟨[(1,vI x1),(2,vI y),(7,ro 500000 98),(9,.rptr (.top 500000) 98 (Int.toNat s107.1) 0),(13,vI (r2.length : Int)),(14,vI s107.1),(25,vB b0)],[(500000,w_Rect 98 s107.2)]⟩) (fun hb=>?_) fun hb=>?_)))
 replace h:=iteT hb h
 refine z6 20 fun τ hτ=>?_
 obtain rfl:=osi h
 exact zG hτ
 replace h:=iteF hb h
 refine zA 3 (evs_op (st_ldO (c:=c_Rect) (l:=s107.2) (i:=(Int.toNat s107.1)) (v:=(vI x147.X)) (agg:=false) (sz:=1) (kk:=(.top 500000)) (e:=98) (off:=0) (J:=[]) (by kernel_rfl) (by kernel_rfl) (by kernel_rfl) ((idxS hx147).2) (by kernel_rfl)) (zA 3 (zS (decide (x147.X > 4194304)) (fun b0=>⟨[(1,vI x1),(2,vI y),(7,ro 500000 98),(9,.rptr (.top 500000) 98 (Int.toNat s107.1) 0),(13,vI (r2.length : Int)),(14,vI s107.1),(32,vB b0)],[(500000,w_Rect 98 s107.2)]⟩) (fun hb=>?_) fun hb=>?_)))
 replace h:=iteT hb h
 refine z6 13 fun τ hτ=>?_
 obtain rfl:=osi h
 exact zG hτ
 replace h:=iteF hb h
 refine zA 3 (evs_op (st_ldO (c:=c_Rect) (l:=s107.2) (i:=(Int.toNat s107.1)) (v:=(vI x147.Y)) (agg:=false) (sz:=1) (kk:=(.top 500000)) (e:=98) (off:=1) (J:=[]) (by kernel_rfl) (by kernel_rfl) (by kernel_rfl) ((idxS hx147).2) (by kernel_rfl)) (zA 3 (zS (decide (x147.Y < (-4194304))) (fun b0=>⟨[(1,vI x1),(2,vI y),(7,ro 500000 98),(9,.rptr (.top 500000) 98 (Int.toNat s107.1) 0),(13,vI (r2.length : Int)),(14,vI s107.1),(39,vB b0)],[(500000,w_Rect 98 s107.2)]⟩) (fun hb=>?_) fun hb=>?_)))
 replace h:=iteT hb h
 refine z6 6 fun τ hτ=>?_
 obtain rfl:=osi h
 exact zG hτ
 replace h:=iteF hb h
 refine zA 3 (evs_op (st_ldO (c:=c_Rect) (l:=s107.2) (i:=(Int.toNat s107.1)) (v:=(vI x147.Y)) (agg:=false) (sz:=1) (kk:=(.top 500000)) (e:=98) (off:=1) (J:=[]) (by kernel_rfl) (by kernel_rfl) (by kernel_rfl) ((idxS hx147).2) (by kernel_rfl)) (z6 2 fun τ hτ=>?_))
 obtain rfl:=osi h
 exact zG hτ
 refine yE hτ [1,2,7,9,13,14,45] [500000] (zI j151 (fun hb=>?_) fun hb=>?_)
 replace h:=iteT hb h
 refine z7 (zA 3 ?_)
 obtain ⟨x153,hx153,h⟩:=bindS h
 refine evs_op (st_stO (c:=c_Rect) (l:=s107.2) (i:=(Int.toNat s107.1)) (x:=x153) (x':=(Rect.mk x153.X x153.Y 0 x153.H)) (v:=(vI 0)) (agg:=false) (sz:=1) (kk:=(.top 500000)) (e:=98) (off:=2) (J:=[]) (o:=w_Rect 98 (List.set s107.2 (Int.toNat s107.1) (Rect.mk x153.X x153.Y 0 x153.H))) (by kernel_rfl) (by kernel_rfl) (by kernel_rfl) hx153 (by kernel_rfl) (by kernel_rfl) (by kernel_rfl)) (zP fun τ hτ=>?_)
 refine yE hτ [1,2,7,13,14] [500000] (zL 1 fun τ hτ=>?_)
 exact th_exit (zQ (jk_normal (List.set s107.2 (Int.toNat s107.1) (Rect.mk x153.X x153.Y 0 x153.H)) h hτ (here (by kernel_rfl))))
 replace h:=iteF hb h
 refine y4 [1,2,7,9,13,14] [500000] (z7 (zA 3 ?_))
 obtain ⟨x156,hx156,h⟩:=bindS h
 refine evs_op (st_ldO (c:=c_Rect) (l:=s107.2) (i:=(Int.toNat s107.1)) (v:=(vI x156.X)) (agg:=false) (sz:=1) (kk:=(.top 500000)) (e:=98) (off:=0) (J:=[]) (by kernel_rfl) (by kernel_rfl) (by kernel_rfl) hx156 (by kernel_rfl)) (zA 4 ?_)
 obtain ⟨x157,hx157,h⟩:=bindS h
 refine evs_op (st_stO (c:=c_Rect) (l:=s107.2) (i:=(Int.toNat s107.1)) (x:=x157) (x':=(Rect.mk (isub x156.X x1) x157.Y x157.W x157.H)) (v:=(vI (isub x156.X x1))) (agg:=false) (sz:=1) (kk:=(.top 500000)) (e:=98) (off:=0) (J:=[]) (o:=w_Rect 98 (List.set s107.2 (Int.toNat s107.1) (Rect.mk (isub x156.X x1) x157.Y x157.W x157.H))) (by kernel_rfl) (by kernel_rfl) (by kernel_rfl) hx157 (by kernel_rfl) (by kernel_rfl) (by kernel_rfl)) (zP fun τ hτ=>?_)
 refine yE hτ [1,2,7,9,13,14] [500000] (zD (zA 3 (evs_op (st_ldO (c:=c_Rect) (l:=(List.set s107.2 (Int.toNat s107.1) (Rect.mk (isub x156.X x1) x157.Y x157.W x157.H))) (i:=(Int.toNat s107.1)) (v:=(vI (((Rect.mk (isub x156.X x1) x157.Y x157.W x157.H)).Y))) (agg:=false) (sz:=1) (kk:=(.top 500000)) (e:=98) (off:=1) (J:=[]) (by kernel_rfl) (by kernel_rfl) (by kernel_rfl) (setget (hx157)) (by kernel_rfl)) (zA 4 (evs_op (st_stO (c:=c_Rect) (l:=(List.set s107.2 (Int.toNat s107.1) (Rect.mk (isub x156.X x1) x157.Y x157.W x157.H))) (i:=(Int.toNat s107.1)) (x:=(Rect.mk (isub x156.X x1) x157.Y x157.W x157.H)) (x':=(Rect.mk (((Rect.mk (isub x156.X x1) x157.Y x157.W x157.H)).X) (isub (((Rect.mk (isub x156.X x1) x157.Y x157.W x157.H)).Y) y) (((Rect.mk (isub x156.X x1) x157.Y x157.W x157.H)).W) (((Rect.mk (isub x156.X x1) x157.Y x157.W x157.H)).H))) (v:=(vI (isub (((Rect.mk (isub x156.X x1) x157.Y x157.W x157.H)).Y) y))) (agg:=false) (sz:=1) (kk:=(.top 500000)) (e:=98) (off:=1) (J:=[]) (o:=w_Rect 98 (List.set (List.set s107.2 (Int.toNat s107.1) (Rect.mk (isub x156.X x1) x157.Y x157.W x157.H)) (Int.toNat s107.1) (Rect.mk (((Rect.mk (isub x156.X x1) x157.Y x157.W x157.H)).X) (isub (((Rect.mk (isub x156.X x1) x157.Y x157.W x157.H)).Y) y) (((Rect.mk (isub x156.X x1) x157.Y x157.W x157.H)).W) (((Rect.mk (isub x156.X x1) x157.Y x157.W x157.H)).H)))) (by kernel_rfl) (by kernel_rfl) (by kernel_rfl) (setget (hx157)) (by kernel_rfl) (by kernel_rfl) (by kernel_rfl)) (zP fun τ hτ=>?_))))))
 exact bl_normal (jk_normal (List.set (List.set s107.2 (Int.toNat s107.1) (Rect.mk (isub x156.X x1) x157.Y x157.W x157.H)) (Int.toNat s107.1) (Rect.mk (((Rect.mk (isub x156.X x1) x157.Y x157.W x157.H)).X) (isub (((Rect.mk (isub x156.X x1) x157.Y x157.W x157.H)).Y) y) (((Rect.mk (isub x156.X x1) x157.Y x157.W x157.H)).W) (((Rect.mk (isub x156.X x1) x157.Y x157.W x157.H)).H))) h hτ (here (by kernel_rfl)))
 replace h:=iteF hb h
 refine zL 0 fun τ hτ=>?_
 refine th_exit ?_
 obtain rfl:=osi h
 exact zF hτ
 intro x
 rfl
 intro τ hτ
 refine zQ (yE hτ [7] [500000] (z8 2 ⟨[(6,ro 500000 98)],[(500000,w_Rect 98 x158)]⟩ fun τ hτ=>?_))
 obtain rfl:=osi h
 exact rk_ret hτ [(6,ro 0 98)] (subR_prep [] [(500000,0)] (by kernel_rfl) rfl rfl (by kernel_rfl)) (by kernel_rfl)
theorem W.cut_pieceError_ok {x0 : Piece} {r : Int} (h : cut_pieceError x0=some r) : PC G.P 41 [(.agg (c_Piece x0))] [] (vI r) []:=by
 refine zU G Tryz.func41 (yK [0] [] (y3 2 [1] [1] (zB (z7 (zA 2 (evs_op (st_len (c:=c_Rect) (l:=x0.Rects) (x:=(s_Rect x0.Rects)) (by kernel_rfl) (by kernel_rfl)) ?_))))))
 refine y1 1 [1,10,11,12] [1] (zC ?_)
 obtain ⟨x56,hx56,h⟩:=bindS h
 refine sem_loopS (fun (s39 : Int)=>⟨[(1,.ptr 500000 0),(10,s_Rect x0.Rects),(11,vI (x0.Rects.length : Int)),(12,vI s39)],[(500000,.box (c_Piece x0))]⟩) (fun (x56 : Unit ⊕ Unit)=>match x56 with | .inl j57=>(.ret,⟨[(2,vI 1)],[]⟩) | .inr j58=>(.exit 0,⟨[(1,.ptr 500000 0)],[(500000,.box (c_Piece x0))]⟩)) (cut_pieceError_l1 x0) 0 x56 (by kernel_rfl) (subR_prep [] [(1,500000)] (by kernel_rfl) rfl rfl (by kernel_rfl)) hx56 ?_ ?_ ?_
 intro s39 r h
 refine y3 1 [1,10,11,12,13] [500000] (zB (zI (decide (s39 < (x0.Rects.length : Int))) (fun hb=>?_) fun hb=>?_))
 replace h:=iteT hb h
 refine y4 [1,10,11,12] [500000] (zB (zC (z7 ?_)))
 obtain ⟨x53,hx53,h⟩:=bindS h
 refine evs_op (st_idx (c:=c_Rect) (l:=x0.Rects) (i:=s39) (kd:=.i64) (sz:=4) (by kernel_rfl) hx53 rfl) (y1 3 [1,4,10,11,12] [4,500000] (z7 (zA 1 ?_)))
 obtain ⟨r55,hr55,h⟩:=bindS h
 refine evs_callP [] (by kernel_rfl) (W.geom_ValidRect_ok hr55) (by kernel_rfl) (.inl rfl) (by kernel_rfl) (y1 1 [1,10,11,12,18] [500000] (zI (!r55) (fun hb=>?_) fun hb=>?_))
 replace h:=iteT hb h
 refine z8 1 ⟨[(2,vI 1)],[]⟩ fun τ hτ=>?_
 refine bl_ret (th_ret ?_)
 obtain rfl:=osi h
 exact zF hτ
 replace h:=iteF hb h
 refine zM fun τ hτ=>?_
 refine bl_normal (yE hτ [1,10,11,12] [500000] (zD (z6 2 fun τ hτ=>?_)))
 obtain rfl:=osi h
 exact zH hτ
 replace h:=iteF hb h
 refine zL 0 fun τ hτ=>?_
 refine th_exit ?_
 obtain rfl:=osi h
 exact zF hτ
 intro x
 rcases x with _ | _ <;> rfl
 intro τ hτ
 rcases x56 with j57 | j58
 refine bl_ret (th_ret ?_)
 obtain rfl:=osi h
 exact zV hτ [(2,vI 1)]
 refine zQ (yE hτ [1] [500000] (zB (z7 (zA 2 (evs_op (st_len (c:=c_Rect) (l:=x0.Rects) (x:=(s_Rect x0.Rects)) (by kernel_rfl) (by kernel_rfl)) (y1 1 [1,23] [500000] ?_))))))
 refine zI ((x0.Rects.length : Int)==0) (fun hb=>?_) fun hb=>?_
 replace h:=iteT hb h
 refine z7 (zA 1 ?_)
 obtain ⟨r62,hr62,h⟩:=bindS h
 refine evs_callP [] (by kernel_rfl) (W.nest_ValidatePiece_ok hr62) (by kernel_rfl) (.inl rfl) (by kernel_rfl) (y1 1 [2] [] (zN fun τ hτ=>?_))
 refine th_ret ?_
 obtain rfl:=osi h
 exact zV hτ [(2,vI r62)]
 replace h:=iteF hb h
 refine y4 [1] [500000] (zB (sem_drawN [] [] [] [] [] 11 (by kernel_rfl) (by kernel_rfl) (by kernel_rfl) (evd_run 2 (by kernel_rfl) ?_)))
 obtain ⟨x67,hx67,h⟩:=bindS h
 refine evd_val (by kernel_rfl) (st_idx (c:=c_Rect) (l:=x0.Rects) (i:=0) (kd:=.i64) (sz:=4) (by kernel_rfl) hx67 rfl) (by kernel_rfl) (by kernel_rfl) (evd_run 4 (by kernel_rfl) ?_)
 obtain ⟨x68,hx68,h⟩:=bindS h
 refine evd_val (by kernel_rfl) (st_idx (c:=c_Rect) (l:=x0.Rects) (i:=0) (kd:=.i64) (sz:=4) (by kernel_rfl) hx68 rfl) (by kernel_rfl) (by kernel_rfl) (evd_run 3 (by kernel_rfl) (evd_end (by kernel_rfl) (evo_run 1 (by kernel_rfl) (zO fun τ hτ=>?_))))
 refine yE hτ [1,5,6] [500000] (zB (z7 (zA 2 (evs_op (st_len (c:=c_Rect) (l:=x0.Rects) (x:=(s_Rect x0.Rects)) (by kernel_rfl) (by kernel_rfl)) (y1 1 [1,5,6,37,38,39] [500000] (zC ?_))))))
 obtain ⟨x98,hx98,h⟩:=bindS h
 refine sem_loopS (fun (s89 : Int×Int×Int)=>⟨[(1,.ptr 500000 0),(5,vI s89.1),(6,vI s89.2.1),(37,s_Rect x0.Rects),(38,vI (x0.Rects.length : Int)),(39,vI s89.2.2)],[(500000,.box (c_Piece x0))]⟩) (fun (x98 : Int×Int)=>(.exit 2,⟨[(1,.ptr 500000 0),(5,vI x98.1),(6,vI x98.2)],[(500000,.box (c_Piece x0))]⟩)) (cut_pieceError_l2 x0) (x67.X,x68.Y,0) x98 (by kernel_rfl) (here (by kernel_rfl)) hx98 ?_ ?_ ?_
 intro s89 r h
 refine y3 1 [1,5,6,37,38,39,40] [500000] (zB (zI (decide (s89.2.2 < (x0.Rects.length : Int))) (fun hb=>?_) fun hb=>?_))
 replace h:=iteT hb h
 refine y4 [1,5,6,37,38,39] [500000] (zB (zC (z7 ?_)))
 obtain ⟨x97,hx97,h⟩:=bindS h
 refine evs_op (st_idx (c:=c_Rect) (l:=x0.Rects) (i:=s89.2.2) (kd:=.i64) (sz:=4) (by kernel_rfl) hx97 rfl) (y1 3 [1,5,6,8,37,38,39] [8,500000] (sem_drawN [] [] [] [] [] 9 (by kernel_rfl) (by kernel_rfl) (by kernel_rfl) (evd_run 9 (by kernel_rfl) (evd_end (by kernel_rfl) (evo_run 1 (by kernel_rfl) (zO fun τ hτ=>?_))))))
 refine bl_normal (yE hτ [1,5,6,37,38,39] [500000] (zD (z6 2 fun τ hτ=>?_)))
 obtain rfl:=osi h
 exact zH hτ
 replace h:=iteF hb h
 refine zL 2 fun τ hτ=>?_
 refine th_exit ?_
 obtain rfl:=osi h
 exact zF hτ
 intro x
 rfl
 intro τ hτ
 refine zQ (yE hτ [1,5,6] [500000] (zB (sem_draw [(4,[700200]),(9,[700450]),(14,[700700])] [(4,[700200]),(9,[700450]),(14,[700700])] [] [(5,[700200]),(6,[700200]),(7,[700200]),(8,[700200]),(10,[700200,700450]),(11,[700200,700450]),(12,[700200,700450]),(13,[700200,700450]),(15,[700450,700700])] [(0,[700200,700450,700700]),(1,[700200,700450,700700]),(2,[700200,700450,700700]),(3,[700200,700450,700700]),(4,[700450,700700]),(5,[700200,700450,700700]),(6,[700200,700450,700700]),(7,[700200,700450,700700]),(8,[700200,700450,700700]),(9,[700700]),(10,[700200,700450,700700]),(11,[700200,700450,700700]),(12,[700200,700450,700700]),(13,[700200,700450,700700]),(15,[700450,700700])] 16 (by kernel_rfl) (by kernel_rfl) [700200,700450,700700] (by kernel_rfl) (by kernel_rfl) (evd_run 4 (by kernel_rfl) ?_))))
 obtain ⟨r105,hr105,h⟩:=bindS h
 refine evd_callS [(0,700200)] [] (by kernel_rfl) (by kernel_rfl) (W.cut_back_ok hr105) (by kernel_rfl) (.inl rfl) (by kernel_rfl) (by kernel_rfl) (evd_run 4 (by kernel_rfl) ?_)
 obtain ⟨r106,hr106,h⟩:=bindS h
 refine evd_callS [(0,700450)] [] (by kernel_rfl) (by kernel_rfl) (W.cut_back_ok hr106) (by kernel_rfl) (.inl rfl) (by kernel_rfl) (by kernel_rfl) (evd_run 4 (by kernel_rfl) ?_)
 obtain ⟨r107,hr107,h⟩:=bindS h
 refine evd_callS [(0,700700)] [] (by kernel_rfl) (by kernel_rfl) (W.cut_back_ok hr107) (by kernel_rfl) (.inl rfl) (by kernel_rfl) (by kernel_rfl) (evd_run 1 (by kernel_rfl) (evd_end (by kernel_rfl) (evo_run 5 (by kernel_rfl) (zO fun τ hτ=>?_))))
 refine yE hτ [1] [500000,700200,700450,700700] (z7 (zA 1 ?_))
 obtain ⟨r109,hr109,h⟩:=bindS h
 refine evs_callP [700200,700450,700700] (by kernel_rfl) (W.nest_ValidatePiece_ok hr109) (by kernel_rfl) (.inr rfl) (by kernel_rfl) (y1 1 [2] [] (zN fun τ hτ=>?_))
 obtain rfl:=osi h
 exact zV hτ [(2,vI r109)]
theorem W.cut_meets_1_ok {x0 : Rect} {a_0 : Int} {a_1 : Int} {a_2 : Int} {a_3 : Int} {r : Bool} (h : cut_meets_1 x0 a_0 a_1 a_2 a_3=some r) : PC G.P 93 [(.agg (c_Rect x0)),(.vptr [(vI a_0),(vI a_1),(vI a_2),(vI a_3)] 0)] [] (vB r) []:=by
 refine zU G Tryz.func93 (yK [0,1] [] (y3 2 [1,2] [2] (z7 (zA 2 ?_))))
 obtain ⟨r2,hr2,h⟩:=bindS h
 refine evs_callP [] (by kernel_rfl) (W.geom_Overlap_ok hr2) (by kernel_rfl) (.inl rfl) (by kernel_rfl) (y1 1 [3] [] (zN fun τ hτ=>?_))
 obtain rfl:=osi h
 exact zV hτ [(3,vB r2)]
theorem W.slices_IndexFunc_Lapi_Rect_api_Rect__cut_meets_1_ok {s0 : (List Rect)} {f_0_0 : Int} {f_0_1 : Int} {f_0_2 : Int} {f_0_3 : Int} {r : Int} (h : slices_IndexFunc_Lapi_Rect_api_Rect__cut_meets_1 s0 f_0_0 f_0_1 f_0_2 f_0_3=some r) : PC G.P 147 [(.sl (List.map c_Rect s0)),(.fn 93 [(.vptr [(vI f_0_0),(vI f_0_1),(vI f_0_2),(vI f_0_3)] 0)])] [] (vI r) []:=by
 refine zU G Tryz.func147 (yK [0,1] [] (y3 1 [0,1] [] (zB (z7 (zA 1 (evs_op (st_len (c:=c_Rect) (l:=s0) (x:=(s_Rect s0)) (by kernel_rfl) (by kernel_rfl)) ?_))))))
 refine y1 1 [0,1,7,8] [] (zC ?_)
 obtain ⟨x56,hx56,h⟩:=bindS h
 refine sem_loopS (fun (s39 : Int)=>⟨[(0,s_Rect s0),(1,.fn 93 [(.vptr [(vI f_0_0),(vI f_0_1),(vI f_0_2),(vI f_0_3)] 0)]),(7,vI (s0.length : Int)),(8,vI s39)],[]⟩) (fun (x56 : Int ⊕ Unit)=>match x56 with | .inl j57=>(.ret,⟨[(4,vI j57)],[]⟩) | .inr j58=>(.exit 0,⟨[],[]⟩)) (slices_IndexFunc_Lapi_Rect_api_Rect__cut_meets_1_l1 s0 f_0_0 f_0_1 f_0_2 f_0_3) 0 x56 (by kernel_rfl) (here (by kernel_rfl)) hx56 ?_ ?_ ?_
 intro s39 r h
 refine y3 1 [0,1,7,8,9] [] (zB (zI (decide (s39 < (s0.length : Int))) (fun hb=>?_) fun hb=>?_))
 replace h:=iteT hb h
 refine y4 [0,1,7,8] [] (zB (zC (y3 2 [0,1,5,7,8] [] (z7 (zA 3 ?_)))))
 obtain ⟨x54,hx54,h⟩:=bindS h
 refine evs_op (st_idx (c:=c_Rect) (l:=s0) (i:=s39) (kd:=.i64) (sz:=4) (by kernel_rfl) hx54 rfl) (zA 1 ?_)
 obtain ⟨r55,hr55,h⟩:=bindS h
 refine evs_callP [] (by kernel_rfl) (W.cut_meets_1_ok hr55) (by kernel_rfl) (.inl rfl) (by kernel_rfl) (zP fun τ hτ=>?_)
 refine yE hτ [0,1,5,7,8,16] [] (zI r55 (fun hb=>?_) fun hb=>?_)
 replace h:=iteT hb h
 refine z8 2 ⟨[(4,vI s39)],[]⟩ fun τ hτ=>?_
 refine bl_ret (th_ret ?_)
 obtain rfl:=osi h
 exact zF hτ
 replace h:=iteF hb h
 refine zM fun τ hτ=>?_
 refine bl_normal (yE hτ [0,1,7,8] [] (zD (z6 2 fun τ hτ=>?_)))
 obtain rfl:=osi h
 exact zH hτ
 replace h:=iteF hb h
 refine zL 0 fun τ hτ=>?_
 refine th_exit ?_
 obtain rfl:=osi h
 exact zF hτ
 intro x
 rcases x with _ | _ <;> rfl
 intro τ hτ
 rcases x56 with j57 | j58
 refine bl_ret (th_ret ?_)
 obtain rfl:=osi h
 exact zV hτ [(4,vI j57)]
 refine zQ (yE hτ [] [] (z8 1 ⟨[(4,vI (-1))],[]⟩ fun τ hτ=>?_))
 obtain rfl:=osi h
 exact zV hτ [(4,vI (-1))]
theorem W.slices_ContainsFunc_Lapi_Rect_api_Rect__cut_meets_1_ok {s0 : (List Rect)} {f_0_0 : Int} {f_0_1 : Int} {f_0_2 : Int} {f_0_3 : Int} {r : Bool} (h : slices_ContainsFunc_Lapi_Rect_api_Rect__cut_meets_1 s0 f_0_0 f_0_1 f_0_2 f_0_3=some r) : PC G.P 92 [(.sl (List.map c_Rect s0)),(.fn 93 [(.vptr [(vI f_0_0),(vI f_0_1),(vI f_0_2),(vI f_0_3)] 0)])] [] (vB r) []:=by
 refine zU G Tryz.func92 (yK [0,1] [] (y3 1 [0,1] [] (z7 (zA 2 ?_))))
 obtain ⟨r2,hr2,h⟩:=bindS h
 refine evs_callP [] (by kernel_rfl) (W.slices_IndexFunc_Lapi_Rect_api_Rect__cut_meets_1_ok hr2) (by kernel_rfl) (.inl rfl) (by kernel_rfl) (y1 2 [4] [] (zN fun τ hτ=>?_))
 obtain rfl:=osi h
 exact zV hτ [(4,vB (decide (r2 ≥ 0)))]
theorem W.cut_meets_ok {r0 : Rect} {l : (List Rect)} {r : Bool} (h : cut_meets r0 l=some r) : PC G.P 43 [(.agg (c_Rect r0)),(.sl (List.map c_Rect l))] [] (vB r) []:=by
 refine zU G Tryz.func43 (yK [0,1] [] (y3 2 [1,2] [2] (z7 (zA 2 ?_))))
 obtain ⟨r2,hr2,h⟩:=bindS h
 refine evs_callP [2] (by kernel_rfl) (W.slices_ContainsFunc_Lapi_Rect_api_Rect__cut_meets_1_ok hr2) (by kernel_rfl) (.inr rfl) (by kernel_rfl) (y1 1 [4] [] (zN fun τ hτ=>?_))
 obtain rfl:=osi h
 exact zV hτ [(4,vB r2)]
theorem W.cut_Validate_ok {l : LayoutT} {r : Int} (h : cut_Validate l=some r) : PC G.P 11 [(.agg (c_LayoutT l))] [] (vI r) []:=by
 refine zU G Tryz.func11 (yK [0] [] (y3 2 [1] [1] (zB (z7 (zA 2 ?_)))))
 obtain ⟨r4,hr4,h⟩:=bindS h
 refine evs_callP [] (by kernel_rfl) (W.nest_ValidateSheet_ok hr4) (by kernel_rfl) (.inl rfl) (by kernel_rfl) (y1 1 [1,3] [1] (y3 2 [1,3,22] [1] (zI (r4 != 0) (fun hb=>?_) fun hb=>?_)))
 replace h:=iteT hb h
 refine z8 2 ⟨[(2,vI r4)],[]⟩ fun τ hτ=>?_
 refine th_ret ?_
 obtain rfl:=osi h
 exact zV hτ [(2,vI r4)]
 replace h:=iteF hb h
 refine y4 [1] [1] (zB (z7 (zA 2 (evs_op (st_len (c:=c_Piece) (l:=l.Pieces) (x:=(s_Piece l.Pieces)) (by kernel_rfl) (by kernel_rfl)) (y1 1 [1,27] [1] (zI (decide ((l.Pieces.length : Int) > 8)) (fun hb=>?_) fun hb=>?_))))))
 replace h:=iteT hb h
 refine z8 1 ⟨[(2,vI 4)],[]⟩ fun τ hτ=>?_
 refine th_ret ?_
 obtain rfl:=osi h
 exact zV hτ [(2,vI 4)]
 replace h:=iteF hb h
 refine y4 [1] [1] (zB (z7 (zA 2 (evs_op (st_len (c:=c_Piece) (l:=l.Pieces) (x:=(s_Piece l.Pieces)) (by kernel_rfl) (by kernel_rfl)) (y1 1 [1,29,30,31] [1] (zC ?_))))))
 obtain ⟨x60,hx60,h⟩:=bindS h
 refine sem_loopS (fun (s43 : Int)=>⟨[(1,.ptr 500000 0),(29,s_Piece l.Pieces),(30,vI (l.Pieces.length : Int)),(31,vI s43)],[(500000,.box (c_LayoutT l))]⟩) (fun (x60 : Int ⊕ Unit)=>match x60 with | .inl j61=>(.ret,⟨[(2,vI j61)],[]⟩) | .inr j62=>(.exit 0,⟨[(1,.ptr 500000 0)],[(500000,.box (c_LayoutT l))]⟩)) (cut_Validate_l1 l) 0 x60 (by kernel_rfl) (subR_prep [] [(1,500000)] (by kernel_rfl) rfl rfl (by kernel_rfl)) hx60 ?_ ?_ ?_
 intro s43 r h
 refine y3 1 [1,29,30,31,32] [500000] (zB (zI (decide (s43 < (l.Pieces.length : Int))) (fun hb=>?_) fun hb=>?_))
 replace h:=iteT hb h
 refine y4 [1,29,30,31] [500000] (zB (zC (z7 ?_)))
 obtain ⟨x57,hx57,h⟩:=bindS h
 refine evs_op (st_idx (c:=c_Piece) (l:=l.Pieces) (i:=s43) (kd:=.i64) (sz:=7) (by kernel_rfl) hx57 rfl) (y1 3 [1,5,29,30,31] [5,500000] (z7 (zA 1 ?_)))
 obtain ⟨r59,hr59,h⟩:=bindS h
 refine evs_callP [] (by kernel_rfl) (W.cut_pieceError_ok hr59) (by kernel_rfl) (.inl rfl) (by kernel_rfl) (y1 1 [1,6,29,30,31] [500000] (y3 2 [1,6,29,30,31,38] [500000] (zI (r59 != 0) (fun hb=>?_) fun hb=>?_)))
 replace h:=iteT hb h
 refine z8 2 ⟨[(2,vI r59)],[]⟩ fun τ hτ=>?_
 refine bl_ret (th_ret ?_)
 obtain rfl:=osi h
 exact zF hτ
 replace h:=iteF hb h
 refine zM fun τ hτ=>?_
 refine bl_normal (yE hτ [1,29,30,31] [500000] (zD (z6 2 fun τ hτ=>?_)))
 obtain rfl:=osi h
 exact zH hτ
 replace h:=iteF hb h
 refine zL 0 fun τ hτ=>?_
 refine th_exit ?_
 obtain rfl:=osi h
 exact zF hτ
 intro x
 rcases x with _ | _ <;> rfl
 intro τ hτ
 rcases x60 with j61 | j62
 refine bl_ret (th_ret ?_)
 obtain rfl:=osi h
 exact zV hτ [(2,vI j61)]
 refine zQ (yE hτ [1] [500000] (y3 9 [1,7] [7,500000] (zB (z7 (zA 2 (evs_op (st_len (c:=c_Piece) (l:=l.Pieces) (x:=(s_Piece l.Pieces)) (by kernel_rfl) (by kernel_rfl)) ?_))))))
 refine y1 1 [1,7,49,50,51] [7,500000] (zC ?_)
 obtain ⟨x802,hx802,h⟩:=bindS h
 refine sem_loopS (fun (s557 : Int)=>⟨[(1,.ptr 500000 0),(7,.ptr 500001 0),(49,s_Piece l.Pieces),(50,vI (l.Pieces.length : Int)),(51,vI s557)],[(500000,.box (c_LayoutT l)),(500001,.box [(vI 0),(vI 0),(vI l.Sheet.Width),(vI l.Sheet.Height)])]⟩) (fun (x802 : Unit ⊕ Unit)=>match x802 with | .inl j803=>(.ret,⟨[(2,vI 13)],[]⟩) | .inr j804=>(.exit 2,⟨[(1,.ptr 500000 0)],[(500000,.box (c_LayoutT l))]⟩)) (cut_Validate_l3 l) 0 x802 (by kernel_rfl) (subR_prep [] [(7,500001),(500000,500000)] (by kernel_rfl) rfl rfl (by kernel_rfl)) hx802 ?_ ?_ ?_
 intro s557 r h
 refine y3 1 [1,7,49,50,51,52] [500000,500001] (zB (zI (decide (s557 < (l.Pieces.length : Int))) (fun hb=>?_) fun hb=>?_))
 replace h:=iteT hb h
 refine y4 [1,7,49,50,51] [500000,500001] (zB (zC (z7 ?_)))
 obtain ⟨x742,hx742,h⟩:=bindS h
 refine evs_op (st_idx (c:=c_Piece) (l:=l.Pieces) (i:=s557) (kd:=.i64) (sz:=7) (by kernel_rfl) hx742 rfl) (y1 3 [1,7,9,49,50,51] [9,500000,500001] (z7 (zA 2 (evs_op (st_len (c:=c_Rect) (l:=x742.Rects) (x:=(s_Rect x742.Rects)) (by kernel_rfl) (by kernel_rfl)) (y1 1 [1,7,49,50,51,56,57,58] [500000,500001] (zC ?_))))))
 obtain ⟨x799,hx799,h⟩:=bindS h
 refine sem_loopS (fun (s762 : Int)=>⟨[(1,.ptr 500000 0),(7,.ptr 500001 0),(49,s_Piece l.Pieces),(50,vI (l.Pieces.length : Int)),(51,vI s557),(56,s_Rect x742.Rects),(57,vI (x742.Rects.length : Int)),(58,vI s762)],[(500000,.box (c_LayoutT l)),(500001,.box [(vI 0),(vI 0),(vI l.Sheet.Width),(vI l.Sheet.Height)])]⟩) (fun (x799 : Unit ⊕ Unit)=>match x799 with | .inl j800=>(.ret,⟨[(2,vI 13)],[]⟩) | .inr j801=>(.exit 4,⟨[(1,.ptr 500000 0),(7,.ptr 500001 0),(49,s_Piece l.Pieces),(50,vI (l.Pieces.length : Int)),(51,vI s557)],[(500000,.box (c_LayoutT l)),(500001,.box [(vI 0),(vI 0),(vI l.Sheet.Width),(vI l.Sheet.Height)])]⟩)) (cut_Validate_l2 l x742) 0 x799 (by kernel_rfl) (here (by kernel_rfl)) hx799 ?_ ?_ ?_
 intro s762 r h
 refine y3 1 [1,7,49,50,51,56,57,58,59] [500000,500001] (zB (zI (decide (s762 < (x742.Rects.length : Int))) (fun hb=>?_) fun hb=>?_))
 replace h:=iteT hb h
 refine y4 [1,7,49,50,51,56,57,58] [500000,500001] (zB (zC (z7 ?_)))
 obtain ⟨x791,hx791,h⟩:=bindS h
 refine evs_op (st_idx (c:=c_Rect) (l:=x742.Rects) (i:=s762) (kd:=.i64) (sz:=4) (by kernel_rfl) hx791 rfl) (y1 3 [1,7,11,49,50,51,56,57,58] [11,500000,500001] (zB ?_))
 obtain ⟨j795,hj795,h⟩:=bindS h
 refine zT ⟨[(1,.ptr 500000 0),(7,.ptr 500001 0),(49,s_Piece l.Pieces),(50,vI (l.Pieces.length : Int)),(51,vI s557),(56,s_Rect x742.Rects),(57,vI (x742.Rects.length : Int)),(58,vI s762),(79,vB j795)],[(500000,.box (c_LayoutT l)),(500001,.box [(vI 0),(vI 0),(vI l.Sheet.Width),(vI l.Sheet.Height)])]⟩ ?_ fun τ hτ=>?_
 replace h:=hj795
 refine zA 2 ?_
 obtain ⟨r796,hr796,h⟩:=bindS h
 refine evs_callP [] (by kernel_rfl) (W.geom_Inside_ok hr796) (by kernel_rfl) (.inl rfl) (by kernel_rfl) (zA 2 (zS r796 (fun b0=>⟨[(1,.ptr 500000 0),(7,.ptr 500001 0),(11,.ptr 11 0),(49,s_Piece l.Pieces),(50,vI (l.Pieces.length : Int)),(51,vI s557),(56,s_Rect x742.Rects),(57,vI (x742.Rects.length : Int)),(58,vI s762),(66,vB (!b0))],[(11,.box (c_Rect x791)),(500000,.box (c_LayoutT l)),(500001,.box [(vI 0),(vI 0),(vI l.Sheet.Width),(vI l.Sheet.Height)])]⟩) (fun hb=>?_) fun hb=>?_))
 replace h:=iteT hb h
 refine zA 4 ?_
 obtain ⟨r797,hr797,h⟩:=bindS h
 refine evs_callP [] (by kernel_rfl) (W.cut_meets_ok hr797) (by kernel_rfl) (.inl rfl) (by kernel_rfl) (zA 2 (zS r797 (fun b0=>⟨[(1,.ptr 500000 0),(7,.ptr 500001 0),(11,.ptr 11 0),(49,s_Piece l.Pieces),(50,vI (l.Pieces.length : Int)),(51,vI s557),(56,s_Rect x742.Rects),(57,vI (x742.Rects.length : Int)),(58,vI s762),(73,vB b0)],[(11,.box (c_Rect x791)),(500000,.box (c_LayoutT l)),(500001,.box [(vI 0),(vI 0),(vI l.Sheet.Width),(vI l.Sheet.Height)])]⟩) (fun hb=>?_) fun hb=>?_))
 replace h:=iteT hb h
 refine z6 6 fun τ hτ=>?_
 obtain rfl:=osi h
 exact zG hτ
 replace h:=iteF hb h
 refine zA 4 ?_
 obtain ⟨r798,hr798,h⟩:=bindS h
 refine evs_callP [] (by kernel_rfl) (W.cut_meets_ok hr798) (by kernel_rfl) (.inl rfl) (by kernel_rfl) (z6 1 fun τ hτ=>?_)
 obtain rfl:=osi h
 exact zG hτ
 replace h:=iteF hb h
 refine z6 13 fun τ hτ=>?_
 obtain rfl:=osi h
 exact zG hτ
 refine yE hτ [1,7,49,50,51,56,57,58,79] [500000,500001] (zI j795 (fun hb=>?_) fun hb=>?_)
 replace h:=iteT hb h
 refine z8 1 ⟨[(2,vI 13)],[]⟩ fun τ hτ=>?_
 refine bl_ret (th_ret ?_)
 obtain rfl:=osi h
 exact zF hτ
 replace h:=iteF hb h
 refine zM fun τ hτ=>?_
 refine bl_normal (yE hτ [1,7,49,50,51,56,57,58] [500000,500001] (zD (z6 2 fun τ hτ=>?_)))
 obtain rfl:=osi h
 exact zH hτ
 replace h:=iteF hb h
 refine zL 4 fun τ hτ=>?_
 refine th_exit ?_
 obtain rfl:=osi h
 exact zF hτ
 intro x
 rcases x with _ | _ <;> rfl
 intro τ hτ
 rcases x799 with j800 | j801
 refine bl_ret (bl_ret (th_ret ?_))
 obtain rfl:=osi h
 exact zF hτ
 refine zQ (bl_normal (yE hτ [1,7,49,50,51] [500000,500001] (zD (z6 2 fun τ hτ=>?_))))
 obtain rfl:=osi h
 exact zH hτ
 replace h:=iteF hb h
 refine zL 2 fun τ hτ=>?_
 refine th_exit ?_
 obtain rfl:=osi h
 exact zF hτ
 intro x
 rcases x with _ | _ <;> rfl
 intro τ hτ
 rcases x802 with j803 | j804
 refine bl_ret (th_ret ?_)
 obtain rfl:=osi h
 exact zV hτ [(2,vI 13)]
 refine zQ (yE hτ [1] [500000] (zB (z7 (zA 2 (evs_op (st_len (c:=c_Piece) (l:=l.Pieces) (x:=(s_Piece l.Pieces)) (by kernel_rfl) (by kernel_rfl)) (y1 1 [1,83,84,85] [500000] ?_))))))
 refine zC ?_
 obtain ⟨x3152,hx3152,h⟩:=bindS h
 refine sem_loopS (fun (s2371 : Int)=>⟨[(1,.ptr 500000 0),(83,s_Piece l.Pieces),(84,vI (l.Pieces.length : Int)),(85,vI s2371)],[(500000,.box (c_LayoutT l))]⟩) (fun (x3152 : Unit ⊕ Unit)=>match x3152 with | .inl j3153=>(.ret,⟨[(2,vI 7)],[]⟩) | .inr j3154=>(.exit 6,⟨[],[]⟩)) (cut_Validate_l6 l) 0 x3152 (by kernel_rfl) (here (by kernel_rfl)) hx3152 ?_ ?_ ?_
 intro s2371 r h
 refine y3 1 [1,83,84,85,86] [500000] (zB (zI (decide (s2371 < (l.Pieces.length : Int))) (fun hb=>?_) fun hb=>?_))
 replace h:=iteT hb h
 refine y4 [1,83,84,85] [500000] (zB (zC (z7 (zA 1 ?_))))
 obtain ⟨x2958,hx2958,h⟩:=bindS h
 refine evs_op (st_idx (c:=c_Piece) (l:=l.Pieces) (i:=s2371) (kd:=.i64) (sz:=7) (by kernel_rfl) hx2958 rfl) (y1 4 [1,12,13,83,84,85] [13,500000] (z7 (zA 3 ?_)))
 obtain ⟨l2960,hl2960,h⟩:=bindS h
 refine evs_op (st_slH (c:=c_Piece) (l:=l.Pieces) (sz:=7) (hi:=s2371) (k2:=.i64) (by kernel_rfl) hl2960) (evs_op (st_len (c:=c_Piece) (l:=l2960) (x:=(s_Piece l2960)) (by kernel_rfl) (by kernel_rfl)) (y1 1 [1,13,83,84,85,93,94,95] [13,500000] (zC ?_)))
 obtain ⟨x3149,hx3149,h⟩:=bindS h
 refine sem_loopS (fun (s3024 : Int)=>⟨[(1,.ptr 500000 0),(13,.ptr 500001 0),(83,s_Piece l.Pieces),(84,vI (l.Pieces.length : Int)),(85,vI s2371),(93,s_Piece l2960),(94,vI (l2960.length : Int)),(95,vI s3024)],[(500000,.box (c_LayoutT l)),(500001,.box (c_Piece x2958))]⟩) (fun (x3149 : Unit ⊕ Unit)=>match x3149 with | .inl j3150=>(.ret,⟨[(2,vI 7)],[]⟩) | .inr j3151=>(.exit 8,⟨[(1,.ptr 500000 0),(83,s_Piece l.Pieces),(84,vI (l.Pieces.length : Int)),(85,vI s2371)],[(500000,.box (c_LayoutT l))]⟩)) (cut_Validate_l5 x2958 l2960) 0 x3149 (by kernel_rfl) (subR_prep [] [(13,500001),(500000,500000)] (by kernel_rfl) rfl rfl (by kernel_rfl)) hx3149 ?_ ?_ ?_
 intro s3024 r h
 refine y3 1 [1,13,83,84,85,93,94,95,96] [500000,500001] (zB (zI (decide (s3024 < (l2960.length : Int))) (fun hb=>?_) fun hb=>?_))
 replace h:=iteT hb h
 refine y4 [1,13,83,84,85,93,94,95] [500000,500001] (zB (zC (z7 ?_)))
 obtain ⟨x3119,hx3119,h⟩:=bindS h
 refine evs_op (st_idx (c:=c_Piece) (l:=l2960) (i:=s3024) (kd:=.i64) (sz:=7) (by kernel_rfl) hx3119 rfl) (y1 3 [1,13,15,83,84,85,93,94,95] [15,500000,500001] (z7 (zA 2 (evs_op (st_len (c:=c_Rect) (l:=x2958.Rects) (x:=(s_Rect x2958.Rects)) (by kernel_rfl) (by kernel_rfl)) (y1 1 [1,13,15,83,84,85,93,94,95,100,101,102] [15,500000,500001] (zC ?_))))))
 obtain ⟨x3146,hx3146,h⟩:=bindS h
 refine sem_loopS (fun (s3129 : Int)=>⟨[(1,.ptr 500000 0),(13,.ptr 500001 0),(15,.ptr 500002 0),(83,s_Piece l.Pieces),(84,vI (l.Pieces.length : Int)),(85,vI s2371),(93,s_Piece l2960),(94,vI (l2960.length : Int)),(95,vI s3024),(100,s_Rect x2958.Rects),(101,vI (x2958.Rects.length : Int)),(102,vI s3129)],[(500000,.box (c_LayoutT l)),(500001,.box (c_Piece x2958)),(500002,.box (c_Piece x3119))]⟩) (fun (x3146 : Unit ⊕ Unit)=>match x3146 with | .inl j3147=>(.ret,⟨[(2,vI 7)],[]⟩) | .inr j3148=>(.exit 10,⟨[(1,.ptr 500000 0),(13,.ptr 500001 0),(83,s_Piece l.Pieces),(84,vI (l.Pieces.length : Int)),(85,vI s2371),(93,s_Piece l2960),(94,vI (l2960.length : Int)),(95,vI s3024)],[(500000,.box (c_LayoutT l)),(500001,.box (c_Piece x2958))]⟩)) (cut_Validate_l4 x2958 x3119) 0 x3146 (by kernel_rfl) (subR_prep [] [(15,500002),(500000,500000),(500001,500001)] (by kernel_rfl) rfl rfl (by kernel_rfl)) hx3146 ?_ ?_ ?_
 intro s3129 r h
 refine y3 1 [1,13,15,83,84,85,93,94,95,100,101,102,103] [500000,500001,500002] (zB (zI (decide (s3129 < (x2958.Rects.length : Int))) (fun hb=>?_) fun hb=>?_))
 replace h:=iteT hb h
 refine y4 [1,13,15,83,84,85,93,94,95,100,101,102] [500000,500001,500002] (zB (zC (z7 ?_)))
 obtain ⟨x3143,hx3143,h⟩:=bindS h
 refine evs_op (st_idx (c:=c_Rect) (l:=x2958.Rects) (i:=s3129) (kd:=.i64) (sz:=4) (by kernel_rfl) hx3143 rfl) (y1 3 [1,13,15,17,83,84,85,93,94,95,100,101,102] [17,500000,500001,500002] (z7 (zA 3 ?_)))
 obtain ⟨r3145,hr3145,h⟩:=bindS h
 refine evs_callP [] (by kernel_rfl) (W.cut_meets_ok hr3145) (by kernel_rfl) (.inl rfl) (by kernel_rfl) (zP fun τ hτ=>?_)
 refine yE hτ [1,13,15,83,84,85,93,94,95,100,101,102,109] [500000,500001,500002] (zI r3145 (fun hb=>?_) fun hb=>?_)
 replace h:=iteT hb h
 refine z8 1 ⟨[(2,vI 7)],[]⟩ fun τ hτ=>?_
 refine bl_ret (th_ret ?_)
 obtain rfl:=osi h
 exact zF hτ
 replace h:=iteF hb h
 refine zM fun τ hτ=>?_
 refine bl_normal (yE hτ [1,13,15,83,84,85,93,94,95,100,101,102] [500000,500001,500002] (zD (z6 2 fun τ hτ=>?_)))
 obtain rfl:=osi h
 exact zH hτ
 replace h:=iteF hb h
 refine zL 10 fun τ hτ=>?_
 refine th_exit ?_
 obtain rfl:=osi h
 exact zF hτ
 intro x
 rcases x with _ | _ <;> rfl
 intro τ hτ
 rcases x3146 with j3147 | j3148
 refine bl_ret (bl_ret (th_ret ?_))
 obtain rfl:=osi h
 exact zF hτ
 refine zQ (bl_normal (yE hτ [1,13,83,84,85,93,94,95] [500000,500001] (zD (z6 2 fun τ hτ=>?_))))
 obtain rfl:=osi h
 exact zH hτ
 replace h:=iteF hb h
 refine zL 8 fun τ hτ=>?_
 refine th_exit ?_
 obtain rfl:=osi h
 exact zF hτ
 intro x
 rcases x with _ | _ <;> rfl
 intro τ hτ
 rcases x3149 with j3150 | j3151
 refine bl_ret (bl_ret (th_ret ?_))
 obtain rfl:=osi h
 exact zF hτ
 refine zQ (bl_normal (yE hτ [1,83,84,85] [500000] (zD (z6 2 fun τ hτ=>?_))))
 obtain rfl:=osi h
 exact zH hτ
 replace h:=iteF hb h
 refine zL 6 fun τ hτ=>?_
 refine th_exit ?_
 obtain rfl:=osi h
 exact zF hτ
 intro x
 rcases x with _ | _ <;> rfl
 intro τ hτ
 rcases x3152 with j3153 | j3154
 refine bl_ret (th_ret ?_)
 obtain rfl:=osi h
 exact zV hτ [(2,vI 7)]
 refine zQ (yE hτ [] [] (z8 1 ⟨[(2,vI 0)],[]⟩ fun τ hτ=>?_))
 obtain rfl:=osi h
 exact zV hτ [(2,vI 0)]
theorem W.sheetmetalref02_within_ok {n : Int} {lo : Int} {hi : Int} {r : Bool} (h : sheetmetalref02_within n lo hi=some r) : PC G.P 177 [(vI n),(vI lo),(vI hi)] [] (vB r) []:=by
 refine zU G Tryz.func177 (yK [0,1,2] [] (y3 1 [0,1,2] [] (zB ?_)))
 obtain ⟨j1,hj1,h⟩:=bindS h
 refine zT ⟨[(6,vB j1)],[]⟩ ?_ fun τ hτ=>?_
 replace h:=hj1
 refine zA 4 (zS (decide (n ≥ lo)) (fun b0=>⟨[(0,vI n),(2,vI hi),(10,vB b0)],[]⟩) (fun hb=>?_) fun hb=>?_)
 replace h:=iteT hb h
 refine z6 5 fun τ hτ=>?_
 obtain rfl:=osi h
 exact zG hτ
 replace h:=iteF hb h
 refine z6 5 fun τ hτ=>?_
 obtain rfl:=osi h
 exact zG hτ
 refine yE hτ [6] [] (zN fun τ hτ=>?_)
 obtain rfl:=osi h
 exact zV hτ [(6,vB j1)]
theorem W.sheetmetalref02_reserved_ok {r : ByteArray} (h : sheetmetalref02_reserved=some r) : PC G.P 179 [] [] (vS r) []:=by
 refine zU G Tryz.func179 (yK [] [] (y3 1 [] [] (z8 1 ⟨[(0,vS (ByteArray.mk #[32,112,97,114,116,32,109,97,116,101,114,105,97,108,32,98,97,115,101,32,102,108,97,110,103,101,32,104,111,108,101,32,99,117,116,32,102,111,114,109,32,101,97,115,116,32,115,111,117,116,104,32,119,101,115,116,32,110,111,114,116,104,32,117,112,32,100,111,119,110,32,99,108,111,115,101,117,112,32,99,108,111,115,101,100,111,119,110,32,103,114,97,105,110,32,120,32,121,32,116,97,98,108,101,32,97,110,103,108,101,32,109,97,99,104,105,110,101,32,112,117,110,99,104,32,100,105,101,32,102,114,97,109,101,32,103,97,117,103,101,32,112,111,108,121,32,115,116,97,116,105,111,110,115,32]))],[]⟩ fun τ hτ=>?_)))
 obtain rfl:=osi h
 exact zV hτ [(0,vS (ByteArray.mk #[32,112,97,114,116,32,109,97,116,101,114,105,97,108,32,98,97,115,101,32,102,108,97,110,103,101,32,104,111,108,101,32,99,117,116,32,102,111,114,109,32,101,97,115,116,32,115,111,117,116,104,32,119,101,115,116,32,110,111,114,116,104,32,117,112,32,100,111,119,110,32,99,108,111,115,101,117,112,32,99,108,111,115,101,100,111,119,110,32,103,114,97,105,110,32,120,32,121,32,116,97,98,108,101,32,97,110,103,108,101,32,109,97,99,104,105,110,101,32,112,117,110,99,104,32,100,105,101,32,102,114,97,109,101,32,103,97,117,103,101,32,112,111,108,121,32,115,116,97,116,105,111,110,115,32]))]
theorem W.sheetmetalref02_isWord_ok {text : ByteArray} {s1 : ByteArray} {r : Bool} (h : sheetmetalref02_isWord text s1=some r) : PC G.P 178 [(vS text),(vS s1)] [] (vB r) []:=by
 refine zU G Tryz.func178 (yK [0,1] [] (y3 1 [0,1] [] (zB (y3 1 [0,1,5] [] (zC ?_)))))
 obtain ⟨x80,hx80,h⟩:=bindS h
 refine sem_loopS (fun (s55 : Int)=>⟨[(0,vS text),(1,vS s1),(5,vI s55)],[]⟩) (fun (x80 : Unit ⊕ Unit)=>match x80 with | .inl j81=>(.ret,⟨[(4,vB true)],[]⟩) | .inr j82=>(.exit 0,⟨[],[]⟩)) (sheetmetalref02_isWord_l1 text s1) 0 x80 (by kernel_rfl) (here (by kernel_rfl)) hx80 ?_ ?_ ?_
 intro s55 r h
 refine zB (y3 8 [0,1,5,13] [] (zI (decide ((iadd (iadd s55 (s1.size : Int)) 2)≤(text.size : Int))) (fun hb=>?_) fun hb=>?_))
 replace h:=iteT hb h
 refine y4 [0,1,5] [] (zB (zC (z7 (zA 7 ?_))))
 obtain ⟨s77,hs77,h⟩:=bindS h
 refine evs_at (at_ssl (s:=text) (lo:=s55) (hi:=(iadd (iadd s55 (s1.size : Int)) 2)) (k1:=.i64) (k2:=.i64) (by kernel_rfl) hs77) (zA 1 ?_)
 obtain ⟨s78,hs78,h⟩:=bindS h
 refine evs_op (st_cat (a:=(ByteArray.mk #[32])) (b:=s1) (by kernel_rfl) hs78) ?_
 obtain ⟨s79,hs79,h⟩:=bindS h
 refine evs_op (st_cat (a:=s78) (b:=(ByteArray.mk #[32])) (by kernel_rfl) hs79) (y1 1 [0,1,5,27] [] (zI (s77.toList==s79.toList) (fun hb=>?_) fun hb=>?_))
 replace h:=iteT hb h
 refine z8 1 ⟨[(4,vB true)],[]⟩ fun τ hτ=>?_
 refine bl_ret (th_ret ?_)
 obtain rfl:=osi h
 exact zF hτ
 replace h:=iteF hb h
 refine zM fun τ hτ=>?_
 refine bl_normal (yE hτ [0,1,5] [] (zD (z6 3 fun τ hτ=>?_)))
 obtain rfl:=osi h
 exact zH hτ
 replace h:=iteF hb h
 refine zL 0 fun τ hτ=>?_
 refine th_exit ?_
 obtain rfl:=osi h
 exact zF hτ
 intro x
 rcases x with _ | _ <;> rfl
 intro τ hτ
 rcases x80 with j81 | j82
 refine bl_ret (th_ret ?_)
 obtain rfl:=osi h
 exact zV hτ [(4,vB true)]
 refine zQ (yE hτ [] [] (z8 1 ⟨[(4,vB false)],[]⟩ fun τ hτ=>?_))
 obtain rfl:=osi h
 exact zV hτ [(4,vB false)]
theorem W.sheetmetalref02_ValidName_ok {s0 : ByteArray} {r : Bool} (h : sheetmetalref02_ValidName s0=some r) : PC G.P 148 [(vS s0)] [] (vB r) []:=by
 refine zU G Tryz.func148 (yK [0] [] (y3 1 [0] [] (zB (zB ?_))))
 obtain ⟨j11,hj11,h⟩:=bindS h
 refine zT ⟨[(0,vS s0),(18,vB j11)],[]⟩ ?_ fun τ hτ=>?_
 replace h:=hj11
 refine zA 2 ?_
 obtain ⟨r12,hr12,h⟩:=bindS h
 refine evs_callP [] (by kernel_rfl) (W.sheetmetalref02_within_ok hr12) (by kernel_rfl) (.inl rfl) (by kernel_rfl) (zA 2 (zS r12 (fun b0=>⟨[(0,vS s0),(9,vB (!b0))],[]⟩) (fun hb=>?_) fun hb=>?_))
 replace h:=iteT hb h
 refine zA 1 ?_
 obtain ⟨x13,hx13,h⟩:=bindS h
 refine evs_at (at_sidx (s:=s0) (i:=0) (kd:=.i64) (by kernel_rfl) hx13) (zA 3 (zS (decide (x13 < 97)) (fun b0=>⟨[(0,vS s0),(14,vB b0)],[]⟩) (fun hb=>?_) fun hb=>?_))
 replace h:=iteT hb h
 refine z6 4 fun τ hτ=>?_
 obtain rfl:=osi h
 exact zG hτ
 replace h:=iteF hb h
 refine zA 1 ?_
 obtain ⟨x14,hx14,h⟩:=bindS h
 refine evs_at (at_sidx (s:=s0) (i:=0) (kd:=.i64) (by kernel_rfl) hx14) (z6 2 fun τ hτ=>?_)
 obtain rfl:=osi h
 exact zG hτ
 replace h:=iteF hb h
 refine z6 9 fun τ hτ=>?_
 obtain rfl:=osi h
 exact zG hτ
 refine yE hτ [0,18] [] (zI j11 (fun hb=>?_) fun hb=>?_)
 replace h:=iteT hb h
 refine z8 1 ⟨[(2,vB false)],[]⟩ fun τ hτ=>?_
 refine th_ret ?_
 obtain rfl:=osi h
 exact zV hτ [(2,vB false)]
 replace h:=iteF hb h
 refine y4 [0] [] (zB (y3 1 [0,3] [] (zC ?_)))
 obtain ⟨x142,hx142,h⟩:=bindS h
 refine sem_loopS (fun (s101 : Int)=>⟨[(0,vS s0),(3,vI s101)],[]⟩) (fun (x142 : Unit ⊕ Unit)=>match x142 with | .inl j143=>(.ret,⟨[(2,vB false)],[]⟩) | .inr j144=>(.exit 0,⟨[(0,vS s0)],[]⟩)) (sheetmetalref02_ValidName_l1 s0) 0 x142 (by kernel_rfl) (here (by kernel_rfl)) hx142 ?_ ?_ ?_
 intro s101 r h
 refine zB (y3 4 [0,3,22] [] (zI (decide (s101 < (s0.size : Int))) (fun hb=>?_) fun hb=>?_))
 replace h:=iteT hb h
 refine y4 [0,3] [] (zB (zC (zB ?_)))
 obtain ⟨j134,hj134,h⟩:=bindS h
 refine zT ⟨[(0,vS s0),(3,vI s101),(4,vB j134)],[]⟩ ?_ fun τ hτ=>?_
 replace h:=hj134
 refine zA 2 ?_
 obtain ⟨x135,hx135,h⟩:=bindS h
 refine evs_at (at_sidx (s:=s0) (i:=s101) (kd:=.i64) (by kernel_rfl) hx135) (zA 2 (zS (decide (x135 ≥ 97)) (fun b0=>⟨[(0,vS s0),(3,vI s101),(29,vB b0)],[]⟩) (fun hb=>?_) fun hb=>?_))
 replace h:=iteT hb h
 refine zA 2 ?_
 obtain ⟨x136,hx136,h⟩:=bindS h
 refine evs_at (at_sidx (s:=s0) (i:=s101) (kd:=.i64) (by kernel_rfl) hx136) (z6 3 fun τ hτ=>?_)
 obtain rfl:=osi h
 exact zG hτ
 replace h:=iteF hb h
 refine z6 6 fun τ hτ=>?_
 obtain rfl:=osi h
 exact zG hτ
 refine yE hτ [0,3,4] [] (zB ?_)
 obtain ⟨j139,hj139,h⟩:=bindS h
 refine zT ⟨[(0,vS s0),(3,vI s101),(48,vB j139)],[]⟩ ?_ fun τ hτ=>?_
 replace h:=hj139
 refine zA 3 (zS j134 (fun b0=>⟨[(0,vS s0),(3,vI s101),(37,vB (!b0))],[]⟩) (fun hb=>?_) fun hb=>?_)
 replace h:=iteT hb h
 refine z6 11 fun τ hτ=>?_
 obtain rfl:=osi h
 exact zG hτ
 replace h:=iteF hb h
 refine zA 2 ?_
 obtain ⟨x140,hx140,h⟩:=bindS h
 refine evs_at (at_sidx (s:=s0) (i:=s101) (kd:=.i64) (by kernel_rfl) hx140) (zA 2 (zS (decide (x140 < 48)) (fun b0=>⟨[(0,vS s0),(3,vI s101),(37,vB true),(42,vB b0)],[]⟩) (fun hb=>?_) fun hb=>?_))
 replace h:=iteT hb h
 refine z6 6 fun τ hτ=>?_
 obtain rfl:=osi h
 exact zG hτ
 replace h:=iteF hb h
 refine zA 2 ?_
 obtain ⟨x141,hx141,h⟩:=bindS h
 refine evs_at (at_sidx (s:=s0) (i:=s101) (kd:=.i64) (by kernel_rfl) hx141) (z6 3 fun τ hτ=>?_)
 obtain rfl:=osi h
 exact zG hτ
 refine yE hτ [0,3,48] [] (zI j139 (fun hb=>?_) fun hb=>?_)
 replace h:=iteT hb h
 refine z8 1 ⟨[(2,vB false)],[]⟩ fun τ hτ=>?_
 refine bl_ret (th_ret ?_)
 obtain rfl:=osi h
 exact zF hτ
 replace h:=iteF hb h
 refine zM fun τ hτ=>?_
 refine bl_normal (yE hτ [0,3] [] (zD (z6 3 fun τ hτ=>?_)))
 obtain rfl:=osi h
 exact zH hτ
 replace h:=iteF hb h
 refine zL 0 fun τ hτ=>?_
 refine th_exit ?_
 obtain rfl:=osi h
 exact zF hτ
 intro x
 rcases x with _ | _ <;> rfl
 intro τ hτ
 rcases x142 with j143 | j144
 refine bl_ret (th_ret ?_)
 obtain rfl:=osi h
 exact zV hτ [(2,vB false)]
 refine zQ (yE hτ [0] [] (z7 ?_))
 obtain ⟨r147,hr147,h⟩:=bindS h
 refine evs_callP [] (by kernel_rfl) (W.sheetmetalref02_reserved_ok hr147) (by kernel_rfl) (.inl rfl) (by kernel_rfl) (zA 1 ?_)
 obtain ⟨r148,hr148,h⟩:=bindS h
 refine evs_callP [] (by kernel_rfl) (W.sheetmetalref02_isWord_ok hr148) (by kernel_rfl) (.inl rfl) (by kernel_rfl) (y1 2 [2] [] (zN fun τ hτ=>?_))
 obtain rfl:=osi h
 exact zV hτ [(2,vB (!r148))]
theorem W.sheetmetalref06_stuff_ok {name : ByteArray} {material : ByteArray} {gauge : Int} {grain : Int} {r : Int} (h : sheetmetalref06_stuff name material gauge grain=some r) : PC G.P 95 [(vS name),(vS material),(vI gauge),(vI grain)] [] (vI r) []:=by
 refine zU G Tryz.func95 (yK [0,1,2,3] [] (y3 1 [0,1,2,3] [] (zB (zB ?_))))
 obtain ⟨j8,hj8,h⟩:=bindS h
 refine zT ⟨[(2,vI gauge),(3,vI grain),(16,vB j8)],[]⟩ ?_ fun τ hτ=>?_
 replace h:=hj8
 refine zA 1 ?_
 obtain ⟨r9,hr9,h⟩:=bindS h
 refine evs_callP [] (by kernel_rfl) (W.sheetmetalref02_ValidName_ok hr9) (by kernel_rfl) (.inl rfl) (by kernel_rfl) (zA 2 (zS r9 (fun b0=>⟨[(1,vS material),(2,vI gauge),(3,vI grain),(12,vB (!b0))],[]⟩) (fun hb=>?_) fun hb=>?_))
 replace h:=iteT hb h
 refine zA 1 ?_
 obtain ⟨r10,hr10,h⟩:=bindS h
 refine evs_callP [] (by kernel_rfl) (W.sheetmetalref02_ValidName_ok hr10) (by kernel_rfl) (.inl rfl) (by kernel_rfl) (z6 2 fun τ hτ=>?_)
 obtain rfl:=osi h
 exact zG hτ
 replace h:=iteF hb h
 refine z6 4 fun τ hτ=>?_
 obtain rfl:=osi h
 exact zG hτ
 refine yE hτ [2,3,16] [] (zI j8 (fun hb=>?_) fun hb=>?_)
 replace h:=iteT hb h
 refine z8 1 ⟨[(8,vI 2)],[]⟩ fun τ hτ=>?_
 refine th_ret ?_
 obtain rfl:=osi h
 exact zV hτ [(8,vI 2)]
 replace h:=iteF hb h
 refine y4 [2,3] [] (zB (zB ?_))
 obtain ⟨j12,hj12,h⟩:=bindS h
 refine zT ⟨[(30,vB j12)],[]⟩ ?_ fun τ hτ=>?_
 replace h:=hj12
 refine zA 3 (zS (decide (gauge < 1)) (fun b0=>⟨[(2,vI gauge),(3,vI grain),(19,vB b0)],[]⟩) (fun hb=>?_) fun hb=>?_)
 replace h:=iteT hb h
 refine z6 11 fun τ hτ=>?_
 obtain rfl:=osi h
 exact zG hτ
 replace h:=iteF hb h
 refine zA 4 (zS (decide (gauge > 60)) (fun b0=>⟨[(3,vI grain),(23,vB b0)],[]⟩) (fun hb=>?_) fun hb=>?_)
 replace h:=iteT hb h
 refine z6 7 fun τ hτ=>?_
 obtain rfl:=osi h
 exact zG hτ
 replace h:=iteF hb h
 refine zA 4 (zS (decide (grain < 0)) (fun b0=>⟨[(3,vI grain),(27,vB b0)],[]⟩) (fun hb=>?_) fun hb=>?_)
 replace h:=iteT hb h
 refine z6 3 fun τ hτ=>?_
 obtain rfl:=osi h
 exact zG hτ
 replace h:=iteF hb h
 refine z6 3 fun τ hτ=>?_
 obtain rfl:=osi h
 exact zG hτ
 refine yE hτ [30] [] (zI j12 (fun hb=>?_) fun hb=>?_)
 replace h:=iteT hb h
 refine z8 1 ⟨[(8,vI 1)],[]⟩ fun τ hτ=>?_
 refine th_ret ?_
 obtain rfl:=osi h
 exact zV hτ [(8,vI 1)]
 replace h:=iteF hb h
 refine y4 [] [] (z8 1 ⟨[(8,vI 0)],[]⟩ fun τ hτ=>?_)
 obtain rfl:=osi h
 exact zV hτ [(8,vI 0)]
theorem W.sheetmetalref06_near_ok {n : Int} {r : Bool} (h : sheetmetalref06_near n=some r) : PC G.P 139 [(vI n)] [] (vB r) []:=by
 refine zU G Tryz.func139 (yK [0] [] (y3 1 [0] [] (zB ?_)))
 obtain ⟨j1,hj1,h⟩:=bindS h
 refine zT ⟨[(2,vB j1)],[]⟩ ?_ fun τ hτ=>?_
 replace h:=hj1
 refine zA 3 (zS (decide (n ≥ (-1048576))) (fun b0=>⟨[(0,vI n),(5,vB b0)],[]⟩) (fun hb=>?_) fun hb=>?_)
 replace h:=iteT hb h
 refine z6 4 fun τ hτ=>?_
 obtain rfl:=osi h
 exact zG hτ
 replace h:=iteF hb h
 refine z6 4 fun τ hτ=>?_
 obtain rfl:=osi h
 exact zG hτ
 refine yE hτ [2] [] (zN fun τ hτ=>?_)
 obtain rfl:=osi h
 exact zV hτ [(2,vB j1)]
theorem W.sheetmetalref06_Right_ok {r0 : Rect} {r : Bool} (h : sheetmetalref06_Right r0=some r) : PC G.P 103 [(.agg (c_Rect r0))] [] (vB r) []:=by
 refine zU G Tryz.func103 (yK [0] [] (y3 2 [1] [1] (zB (zB ?_))))
 obtain ⟨j8,hj8,h⟩:=bindS h
 refine zT ⟨[(1,.ptr 500000 0),(32,vB j8)],[(500000,.box (c_Rect r0))]⟩ ?_ fun τ hτ=>?_
 replace h:=hj8
 refine zA 2 ?_
 obtain ⟨r9,hr9,h⟩:=bindS h
 refine evs_callP [] (by kernel_rfl) (W.sheetmetalref06_near_ok hr9) (by kernel_rfl) (.inl rfl) (by kernel_rfl) (zA 2 (zS r9 (fun b0=>⟨[(1,.ptr 1 0),(7,vB (!b0))],[(1,.box (c_Rect r0))]⟩) (fun hb=>?_) fun hb=>?_))
 replace h:=iteT hb h
 refine zA 2 ?_
 obtain ⟨r10,hr10,h⟩:=bindS h
 refine evs_callP [] (by kernel_rfl) (W.sheetmetalref06_near_ok hr10) (by kernel_rfl) (.inl rfl) (by kernel_rfl) (zA 3 (zS r10 (fun b0=>⟨[(1,.ptr 1 0),(13,vB (!b0))],[(1,.box (c_Rect r0))]⟩) (fun hb=>?_) fun hb=>?_))
 replace h:=iteT hb h
 refine zA 5 (zS (decide (r0.W < 1)) (fun b0=>⟨[(1,.ptr 1 0),(18,vB b0)],[(1,.box (c_Rect r0))]⟩) (fun hb=>?_) fun hb=>?_)
 replace h:=iteT hb h
 refine z6 14 fun τ hτ=>?_
 obtain rfl:=osi h
 exact leafC hτ (subR_prep [] [(1,500000)] (by kernel_rfl) rfl rfl (by kernel_rfl))
 replace h:=iteF hb h
 refine zA 5 (zS (decide (r0.H < 1)) (fun b0=>⟨[(1,.ptr 1 0),(23,vB b0)],[(1,.box (c_Rect r0))]⟩) (fun hb=>?_) fun hb=>?_)
 replace h:=iteT hb h
 refine z6 9 fun τ hτ=>?_
 obtain rfl:=osi h
 exact leafC hτ (subR_prep [] [(1,500000)] (by kernel_rfl) rfl rfl (by kernel_rfl))
 replace h:=iteF hb h
 refine zA 5 (zS (decide (r0.W > 2097152)) (fun b0=>⟨[(1,.ptr 1 0),(28,vB b0)],[(1,.box (c_Rect r0))]⟩) (fun hb=>?_) fun hb=>?_)
 replace h:=iteT hb h
 refine z6 4 fun τ hτ=>?_
 obtain rfl:=osi h
 exact leafC hτ (subR_prep [] [(1,500000)] (by kernel_rfl) rfl rfl (by kernel_rfl))
 replace h:=iteF hb h
 refine z6 4 fun τ hτ=>?_
 obtain rfl:=osi h
 exact leafC hτ (subR_prep [] [(1,500000)] (by kernel_rfl) rfl rfl (by kernel_rfl))
 replace h:=iteF hb h
 refine z6 19 fun τ hτ=>?_
 obtain rfl:=osi h
 exact leafC hτ (subR_prep [] [(1,500000)] (by kernel_rfl) rfl rfl (by kernel_rfl))
 replace h:=iteF hb h
 refine z6 25 fun τ hτ=>?_
 obtain rfl:=osi h
 exact leafC hτ (subR_prep [] [(1,500000)] (by kernel_rfl) rfl rfl (by kernel_rfl))
 refine yE hτ [1,32] [500000] (zI j8 (fun hb=>?_) fun hb=>?_)
 replace h:=iteT hb h
 refine z8 1 ⟨[(2,vB false)],[]⟩ fun τ hτ=>?_
 refine th_ret ?_
 obtain rfl:=osi h
 exact zV hτ [(2,vB false)]
 replace h:=iteF hb h
 refine y4 [1] [500000] (zB ?_)
 obtain ⟨j13,hj13,h⟩:=bindS h
 refine zT ⟨[(2,vB j13)],[]⟩ ?_ fun τ hτ=>?_
 replace h:=hj13
 refine zA 5 ?_
 obtain ⟨r14,hr14,h⟩:=bindS h
 refine evs_callP [] (by kernel_rfl) (W.sheetmetalref06_near_ok hr14) (by kernel_rfl) (.inl rfl) (by kernel_rfl) (zA 1 (zS r14 (fun b0=>⟨[(1,.ptr 500000 0),(39,vB b0)],[(500000,.box (c_Rect r0))]⟩) (fun hb=>?_) fun hb=>?_))
 replace h:=iteT hb h
 refine zA 5 ?_
 obtain ⟨r15,hr15,h⟩:=bindS h
 refine evs_callP [] (by kernel_rfl) (W.sheetmetalref06_near_ok hr15) (by kernel_rfl) (.inl rfl) (by kernel_rfl) (z6 2 fun τ hτ=>?_)
 obtain rfl:=osi h
 exact zG hτ
 replace h:=iteF hb h
 refine z6 8 fun τ hτ=>?_
 obtain rfl:=osi h
 exact zG hτ
 refine yE hτ [2] [] (zN fun τ hτ=>?_)
 obtain rfl:=osi h
 exact zV hτ [(2,vB j13)]
theorem W.sheetmetalref06_Rights_ok {l : (List Rect)} {r : Bool} (h : sheetmetalref06_Rights l=some r) : PC G.P 96 [(.sl (List.map c_Rect l))] [] (vB r) []:=by
 refine zU G Tryz.func96 (yK [0] [] (y3 1 [0] [] (zB (y3 1 [0,3] [] (zC ?_)))))
 obtain ⟨x56,hx56,h⟩:=bindS h
 refine sem_loopS (fun (s39 : Int)=>⟨[(0,s_Rect l),(3,vI s39)],[]⟩) (fun (x56 : Unit ⊕ Unit)=>match x56 with | .inl j57=>(.ret,⟨[(2,vB false)],[]⟩) | .inr j58=>(.exit 0,⟨[],[]⟩)) (sheetmetalref06_Rights_l1 l) 0 x56 (by kernel_rfl) (here (by kernel_rfl)) hx56 ?_ ?_ ?_
 intro s39 r h
 refine zB (z7 (zA 2 (evs_op (st_len (c:=c_Rect) (l:=l) (x:=(s_Rect l)) (by kernel_rfl) (by kernel_rfl)) (y1 1 [0,3,7] [] (zI (decide (s39 < (l.length : Int))) (fun hb=>?_) fun hb=>?_)))))
 replace h:=iteT hb h
 refine y4 [0,3] [] (zB (zC (z7 (zA 2 ?_))))
 obtain ⟨x54,hx54,h⟩:=bindS h
 refine evs_op (st_idx (c:=c_Rect) (l:=l) (i:=s39) (kd:=.i64) (sz:=4) (by kernel_rfl) hx54 rfl) (zA 1 ?_)
 obtain ⟨r55,hr55,h⟩:=bindS h
 refine evs_callP [] (by kernel_rfl) (W.sheetmetalref06_Right_ok hr55) (by kernel_rfl) (.inl rfl) (by kernel_rfl) (y1 1 [0,3,15] [] (zI (!r55) (fun hb=>?_) fun hb=>?_))
 replace h:=iteT hb h
 refine z8 1 ⟨[(2,vB false)],[]⟩ fun τ hτ=>?_
 refine bl_ret (th_ret ?_)
 obtain rfl:=osi h
 exact zF hτ
 replace h:=iteF hb h
 refine zM fun τ hτ=>?_
 refine bl_normal (yE hτ [0,3] [] (zD (z6 3 fun τ hτ=>?_)))
 obtain rfl:=osi h
 exact zH hτ
 replace h:=iteF hb h
 refine zL 0 fun τ hτ=>?_
 refine th_exit ?_
 obtain rfl:=osi h
 exact zF hτ
 intro x
 rcases x with _ | _ <;> rfl
 intro τ hτ
 rcases x56 with j57 | j58
 refine bl_ret (th_ret ?_)
 obtain rfl:=osi h
 exact zV hτ [(2,vB false)]
 refine zQ (yE hτ [] [] (z8 1 ⟨[(2,vB true)],[]⟩ fun τ hτ=>?_))
 obtain rfl:=osi h
 exact zV hτ [(2,vB true)]
theorem W.sheetmetalref06_Within_ok {a : Rect} {b : Rect} {r : Bool} (h : sheetmetalref06_Within a b=some r) : PC G.P 47 [(.agg (c_Rect a)),(.agg (c_Rect b))] [] (vB r) []:=by
 refine zU G Tryz.func47 (yK [0,1] [] (y3 3 [2,3] [2,3] (zB ?_)))
 obtain ⟨j3,hj3,h⟩:=bindS h
 refine zT ⟨[(4,vB j3)],[]⟩ ?_ fun τ hτ=>?_
 replace h:=hj3
 refine zA 1 ?_
 obtain ⟨r4,hr4,h⟩:=bindS h
 refine evs_callP [] (by kernel_rfl) (W.sheetmetalref06_Right_ok hr4) (by kernel_rfl) (.inl rfl) (by kernel_rfl) (zA 1 (zS r4 (fun b0=>⟨[(2,.ptr 2 0),(3,.ptr 3 0),(7,vB b0)],[(2,.box (c_Rect a)),(3,.box (c_Rect b))]⟩) (fun hb=>?_) fun hb=>?_))
 replace h:=iteT hb h
 refine zA 1 ?_
 obtain ⟨r5,hr5,h⟩:=bindS h
 refine evs_callP [] (by kernel_rfl) (W.sheetmetalref06_Right_ok hr5) (by kernel_rfl) (.inl rfl) (by kernel_rfl) (zA 2 (zS r5 (fun b0=>⟨[(2,.ptr 2 0),(3,.ptr 3 0),(11,vB b0)],[(2,.box (c_Rect a)),(3,.box (c_Rect b))]⟩) (fun hb=>?_) fun hb=>?_))
 replace h:=iteT hb h
 refine zA 7 (zS (decide (a.X ≥ b.X)) (fun b0=>⟨[(2,.ptr 2 0),(3,.ptr 3 0),(18,vB b0)],[(2,.box (c_Rect a)),(3,.box (c_Rect b))]⟩) (fun hb=>?_) fun hb=>?_)
 replace h:=iteT hb h
 refine zA 7 (zS (decide (a.Y ≥ b.Y)) (fun b0=>⟨[(2,.ptr 2 0),(3,.ptr 3 0),(25,vB b0)],[(2,.box (c_Rect a)),(3,.box (c_Rect b))]⟩) (fun hb=>?_) fun hb=>?_)
 replace h:=iteT hb h
 refine zA 13 (zS (decide ((iadd a.X a.W)≤(iadd b.X b.W))) (fun b0=>⟨[(2,.ptr 2 0),(3,.ptr 3 0),(38,vB b0)],[(2,.box (c_Rect a)),(3,.box (c_Rect b))]⟩) (fun hb=>?_) fun hb=>?_)
 replace h:=iteT hb h
 refine z6 13 fun τ hτ=>?_
 obtain rfl:=osi h
 exact zG hτ
 replace h:=iteF hb h
 refine z6 13 fun τ hτ=>?_
 obtain rfl:=osi h
 exact zG hτ
 replace h:=iteF hb h
 refine z6 26 fun τ hτ=>?_
 obtain rfl:=osi h
 exact zG hτ
 replace h:=iteF hb h
 refine z6 33 fun τ hτ=>?_
 obtain rfl:=osi h
 exact zG hτ
 replace h:=iteF hb h
 refine z6 40 fun τ hτ=>?_
 obtain rfl:=osi h
 exact zG hτ
 replace h:=iteF hb h
 refine z6 44 fun τ hτ=>?_
 obtain rfl:=osi h
 exact zG hτ
 refine yE hτ [4] [] (zN fun τ hτ=>?_)
 obtain rfl:=osi h
 exact zV hτ [(4,vB j3)]
theorem W.sheetmetalref06_inside_ok {s0 : Sheet} {l : (List Rect)} {r : Bool} (h : sheetmetalref06_inside s0 l=some r) : PC G.P 97 [(.agg (c_Sheet s0)),(.sl (List.map c_Rect l))] [] (vB r) []:=by
 refine zU G Tryz.func97 (yK [0,1] [] (y3 2 [1,2] [2] (zB (y3 1 [1,2,5] [2] (zC ?_)))))
 obtain ⟨x80,hx80,h⟩:=bindS h
 refine sem_loopS (fun (s55 : Int)=>⟨[(1,s_Rect l),(2,.ptr 500000 0),(5,vI s55)],[(500000,.box (c_Sheet s0))]⟩) (fun (x80 : Unit ⊕ Unit)=>match x80 with | .inl j81=>(.ret,⟨[(4,vB false)],[]⟩) | .inr j82=>(.exit 0,⟨[],[]⟩)) (sheetmetalref06_inside_l1 s0 l) 0 x80 (by kernel_rfl) (subR_prep [] [(2,500000)] (by kernel_rfl) rfl rfl (by kernel_rfl)) hx80 ?_ ?_ ?_
 intro s55 r h
 refine zB (z7 (zA 2 (evs_op (st_len (c:=c_Rect) (l:=l) (x:=(s_Rect l)) (by kernel_rfl) (by kernel_rfl)) (y1 1 [1,2,5,9] [500000] (zI (decide (s55 < (l.length : Int))) (fun hb=>?_) fun hb=>?_)))))
 replace h:=iteT hb h
 refine y4 [1,2,5] [500000] (zB (zC (zB (sem_drawN [] [] [] [] [] 9 (by kernel_rfl) (by kernel_rfl) (by kernel_rfl) (evd_run 2 (by kernel_rfl) ?_)))))
 obtain ⟨x78,hx78,h⟩:=bindS h
 refine evd_val (by kernel_rfl) (st_idx (c:=c_Rect) (l:=l) (i:=s55) (kd:=.i64) (sz:=4) (by kernel_rfl) hx78 rfl) (by kernel_rfl) (by kernel_rfl) (evd_run 6 (by kernel_rfl) (evd_end (by kernel_rfl) ?_))
 obtain ⟨r79,hr79,h⟩:=bindS h
 refine evo_callP [] (by kernel_rfl) (W.sheetmetalref06_Within_ok hr79) (by kernel_rfl) (.inl rfl) (by kernel_rfl) (evo_run 1 (by kernel_rfl) (zO fun τ hτ=>?_))
 refine yE hτ [1,2,5,22] [500000] (zI (!r79) (fun hb=>?_) fun hb=>?_)
 replace h:=iteT hb h
 refine z8 1 ⟨[(4,vB false)],[]⟩ fun τ hτ=>?_
 refine bl_ret (th_ret ?_)
 obtain rfl:=osi h
 exact zF hτ
 replace h:=iteF hb h
 refine zM fun τ hτ=>?_
 refine bl_normal (yE hτ [1,2,5] [500000] (zD (z6 3 fun τ hτ=>?_)))
 obtain rfl:=osi h
 exact zH hτ
 replace h:=iteF hb h
 refine zL 0 fun τ hτ=>?_
 refine th_exit ?_
 obtain rfl:=osi h
 exact zF hτ
 intro x
 rcases x with _ | _ <;> rfl
 intro τ hτ
 rcases x80 with j81 | j82
 refine bl_ret (th_ret ?_)
 obtain rfl:=osi h
 exact zV hτ [(4,vB false)]
 refine zQ (yE hτ [] [] (z8 1 ⟨[(4,vB true)],[]⟩ fun τ hτ=>?_))
 obtain rfl:=osi h
 exact zV hτ [(4,vB true)]
theorem W.sheetmetalref06_ValidateSheet_ok {s0 : Sheet} {r : Int} (h : sheetmetalref06_ValidateSheet s0=some r) : PC G.P 44 [(.agg (c_Sheet s0))] [] (vI r) []:=by
 refine zU G Tryz.func44 (yK [0] [] (y3 2 [1] [1] (z7 (zA 8 ?_))))
 obtain ⟨r2,hr2,h⟩:=bindS h
 refine evs_callP [] (by kernel_rfl) (W.sheetmetalref06_stuff_ok hr2) (by kernel_rfl) (.inl rfl) (by kernel_rfl) (y1 1 [1,3] [1] (zB (y3 2 [1,3,14] [1] (zI (r2 != 0) (fun hb=>?_) fun hb=>?_))))
 replace h:=iteT hb h
 refine z8 2 ⟨[(2,vI r2)],[]⟩ fun τ hτ=>?_
 refine th_ret ?_
 obtain rfl:=osi h
 exact zV hτ [(2,vI r2)]
 replace h:=iteF hb h
 refine y4 [1] [1] (zB (zB ?_))
 obtain ⟨j4,hj4,h⟩:=bindS h
 refine zT ⟨[(1,.ptr 500000 0),(33,vB j4)],[(500000,.box (c_Sheet s0))]⟩ ?_ fun τ hτ=>?_
 replace h:=hj4
 refine zA 4 (zS (decide (s0.Width < 1)) (fun b0=>⟨[(1,.ptr 1 0),(19,vB b0)],[(1,.box (c_Sheet s0))]⟩) (fun hb=>?_) fun hb=>?_)
 replace h:=iteT hb h
 refine z6 14 fun τ hτ=>?_
 obtain rfl:=osi h
 exact leafC hτ (subR_prep [] [(1,500000)] (by kernel_rfl) rfl rfl (by kernel_rfl))
 replace h:=iteF hb h
 refine zA 5 (zS (decide (s0.Width > 1048576)) (fun b0=>⟨[(1,.ptr 1 0),(24,vB b0)],[(1,.box (c_Sheet s0))]⟩) (fun hb=>?_) fun hb=>?_)
 replace h:=iteT hb h
 refine z6 9 fun τ hτ=>?_
 obtain rfl:=osi h
 exact leafC hτ (subR_prep [] [(1,500000)] (by kernel_rfl) rfl rfl (by kernel_rfl))
 replace h:=iteF hb h
 refine zA 5 (zS (decide (s0.Height < 1)) (fun b0=>⟨[(1,.ptr 1 0),(29,vB b0)],[(1,.box (c_Sheet s0))]⟩) (fun hb=>?_) fun hb=>?_)
 replace h:=iteT hb h
 refine z6 4 fun τ hτ=>?_
 obtain rfl:=osi h
 exact leafC hτ (subR_prep [] [(1,500000)] (by kernel_rfl) rfl rfl (by kernel_rfl))
 replace h:=iteF hb h
 refine z6 4 fun τ hτ=>?_
 obtain rfl:=osi h
 exact leafC hτ (subR_prep [] [(1,500000)] (by kernel_rfl) rfl rfl (by kernel_rfl))
 refine yE hτ [1,33] [500000] (zI j4 (fun hb=>?_) fun hb=>?_)
 replace h:=iteT hb h
 refine z8 1 ⟨[(2,vI 1)],[]⟩ fun τ hτ=>?_
 refine th_ret ?_
 obtain rfl:=osi h
 exact zV hτ [(2,vI 1)]
 replace h:=iteF hb h
 refine y4 [1] [500000] (zB (zB ?_))
 obtain ⟨j6,hj6,h⟩:=bindS h
 refine zT ⟨[(1,.ptr 500000 0),(43,vB j6)],[(500000,.box (c_Sheet s0))]⟩ ?_ fun τ hτ=>?_
 replace h:=hj6
 refine zA 2 (evs_op (st_len (c:=c_Rect) (l:=s0.Clamps) (x:=(s_Rect s0.Clamps)) (by kernel_rfl) (by kernel_rfl)) (zA 2 (zS (decide ((s0.Clamps.length : Int) > 4)) (fun b0=>⟨[(1,.ptr 500000 0),(38,vB b0)],[(500000,.box (c_Sheet s0))]⟩) (fun hb=>?_) fun hb=>?_)))
 replace h:=iteT hb h
 refine z6 5 fun τ hτ=>?_
 obtain rfl:=osi h
 exact zG hτ
 replace h:=iteF hb h
 refine zA 2 (evs_op (st_len (c:=c_Rect) (l:=s0.Used) (x:=(s_Rect s0.Used)) (by kernel_rfl) (by kernel_rfl)) (z6 2 fun τ hτ=>?_))
 obtain rfl:=osi h
 exact zG hτ
 refine yE hτ [1,43] [500000] (zI j6 (fun hb=>?_) fun hb=>?_)
 replace h:=iteT hb h
 refine z8 1 ⟨[(2,vI 4)],[]⟩ fun τ hτ=>?_
 refine th_ret ?_
 obtain rfl:=osi h
 exact zV hτ [(2,vI 4)]
 replace h:=iteF hb h
 refine y4 [1] [500000] (zB (zB ?_))
 obtain ⟨j14,hj14,h⟩:=bindS h
 refine zT ⟨[(1,.ptr 500000 0),(53,vB j14)],[(500000,.box (c_Sheet s0))]⟩ ?_ fun τ hτ=>?_
 replace h:=hj14
 refine zA 2 ?_
 obtain ⟨r15,hr15,h⟩:=bindS h
 refine evs_callP [] (by kernel_rfl) (W.sheetmetalref06_Rights_ok hr15) (by kernel_rfl) (.inl rfl) (by kernel_rfl) (zA 2 (zS r15 (fun b0=>⟨[(1,.ptr 500000 0),(48,vB (!b0))],[(500000,.box (c_Sheet s0))]⟩) (fun hb=>?_) fun hb=>?_))
 replace h:=iteT hb h
 refine zA 2 ?_
 obtain ⟨r16,hr16,h⟩:=bindS h
 refine evs_callP [] (by kernel_rfl) (W.sheetmetalref06_Rights_ok hr16) (by kernel_rfl) (.inl rfl) (by kernel_rfl) (z6 2 fun τ hτ=>?_)
 obtain rfl:=osi h
 exact zG hτ
 replace h:=iteF hb h
 refine z6 5 fun τ hτ=>?_
 obtain rfl:=osi h
 exact zG hτ
 refine yE hτ [1,53] [500000] (zI j14 (fun hb=>?_) fun hb=>?_)
 replace h:=iteT hb h
 refine z8 1 ⟨[(2,vI 1)],[]⟩ fun τ hτ=>?_
 refine th_ret ?_
 obtain rfl:=osi h
 exact zV hτ [(2,vI 1)]
 replace h:=iteF hb h
 refine y4 [1] [500000] (zB (zB ?_))
 obtain ⟨j24,hj24,h⟩:=bindS h
 refine zT ⟨[(65,vB j24)],[]⟩ ?_ fun τ hτ=>?_
 replace h:=hj24
 refine zA 3 ?_
 obtain ⟨r25,hr25,h⟩:=bindS h
 refine evs_callP [] (by kernel_rfl) (W.sheetmetalref06_inside_ok hr25) (by kernel_rfl) (.inl rfl) (by kernel_rfl) (zA 2 (zS r25 (fun b0=>⟨[(1,.ptr 500000 0),(59,vB (!b0))],[(500000,.box (c_Sheet s0))]⟩) (fun hb=>?_) fun hb=>?_))
 replace h:=iteT hb h
 refine zA 3 ?_
 obtain ⟨r26,hr26,h⟩:=bindS h
 refine evs_callP [] (by kernel_rfl) (W.sheetmetalref06_inside_ok hr26) (by kernel_rfl) (.inl rfl) (by kernel_rfl) (z6 2 fun τ hτ=>?_)
 obtain rfl:=osi h
 exact zG hτ
 replace h:=iteF hb h
 refine z6 6 fun τ hτ=>?_
 obtain rfl:=osi h
 exact zG hτ
 refine yE hτ [65] [] (zI j24 (fun hb=>?_) fun hb=>?_)
 replace h:=iteT hb h
 refine z8 1 ⟨[(2,vI 13)],[]⟩ fun τ hτ=>?_
 refine th_ret ?_
 obtain rfl:=osi h
 exact zV hτ [(2,vI 13)]
 replace h:=iteF hb h
 refine y4 [] [] (z8 1 ⟨[(2,vI 0)],[]⟩ fun τ hτ=>?_)
 obtain rfl:=osi h
 exact zV hτ [(2,vI 0)]
theorem W.sheetmetalref06_Shift_ok {l : (List Rect)} {x1 : Int} {y : Int} {r : (List Rect)} (h : sheetmetalref06_Shift l x1 y=some r) : PC G.P 149 [(.sl (List.map c_Rect l)),(vI x1),(vI y)] [] (.row (.top 0) 98) [(0,.row 98 [] (List.map c_Rect r))]:=by
 refine zU G Tryz.func149 (yK [0,1,2] [] (y3 1 [0,1,2] [] (y3 1 [0,1,2,7] [7] (y3 1 [0,1,2,7,8] [7] (zB (y3 1 [0,1,2,7,8,9] [7] ?_))))))
 refine zC ?_
 obtain ⟨x90,hx90,h⟩:=bindS h
 refine sem_loopS (fun (s61 : Int×(List Rect))=>⟨[(0,s_Rect l),(1,vI x1),(2,vI y),(7,ro 500000 98),(8,vI 2147483648),(9,vI s61.1)],[(500000,w_Rect 98 s61.2)]⟩) (fun (x90 : (List Rect))=>(.exit 0,⟨[(7,ro 500000 98)],[(500000,w_Rect 98 x90)]⟩)) (sheetmetalref06_Shift_l2 l x1 y) (0,[]) x90 (by kernel_rfl) (subR_prep [] [(7,500000)] (by kernel_rfl) rfl rfl (by kernel_rfl)) hx90 ?_ ?_ ?_
 intro s61 r h
 refine zB (z7 (zA 2 (evs_op (st_len (c:=c_Rect) (l:=l) (x:=(s_Rect l)) (by kernel_rfl) (by kernel_rfl)) (y1 1 [0,1,2,7,8,9,14] [500000] (zI (decide (s61.1 < (l.length : Int))) (fun hb=>?_) fun hb=>?_)))))
 replace h:=iteT hb h
 refine y4 [0,1,2,7,8,9] [500000] (zB (zC (z7 (zA 2 ?_))))
 obtain ⟨x84,hx84,h⟩:=bindS h
 refine evs_op (st_idx (c:=c_Rect) (l:=l) (i:=s61.1) (kd:=.i64) (sz:=4) (by kernel_rfl) hx84 rfl) (y1 3 [0,1,2,7,8,9,10] [10,500000] (sem_seqJ (fun (j86 : Int×Int)=>⟨[(0,s_Rect l),(1,vI x1),(2,vI y),(7,ro 500000 98),(8,vI 2147483648),(9,vI s61.1),(10,.ptr 500001 0)],[(500000,w_Rect 98 s61.2),(500001,.box [(vI j86.1),(vI j86.2),(vI x84.W),(vI x84.H)])]⟩) (sheetmetalref06_Shift_k1 s61 x84) r (by kernel_rfl) (fun j86 h=>?_) ?_))
 refine zD (zA 3 ?_)
 obtain ⟨l88,hl88,h⟩:=bindS h
 refine evs_op (st_app (c:=c_Rect) (l:=s61.2) (l2:=[(Rect.mk j86.1 j86.2 x84.W x84.H)]) (x:=(s_Rect [(Rect.mk j86.1 j86.2 x84.W x84.H)])) (g:=500000) (e:=98) (sz:=4) (d:=58) (by kernel_rfl) (by kernel_rfl) (by kernel_rfl) (by kernel_rfl) (fun _=>rfl) rfl hl88) (z6 1 fun τ hτ=>?_)
 refine bl_normal (yE hτ [0,1,2,7,8,9] [500000] (zD (z6 3 fun τ hτ=>?_)))
 obtain rfl:=osi h
 exact zH hτ
 refine zB ?_
 obtain ⟨j89,hj89,h⟩:=bindS h
 refine zT ⟨[(0,s_Rect l),(1,vI x1),(2,vI y),(7,ro 500000 98),(8,vI 2147483648),(9,vI s61.1),(10,.ptr 500001 0),(44,vB j89)],[(500000,w_Rect 98 s61.2),(500001,.box (c_Rect x84))]⟩ ?_ fun τ hτ=>?_
 replace h:=hj89
 refine zA 6 (zS (decide (x84.X > (-2147483648))) (fun b0=>⟨[(0,s_Rect l),(1,vI x1),(2,vI y),(7,ro 500000 98),(8,vI 2147483648),(9,vI s61.1),(10,.ptr 10 0),(26,vB b0)],[(10,.box (c_Rect x84)),(500000,w_Rect 98 s61.2)]⟩) (fun hb=>?_) fun hb=>?_)
 replace h:=iteT hb h
 refine zA 6 (zS (decide (x84.X < 2147483648)) (fun b0=>⟨[(0,s_Rect l),(1,vI x1),(2,vI y),(7,ro 500000 98),(8,vI 2147483648),(9,vI s61.1),(10,.ptr 10 0),(32,vB b0)],[(10,.box (c_Rect x84)),(500000,w_Rect 98 s61.2)]⟩) (fun hb=>?_) fun hb=>?_)
 replace h:=iteT hb h
 refine zA 7 (zS (decide (x84.Y > (-2147483648))) (fun b0=>⟨[(0,s_Rect l),(1,vI x1),(2,vI y),(7,ro 500000 98),(8,vI 2147483648),(9,vI s61.1),(10,.ptr 10 0),(39,vB b0)],[(10,.box (c_Rect x84)),(500000,w_Rect 98 s61.2)]⟩) (fun hb=>?_) fun hb=>?_)
 replace h:=iteT hb h
 refine z6 5 fun τ hτ=>?_
 obtain rfl:=osi h
 exact leafC hτ (subR_prep [] [(10,500001),(500000,500000)] (by kernel_rfl) rfl rfl (by kernel_rfl))
 replace h:=iteF hb h
 refine z6 5 fun τ hτ=>?_
 obtain rfl:=osi h
 exact leafC hτ (subR_prep [] [(10,500001),(500000,500000)] (by kernel_rfl) rfl rfl (by kernel_rfl))
 replace h:=iteF hb h
 refine z6 12 fun τ hτ=>?_
 obtain rfl:=osi h
 exact leafC hτ (subR_prep [] [(10,500001),(500000,500000)] (by kernel_rfl) rfl rfl (by kernel_rfl))
 replace h:=iteF hb h
 refine z6 18 fun τ hτ=>?_
 obtain rfl:=osi h
 exact leafC hτ (subR_prep [] [(10,500001),(500000,500000)] (by kernel_rfl) rfl rfl (by kernel_rfl))
 refine yE hτ [0,1,2,7,8,9,10,44] [500000,500001] (zI j89 (fun hb=>?_) fun hb=>?_)
 replace h:=iteT hb h
 refine y3 6 [0,1,2,7,8,9,10] [500000,500001] (zD (z6 6 fun τ hτ=>?_))
 exact jk_normal ((iadd x84.X x1),(iadd x84.Y y)) h hτ (here (by kernel_rfl))
 replace h:=iteF hb h
 refine zM fun τ hτ=>?_
 exact jk_normal (x84.X,x84.Y) h hτ (here (by kernel_rfl))
 replace h:=iteF hb h
 refine zL 0 fun τ hτ=>?_
 refine th_exit ?_
 obtain rfl:=osi h
 exact zF hτ
 intro x
 rfl
 intro τ hτ
 refine zQ (yE hτ [7] [500000] (z8 2 ⟨[(6,ro 500000 98)],[(500000,w_Rect 98 x90)]⟩ fun τ hτ=>?_))
 obtain rfl:=osi h
 exact rk_ret hτ [(6,ro 0 98)] (subR_prep [] [(500000,0)] (by kernel_rfl) rfl rfl (by kernel_rfl)) (by kernel_rfl)
theorem W.sheetmetalref06_Move_ok {x0 : Piece} {dx : Int} {dy : Int} {r : Piece} (h : sheetmetalref06_Move x0 dx dy=some r) : PC G.P 98 [(.agg (c_Piece x0)),(vI dx),(vI dy)] [] (.agg [(vS r.Name),(vS r.Material),(vI r.Gauge),(vI r.Grain),(.row (.top 1) 98),(.row (.top 2) 98),(.row (.top 3) 98)]) [(0,.box [(vS x0.Name),(vS x0.Material),(vI x0.Gauge),(vI x0.Grain),(.row (.top 1) 98),(.row (.top 2) 98),(.row (.top 3) 98)]),(1,.row 98 [] (List.map c_Rect r.Rects)),(2,.row 98 [] (List.map c_Rect r.Cuts)),(3,.row 98 [] (List.map c_Rect r.Forms))]:=by
 refine zU G Tryz.func98 (yK [0,1,2] [] (y3 2 [1,2,3,6] [3,6] (z7 (zA 4 ?_))))
 obtain ⟨r2,hr2,h⟩:=bindS h
 refine evs_callS [] [(0,700200)] [] (by kernel_rfl) (W.sheetmetalref06_Shift_ok hr2) (by kernel_rfl) (by kernel_rfl) (.inl rfl) (y1 2 [1,2,3,6] [3,6,700200] (z7 (zA 4 ?_)))
 obtain ⟨r4,hr4,h⟩:=bindS h
 refine evs_callS [] [(0,700201)] [] (by kernel_rfl) (W.sheetmetalref06_Shift_ok hr4) (by kernel_rfl) (by kernel_rfl) (.inl rfl) (y1 2 [1,2,3,6] [3,6,700200,700201] (z7 (zA 4 ?_)))
 obtain ⟨r6,hr6,h⟩:=bindS h
 refine evs_callS [] [(0,700202)] [] (by kernel_rfl) (W.sheetmetalref06_Shift_ok hr6) (by kernel_rfl) (by kernel_rfl) (.inl rfl) (y1 2 [3,6] [3,6,700200,700201,700202] (z8 2 ⟨[(6,.ptr 6 0)],[(6,.box [(vS x0.Name),(vS x0.Material),(vI x0.Gauge),(vI x0.Grain),(ro 700200 98),(ro 700201 98),(ro 700202 98)]),(700200,w_Rect 98 r2),(700201,w_Rect 98 r4),(700202,w_Rect 98 r6)]⟩ fun τ hτ=>?_))
 obtain rfl:=osi h
 exact rk_ret hτ [(6,.ptr 0 0)] (subR_prep [] [(6,0),(700200,1),(700201,2),(700202,3)] (by kernel_rfl) rfl rfl (by kernel_rfl)) (by kernel_rfl)
theorem W.sheetmetalref06_least_ok {l : (List Rect)} {r : Int×Int} (h : sheetmetalref06_least l=some r) : PC G.P 99 [(.sl (List.map c_Rect l))] [] (.tup [(vI r.1),(vI r.2)]) []:=by
 refine zU G Tryz.func99 (yK [0] [] (y3 2 [0] [] (zB (sem_drawN [] [] [] [] [] 9 (by kernel_rfl) (by kernel_rfl) (by kernel_rfl) (evd_run 1 (by kernel_rfl) ?_)))))
 obtain ⟨x5,hx5,h⟩:=bindS h
 refine evd_val (by kernel_rfl) (st_idx (c:=c_Rect) (l:=l) (i:=0) (kd:=.i64) (sz:=4) (by kernel_rfl) hx5 rfl) (by kernel_rfl) (by kernel_rfl) (evd_run 3 (by kernel_rfl) ?_)
 obtain ⟨x6,hx6,h⟩:=bindS h
 refine evd_val (by kernel_rfl) (st_idx (c:=c_Rect) (l:=l) (i:=0) (kd:=.i64) (sz:=4) (by kernel_rfl) hx6 rfl) (by kernel_rfl) (by kernel_rfl) (evd_run 3 (by kernel_rfl) (evd_end (by kernel_rfl) (evo_run 1 (by kernel_rfl) (zO fun τ hτ=>?_))))
 refine yE hτ [0,4,5] [] (zB (y3 1 [0,4,5,6] [] (zC ?_)))
 obtain ⟨x60,hx60,h⟩:=bindS h
 refine sem_loopS (fun (s43 : Int×Int×Int)=>⟨[(0,s_Rect l),(4,vI s43.1),(5,vI s43.2.1),(6,vI s43.2.2)],[]⟩) (fun (x60 : Int×Int)=>(.exit 0,⟨[(4,vI x60.1),(5,vI x60.2)],[]⟩)) (sheetmetalref06_least_l1 l) (x5.X,x6.Y,1) x60 (by kernel_rfl) (here (by kernel_rfl)) hx60 ?_ ?_ ?_
 intro s43 r h
 refine zB (z7 (zA 2 (evs_op (st_len (c:=c_Rect) (l:=l) (x:=(s_Rect l)) (by kernel_rfl) (by kernel_rfl)) (y1 1 [0,4,5,6,18] [] (zI (decide (s43.2.2 < (l.length : Int))) (fun hb=>?_) fun hb=>?_)))))
 replace h:=iteT hb h
 refine y4 [0,4,5,6] [] (zB (zC (z7 (zA 3 ?_))))
 obtain ⟨x57,hx57,h⟩:=bindS h
 refine evs_op (st_idx (c:=c_Rect) (l:=l) (i:=s43.2.2) (kd:=.i64) (sz:=4) (by kernel_rfl) hx57 rfl) (y1 4 [0,4,5,6] [] (zD (zA 3 ?_)))
 obtain ⟨x59,hx59,h⟩:=bindS h
 refine evs_op (st_idx (c:=c_Rect) (l:=l) (i:=s43.2.2) (kd:=.i64) (sz:=4) (by kernel_rfl) hx59 rfl) (z6 4 fun τ hτ=>?_)
 refine bl_normal (yE hτ [0,4,5,6] [] (zD (z6 3 fun τ hτ=>?_)))
 obtain rfl:=osi h
 exact zH hτ
 replace h:=iteF hb h
 refine zL 0 fun τ hτ=>?_
 refine th_exit ?_
 obtain rfl:=osi h
 exact zF hτ
 intro x
 rfl
 intro τ hτ
 refine zQ (yE hτ [4,5] [] (z8 4 ⟨[(2,vI x60.1),(3,vI x60.2)],[]⟩ fun τ hτ=>?_))
 obtain rfl:=osi h
 exact zV hτ [(2,vI x60.1),(3,vI x60.2)]
theorem W.sheetmetalref06_Overlaps_ok {a : Rect} {b : Rect} {r : Bool} (h : sheetmetalref06_Overlaps a b=some r) : PC G.P 104 [(.agg (c_Rect a)),(.agg (c_Rect b))] [] (vB r) []:=by
 refine zU G Tryz.func104 (yK [0,1] [] (y3 3 [2,3] [2,3] (zB ?_)))
 obtain ⟨j3,hj3,h⟩:=bindS h
 refine zT ⟨[(4,vB j3)],[]⟩ ?_ fun τ hτ=>?_
 replace h:=hj3
 refine zA 1 ?_
 obtain ⟨r4,hr4,h⟩:=bindS h
 refine evs_callP [] (by kernel_rfl) (W.sheetmetalref06_Right_ok hr4) (by kernel_rfl) (.inl rfl) (by kernel_rfl) (zA 1 (zS r4 (fun b0=>⟨[(2,.ptr 2 0),(3,.ptr 3 0),(7,vB b0)],[(2,.box (c_Rect a)),(3,.box (c_Rect b))]⟩) (fun hb=>?_) fun hb=>?_))
 replace h:=iteT hb h
 refine zA 1 ?_
 obtain ⟨r5,hr5,h⟩:=bindS h
 refine evs_callP [] (by kernel_rfl) (W.sheetmetalref06_Right_ok hr5) (by kernel_rfl) (.inl rfl) (by kernel_rfl) (zA 2 (zS r5 (fun b0=>⟨[(2,.ptr 2 0),(3,.ptr 3 0),(11,vB b0)],[(2,.box (c_Rect a)),(3,.box (c_Rect b))]⟩) (fun hb=>?_) fun hb=>?_))
 replace h:=iteT hb h
 refine zA 10 (zS (decide (a.X < (iadd b.X b.W))) (fun b0=>⟨[(2,.ptr 2 0),(3,.ptr 3 0),(21,vB b0)],[(2,.box (c_Rect a)),(3,.box (c_Rect b))]⟩) (fun hb=>?_) fun hb=>?_)
 replace h:=iteT hb h
 refine zA 10 (zS (decide (b.X < (iadd a.X a.W))) (fun b0=>⟨[(2,.ptr 2 0),(3,.ptr 3 0),(31,vB b0)],[(2,.box (c_Rect a)),(3,.box (c_Rect b))]⟩) (fun hb=>?_) fun hb=>?_)
 replace h:=iteT hb h
 refine zA 10 (zS (decide (a.Y < (iadd b.Y b.H))) (fun b0=>⟨[(2,.ptr 2 0),(3,.ptr 3 0),(41,vB b0)],[(2,.box (c_Rect a)),(3,.box (c_Rect b))]⟩) (fun hb=>?_) fun hb=>?_)
 replace h:=iteT hb h
 refine z6 10 fun τ hτ=>?_
 obtain rfl:=osi h
 exact zG hτ
 replace h:=iteF hb h
 refine z6 10 fun τ hτ=>?_
 obtain rfl:=osi h
 exact zG hτ
 replace h:=iteF hb h
 refine z6 20 fun τ hτ=>?_
 obtain rfl:=osi h
 exact zG hτ
 replace h:=iteF hb h
 refine z6 30 fun τ hτ=>?_
 obtain rfl:=osi h
 exact zG hτ
 replace h:=iteF hb h
 refine z6 40 fun τ hτ=>?_
 obtain rfl:=osi h
 exact zG hτ
 replace h:=iteF hb h
 refine z6 44 fun τ hτ=>?_
 obtain rfl:=osi h
 exact zG hτ
 refine yE hτ [4] [] (zN fun τ hτ=>?_)
 obtain rfl:=osi h
 exact zV hτ [(4,vB j3)]
theorem W.sheetmetalref06_Meets_ok {r0 : Rect} {l : (List Rect)} {r : Bool} (h : sheetmetalref06_Meets r0 l=some r) : PC G.P 48 [(.agg (c_Rect r0)),(.sl (List.map c_Rect l))] [] (vB r) []:=by
 refine zU G Tryz.func48 (yK [0,1] [] (y3 2 [1,2] [2] (zB (y3 1 [1,2,5] [2] (zC ?_)))))
 obtain ⟨x80,hx80,h⟩:=bindS h
 refine sem_loopS (fun (s55 : Int)=>⟨[(1,s_Rect l),(2,.ptr 500000 0),(5,vI s55)],[(500000,.box (c_Rect r0))]⟩) (fun (x80 : Unit ⊕ Unit)=>match x80 with | .inl j81=>(.ret,⟨[(4,vB true)],[]⟩) | .inr j82=>(.exit 0,⟨[],[]⟩)) (sheetmetalref06_Meets_l1 r0 l) 0 x80 (by kernel_rfl) (subR_prep [] [(2,500000)] (by kernel_rfl) rfl rfl (by kernel_rfl)) hx80 ?_ ?_ ?_
 intro s55 r h
 refine zB (z7 (zA 2 (evs_op (st_len (c:=c_Rect) (l:=l) (x:=(s_Rect l)) (by kernel_rfl) (by kernel_rfl)) (y1 1 [1,2,5,9] [500000] (zI (decide (s55 < (l.length : Int))) (fun hb=>?_) fun hb=>?_)))))
 replace h:=iteT hb h
 refine y4 [1,2,5] [500000] (zB (zC (zB (sem_drawN [] [] [] [] [] 5 (by kernel_rfl) (by kernel_rfl) (by kernel_rfl) (evd_run 3 (by kernel_rfl) ?_)))))
 obtain ⟨x78,hx78,h⟩:=bindS h
 refine evd_val (by kernel_rfl) (st_idx (c:=c_Rect) (l:=l) (i:=s55) (kd:=.i64) (sz:=4) (by kernel_rfl) hx78 rfl) (by kernel_rfl) (by kernel_rfl) (evd_run 1 (by kernel_rfl) (evd_end (by kernel_rfl) ?_))
 obtain ⟨r79,hr79,h⟩:=bindS h
 refine evo_callP [] (by kernel_rfl) (W.sheetmetalref06_Overlaps_ok hr79) (by kernel_rfl) (.inl rfl) (by kernel_rfl) (zO fun τ hτ=>?_)
 refine yE hτ [1,2,5,17] [500000] (zI r79 (fun hb=>?_) fun hb=>?_)
 replace h:=iteT hb h
 refine z8 1 ⟨[(4,vB true)],[]⟩ fun τ hτ=>?_
 refine bl_ret (th_ret ?_)
 obtain rfl:=osi h
 exact zF hτ
 replace h:=iteF hb h
 refine zM fun τ hτ=>?_
 refine bl_normal (yE hτ [1,2,5] [500000] (zD (z6 3 fun τ hτ=>?_)))
 obtain rfl:=osi h
 exact zH hτ
 replace h:=iteF hb h
 refine zL 0 fun τ hτ=>?_
 refine th_exit ?_
 obtain rfl:=osi h
 exact zF hτ
 intro x
 rcases x with _ | _ <;> rfl
 intro τ hτ
 rcases x80 with j81 | j82
 refine bl_ret (th_ret ?_)
 obtain rfl:=osi h
 exact zV hτ [(4,vB true)]
 refine zQ (yE hτ [] [] (z8 1 ⟨[(4,vB false)],[]⟩ fun τ hτ=>?_))
 obtain rfl:=osi h
 exact zV hτ [(4,vB false)]
theorem W.sheetmetalref06_touching_ok {a : Rect} {b : Rect} {r : Bool} (h : sheetmetalref06_touching a b=some r) : PC G.P 150 [(.agg (c_Rect a)),(.agg (c_Rect b))] [] (vB r) []:=by
 refine zU G Tryz.func150 (yK [0,1] [] (y3 3 [2,3] [2,3] (y3 18 [2,3,5] [2,3] (y3 18 [5,6] [] (zB ?_)))))
 obtain ⟨j1,hj1,h⟩:=bindS h
 refine zT ⟨[(4,vB j1)],[]⟩ ?_ fun τ hτ=>?_
 replace h:=hj1
 refine zA 3 (zS ((isub (imin (iadd a.X a.W) (iadd b.X b.W)) (imax a.X b.X))==0) (fun b0=>⟨[(5,vI (isub (imin (iadd a.X a.W) (iadd b.X b.W)) (imax a.X b.X))),(6,vI (isub (imin (iadd a.Y a.H) (iadd b.Y b.H)) (imax a.Y b.Y))),(43,vB b0)],[]⟩) (fun hb=>?_) fun hb=>?_)
 replace h:=iteT hb h
 refine zA 4 (zS (decide ((isub (imin (iadd a.Y a.H) (iadd b.Y b.H)) (imax a.Y b.Y)) > 0)) (fun b0=>⟨[(5,vI (isub (imin (iadd a.X a.W) (iadd b.X b.W)) (imax a.X b.X))),(6,vI (isub (imin (iadd a.Y a.H) (iadd b.Y b.H)) (imax a.Y b.Y))),(47,vB b0)],[]⟩) (fun hb=>?_) fun hb=>?_)
 replace h:=iteT hb h
 refine z6 8 fun τ hτ=>?_
 obtain rfl:=osi h
 exact zG hτ
 replace h:=iteF hb h
 refine zA 3 (zS ((isub (imin (iadd a.Y a.H) (iadd b.Y b.H)) (imax a.Y b.Y))==0) (fun b0=>⟨[(5,vI (isub (imin (iadd a.X a.W) (iadd b.X b.W)) (imax a.X b.X))),(47,vB false),(50,vB b0)],[]⟩) (fun hb=>?_) fun hb=>?_)
 replace h:=iteT hb h
 refine z6 5 fun τ hτ=>?_
 obtain rfl:=osi h
 exact zG hτ
 replace h:=iteF hb h
 refine z6 5 fun τ hτ=>?_
 obtain rfl:=osi h
 exact zG hτ
 replace h:=iteF hb h
 refine zA 7 (zS ((isub (imin (iadd a.Y a.H) (iadd b.Y b.H)) (imax a.Y b.Y))==0) (fun b0=>⟨[(5,vI (isub (imin (iadd a.X a.W) (iadd b.X b.W)) (imax a.X b.X))),(47,vB false),(50,vB b0)],[]⟩) (fun hb=>?_) fun hb=>?_)
 replace h:=iteT hb h
 refine z6 5 fun τ hτ=>?_
 obtain rfl:=osi h
 exact zG hτ
 replace h:=iteF hb h
 refine z6 5 fun τ hτ=>?_
 obtain rfl:=osi h
 exact zG hτ
 refine yE hτ [4] [] (zN fun τ hτ=>?_)
 obtain rfl:=osi h
 exact zV hτ [(4,vB j1)]
theorem W.sheetmetalref06_connected_ok {l : (List Rect)} {r : Bool} (h : sheetmetalref06_connected l=some r) : PC G.P 100 [(.sl (List.map c_Rect l))] [] (vB r) []:=by
 refine zU G Tryz.func100 (yK [0] [] (y3 1 [0] [] (z7 (zA 1 (evs_op (st_len (c:=c_Rect) (l:=l) (x:=(s_Rect l)) (by kernel_rfl) (by kernel_rfl)) ?_)))))
 obtain ⟨l2,hl2,h⟩:=bindS h
 refine evs_op (st_mk (c:=cB) (z:=false) (n:=(l.length : Int)) (e:=4) (d:=9) (zs:=[(vB false)]) (k1:=.i64) (k2:=.i64) (by kernel_rfl) rfl hl2) (y1 1 [0,3] [9] (z7 (evs_at (at_build (e:=3) (d:=10) (es:=(List.map cI [0])) (by kernel_rfl)) (y1 1 [0,3,4] [9,10] (z7 (zA 1 ?_))))))
 obtain ⟨x4,hx4,h⟩:=bindS h
 refine evs_op (st_idxO (c:=cB) (l:=l2) (i:=0) (kd:=.i64) (kk:=(.top 9)) (e:=4) (sz:=1) (by kernel_rfl) (by kernel_rfl) hx4 rfl) (evs_op (st_stO (c:=cB) (l:=l2) (i:=(Int.toNat 0)) (x:=x4) (x':=true) (v:=(vB true)) (agg:=false) (sz:=1) (kk:=(.top 9)) (e:=4) (off:=0) (J:=[]) (o:=wB 4 (List.set l2 (Int.toNat 0) true)) (by kernel_rfl) (by kernel_rfl) (by kernel_rfl) ((idxS hx4).2) (by kernel_rfl) (by kernel_rfl) (by kernel_rfl)) (zP fun τ hτ=>?_))
 refine yE hτ [0,3,4] [9,10] (zB (y3 1 [0,3,4,5] [9,10] (zC ?_)))
 obtain ⟨x1522,hx1522,h⟩:=bindS h
 refine sem_loopS (fun (s1017 : Int×(List Bool)×(List Int))=>⟨[(0,s_Rect l),(3,ro 500000 4),(4,ro 500001 3),(5,vI s1017.1)],[(500000,wB 4 s1017.2.1),(500001,wI 3 s1017.2.2)]⟩) (fun (x1522 : (List Int))=>(.exit 0,⟨[(0,s_Rect l),(4,ro 500000 3)],[(500000,wI 3 x1522)]⟩)) (sheetmetalref06_connected_l3 l) (0,(List.set l2 (Int.toNat 0) true),[0]) x1522 (by kernel_rfl) (subR_prep [] [(9,500000),(10,500001)] (by kernel_rfl) rfl rfl (by kernel_rfl)) hx1522 ?_ ?_ ?_
 intro s1017 r h
 refine zB (z7 (zA 2 (evs_op (st_len (c:=cI) (l:=s1017.2.2) (x:=(ro 500001 3)) (by kernel_rfl) (by kernel_rfl)) (y1 1 [0,3,4,5,16] [500000,500001] (zI (decide (s1017.1 < (s1017.2.2.length : Int))) (fun hb=>?_) fun hb=>?_)))))
 replace h:=iteT hb h
 refine y4 [0,3,4,5] [500000,500001] (zB (zC (y3 1 [0,3,4,5,6] [500000,500001] (zC ?_))))
 obtain ⟨x1521,hx1521,h⟩:=bindS h
 refine sem_loopS (fun (s1438 : Int×(List Bool)×(List Int))=>⟨[(0,s_Rect l),(3,ro 500000 4),(4,ro 500001 3),(5,vI s1017.1),(6,vI s1438.1)],[(500000,wB 4 s1438.2.1),(500001,wI 3 s1438.2.2)]⟩) (fun (x1521 : (List Bool)×(List Int))=>(.exit 2,⟨[(0,s_Rect l),(3,ro 500000 4),(4,ro 500001 3),(5,vI s1017.1)],[(500000,wB 4 x1521.1),(500001,wI 3 x1521.2)]⟩)) (sheetmetalref06_connected_l2 l s1017) (0,s1017.2.1,s1017.2.2) x1521 (by kernel_rfl) (here (by kernel_rfl)) hx1521 ?_ ?_ ?_
 intro s1438 r h
 refine zB (z7 (zA 2 (evs_op (st_len (c:=c_Rect) (l:=l) (x:=(s_Rect l)) (by kernel_rfl) (by kernel_rfl)) (y1 1 [0,3,4,5,6,22] [500000,500001] (zI (decide (s1438.1 < (l.length : Int))) (fun hb=>?_) fun hb=>?_)))))
 replace h:=iteT hb h
 refine y4 [0,3,4,5,6] [500000,500001] (sem_seqJ (fun (j1500 : (List Bool)×(List Int))=>⟨[(0,s_Rect l),(3,ro 500000 4),(4,ro 500001 3),(5,vI s1017.1),(6,vI s1438.1)],[(500000,wB 4 j1500.1),(500001,wI 3 j1500.2)]⟩) (sheetmetalref06_connected_k1 s1438) r (by kernel_rfl) (fun j1500 h=>?_) ?_)
 refine zD (z6 3 fun τ hτ=>?_)
 obtain rfl:=osi h
 exact zH hτ
 refine zC (zB ?_)
 obtain ⟨j1511,hj1511,h⟩:=bindS h
 refine sem_drawP ⟨[(0,s_Rect l),(3,ro 500000 4),(4,ro 500001 3),(5,vI s1017.1),(6,vI s1438.1),(43,vB j1511)],[(500000,wB 4 s1438.2.1),(500001,wI 3 s1438.2.2)]⟩ [] [] [] [] [] 17 (by kernel_rfl) (by kernel_rfl) (by kernel_rfl) ?_ fun τ hτ=>?_
 replace h:=hj1511
 refine evd_run 2 (by kernel_rfl) ?_
 obtain ⟨x1512,hx1512,h⟩:=bindS h
 refine evd_val (by kernel_rfl) (st_idxO (c:=cB) (l:=s1438.2.1) (i:=s1438.1) (kd:=.i64) (kk:=(.top 500000)) (e:=4) (sz:=1) (by kernel_rfl) (by kernel_rfl) hx1512 rfl) (by kernel_rfl) (by kernel_rfl) (evd_val (by kernel_rfl) (st_ldO (c:=cB) (l:=s1438.2.1) (i:=(Int.toNat s1438.1)) (v:=(vB x1512)) (agg:=false) (sz:=1) (kk:=(.top 500000)) (e:=4) (off:=0) (J:=[]) (by kernel_rfl) (by kernel_rfl) (by kernel_rfl) ((idxS hx1512).2) (by kernel_rfl)) (by kernel_rfl) (by kernel_rfl) (evd_run 2 (by kernel_rfl) (evd_split x1512 (fun b0=>⟨[(30,vB (!b0)),(29,vB (!b0)),(28,vB b0),(27,.rptr (.top 500000) 4 (Int.toNat s1438.1) 0),(26,vI s1438.1),(25,ro 500000 4),(0,s_Rect l),(3,ro 500000 4),(4,ro 500001 3),(5,vI s1017.1),(6,vI s1438.1)],[(500000,wB 4 s1438.2.1),(500001,wI 3 s1438.2.2)]⟩) (by kernel_rfl) (fun hb=>?_) fun hb=>?_)))
 replace h:=iteT hb h
 refine evd_run 11 (by kernel_rfl) (evd_end (by kernel_rfl) (evo_run 2 (by kernel_rfl) (zO fun τ hτ=>?_)))
 obtain rfl:=osi h
 exact zG hτ
 replace h:=iteF hb h
 refine evd_run 3 (by kernel_rfl) ?_
 obtain ⟨x1513,hx1513,h⟩:=bindS h
 refine evd_val (by kernel_rfl) (st_idxO (c:=cI) (l:=s1438.2.2) (i:=s1017.1) (kd:=.i64) (kk:=(.top 500001)) (e:=3) (sz:=1) (by kernel_rfl) (by kernel_rfl) hx1513 rfl) (by kernel_rfl) (by kernel_rfl) (evd_val (by kernel_rfl) (st_ldO (c:=cI) (l:=s1438.2.2) (i:=(Int.toNat s1017.1)) (v:=(vI x1513)) (agg:=false) (sz:=1) (kk:=(.top 500001)) (e:=3) (off:=0) (J:=[]) (by kernel_rfl) (by kernel_rfl) (by kernel_rfl) ((idxS hx1513).2) (by kernel_rfl)) (by kernel_rfl) (by kernel_rfl) ?_)
 obtain ⟨x1514,hx1514,h⟩:=bindS h
 refine evd_val (by kernel_rfl) (st_idx (c:=c_Rect) (l:=l) (i:=x1513) (kd:=.i64) (sz:=4) (by kernel_rfl) hx1514 rfl) (by kernel_rfl) (by kernel_rfl) (evd_run 3 (by kernel_rfl) ?_)
 obtain ⟨x1515,hx1515,h⟩:=bindS h
 refine evd_val (by kernel_rfl) (st_idx (c:=c_Rect) (l:=l) (i:=s1438.1) (kd:=.i64) (sz:=4) (by kernel_rfl) hx1515 rfl) (by kernel_rfl) (by kernel_rfl) (evd_run 1 (by kernel_rfl) (evd_end (by kernel_rfl) ?_))
 obtain ⟨r1516,hr1516,h⟩:=bindS h
 refine evo_callP [] (by kernel_rfl) (W.sheetmetalref06_touching_ok hr1516) (by kernel_rfl) (.inl rfl) (by kernel_rfl) (evo_run 1 (by kernel_rfl) (zO fun τ hτ=>?_))
 obtain rfl:=osi h
 exact zG hτ
 refine yE hτ [0,3,4,5,6,43] [500000,500001] (zI j1511 (fun hb=>?_) fun hb=>?_)
 replace h:=iteT hb h
 refine z7 (zA 2 ?_)
 obtain ⟨x1518,hx1518,h⟩:=bindS h
 refine evs_op (st_idxO (c:=cB) (l:=s1438.2.1) (i:=s1438.1) (kd:=.i64) (kk:=(.top 500000)) (e:=4) (sz:=1) (by kernel_rfl) (by kernel_rfl) hx1518 rfl) (evs_op (st_stO (c:=cB) (l:=s1438.2.1) (i:=(Int.toNat s1438.1)) (x:=x1518) (x':=true) (v:=(vB true)) (agg:=false) (sz:=1) (kk:=(.top 500000)) (e:=4) (off:=0) (J:=[]) (o:=wB 4 (List.set s1438.2.1 (Int.toNat s1438.1) true)) (by kernel_rfl) (by kernel_rfl) (by kernel_rfl) ((idxS hx1518).2) (by kernel_rfl) (by kernel_rfl) (by kernel_rfl)) (zP fun τ hτ=>?_))
 refine yE hτ [0,3,4,5,6] [500000,500001] (zD (zA 3 ?_))
 obtain ⟨l1520,hl1520,h⟩:=bindS h
 refine evs_op (st_app (c:=cI) (l:=s1438.2.2) (l2:=[s1438.1]) (x:=(sI [s1438.1])) (g:=500001) (e:=3) (sz:=1) (d:=50) (by kernel_rfl) (by kernel_rfl) (by kernel_rfl) (by kernel_rfl) (fun _=>rfl) rfl hl1520) (z6 1 fun τ hτ=>?_)
 exact bl_normal (jk_normal ((List.set s1438.2.1 (Int.toNat s1438.1) true),l1520) h hτ (here (by kernel_rfl)))
 replace h:=iteF hb h
 refine zM fun τ hτ=>?_
 exact bl_normal (jk_normal (s1438.2.1,s1438.2.2) h hτ (here (by kernel_rfl)))
 replace h:=iteF hb h
 refine zL 2 fun τ hτ=>?_
 refine th_exit ?_
 obtain rfl:=osi h
 exact zF hτ
 intro x
 rfl
 intro τ hτ
 refine zQ (bl_normal (yE hτ [0,3,4,5] [500000,500001] (zD (z6 3 fun τ hτ=>?_))))
 obtain rfl:=osi h
 exact zH hτ
 replace h:=iteF hb h
 refine zL 0 fun τ hτ=>?_
 refine th_exit ?_
 obtain rfl:=osi h
 exact lk_outS hτ rfl (subR_prep [] [(500001,500000)] (by kernel_rfl) rfl rfl (by kernel_rfl))
 intro x
 rfl
 intro τ hτ
 refine zQ (yE hτ [0,4] [500000] (z7 (zA 1 (evs_op (st_len (c:=cI) (l:=x1522) (x:=(ro 500000 3)) (by kernel_rfl) (by kernel_rfl)) (zA 1 (evs_op (st_len (c:=c_Rect) (l:=l) (x:=(s_Rect l)) (by kernel_rfl) (by kernel_rfl)) ?_))))))
 refine y1 2 [2] [] (zN fun τ hτ=>?_)
 obtain rfl:=osi h
 exact zV hτ [(2,vB ((x1522.length : Int)==(l.length : Int)))]
theorem W.sheetmetalref06_deep_ok {r0 : Rect} {l : (List Rect)} {r : Bool} (h : sheetmetalref06_deep r0 l=some r) : PC G.P 101 [(.agg (c_Rect r0)),(.sl (List.map c_Rect l))] [] (vB r) []:=by
 refine zU G Tryz.func101 (yK [0,1] [] (y3 2 [1,2] [2] (zB (y3 1 [1,2,5] [2] (zC ?_)))))
 obtain ⟨x236,hx236,h⟩:=bindS h
 refine sem_loopS (fun (s159 : Int)=>⟨[(1,s_Rect l),(2,.ptr 500000 0),(5,vI s159)],[(500000,.box (c_Rect r0))]⟩) (fun (x236 : Unit ⊕ Unit)=>match x236 with | .inl j237=>(.ret,⟨[(4,vB true)],[]⟩) | .inr j238=>(.exit 0,⟨[],[]⟩)) (sheetmetalref06_deep_l1 r0 l) 0 x236 (by kernel_rfl) (subR_prep [] [(2,500000)] (by kernel_rfl) rfl rfl (by kernel_rfl)) hx236 ?_ ?_ ?_
 intro s159 r h
 refine zB (z7 (zA 2 (evs_op (st_len (c:=c_Rect) (l:=l) (x:=(s_Rect l)) (by kernel_rfl) (by kernel_rfl)) (y1 1 [1,2,5,9] [500000] (zI (decide (s159 < (l.length : Int))) (fun hb=>?_) fun hb=>?_)))))
 replace h:=iteT hb h
 refine y4 [1,2,5] [500000] (zB (zC (zB ?_)))
 obtain ⟨j229,hj229,h⟩:=bindS h
 refine sem_drawP ⟨[(1,s_Rect l),(2,.ptr 500000 0),(5,vI s159),(67,vB j229)],[(500000,.box (c_Rect r0))]⟩ [] [] [] [] [] 54 (by kernel_rfl) (by kernel_rfl) (by kernel_rfl) ?_ fun τ hτ=>?_
 replace h:=hj229
 refine evd_run 4 (by kernel_rfl) ?_
 obtain ⟨x230,hx230,h⟩:=bindS h
 refine evd_val (by kernel_rfl) (st_idx (c:=c_Rect) (l:=l) (i:=s159) (kd:=.i64) (sz:=4) (by kernel_rfl) hx230 rfl) (by kernel_rfl) (by kernel_rfl) (evd_run 4 (by kernel_rfl) (evd_split (decide (r0.X > x230.X)) (fun b0=>⟨[(20,vB b0),(19,vB b0),(18,vI x230.X),(17,.vptr (c_Rect x230) 0),(16,.vptr (c_Rect x230) 0),(15,vI s159),(14,s_Rect l),(13,vI r0.X),(12,.ptr 500000 0),(1,s_Rect l),(2,.ptr 500000 0),(5,vI s159)],[(500000,.box (c_Rect r0))]⟩) (by kernel_rfl) (fun hb=>?_) fun hb=>?_))
 replace h:=iteT hb h
 refine evd_run 4 (by kernel_rfl) ?_
 obtain ⟨x231,hx231,h⟩:=bindS h
 refine evd_val (by kernel_rfl) (st_idx (c:=c_Rect) (l:=l) (i:=s159) (kd:=.i64) (sz:=4) (by kernel_rfl) hx231 rfl) (by kernel_rfl) (by kernel_rfl) (evd_run 5 (by kernel_rfl) (evd_split (decide (r0.Y > x231.Y)) (fun b0=>⟨[(30,vB b0),(29,vB b0),(28,vB b0),(27,vI x231.Y),(26,.vptr (c_Rect x231) 1),(25,.vptr (c_Rect x231) 0),(24,vI s159),(23,s_Rect l),(22,vI r0.Y),(21,.ptr 500000 1),(20,vB true),(19,vB true),(18,vI x230.X),(17,.vptr (c_Rect x230) 0),(16,.vptr (c_Rect x230) 0),(15,vI s159),(14,s_Rect l),(13,vI r0.X),(12,.ptr 500000 0),(1,s_Rect l),(2,.ptr 500000 0),(5,vI s159)],[(500000,.box (c_Rect r0))]⟩) (by kernel_rfl) (fun hb=>?_) fun hb=>?_))
 replace h:=iteT hb h
 refine evd_run 7 (by kernel_rfl) ?_
 obtain ⟨x232,hx232,h⟩:=bindS h
 refine evd_val (by kernel_rfl) (st_idx (c:=c_Rect) (l:=l) (i:=s159) (kd:=.i64) (sz:=4) (by kernel_rfl) hx232 rfl) (by kernel_rfl) (by kernel_rfl) (evd_run 4 (by kernel_rfl) ?_)
 obtain ⟨x233,hx233,h⟩:=bindS h
 refine evd_val (by kernel_rfl) (st_idx (c:=c_Rect) (l:=l) (i:=s159) (kd:=.i64) (sz:=4) (by kernel_rfl) hx233 rfl) (by kernel_rfl) (by kernel_rfl) (evd_run 6 (by kernel_rfl) (evd_split (decide ((iadd r0.X r0.W) < (iadd x232.X x233.W))) (fun b0=>⟨[(49,vB b0),(48,vB b0),(47,vB b0),(46,vI (iadd x232.X x233.W)),(45,vI x233.W),(44,.vptr (c_Rect x233) 2),(43,.vptr (c_Rect x233) 0),(42,vI s159),(41,s_Rect l),(40,vI x232.X),(39,.vptr (c_Rect x232) 0),(38,.vptr (c_Rect x232) 0),(37,vI s159),(36,s_Rect l),(35,vI (iadd r0.X r0.W)),(34,vI r0.W),(33,.ptr 500000 2),(32,vI r0.X),(31,.ptr 500000 0),(30,vB true),(29,vB true),(28,vB true),(27,vI x231.Y),(26,.vptr (c_Rect x231) 1),(25,.vptr (c_Rect x231) 0),(24,vI s159),(23,s_Rect l),(22,vI r0.Y),(21,.ptr 500000 1),(20,vB true),(19,vB true),(18,vI x230.X),(17,.vptr (c_Rect x230) 0),(16,.vptr (c_Rect x230) 0),(15,vI s159),(14,s_Rect l),(13,vI r0.X),(12,.ptr 500000 0),(1,s_Rect l),(2,.ptr 500000 0),(5,vI s159)],[(500000,.box (c_Rect r0))]⟩) (by kernel_rfl) (fun hb=>?_) fun hb=>?_))
 replace h:=iteT hb h
 refine evd_run 7 (by kernel_rfl) ?_
 obtain ⟨x234,hx234,h⟩:=bindS h
 refine evd_val (by kernel_rfl) (st_idx (c:=c_Rect) (l:=l) (i:=s159) (kd:=.i64) (sz:=4) (by kernel_rfl) hx234 rfl) (by kernel_rfl) (by kernel_rfl) (evd_run 4 (by kernel_rfl) ?_)
 obtain ⟨x235,hx235,h⟩:=bindS h
 refine evd_val (by kernel_rfl) (st_idx (c:=c_Rect) (l:=l) (i:=s159) (kd:=.i64) (sz:=4) (by kernel_rfl) hx235 rfl) (by kernel_rfl) (by kernel_rfl) (evd_run 3 (by kernel_rfl) (evd_end (by kernel_rfl) (evo_run 2 (by kernel_rfl) (zO fun τ hτ=>?_))))
 obtain rfl:=osi h
 exact zG hτ
 replace h:=iteF hb h
 refine evd_run 16 (by kernel_rfl) (evd_end (by kernel_rfl) (evo_run 2 (by kernel_rfl) (zO fun τ hτ=>?_)))
 obtain rfl:=osi h
 exact zG hτ
 replace h:=iteF hb h
 refine evd_run 35 (by kernel_rfl) (evd_end (by kernel_rfl) (evo_run 2 (by kernel_rfl) (zO fun τ hτ=>?_)))
 obtain rfl:=osi h
 exact zG hτ
 replace h:=iteF hb h
 refine evd_run 45 (by kernel_rfl) (evd_end (by kernel_rfl) (evo_run 2 (by kernel_rfl) (zO fun τ hτ=>?_)))
 obtain rfl:=osi h
 exact zG hτ
 refine yE hτ [1,2,5,67] [500000] (zI j229 (fun hb=>?_) fun hb=>?_)
 replace h:=iteT hb h
 refine z8 1 ⟨[(4,vB true)],[]⟩ fun τ hτ=>?_
 refine bl_ret (th_ret ?_)
 obtain rfl:=osi h
 exact zF hτ
 replace h:=iteF hb h
 refine zM fun τ hτ=>?_
 refine bl_normal (yE hτ [1,2,5] [500000] (zD (z6 3 fun τ hτ=>?_)))
 obtain rfl:=osi h
 exact zH hτ
 replace h:=iteF hb h
 refine zL 0 fun τ hτ=>?_
 refine th_exit ?_
 obtain rfl:=osi h
 exact zF hτ
 intro x
 rcases x with _ | _ <;> rfl
 intro τ hτ
 rcases x236 with j237 | j238
 refine bl_ret (th_ret ?_)
 obtain rfl:=osi h
 exact zV hτ [(4,vB true)]
 refine zQ (yE hτ [] [] (z8 1 ⟨[(4,vB false)],[]⟩ fun τ hτ=>?_))
 obtain rfl:=osi h
 exact zV hτ [(4,vB false)]
end Go.Proofs.YtgfjbgoehhnaeaaGreat
