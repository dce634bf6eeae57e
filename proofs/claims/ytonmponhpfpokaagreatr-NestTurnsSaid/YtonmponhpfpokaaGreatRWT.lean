/- Each Go function does what its model says; written by a program out of the translation. -/
import Derived.Test.YtonmponhpfpokaaGreatRBase
import Derived.Test.YtonmponhpfpokaaGreatRNeMT
set_option linter.unusedVariables false
set_option linter.unusedSimpArgs false
set_option linter.unusedSectionVars false
namespace Go.Proofs.YtonmponhpfpokaaGreatR
open Go Go.VI Go.SM Go.Proofs
set_option maxRecDepth 100000
set_option maxHeartbeats 4000000
theorem W.nest_from_ok {n : Int} {lo : Int} {hi : Int} {r : Bool} (h : nest_from n lo hi = some r) : PC G.P 51 [(vI n),(vI lo),(vI hi)] [] (vB r) []:=by
 refine zU G Tryz.func51 (zK ⟨[(0,vI n),(1,vI lo),(2,vI hi)],[]⟩ (z3 1 ⟨[(0,vI n),(1,vI lo),(2,vI hi)],[]⟩ ?_))
 refine zB ?_
 obtain ⟨j1,hj1,h⟩:=bindS h
 refine zT ⟨[(6,vB j1)],[]⟩ ?_ fun τ hτ=>?_
 replace h:=hj1
 refine zA 4 (zS (decide (lo ≤ n)) (fun b0=>⟨[(0,vI n),(2,vI hi),(10,vB b0)],[]⟩) (fun hb=>?_) fun hb=>?_)
 replace h:=iteT hb h
 refine z6 5 fun τ hτ=>?_
 obtain rfl:=osi h
 exact zG hτ
 replace h:=iteF hb h
 refine z6 5 fun τ hτ=>?_
 obtain rfl:=osi h
 exact zG hτ
 refine zE hτ ⟨[(6,vB j1)],[]⟩ (zN fun τ hτ=>?_)
 obtain rfl:=osi h
 exact zV hτ [(6,vB j1)]
theorem W.strings_Contains_ok {s sub : ByteArray} {r : Bool} (h : strings_Contains s sub = some r) : PC G.P 91 [vS s,vS sub] [] (vB r) []:=by
 unfold strings_Contains at h
 split at h
 rename_i hs
 injection h with h; subst h
 exact pc_pure (args:=[.string s,.string sub]) (by kernel_rfl) 0 (by kernel_rfl) fun m w hm=>Any.strings_Contains Tryz.contains_lays s sub m w hs hm
 cases h
theorem W.part_ValidName_k_ok {s0 : ByteArray} {r : Bool} (h : part_ValidName_k s0 = some r) : PC G.P 49 [(vS s0)] [] (vB r) []:=by
 refine zU G Tryz.func49 (zK ⟨[(0,vS s0)],[]⟩ (z3 1 ⟨[(0,vS s0)],[]⟩ ?_))
 refine zB (z7 (zA 4 ?_))
 refine zS (decide ((s0.size : Int) < 1)) (fun b0=>⟨[(0,vS s0),(8,vB b0)],[]⟩) (fun hb=>?_) fun hb=>?_
 replace h:=iteT hb h
 exact nomatch h
 replace h:=iteF hb h
 refine zA 5 (zS (decide ((s0.size : Int) > 8)) (fun b0=>⟨[(0,vS s0),(13,vB b0)],[]⟩) (fun hb=>?_) fun hb=>?_)
 replace h:=iteT hb h
 exact nomatch h
 replace h:=iteF hb h
 refine zA 1 ?_
 obtain ⟨x7,hx7,h⟩:=bindS h
 refine evs_at (at_sidx (s:=s0) (i:=0) (kd:=.i64) (by kernel_rfl) hx7) (zA 3 (zS (decide (x7 < 97)) (fun b0=>⟨[(0,vS s0),(18,vB b0)],[]⟩) (fun hb=>?_) fun hb=>?_))
 replace h:=iteT hb h
 exact nomatch h
 replace h:=iteF hb h
 refine zA 1 ?_
 obtain ⟨x8,hx8,h⟩:=bindS h
 refine evs_at (at_sidx (s:=s0) (i:=0) (kd:=.i64) (by kernel_rfl) hx8) (z1 2 ⟨[(0,vS s0),(22,vB (decide (x8 > 122)))],[]⟩ (zI (decide (x8 > 122)) (fun hb=>?_) fun hb=>?_))
 replace h:=iteT hb h
 exact nomatch h
 replace h:=iteF hb h
 refine z4 ⟨[(0,vS s0)],[]⟩ (zB (z3 3 ⟨[(0,vS s0),(24,vI (s0.size : Int)),(25,vI 0)],[]⟩ ?_))
 refine zC ?_
 obtain ⟨x38,hx38,h⟩:=bindS h
 refine sem_loopS (fun (s29 : Int)=>⟨[(0,vS s0),(24,vI (s0.size : Int)),(25,vI s29)],[]⟩) (fun (x38 : Unit)=>(.exit 0,⟨[(0,vS s0)],[]⟩)) (part_ValidName_k_l1 s0) 0 x38 (by kernel_rfl) (here (by kernel_rfl)) (iter_loop hx38) ?_ ?_ ?_
 intro s29 r h
 refine z3 1 ⟨[(0,vS s0),(24,vI (s0.size : Int)),(25,vI s29),(26,vB (decide (s29 < (s0.size : Int))))],[]⟩ (zB (zI (decide (s29 < (s0.size : Int))) (fun hb=>?_) fun hb=>?_))
 replace h:=iteT hb h
 refine z4 ⟨[(0,vS s0),(24,vI (s0.size : Int)),(25,vI s29)],[]⟩ (zB (zC ?_))
 refine z3 2 ⟨[(0,vS s0),(3,vI s29),(24,vI (s0.size : Int)),(25,vI s29)],[]⟩ (z7 (zA 2 ?_))
 obtain ⟨x37,hx37,h⟩:=bindS h
 refine evs_at (at_sidx (s:=s0) (i:=s29) (kd:=.i64) (by kernel_rfl) hx37) (z1 1 ⟨[(0,vS s0),(4,vK .u8 x37),(24,vI (s0.size : Int)),(25,vI s29)],[]⟩ (z7 ?_))
 refine zA 3 (zS (decide (x37 < 97)) (fun b0=>⟨[(0,vS s0),(4,vK .u8 x37),(24,vI (s0.size : Int)),(25,vI s29),(33,vB b0)],[]⟩) (fun hb=>?_) fun hb=>?_)
 replace h:=iteT hb h
 exact nomatch h
 replace h:=iteF hb h
 refine zA 4 (zS (decide (x37 > 122)) (fun b0=>⟨[(0,vS s0),(4,vK .u8 x37),(24,vI (s0.size : Int)),(25,vI s29),(37,vB b0)],[]⟩) (fun hb=>?_) fun hb=>?_)
 replace h:=iteT hb h
 exact nomatch h
 replace h:=iteF hb h
 refine z1 7 ⟨[(0,vS s0),(24,vI (s0.size : Int)),(25,vI s29),(44,vB false)],[]⟩ (sem_condF (by kernel_rfl) (by kernel_rfl) (zM fun τ hτ=>?_))
 refine bl_normal (zE hτ ⟨[(0,vS s0),(24,vI (s0.size : Int)),(25,vI s29)],[]⟩ (zD ?_))
 refine z6 2 fun τ hτ=>?_
 obtain rfl:=osi h
 exact zH hτ
 replace h:=iteF hb h
 refine zL 0 fun τ hτ=>?_
 refine th_exit ?_
 obtain rfl:=osi h
 exact zF hτ
 intro x
 rfl
 intro τ hτ
 refine zQ (zE hτ ⟨[(0,vS s0)],[]⟩ (z7 ?_))
 refine zA 1 ?_
 obtain ⟨s42,hs42,h⟩:=bindS h
 refine evs_op (st_cat (a:=(ByteArray.mk #[32])) (b:=s0) (by kernel_rfl) hs42) ?_
 obtain ⟨s43,hs43,h⟩:=bindS h
 refine evs_op (st_cat (a:=s42) (b:=(ByteArray.mk #[32])) (by kernel_rfl) hs43) ?_
 obtain ⟨r44,hr44,h⟩:=bindS h
 refine evs_callP [] (by kernel_rfl) (W.strings_Contains_ok hr44) (by kernel_rfl) (.inl rfl) (by kernel_rfl) (z1 2 ⟨[(2,vB (!r44))],[]⟩ (zN fun τ hτ=>?_))
 obtain rfl:=osi h
 exact zV hτ [(2,vB (!r44))]
theorem W.nest_from_k_ok {n : Int} {lo : Int} {hi : Int} {r : Bool} (h : nest_from_k n lo hi = some r) : PC G.P 51 [(vI n),(vI lo),(vI hi)] [] (vB r) []:=by
 refine zU G Tryz.func51 (zK ⟨[(0,vI n),(1,vI lo),(2,vI hi)],[]⟩ (z3 1 ⟨[(0,vI n),(1,vI lo),(2,vI hi)],[]⟩ ?_))
 refine z7 (zA 4 (zS (decide (lo ≤ n)) (fun b0=>⟨[(0,vI n),(2,vI hi),(10,vB b0)],[]⟩) (fun hb=>?_) fun hb=>?_))
 replace h:=iteT hb h
 refine z1 5 ⟨[(6,vB (decide (n ≤ hi)))],[]⟩ (zN fun τ hτ=>?_)
 obtain rfl:=osi h
 exact zV hτ [(6,vB (decide (n ≤ hi)))]
 replace h:=iteF hb h
 exact nomatch h
theorem W.nest_plain_k_ok {gauge : Int} {grain : Int} {r : Bool} (h : nest_plain_k gauge grain = some r) : PC G.P 50 [(vI gauge),(vI grain)] [] (vB r) []:=by
 refine zU G Tryz.func50 (zK ⟨[(0,vI gauge),(1,vI grain)],[]⟩ (z3 1 ⟨[(0,vI gauge),(1,vI grain)],[]⟩ ?_))
 refine z7 (zA 1 ?_)
 obtain ⟨r3,hr3,h⟩:=bindS h
 refine evs_callP [] (by kernel_rfl) (W.nest_from_k_ok hr3) (by kernel_rfl) (.inl rfl) (by kernel_rfl) (zA 1 (zS r3 (fun b0=>⟨[(1,vI grain),(7,vB b0)],[]⟩) (fun hb=>?_) fun hb=>?_))
 replace h:=iteT hb h
 refine zA 1 ?_
 obtain ⟨r4,hr4,h⟩:=bindS h
 refine evs_callP [] (by kernel_rfl) (W.nest_from_k_ok hr4) (by kernel_rfl) (.inl rfl) (by kernel_rfl) (z1 2 ⟨[(4,vB r4)],[]⟩ (zN fun τ hτ=>?_))
 obtain rfl:=osi h
 exact zV hτ [(4,vB r4)]
 replace h:=iteF hb h
 exact nomatch h
theorem W.geom_within_k_ok {n : Int} {most : Int} {r : Bool} (h : geom_within_k n most = some r) : PC G.P 122 [(vI n),(vI most)] [] (vB r) []:=by
 refine zU G Tryz.func122 (zK ⟨[(0,vI n),(1,vI most)],[]⟩ (z3 1 ⟨[(0,vI n),(1,vI most)],[]⟩ ?_))
 refine z7 (zA 5 (zS (decide ((ineg most) ≤ n)) (fun b0=>⟨[(0,vI n),(1,vI most),(9,vB b0)],[]⟩) (fun hb=>?_) fun hb=>?_))
 replace h:=iteT hb h
 refine z1 5 ⟨[(4,vB (decide (n ≤ most)))],[]⟩ (zN fun τ hτ=>?_)
 obtain rfl:=osi h
 exact zV hτ [(4,vB (decide (n ≤ most)))]
 replace h:=iteF hb h
 exact nomatch h
theorem W.geom_ValidRect_1_k_ok {x0 : Int} {w : Int} {r : Bool} (h : geom_ValidRect_1_k x0 w = some r) : PC G.P 121 [(vI x0),(vI w)] [] (vB r) []:=by
 refine zU G Tryz.func121 (zK ⟨[(0,vI x0),(1,vI w)],[]⟩ (z3 1 ⟨[(0,vI x0),(1,vI w)],[]⟩ ?_))
 refine z7 (zA 1 ?_)
 obtain ⟨r2,hr2,h⟩:=bindS h
 refine evs_callP [] (by kernel_rfl) (W.geom_within_k_ok hr2) (by kernel_rfl) (.inl rfl) (by kernel_rfl) (zA 1 (zS r2 (fun b0=>⟨[(0,vI x0),(1,vI w),(7,vB b0)],[]⟩) (fun hb=>?_) fun hb=>?_))
 replace h:=iteT hb h
 refine zA 4 (zS (decide (w > 0)) (fun b0=>⟨[(0,vI x0),(1,vI w),(11,vB b0)],[]⟩) (fun hb=>?_) fun hb=>?_)
 replace h:=iteT hb h
 refine zA 4 (zS (decide (w ≤ 2097152)) (fun b0=>⟨[(0,vI x0),(1,vI w),(15,vB b0)],[]⟩) (fun hb=>?_) fun hb=>?_)
 replace h:=iteT hb h
 refine z1 6 ⟨[(4,vB (decide ((iadd x0 w) ≤ 1048576)))],[]⟩ (zN fun τ hτ=>?_)
 obtain rfl:=osi h
 exact zV hτ [(4,vB (decide ((iadd x0 w) ≤ 1048576)))]
 replace h:=iteF hb h
 exact nomatch h
 replace h:=iteF hb h
 exact nomatch h
 replace h:=iteF hb h
 exact nomatch h
theorem W.geom_ValidRect_k_ok {r0 : Rect} {r : Bool} (h : geom_ValidRect_k r0 = some r) : PC G.P 92 [(.agg (c_Rect r0))] [] (vB r) []:=by
 refine zU G Tryz.func92 (zK ⟨[(0,.agg (c_Rect r0))],[]⟩ (z3 2 ⟨[(1,.ptr 1 0)],[(1,.box (c_Rect r0))]⟩ ?_))
 refine z3 1 ⟨[(1,.ptr 1 0),(3,.fn 121 [])],[(1,.box (c_Rect r0))]⟩ (z7 (zA 5 ?_))
 obtain ⟨r3,hr3,h⟩:=bindS h
 refine evs_callP [] (by kernel_rfl) (W.geom_ValidRect_1_k_ok hr3) (by kernel_rfl) (.inl rfl) (by kernel_rfl) (zA 1 (zS r3 (fun b0=>⟨[(1,.ptr 1 0),(3,.fn 121 []),(10,vB b0)],[(1,.box (c_Rect r0))]⟩) (fun hb=>?_) fun hb=>?_))
 replace h:=iteT hb h
 refine zA 5 ?_
 obtain ⟨r4,hr4,h⟩:=bindS h
 refine evs_callP [] (by kernel_rfl) (W.geom_ValidRect_1_k_ok hr4) (by kernel_rfl) (.inl rfl) (by kernel_rfl) (z1 2 ⟨[(2,vB r4)],[]⟩ (zN fun τ hτ=>?_))
 obtain rfl:=osi h
 exact zV hτ [(2,vB r4)]
 replace h:=iteF hb h
 exact nomatch h
theorem W.nest_valid_k_ok {l : (List Rect)} {r : Bool} (h : nest_valid_k l = some r) : PC G.P 52 [(.sl (List.map c_Rect l))] [] (vB r) []:=by
 refine zU G Tryz.func52 (zK ⟨[(0,s_Rect l)],[]⟩ (z3 1 ⟨[(0,s_Rect l)],[]⟩ ?_))
 refine zB (z7 (zA 1 ?_))
 refine evs_op (st_len (c:=c_Rect) (l:=l) (x:=(s_Rect l)) (by kernel_rfl) (by kernel_rfl)) (z1 1 ⟨[(5,s_Rect l),(6,vI (l.length : Int)),(7,vI 0)],[]⟩ (zC ?_))
 obtain ⟨x54,hx54,h⟩:=bindS h
 refine sem_loopS (fun (s37 : Int)=>⟨[(5,s_Rect l),(6,vI (l.length : Int)),(7,vI s37)],[]⟩) (fun (x54 : Unit)=>(.exit 0,⟨[],[]⟩)) (nest_valid_k_l1 l) 0 x54 (by kernel_rfl) (here (by kernel_rfl)) (iter_loop hx54) ?_ ?_ ?_
 intro s37 r h
 refine z3 1 ⟨[(5,s_Rect l),(6,vI (l.length : Int)),(7,vI s37),(8,vB (decide (s37 < (l.length : Int))))],[]⟩ (zB (zI (decide (s37 < (l.length : Int))) (fun hb=>?_) fun hb=>?_))
 replace h:=iteT hb h
 refine z4 ⟨[(5,s_Rect l),(6,vI (l.length : Int)),(7,vI s37)],[]⟩ (zB (zC ?_))
 refine z7 ?_
 obtain ⟨x51,hx51,h⟩:=bindS h
 refine evs_op (st_idx (c:=c_Rect) (l:=l) (i:=s37) (kd:=.i64) (sz:=4) (by kernel_rfl) hx51 rfl) (z1 3 ⟨[(4,.ptr 4 0),(5,s_Rect l),(6,vI (l.length : Int)),(7,vI s37)],[(4,.box (c_Rect x51))]⟩ (z7 ?_))
 refine zA 1 ?_
 obtain ⟨r53,hr53,h⟩:=bindS h
 refine evs_callP [] (by kernel_rfl) (W.geom_ValidRect_k_ok hr53) (by kernel_rfl) (.inl rfl) (by kernel_rfl) (z1 1 ⟨[(5,s_Rect l),(6,vI (l.length : Int)),(7,vI s37),(13,vB (!r53))],[]⟩ (zI (!r53) (fun hb=>?_) fun hb=>?_))
 replace h:=iteT hb h
 exact nomatch h
 replace h:=iteF hb h
 refine zM fun τ hτ=>?_
 refine bl_normal (zE hτ ⟨[(5,s_Rect l),(6,vI (l.length : Int)),(7,vI s37)],[]⟩ (zD ?_))
 refine z6 2 fun τ hτ=>?_
 obtain rfl:=osi h
 exact zH hτ
 replace h:=iteF hb h
 refine zL 0 fun τ hτ=>?_
 refine th_exit ?_
 obtain rfl:=osi h
 exact zF hτ
 intro x
 rfl
 intro τ hτ
 refine zQ (zE hτ ⟨[],[]⟩ (z8 1 ⟨[(2,vB true)],[]⟩ fun τ hτ=>?_))
 obtain rfl:=osi h
 exact zV hτ [(2,vB true)]
theorem W.nest_inner_k_ok {s0 : Sheet} {margin : Int} {r : Rect × Bool} (h : nest_inner_k s0 margin = some r) : PC G.P 53 [(.agg (c_Sheet s0)),(vI margin)] [] (.tup [(.agg (c_Rect r.1)),(vB r.2)]) [(0,.box [(vI margin),(vI margin),(vI (isub s0.Width (imul 2 margin))),(vI (isub s0.Height (imul 2 margin)))])]:=by
 refine zU G Tryz.func53 (zK ⟨[(0,.agg (c_Sheet s0)),(1,vI margin)],[]⟩ (z3 3 ⟨[(1,vI margin),(2,.ptr 2 0),(4,.ptr 4 0)],[(2,.box (c_Sheet s0)),(4,.box [(vI 0),(vI 0),(vI 0),(vI 0)])]⟩ ?_))
 refine z3 15 ⟨[(4,.ptr 4 0),(6,.ptr 6 0)],[(4,.box [(vI 0),(vI 0),(vI 0),(vI 0)]),(6,.box [(vI margin),(vI margin),(vI (isub s0.Width (imul 2 margin))),(vI (isub s0.Height (imul 2 margin)))])]⟩ (zB (sem_drawN [] [] [] [] [] 3 (by kernel_rfl) (by kernel_rfl) (by kernel_rfl) ?_))
 refine evd_run 2 (by kernel_rfl) ?_
 obtain ⟨r3,hr3,h⟩:=bindS h
 refine evd_callS [] [] (by kernel_rfl) (by kernel_rfl) (W.geom_ValidRect_k_ok hr3) (by kernel_rfl) (.inl rfl) (by kernel_rfl) (by kernel_rfl) (evd_end (by kernel_rfl) (evo_run 2 (by kernel_rfl) ?_))
 refine zO fun τ hτ=>?_
 refine zE hτ ⟨[(4,.ptr 4 0),(5,vB r3)],[(4,.box [(vI margin),(vI margin),(vI (isub s0.Width (imul 2 margin))),(vI (isub s0.Height (imul 2 margin)))])]⟩ (zN fun τ hτ=>?_)
 obtain rfl:=osi h
 exact rk_ret hτ [(4,.ptr 0 0),(5,vB r3)] (subR_prep [] [(4,0)] (by kernel_rfl) rfl rfl (by kernel_rfl)) (by kernel_rfl)
theorem W.nest_ValidateSheet_k_ok {s0 : Sheet} {r : Int} (h : nest_ValidateSheet_k s0 = some r) : PC G.P 15 [(.agg (c_Sheet s0))] [] (vI r) []:=by
 refine zU G Tryz.func15 (zK ⟨[(0,.agg (c_Sheet s0))],[]⟩ (z3 2 ⟨[(1,.ptr 1 0)],[(1,.box (c_Sheet s0))]⟩ ?_))
 refine zB (zC (z7 ?_))
 refine zA 2 ?_
 obtain ⟨r17,hr17,h⟩:=bindS h
 refine evs_callP [] (by kernel_rfl) (W.part_ValidName_k_ok hr17) (by kernel_rfl) (.inl rfl) (by kernel_rfl) (zA 2 (zS r17 (fun b0=>⟨[(1,.ptr 1 0),(14,vB (!b0))],[(1,.box (c_Sheet s0))]⟩) (fun hb=>?_) fun hb=>?_))
 replace h:=iteT hb h
 refine zA 2 ?_
 obtain ⟨r18,hr18,h⟩:=bindS h
 refine evs_callP [] (by kernel_rfl) (W.part_ValidName_k_ok hr18) (by kernel_rfl) (.inl rfl) (by kernel_rfl) (z1 3 ⟨[(1,.ptr 1 0),(9,vB (!r18))],[(1,.box (c_Sheet s0))]⟩ (zI (!r18) (fun hb=>?_) fun hb=>?_))
 replace h:=iteT hb h
 exact nomatch h
 replace h:=iteF hb h
 refine z7 (zA 4 ?_)
 obtain ⟨r22,hr22,h⟩:=bindS h
 refine evs_callP [] (by kernel_rfl) (W.nest_plain_k_ok hr22) (by kernel_rfl) (.inl rfl) (by kernel_rfl) (zA 2 (zS r22 (fun b0=>⟨[(1,.ptr 1 0),(27,vB (!b0))],[(1,.box (c_Sheet s0))]⟩) (fun hb=>?_) fun hb=>?_))
 replace h:=iteT hb h
 refine zA 2 ?_
 obtain ⟨r23,hr23,h⟩:=bindS h
 refine evs_callP [] (by kernel_rfl) (W.nest_from_k_ok hr23) (by kernel_rfl) (.inl rfl) (by kernel_rfl) (zA 3 (zS r23 (fun b0=>⟨[(1,.ptr 1 0),(33,vB (!b0))],[(1,.box (c_Sheet s0))]⟩) (fun hb=>?_) fun hb=>?_))
 replace h:=iteT hb h
 refine zA 2 ?_
 obtain ⟨r24,hr24,h⟩:=bindS h
 refine evs_callP [] (by kernel_rfl) (W.nest_from_k_ok hr24) (by kernel_rfl) (.inl rfl) (by kernel_rfl) (z1 3 ⟨[(1,.ptr 1 0),(20,vB (!r24))],[(1,.box (c_Sheet s0))]⟩ (zI (!r24) (fun hb=>?_) fun hb=>?_))
 replace h:=iteT hb h
 exact nomatch h
 replace h:=iteF hb h
 refine z7 (zA 2 (evs_op (st_len (c:=c_Rect) (l:=s0.Clamps) (x:=(s_Rect s0.Clamps)) (by kernel_rfl) (by kernel_rfl)) ?_))
 refine zA 2 (zS (decide ((s0.Clamps.length : Int) > 4)) (fun b0=>⟨[(1,.ptr 1 0),(44,vB b0)],[(1,.box (c_Sheet s0))]⟩) (fun hb=>?_) fun hb=>?_)
 replace h:=iteT hb h
 exact nomatch h
 replace h:=iteF hb h
 refine zA 2 (evs_op (st_len (c:=c_Rect) (l:=s0.Used) (x:=(s_Rect s0.Used)) (by kernel_rfl) (by kernel_rfl)) (z1 3 ⟨[(1,.ptr 1 0),(39,vB (decide ((s0.Used.length : Int) > 48)))],[(1,.box (c_Sheet s0))]⟩ ?_))
 refine zI (decide ((s0.Used.length : Int) > 48)) (fun hb=>?_) fun hb=>?_
 replace h:=iteT hb h
 exact nomatch h
 replace h:=iteF hb h
 refine z7 (zA 2 ?_)
 obtain ⟨r27,hr27,h⟩:=bindS h
 refine evs_callP [] (by kernel_rfl) (W.nest_valid_k_ok hr27) (by kernel_rfl) (.inl rfl) (by kernel_rfl) (zA 2 (zS r27 (fun b0=>⟨[(1,.ptr 1 0),(55,vB (!b0))],[(1,.box (c_Sheet s0))]⟩) (fun hb=>?_) fun hb=>?_))
 replace h:=iteT hb h
 refine zA 2 ?_
 obtain ⟨r28,hr28,h⟩:=bindS h
 refine evs_callP [] (by kernel_rfl) (W.nest_valid_k_ok hr28) (by kernel_rfl) (.inl rfl) (by kernel_rfl) (z1 3 ⟨[(1,.ptr 1 0),(50,vB (!r28))],[(1,.box (c_Sheet s0))]⟩ (zI (!r28) (fun hb=>?_) fun hb=>?_))
 replace h:=iteT hb h
 exact nomatch h
 replace h:=iteF hb h
 refine zM fun τ hτ=>?_
 refine bl_normal (zE hτ ⟨[(1,.ptr 1 0)],[(1,.box (c_Sheet s0))]⟩ (z7 ?_))
 refine zA 1 ?_
 obtain ⟨r30,hr30,h⟩:=bindS h
 refine evs_callS [] [(0,700050)] [] (by kernel_rfl) (W.nest_inner_k_ok hr30) (by kernel_rfl) (by kernel_rfl) (.inl rfl) (z1 6 ⟨[(1,.ptr 1 0),(3,.ptr 3 0)],[(1,.box (c_Sheet s0)),(3,.box (c_Rect r30.1))]⟩ (zB ?_))
 refine z7 (zA 5 (evs_op (st_len (c:=(cS c_Rect)) (l:=[s0.Clamps,s0.Used]) (x:=(.sl (List.map (cS c_Rect) [s0.Clamps,s0.Used]))) (by kernel_rfl) (by kernel_rfl)) ?_))
 refine z1 1 ⟨[(3,.ptr 3 0),(70,.sl (List.map (cS c_Rect) [s0.Clamps,s0.Used])),(71,vI ([s0.Clamps,s0.Used].length : Int)),(72,vI 0)],[(3,.box (c_Rect r30.1))]⟩ (zC ?_)
 obtain ⟨x84,hx84,h⟩:=bindS h
 refine sem_loopS (fun (s67 : Int)=>⟨[(3,.ptr 500000 0),(70,.sl (List.map (cS c_Rect) [s0.Clamps,s0.Used])),(71,vI ([s0.Clamps,s0.Used].length : Int)),(72,vI s67)],[(500000,.box (c_Rect r30.1))]⟩) (fun (x84 : Unit)=>(.exit 1,⟨[],[]⟩)) (nest_ValidateSheet_k_l2 s0) 0 x84 (by kernel_rfl) (subR_prep [] [(3,500000)] (by kernel_rfl) rfl rfl (by kernel_rfl)) (iter_loop hx84) ?_ ?_ ?_
 intro s67 r h
 refine z3 1 ⟨[(3,.ptr 500000 0),(70,.sl (List.map (cS c_Rect) [s0.Clamps,s0.Used])),(71,vI ([s0.Clamps,s0.Used].length : Int)),(72,vI s67),(73,vB (decide (s67 < ([s0.Clamps,s0.Used].length : Int))))],[(500000,.box (c_Rect r30.1))]⟩ (zB (zI (decide (s67 < ([s0.Clamps,s0.Used].length : Int))) (fun hb=>?_) fun hb=>?_))
 replace h:=iteT hb h
 refine z4 ⟨[(3,.ptr 500000 0),(70,.sl (List.map (cS c_Rect) [s0.Clamps,s0.Used])),(71,vI ([s0.Clamps,s0.Used].length : Int)),(72,vI s67)],[(500000,.box (c_Rect r30.1))]⟩ (zB (zC ?_))
 refine z7 ?_
 obtain ⟨x81,hx81,h⟩:=bindS h
 refine evs_op (st_idx (c:=(cS c_Rect)) (l:=[s0.Clamps,s0.Used]) (i:=s67) (kd:=.i64) (sz:=1) (by kernel_rfl) hx81 rfl) (z1 2 ⟨[(3,.ptr 500000 0),(6,s_Rect x81),(70,.sl (List.map (cS c_Rect) [s0.Clamps,s0.Used])),(71,vI ([s0.Clamps,s0.Used].length : Int)),(72,vI s67)],[(500000,.box (c_Rect r30.1))]⟩ (z7 ?_))
 refine zA 1 (evs_op (st_len (c:=c_Rect) (l:=x81) (x:=(s_Rect x81)) (by kernel_rfl) (by kernel_rfl)) (z1 1 ⟨[(3,.ptr 500000 0),(70,.sl (List.map (cS c_Rect) [s0.Clamps,s0.Used])),(71,vI ([s0.Clamps,s0.Used].length : Int)),(72,vI s67),(76,s_Rect x81),(77,vI (x81.length : Int)),(78,vI 0)],[(500000,.box (c_Rect r30.1))]⟩ ?_))
 refine zC ?_
 obtain ⟨x83,hx83,h⟩:=bindS h
 refine sem_loopS (fun (s82 : Unit)=>⟨[(3,.ptr 500000 0),(70,.sl (List.map (cS c_Rect) [s0.Clamps,s0.Used])),(71,vI ([s0.Clamps,s0.Used].length : Int)),(72,vI s67),(76,s_Rect x81),(77,vI (x81.length : Int)),(78,vI 0)],[(500000,.box (c_Rect r30.1))]⟩) (fun (x83 : Unit)=>(.exit 3,⟨[(3,.ptr 500000 0),(70,.sl (List.map (cS c_Rect) [s0.Clamps,s0.Used])),(71,vI ([s0.Clamps,s0.Used].length : Int)),(72,vI s67)],[(500000,.box (c_Rect r30.1))]⟩)) (nest_ValidateSheet_k_l1 x81) () x83 (by kernel_rfl) (here (by kernel_rfl)) (iter_loop hx83) ?_ ?_ ?_
 intro s82 r h
 refine z3 1 ⟨[(3,.ptr 500000 0),(70,.sl (List.map (cS c_Rect) [s0.Clamps,s0.Used])),(71,vI ([s0.Clamps,s0.Used].length : Int)),(72,vI s67),(76,s_Rect x81),(77,vI (x81.length : Int)),(78,vI 0),(79,vB (decide (0 < (x81.length : Int))))],[(500000,.box (c_Rect r30.1))]⟩ (zB (zI (decide (0 < (x81.length : Int))) (fun hb=>?_) fun hb=>?_))
 replace h:=iteT hb h
 exact nomatch h
 replace h:=iteF hb h
 refine zL 3 fun τ hτ=>?_
 refine th_exit ?_
 obtain rfl:=osi h
 exact zF hτ
 intro x
 rfl
 intro τ hτ
 refine zQ (bl_normal (zE hτ ⟨[(3,.ptr 500000 0),(70,.sl (List.map (cS c_Rect) [s0.Clamps,s0.Used])),(71,vI ([s0.Clamps,s0.Used].length : Int)),(72,vI s67)],[(500000,.box (c_Rect r30.1))]⟩ ?_))
 refine zD (z6 2 fun τ hτ=>?_)
 obtain rfl:=osi h
 exact zH hτ
 replace h:=iteF hb h
 refine zL 1 fun τ hτ=>?_
 refine th_exit ?_
 obtain rfl:=osi h
 exact zF hτ
 intro x
 rfl
 intro τ hτ
 refine zQ (zE hτ ⟨[],[]⟩ (z8 1 ⟨[(2,vI 0)],[]⟩ fun τ hτ=>?_))
 obtain rfl:=osi h
 exact zV hτ [(2,vI 0)]
 replace h:=iteF hb h
 exact nomatch h
 replace h:=iteF hb h
 exact nomatch h
 replace h:=iteF hb h
 exact nomatch h
 replace h:=iteF hb h
 exact nomatch h
theorem W.nest_takenError_k_ok {taken : (List (List Rect))} {r : Int} (h : nest_takenError_k taken = some r) : PC G.P 66 [(.sl (List.map (cS c_Rect) taken))] [] (vI r) []:=by
 refine zU G Tryz.func66 (zK ⟨[(0,.sl (List.map (cS c_Rect) taken))],[]⟩ (z3 1 ⟨[(0,.sl (List.map (cS c_Rect) taken))],[]⟩ ?_))
 refine zB (z7 (zA 1 ?_))
 refine evs_op (st_len (c:=(cS c_Rect)) (l:=taken) (x:=(.sl (List.map (cS c_Rect) taken))) (by kernel_rfl) (by kernel_rfl)) (z1 1 ⟨[(0,.sl (List.map (cS c_Rect) taken)),(9,vB (decide ((taken.length : Int) > 8)))],[]⟩ (zI (decide ((taken.length : Int) > 8)) (fun hb=>?_) fun hb=>?_))
 replace h:=iteT hb h
 exact nomatch h
 replace h:=iteF hb h
 refine z4 ⟨[(0,.sl (List.map (cS c_Rect) taken))],[]⟩ (zB (z7 ?_))
 refine zA 1 (evs_op (st_len (c:=(cS c_Rect)) (l:=taken) (x:=(.sl (List.map (cS c_Rect) taken))) (by kernel_rfl) (by kernel_rfl)) (z1 1 ⟨[(0,.sl (List.map (cS c_Rect) taken)),(10,.sl (List.map (cS c_Rect) taken)),(11,vI (taken.length : Int)),(12,vI 0)],[]⟩ ?_))
 refine zC ?_
 obtain ⟨x30,hx30,h⟩:=bindS h
 refine sem_loopS (fun (s21 : Int)=>⟨[(0,.sl (List.map (cS c_Rect) taken)),(10,.sl (List.map (cS c_Rect) taken)),(11,vI (taken.length : Int)),(12,vI s21)],[]⟩) (fun (x30 : Unit)=>(.exit 0,⟨[(0,.sl (List.map (cS c_Rect) taken))],[]⟩)) (nest_takenError_k_l1 taken) 0 x30 (by kernel_rfl) (here (by kernel_rfl)) (iter_loop hx30) ?_ ?_ ?_
 intro s21 r h
 refine z3 1 ⟨[(0,.sl (List.map (cS c_Rect) taken)),(10,.sl (List.map (cS c_Rect) taken)),(11,vI (taken.length : Int)),(12,vI s21),(13,vB (decide (s21 < (taken.length : Int))))],[]⟩ (zB (zI (decide (s21 < (taken.length : Int))) (fun hb=>?_) fun hb=>?_))
 replace h:=iteT hb h
 refine z4 ⟨[(0,.sl (List.map (cS c_Rect) taken)),(10,.sl (List.map (cS c_Rect) taken)),(11,vI (taken.length : Int)),(12,vI s21)],[]⟩ (zB (zC ?_))
 refine z7 ?_
 obtain ⟨x29,hx29,h⟩:=bindS h
 refine evs_op (st_idx (c:=(cS c_Rect)) (l:=taken) (i:=s21) (kd:=.i64) (sz:=1) (by kernel_rfl) hx29 rfl) (z1 2 ⟨[(0,.sl (List.map (cS c_Rect) taken)),(4,s_Rect x29),(10,.sl (List.map (cS c_Rect) taken)),(11,vI (taken.length : Int)),(12,vI s21)],[]⟩ (z7 ?_))
 refine zA 1 (evs_op (st_len (c:=c_Rect) (l:=x29) (x:=(s_Rect x29)) (by kernel_rfl) (by kernel_rfl)) (z1 1 ⟨[(0,.sl (List.map (cS c_Rect) taken)),(10,.sl (List.map (cS c_Rect) taken)),(11,vI (taken.length : Int)),(12,vI s21),(18,vB (decide ((x29.length : Int) > 12)))],[]⟩ ?_))
 refine zI (decide ((x29.length : Int) > 12)) (fun hb=>?_) fun hb=>?_
 replace h:=iteT hb h
 exact nomatch h
 replace h:=iteF hb h
 refine zM fun τ hτ=>?_
 refine bl_normal (zE hτ ⟨[(0,.sl (List.map (cS c_Rect) taken)),(10,.sl (List.map (cS c_Rect) taken)),(11,vI (taken.length : Int)),(12,vI s21)],[]⟩ (zD ?_))
 refine z6 2 fun τ hτ=>?_
 obtain rfl:=osi h
 exact zH hτ
 replace h:=iteF hb h
 refine zL 0 fun τ hτ=>?_
 refine th_exit ?_
 obtain rfl:=osi h
 exact zF hτ
 intro x
 rfl
 intro τ hτ
 refine zQ (zE hτ ⟨[(0,.sl (List.map (cS c_Rect) taken))],[]⟩ (zB ?_))
 refine z7 (zA 1 (evs_op (st_len (c:=(cS c_Rect)) (l:=taken) (x:=(.sl (List.map (cS c_Rect) taken))) (by kernel_rfl) (by kernel_rfl)) ?_))
 refine z1 1 ⟨[(20,.sl (List.map (cS c_Rect) taken)),(21,vI (taken.length : Int)),(22,vI 0)],[]⟩ (zC ?_)
 obtain ⟨x84,hx84,h⟩:=bindS h
 refine sem_loopS (fun (s67 : Int)=>⟨[(20,.sl (List.map (cS c_Rect) taken)),(21,vI (taken.length : Int)),(22,vI s67)],[]⟩) (fun (x84 : Unit)=>(.exit 2,⟨[],[]⟩)) (nest_takenError_k_l2 taken) 0 x84 (by kernel_rfl) (here (by kernel_rfl)) (iter_loop hx84) ?_ ?_ ?_
 intro s67 r h
 refine z3 1 ⟨[(20,.sl (List.map (cS c_Rect) taken)),(21,vI (taken.length : Int)),(22,vI s67),(23,vB (decide (s67 < (taken.length : Int))))],[]⟩ (zB (zI (decide (s67 < (taken.length : Int))) (fun hb=>?_) fun hb=>?_))
 replace h:=iteT hb h
 refine z4 ⟨[(20,.sl (List.map (cS c_Rect) taken)),(21,vI (taken.length : Int)),(22,vI s67)],[]⟩ (zB (zC ?_))
 refine z7 ?_
 obtain ⟨x81,hx81,h⟩:=bindS h
 refine evs_op (st_idx (c:=(cS c_Rect)) (l:=taken) (i:=s67) (kd:=.i64) (sz:=1) (by kernel_rfl) hx81 rfl) (z1 2 ⟨[(6,s_Rect x81),(20,.sl (List.map (cS c_Rect) taken)),(21,vI (taken.length : Int)),(22,vI s67)],[]⟩ (z7 ?_))
 refine zA 1 ?_
 obtain ⟨r83,hr83,h⟩:=bindS h
 refine evs_callP [] (by kernel_rfl) (W.nest_valid_k_ok hr83) (by kernel_rfl) (.inl rfl) (by kernel_rfl) (z1 1 ⟨[(20,.sl (List.map (cS c_Rect) taken)),(21,vI (taken.length : Int)),(22,vI s67),(28,vB (!r83))],[]⟩ (zI (!r83) (fun hb=>?_) fun hb=>?_))
 replace h:=iteT hb h
 exact nomatch h
 replace h:=iteF hb h
 refine zM fun τ hτ=>?_
 refine bl_normal (zE hτ ⟨[(20,.sl (List.map (cS c_Rect) taken)),(21,vI (taken.length : Int)),(22,vI s67)],[]⟩ (zD ?_))
 refine z6 2 fun τ hτ=>?_
 obtain rfl:=osi h
 exact zH hτ
 replace h:=iteF hb h
 refine zL 2 fun τ hτ=>?_
 refine th_exit ?_
 obtain rfl:=osi h
 exact zF hτ
 intro x
 rfl
 intro τ hτ
 refine zQ (zE hτ ⟨[],[]⟩ (z8 1 ⟨[(2,vI 0)],[]⟩ fun τ hτ=>?_))
 obtain rfl:=osi h
 exact zV hτ [(2,vI 0)]
theorem W.nest_connected_k_ok {l : (List Rect)} {r : Bool} (h : nest_connected_k l = some r) : PC G.P 59 [(.sl (List.map c_Rect l))] [] (vB r) []:=by
 refine zU G Tryz.func59 (zK ⟨[(0,s_Rect l)],[]⟩ (z3 1 ⟨[(0,s_Rect l)],[]⟩ ?_))
 refine z7 (zA 1 (evs_op (st_len (c:=c_Rect) (l:=l) (x:=(s_Rect l)) (by kernel_rfl) (by kernel_rfl)) ?_))
 obtain ⟨l2,hl2,h⟩:=bindS h
 refine evs_op (st_mk (c:=cB) (z:=false) (n:=(l.length : Int)) (e:=4) (d:=11) (zs:=[(vB false)]) (k1:=.i64) (k2:=.i64) (by kernel_rfl) rfl hl2) (z1 1 ⟨[(0,s_Rect l),(3,ro 11 4)],[(11,wB 4 l2)]⟩ (z7 ?_))
 refine zA 1 ?_
 obtain ⟨x4,hx4,h⟩:=bindS h
 refine evs_op (st_idxO (c:=cB) (l:=l2) (i:=0) (kd:=.i64) (kk:=(.top 11)) (e:=4) (sz:=1) (by kernel_rfl) (by kernel_rfl) hx4 rfl) (evs_op (st_stO (c:=cB) (l:=l2) (i:=(Int.toNat 0)) (x:=x4) (x':=true) (v:=(vB true)) (agg:=false) (sz:=1) (kk:=(.top 11)) (e:=4) (off:=0) (J:=[]) (o:=wB 4 (List.set l2 (Int.toNat 0) true)) (by kernel_rfl) (by kernel_rfl) (by kernel_rfl) ((idxS hx4).2) (by kernel_rfl) (by kernel_rfl) (by kernel_rfl)) (zP fun τ hτ=>?_))
 refine zE hτ ⟨[(0,s_Rect l),(3,ro 11 4)],[(11,wB 4 (List.set l2 (Int.toNat 0) true))]⟩ (z7 (evs_at (at_build (e:=3) (d:=14) (es:=(List.map cI [0])) (by kernel_rfl)) ?_))
 refine evs_toTl (g:=14) (e:=3) (l:=[0]) (by kernel_rfl) (by kernel_rfl) (by kernel_rfl) (z1 1 ⟨[(0,s_Rect l),(3,ro 11 4),(4,ro 14 3)],[(11,wB 4 (List.set l2 (Int.toNat 0) true)),(14,.tl 3 [0])]⟩ (zB ?_))
 refine zC ?_
 obtain ⟨x148,hx148,h⟩:=bindS h
 refine sem_loopS (fun (s101 : (List Int))=>⟨[(0,s_Rect l),(3,ro 500000 4),(4,ro 500001 3)],[(500000,wB 4 (List.set l2 (Int.toNat 0) true)),(500001,.tl 3 s101)]⟩) (fun (x148 : Unit)=>(.exit 0,⟨[(3,ro 500000 4)],[(500000,wB 4 (List.set l2 (Int.toNat 0) true))]⟩)) (nest_connected_k_l2 l l2) [0] x148 (by kernel_rfl) (subR_prep [] [(11,500000),(14,500001)] (by kernel_rfl) rfl rfl (by kernel_rfl)) (iter_loop hx148) ?_ ?_ ?_
 intro s101 r h
 refine zB (z7 (zA 1 ?_))
 refine evs_at (at_lenT (g:=500001) (e:=3) (l:=s101) (by kernel_rfl) (by kernel_rfl)) (z1 1 ⟨[(0,s_Rect l),(3,ro 500000 4),(4,ro 500001 3),(17,vB (decide ((s101.length : Int) > 0)))],[(500000,wB 4 (List.set l2 (Int.toNat 0) true)),(500001,.tl 3 s101)]⟩ (zI (decide ((s101.length : Int) > 0)) (fun hb=>?_) fun hb=>?_))
 replace h:=iteT hb h
 refine z4 ⟨[(0,s_Rect l),(3,ro 500000 4),(4,ro 500001 3)],[(500000,wB 4 (List.set l2 (Int.toNat 0) true)),(500001,.tl 3 s101)]⟩ (zC (z7 ?_))
 refine zA 1 ?_
 obtain ⟨x126,hx126,h⟩:=bindS h
 refine evs_getT (g:=500001) (e:=3) (d1:=19) (d2:=20) (l:=s101) (i:=0) (kd:=.i64) (by kernel_rfl) (by kernel_rfl) (by kernel_rfl) hx126 (z1 1 ⟨[(0,s_Rect l),(3,ro 500000 4),(4,ro 500001 3),(5,vI x126)],[(500000,wB 4 (List.set l2 (Int.toNat 0) true)),(500001,.tl 3 s101)]⟩ (z7 ?_))
 refine zA 1 ?_
 obtain ⟨hb1,h⟩:=iteN h
 refine evs_at (at_dropT (g:=500001) (e:=3) (n:=1) (kd:=.i64) (l:=s101) (by kernel_rfl) (by kernel_rfl) (by kernel_rfl) hb1) (z1 1 ⟨[(0,s_Rect l),(3,ro 500000 4),(4,ro 500001 3),(5,vI x126)],[(500000,wB 4 (List.set l2 (Int.toNat 0) true)),(500001,.tl 3 (List.drop 1 s101))]⟩ (z7 ?_))
 refine zA 1 (evs_op (st_len (c:=c_Rect) (l:=l) (x:=(s_Rect l)) (by kernel_rfl) (by kernel_rfl)) (z1 1 ⟨[(0,s_Rect l),(3,ro 500000 4),(4,ro 500001 3),(5,vI x126),(24,vI (l.length : Int)),(25,vI 0)],[(500000,wB 4 (List.set l2 (Int.toNat 0) true)),(500001,.tl 3 (List.drop 1 s101))]⟩ ?_))
 refine zC ?_
 obtain ⟨x147,hx147,h⟩:=bindS h
 refine sem_loopS (fun (s134 : Int)=>⟨[(0,s_Rect l),(3,ro 500000 4),(4,ro 500001 3),(5,vI x126),(24,vI (l.length : Int)),(25,vI s134)],[(500000,wB 4 (List.set l2 (Int.toNat 0) true)),(500001,.tl 3 (List.drop 1 s101))]⟩) (fun (x147 : Unit)=>(.exit 2,⟨[(0,s_Rect l),(3,ro 500000 4),(4,ro 500001 3)],[(500000,wB 4 (List.set l2 (Int.toNat 0) true)),(500001,.tl 3 (List.drop 1 s101))]⟩)) (nest_connected_k_l1 l l2) 0 x147 (by kernel_rfl) (here (by kernel_rfl)) (iter_loop hx147) ?_ ?_ ?_
 intro s134 r h
 refine z3 1 ⟨[(0,s_Rect l),(3,ro 500000 4),(4,ro 500001 3),(5,vI x126),(24,vI (l.length : Int)),(25,vI s134),(26,vB (decide (s134 < (l.length : Int))))],[(500000,wB 4 (List.set l2 (Int.toNat 0) true)),(500001,.tl 3 (List.drop 1 s101))]⟩ (zB (zI (decide (s134 < (l.length : Int))) (fun hb=>?_) fun hb=>?_))
 replace h:=iteT hb h
 refine z4 ⟨[(0,s_Rect l),(3,ro 500000 4),(4,ro 500001 3),(5,vI x126),(24,vI (l.length : Int)),(25,vI s134)],[(500000,wB 4 (List.set l2 (Int.toNat 0) true)),(500001,.tl 3 (List.drop 1 s101))]⟩ (zB (zC ?_))
 refine z3 2 ⟨[(0,s_Rect l),(3,ro 500000 4),(4,ro 500001 3),(5,vI x126),(6,vI s134),(24,vI (l.length : Int)),(25,vI s134)],[(500000,wB 4 (List.set l2 (Int.toNat 0) true)),(500001,.tl 3 (List.drop 1 s101))]⟩ (zB (sem_drawN [] [] [] [] [] 14 (by kernel_rfl) (by kernel_rfl) (by kernel_rfl) ?_))
 refine evd_run 2 (by kernel_rfl) ?_
 obtain ⟨x146,hx146,h⟩:=bindS h
 refine evd_val (by kernel_rfl) (st_idxO (c:=cB) (l:=(List.set l2 (Int.toNat 0) true)) (i:=s134) (kd:=.i64) (kk:=(.top 500000)) (e:=4) (sz:=1) (by kernel_rfl) (by kernel_rfl) hx146 rfl) (by kernel_rfl) (by kernel_rfl) (evd_val (by kernel_rfl) (st_ldO (c:=cB) (l:=(List.set l2 (Int.toNat 0) true)) (i:=(Int.toNat s134)) (v:=(vB x146)) (agg:=false) (sz:=1) (kk:=(.top 500000)) (e:=4) (off:=0) (J:=[]) (by kernel_rfl) (by kernel_rfl) (by kernel_rfl) ((idxS hx146).2) (by kernel_rfl)) (by kernel_rfl) (by kernel_rfl) (evd_run 2 (by kernel_rfl) ?_))
 refine evd_split x146 (fun b0=>⟨[(33,vB (!b0)),(32,vB (!b0)),(31,vB b0),(30,.rptr (.top 500000) 4 (Int.toNat s134) 0),(29,vI s134),(28,ro 500000 4),(0,s_Rect l),(3,ro 500000 4),(4,ro 500001 3),(5,vI x126),(6,vI s134),(24,vI (l.length : Int)),(25,vI s134)],[(500000,wB 4 (List.set l2 (Int.toNat 0) true)),(500001,.tl 3 (List.drop 1 s101))]⟩) (by kernel_rfl) (fun hb=>?_) fun hb=>?_
 replace h:=iteT hb h
 refine evd_run 8 (by kernel_rfl) (evd_end (by kernel_rfl) (evo_run 2 (by kernel_rfl) ?_))
 refine zO fun τ hτ=>?_
 refine zE hτ ⟨[(0,s_Rect l),(3,ro 500000 4),(4,ro 500001 3),(5,vI x126),(6,vI s134),(24,vI (l.length : Int)),(25,vI s134),(43,vB false)],[(500000,wB 4 (List.set l2 (Int.toNat 0) true)),(500001,.tl 3 (List.drop 1 s101))]⟩ (sem_condF (by kernel_rfl) (by kernel_rfl) (zM fun τ hτ=>?_))
 refine bl_normal (zE hτ ⟨[(0,s_Rect l),(3,ro 500000 4),(4,ro 500001 3),(5,vI x126),(24,vI (l.length : Int)),(25,vI s134)],[(500000,wB 4 (List.set l2 (Int.toNat 0) true)),(500001,.tl 3 (List.drop 1 s101))]⟩ (zD ?_))
 refine z6 2 fun τ hτ=>?_
 obtain rfl:=osi h
 exact zH hτ
 replace h:=iteF hb h
 exact nomatch h
 replace h:=iteF hb h
 refine zL 2 fun τ hτ=>?_
 refine th_exit ?_
 obtain rfl:=osi h
 exact zF hτ
 intro x
 rfl
 intro τ hτ
 refine zQ (bl_normal ?_)
 obtain rfl:=osi h
 exact zH hτ
 replace h:=iteF hb h
 refine zL 0 fun τ hτ=>?_
 refine th_exit ?_
 obtain rfl:=osi h
 exact zF hτ
 intro x
 rfl
 intro τ hτ
 refine zQ (zE hτ ⟨[(3,ro 500000 4)],[(500000,wB 4 (List.set l2 (Int.toNat 0) true))]⟩ (zB ?_))
 refine z7 (zA 1 (evs_op (st_len (c:=cB) (l:=(List.set l2 (Int.toNat 0) true)) (x:=(ro 500000 4)) (by kernel_rfl) (by kernel_rfl)) ?_))
 refine z1 1 ⟨[(52,ro 500000 4),(53,vI ((List.set l2 (Int.toNat 0) true).length : Int)),(54,vI 0)],[(500000,wB 4 (List.set l2 (Int.toNat 0) true))]⟩ (zC ?_)
 obtain ⟨x178,hx178,h⟩:=bindS h
 refine sem_loopS (fun (s169 : Int)=>⟨[(52,ro 500000 4),(53,vI ((List.set l2 (Int.toNat 0) true).length : Int)),(54,vI s169)],[(500000,wB 4 (List.set l2 (Int.toNat 0) true))]⟩) (fun (x178 : Unit)=>(.exit 4,⟨[],[]⟩)) (nest_connected_k_l3 l2) 0 x178 (by kernel_rfl) (here (by kernel_rfl)) (iter_loop hx178) ?_ ?_ ?_
 intro s169 r h
 refine z3 1 ⟨[(52,ro 500000 4),(53,vI ((List.set l2 (Int.toNat 0) true).length : Int)),(54,vI s169),(55,vB (decide (s169 < ((List.set l2 (Int.toNat 0) true).length : Int))))],[(500000,wB 4 (List.set l2 (Int.toNat 0) true))]⟩ (zB (zI (decide (s169 < ((List.set l2 (Int.toNat 0) true).length : Int))) (fun hb=>?_) fun hb=>?_))
 replace h:=iteT hb h
 refine z4 ⟨[(52,ro 500000 4),(53,vI ((List.set l2 (Int.toNat 0) true).length : Int)),(54,vI s169)],[(500000,wB 4 (List.set l2 (Int.toNat 0) true))]⟩ (zB (zC ?_))
 refine z7 ?_
 obtain ⟨x177,hx177,h⟩:=bindS h
 refine evs_op (st_idxO (c:=cB) (l:=(List.set l2 (Int.toNat 0) true)) (i:=s169) (kd:=.i64) (kk:=(.top 500000)) (e:=4) (sz:=1) (by kernel_rfl) (by kernel_rfl) hx177 rfl) (evs_op (st_ldO (c:=cB) (l:=(List.set l2 (Int.toNat 0) true)) (i:=(Int.toNat s169)) (v:=(vB x177)) (agg:=false) (sz:=1) (kk:=(.top 500000)) (e:=4) (off:=0) (J:=[]) (by kernel_rfl) (by kernel_rfl) (by kernel_rfl) ((idxS hx177).2) (by kernel_rfl)) (z1 1 ⟨[(8,vB x177),(52,ro 500000 4),(53,vI ((List.set l2 (Int.toNat 0) true).length : Int)),(54,vI s169)],[(500000,wB 4 (List.set l2 (Int.toNat 0) true))]⟩ ?_))
 refine z3 2 ⟨[(52,ro 500000 4),(53,vI ((List.set l2 (Int.toNat 0) true).length : Int)),(54,vI s169),(59,vB (!x177))],[(500000,wB 4 (List.set l2 (Int.toNat 0) true))]⟩ (zI (!x177) (fun hb=>?_) fun hb=>?_)
 replace h:=iteT hb h
 exact nomatch h
 replace h:=iteF hb h
 refine zM fun τ hτ=>?_
 refine bl_normal (zE hτ ⟨[(52,ro 500000 4),(53,vI ((List.set l2 (Int.toNat 0) true).length : Int)),(54,vI s169)],[(500000,wB 4 (List.set l2 (Int.toNat 0) true))]⟩ (zD ?_))
 refine z6 2 fun τ hτ=>?_
 obtain rfl:=osi h
 exact zH hτ
 replace h:=iteF hb h
 refine zL 4 fun τ hτ=>?_
 refine th_exit ?_
 obtain rfl:=osi h
 exact zF hτ
 intro x
 rfl
 intro τ hτ
 refine zQ (zE hτ ⟨[],[]⟩ (z8 1 ⟨[(2,vB true)],[]⟩ fun τ hτ=>?_))
 obtain rfl:=osi h
 exact zV hτ [(2,vB true)]
theorem W.nest_inside_k_ok {x0 : Piece} {r : Int} (h : nest_inside_k x0 = some r) : PC G.P 60 [(.agg (c_Piece x0))] [] (vI r) []:=by
 refine zU G Tryz.func60 (zK ⟨[(0,.agg (c_Piece x0))],[]⟩ (z3 2 ⟨[(1,.ptr 1 0)],[(1,.box (c_Piece x0))]⟩ ?_))
 refine zB (sem_draw [(2,[12])] [(2,[12])] [] [(3,[12]),(4,[12])] [(0,[12]),(1,[12]),(3,[12]),(4,[12])] 5 (by kernel_rfl) (by kernel_rfl) [12] (by kernel_rfl) (by kernel_rfl) (evd_run 2 (by kernel_rfl) ?_))
 obtain ⟨l5,hl5,h⟩:=bindS h
 refine evd_new (by kernel_rfl) (st_appN (c:=c_Rect) (l2:=x0.Cuts) (x:=(s_Rect x0.Cuts)) (e:=86) (sz:=4) (d:=12) (by kernel_rfl) (by kernel_rfl) (by kernel_rfl) (fun _=>rfl) hl5) (by kernel_rfl) (by kernel_rfl) (by kernel_rfl) (by kernel_rfl) (evd_run 2 (by kernel_rfl) (evd_end (by kernel_rfl) ?_))
 obtain ⟨l6,hl6,h⟩:=bindS h
 refine evo_op (st_app (c:=c_Rect) (l:=l5) (l2:=x0.Forms) (x:=(s_Rect x0.Forms)) (g:=12) (e:=86) (sz:=4) (d:=15) (by kernel_rfl) (by kernel_rfl) (by kernel_rfl) (by kernel_rfl) (fun _=>rfl) rfl hl6) (evo_run 1 (by kernel_rfl) (zO fun τ hτ=>?_))
 refine zE hτ ⟨[(1,.ptr 1 0),(3,ro 12 86)],[(1,.box (c_Piece x0)),(12,w_Rect 86 l6)]⟩ (zB (z7 ?_))
 refine zA 1 (evs_op (st_len (c:=c_Rect) (l:=l6) (x:=(ro 12 86)) (by kernel_rfl) (by kernel_rfl)) (z1 1 ⟨[(1,.ptr 1 0),(3,ro 12 86),(16,ro 12 86),(17,vI (l6.length : Int)),(18,vI 0)],[(1,.box (c_Piece x0)),(12,w_Rect 86 l6)]⟩ ?_))
 refine zC ?_
 obtain ⟨x10,hx10,h⟩:=bindS h
 refine sem_loopS (fun (s9 : Unit)=>⟨[(1,.ptr 500000 0),(3,ro 500001 86),(16,ro 500001 86),(17,vI (l6.length : Int)),(18,vI 0)],[(500000,.box (c_Piece x0)),(500001,w_Rect 86 l6)]⟩) (fun (x10 : Unit)=>(.exit 0,⟨[(3,ro 500000 86)],[(500000,w_Rect 86 l6)]⟩)) (nest_inside_k_l1 l6) () x10 (by kernel_rfl) (subR_prep [] [(1,500000),(12,500001)] (by kernel_rfl) rfl rfl (by kernel_rfl)) (iter_loop hx10) ?_ ?_ ?_
 intro s9 r h
 refine z3 1 ⟨[(1,.ptr 500000 0),(3,ro 500001 86),(16,ro 500001 86),(17,vI (l6.length : Int)),(18,vI 0),(19,vB (decide (0 < (l6.length : Int))))],[(500000,.box (c_Piece x0)),(500001,w_Rect 86 l6)]⟩ (zB (zI (decide (0 < (l6.length : Int))) (fun hb=>?_) fun hb=>?_))
 replace h:=iteT hb h
 exact nomatch h
 replace h:=iteF hb h
 refine zL 0 fun τ hτ=>?_
 refine th_exit ?_
 obtain rfl:=osi h
 exact lk_outS hτ rfl (subR_prep [] [(500001,500000)] (by kernel_rfl) rfl rfl (by kernel_rfl))
 intro x
 rfl
 intro τ hτ
 refine zQ (zE hτ ⟨[(3,ro 500000 86)],[(500000,w_Rect 86 l6)]⟩ (zB ?_))
 refine z7 (zA 1 (evs_op (st_len (c:=c_Rect) (l:=l6) (x:=(ro 500000 86)) (by kernel_rfl) (by kernel_rfl)) ?_))
 refine z1 1 ⟨[(3,ro 500000 86),(46,ro 500000 86),(47,vI (l6.length : Int)),(48,vI 0)],[(500000,w_Rect 86 l6)]⟩ (zC ?_)
 obtain ⟨x14,hx14,h⟩:=bindS h
 refine sem_loopS (fun (s13 : Unit)=>⟨[(3,ro 500000 86),(46,ro 500000 86),(47,vI (l6.length : Int)),(48,vI 0)],[(500000,w_Rect 86 l6)]⟩) (fun (x14 : Unit)=>(.exit 2,⟨[],[]⟩)) (nest_inside_k_l2 l6) () x14 (by kernel_rfl) (here (by kernel_rfl)) (iter_loop hx14) ?_ ?_ ?_
 intro s13 r h
 refine z3 1 ⟨[(3,ro 500000 86),(46,ro 500000 86),(47,vI (l6.length : Int)),(48,vI 0),(49,vB (decide (0 < (l6.length : Int))))],[(500000,w_Rect 86 l6)]⟩ (zB (zI (decide (0 < (l6.length : Int))) (fun hb=>?_) fun hb=>?_))
 replace h:=iteT hb h
 exact nomatch h
 replace h:=iteF hb h
 refine zL 2 fun τ hτ=>?_
 refine th_exit ?_
 obtain rfl:=osi h
 exact zF hτ
 intro x
 rfl
 intro τ hτ
 refine zQ (zE hτ ⟨[],[]⟩ (z8 1 ⟨[(2,vI 0)],[]⟩ fun τ hτ=>?_))
 obtain rfl:=osi h
 exact zV hτ [(2,vI 0)]
theorem W.nest_ValidatePiece_k_ok {x0 : Piece} {r : Int} (h : nest_ValidatePiece_k x0 = some r) : PC G.P 17 [(.agg (c_Piece x0))] [] (vI r) []:=by
 refine zU G Tryz.func17 (zK ⟨[(0,.agg (c_Piece x0))],[]⟩ (z3 2 ⟨[(1,.ptr 1 0)],[(1,.box (c_Piece x0))]⟩ ?_))
 refine zB (zC (z7 ?_))
 refine zA 2 ?_
 obtain ⟨r15,hr15,h⟩:=bindS h
 refine evs_callP [] (by kernel_rfl) (W.part_ValidName_k_ok hr15) (by kernel_rfl) (.inl rfl) (by kernel_rfl) (zA 2 (zS r15 (fun b0=>⟨[(1,.ptr 1 0),(16,vB (!b0))],[(1,.box (c_Piece x0))]⟩) (fun hb=>?_) fun hb=>?_))
 replace h:=iteT hb h
 refine zA 2 ?_
 obtain ⟨r16,hr16,h⟩:=bindS h
 refine evs_callP [] (by kernel_rfl) (W.part_ValidName_k_ok hr16) (by kernel_rfl) (.inl rfl) (by kernel_rfl) (z1 3 ⟨[(1,.ptr 1 0),(11,vB (!r16))],[(1,.box (c_Piece x0))]⟩ (zI (!r16) (fun hb=>?_) fun hb=>?_))
 replace h:=iteT hb h
 exact nomatch h
 replace h:=iteF hb h
 refine z7 (zA 4 ?_)
 obtain ⟨r18,hr18,h⟩:=bindS h
 refine evs_callP [] (by kernel_rfl) (W.nest_plain_k_ok hr18) (by kernel_rfl) (.inl rfl) (by kernel_rfl) (z1 2 ⟨[(1,.ptr 1 0),(22,vB (!r18))],[(1,.box (c_Piece x0))]⟩ (zI (!r18) (fun hb=>?_) fun hb=>?_))
 replace h:=iteT hb h
 exact nomatch h
 replace h:=iteF hb h
 refine z7 (zA 2 (evs_op (st_len (c:=c_Rect) (l:=x0.Rects) (x:=(s_Rect x0.Rects)) (by kernel_rfl) (by kernel_rfl)) ?_))
 refine zA 2 (zS (decide ((x0.Rects.length : Int) > 12)) (fun b0=>⟨[(1,.ptr 1 0),(34,vB b0)],[(1,.box (c_Piece x0))]⟩) (fun hb=>?_) fun hb=>?_)
 replace h:=iteT hb h
 exact nomatch h
 replace h:=iteF hb h
 refine zA 2 (evs_op (st_len (c:=c_Rect) (l:=x0.Cuts) (x:=(s_Rect x0.Cuts)) (by kernel_rfl) (by kernel_rfl)) (zA 3 ?_))
 refine zS (decide ((x0.Cuts.length : Int) > 12)) (fun b0=>⟨[(1,.ptr 1 0),(40,vB b0)],[(1,.box (c_Piece x0))]⟩) (fun hb=>?_) fun hb=>?_
 replace h:=iteT hb h
 exact nomatch h
 replace h:=iteF hb h
 refine zA 2 (evs_op (st_len (c:=c_Rect) (l:=x0.Forms) (x:=(s_Rect x0.Forms)) (by kernel_rfl) (by kernel_rfl)) (z1 3 ⟨[(1,.ptr 1 0),(29,vB (decide ((x0.Forms.length : Int) > 12)))],[(1,.box (c_Piece x0))]⟩ ?_))
 refine zI (decide ((x0.Forms.length : Int) > 12)) (fun hb=>?_) fun hb=>?_
 replace h:=iteT hb h
 exact nomatch h
 replace h:=iteF hb h
 refine z7 (zA 2 (evs_op (st_len (c:=c_Rect) (l:=x0.Rects) (x:=(s_Rect x0.Rects)) (by kernel_rfl) (by kernel_rfl)) ?_))
 refine zA 2 (zS ((x0.Rects.length : Int) == 0) (fun b0=>⟨[(1,.ptr 1 0),(51,vB b0)],[(1,.box (c_Piece x0))]⟩) (fun hb=>?_) fun hb=>?_)
 replace h:=iteT hb h
 exact nomatch h
 replace h:=iteF hb h
 refine zA 2 ?_
 obtain ⟨r22,hr22,h⟩:=bindS h
 refine evs_callP [] (by kernel_rfl) (W.nest_valid_k_ok hr22) (by kernel_rfl) (.inl rfl) (by kernel_rfl) (zA 3 (zS r22 (fun b0=>⟨[(1,.ptr 1 0),(57,vB (!b0))],[(1,.box (c_Piece x0))]⟩) (fun hb=>?_) fun hb=>?_))
 replace h:=iteT hb h
 refine zA 2 ?_
 obtain ⟨r23,hr23,h⟩:=bindS h
 refine evs_callP [] (by kernel_rfl) (W.nest_valid_k_ok hr23) (by kernel_rfl) (.inl rfl) (by kernel_rfl) (zA 3 (zS r23 (fun b0=>⟨[(1,.ptr 1 0),(63,vB (!b0))],[(1,.box (c_Piece x0))]⟩) (fun hb=>?_) fun hb=>?_))
 replace h:=iteT hb h
 refine zA 2 ?_
 obtain ⟨r24,hr24,h⟩:=bindS h
 refine evs_callP [] (by kernel_rfl) (W.nest_valid_k_ok hr24) (by kernel_rfl) (.inl rfl) (by kernel_rfl) (z1 3 ⟨[(1,.ptr 1 0),(46,vB (!r24))],[(1,.box (c_Piece x0))]⟩ (zI (!r24) (fun hb=>?_) fun hb=>?_))
 replace h:=iteT hb h
 exact nomatch h
 replace h:=iteF hb h
 refine zM fun τ hτ=>?_
 refine bl_normal (zE hτ ⟨[(1,.ptr 1 0)],[(1,.box (c_Piece x0))]⟩ (zB ?_))
 refine sem_drawN [] [] [] [] [] 11 (by kernel_rfl) (by kernel_rfl) (by kernel_rfl) (evd_run 2 (by kernel_rfl) ?_)
 obtain ⟨x29,hx29,h⟩:=bindS h
 refine evd_val (by kernel_rfl) (st_idx (c:=c_Rect) (l:=x0.Rects) (i:=0) (kd:=.i64) (sz:=4) (by kernel_rfl) hx29 rfl) (by kernel_rfl) (by kernel_rfl) (evd_run 4 (by kernel_rfl) ?_)
 obtain ⟨x30,hx30,h⟩:=bindS h
 refine evd_val (by kernel_rfl) (st_idx (c:=c_Rect) (l:=x0.Rects) (i:=0) (kd:=.i64) (sz:=4) (by kernel_rfl) hx30 rfl) (by kernel_rfl) (by kernel_rfl) (evd_run 3 (by kernel_rfl) (evd_end (by kernel_rfl) ?_))
 refine evo_run 1 (by kernel_rfl) (zO fun τ hτ=>?_)
 refine zE hτ ⟨[(1,.ptr 1 0),(3,vI x29.X),(4,vI x30.Y)],[(1,.box (c_Piece x0))]⟩ (zB (z7 ?_))
 refine zA 2 (evs_op (st_len (c:=c_Rect) (l:=x0.Rects) (x:=(s_Rect x0.Rects)) (by kernel_rfl) (by kernel_rfl)) (z1 1 ⟨[(1,.ptr 1 0),(3,vI x29.X),(4,vI x30.Y),(80,s_Rect x0.Rects),(81,vI (x0.Rects.length : Int)),(82,vI 0)],[(1,.box (c_Piece x0))]⟩ ?_))
 refine zC ?_
 obtain ⟨x60,hx60,h⟩:=bindS h
 refine sem_loopS (fun (s51 : Int × Int × Int)=>⟨[(1,.ptr 500000 0),(3,vI s51.1),(4,vI s51.2.1),(80,s_Rect x0.Rects),(81,vI (x0.Rects.length : Int)),(82,vI s51.2.2)],[(500000,.box (c_Piece x0))]⟩) (fun (x60 : Int × Int)=>(.exit 1,⟨[(1,.ptr 500000 0),(3,vI x60.1),(4,vI x60.2)],[(500000,.box (c_Piece x0))]⟩)) (nest_ValidatePiece_k_l1 x0) (x29.X,x30.Y,0) x60 (by kernel_rfl) (subR_prep [] [(1,500000)] (by kernel_rfl) rfl rfl (by kernel_rfl)) (iter_loop hx60) ?_ ?_ ?_
 intro s51 r h
 refine z3 1 ⟨[(1,.ptr 500000 0),(3,vI s51.1),(4,vI s51.2.1),(80,s_Rect x0.Rects),(81,vI (x0.Rects.length : Int)),(82,vI s51.2.2),(83,vB (decide (s51.2.2 < (x0.Rects.length : Int))))],[(500000,.box (c_Piece x0))]⟩ (zB (zI (decide (s51.2.2 < (x0.Rects.length : Int))) (fun hb=>?_) fun hb=>?_))
 replace h:=iteT hb h
 refine z4 ⟨[(1,.ptr 500000 0),(3,vI s51.1),(4,vI s51.2.1),(80,s_Rect x0.Rects),(81,vI (x0.Rects.length : Int)),(82,vI s51.2.2)],[(500000,.box (c_Piece x0))]⟩ (zB (zC ?_))
 refine z7 ?_
 obtain ⟨x59,hx59,h⟩:=bindS h
 refine evs_op (st_idx (c:=c_Rect) (l:=x0.Rects) (i:=s51.2.2) (kd:=.i64) (sz:=4) (by kernel_rfl) hx59 rfl) (z1 3 ⟨[(1,.ptr 500000 0),(3,vI s51.1),(4,vI s51.2.1),(6,.ptr 6 0),(80,s_Rect x0.Rects),(81,vI (x0.Rects.length : Int)),(82,vI s51.2.2)],[(6,.box (c_Rect x59)),(500000,.box (c_Piece x0))]⟩ (sem_drawN [] [] [] [] [] 9 (by kernel_rfl) (by kernel_rfl) (by kernel_rfl) ?_))
 refine evd_run 9 (by kernel_rfl) (evd_end (by kernel_rfl) (evo_run 1 (by kernel_rfl) ?_))
 refine zO fun τ hτ=>?_
 refine bl_normal (zE hτ ⟨[(1,.ptr 500000 0),(3,vI (imin s51.1 x59.X)),(4,vI (imin s51.2.1 x59.Y)),(80,s_Rect x0.Rects),(81,vI (x0.Rects.length : Int)),(82,vI s51.2.2)],[(500000,.box (c_Piece x0))]⟩ (zD ?_))
 refine z6 2 fun τ hτ=>?_
 obtain rfl:=osi h
 exact zH hτ
 replace h:=iteF hb h
 refine zL 1 fun τ hτ=>?_
 refine th_exit ?_
 obtain rfl:=osi h
 exact zF hτ
 intro x
 rfl
 intro τ hτ
 refine zQ (zE hτ ⟨[(1,.ptr 500000 0),(3,vI x60.1),(4,vI x60.2)],[(500000,.box (c_Piece x0))]⟩ (zB ?_))
 refine z7 (zA 3 (zS (x60.1 != 0) (fun b0=>⟨[(1,.ptr 500000 0),(4,vI x60.2),(97,vB b0)],[(500000,.box (c_Piece x0))]⟩) (fun hb=>?_) fun hb=>?_))
 replace h:=iteT hb h
 exact nomatch h
 replace h:=iteF hb h
 refine z1 3 ⟨[(1,.ptr 500000 0),(100,vB (x60.2 != 0))],[(500000,.box (c_Piece x0))]⟩ (zI (x60.2 != 0) (fun hb=>?_) fun hb=>?_)
 replace h:=iteT hb h
 exact nomatch h
 replace h:=iteF hb h
 refine z4 ⟨[(1,.ptr 500000 0)],[(500000,.box (c_Piece x0))]⟩ (zB (z7 ?_))
 refine zA 2 (evs_op (st_len (c:=c_Rect) (l:=x0.Rects) (x:=(s_Rect x0.Rects)) (by kernel_rfl) (by kernel_rfl)) (z1 1 ⟨[(1,.ptr 500000 0),(102,s_Rect x0.Rects),(103,vI (x0.Rects.length : Int)),(104,vI 0)],[(500000,.box (c_Piece x0))]⟩ ?_))
 refine zC ?_
 obtain ⟨x138,hx138,h⟩:=bindS h
 refine sem_loopS (fun (s113 : Int)=>⟨[(1,.ptr 500000 0),(102,s_Rect x0.Rects),(103,vI (x0.Rects.length : Int)),(104,vI s113)],[(500000,.box (c_Piece x0))]⟩) (fun (x138 : Unit)=>(.exit 3,⟨[(1,.ptr 500000 0)],[(500000,.box (c_Piece x0))]⟩)) (nest_ValidatePiece_k_l3 x0) 0 x138 (by kernel_rfl) (here (by kernel_rfl)) (iter_loop hx138) ?_ ?_ ?_
 intro s113 r h
 refine z3 1 ⟨[(1,.ptr 500000 0),(102,s_Rect x0.Rects),(103,vI (x0.Rects.length : Int)),(104,vI s113),(105,vB (decide (s113 < (x0.Rects.length : Int))))],[(500000,.box (c_Piece x0))]⟩ (zB (zI (decide (s113 < (x0.Rects.length : Int))) (fun hb=>?_) fun hb=>?_))
 replace h:=iteT hb h
 refine z4 ⟨[(1,.ptr 500000 0),(102,s_Rect x0.Rects),(103,vI (x0.Rects.length : Int)),(104,vI s113)],[(500000,.box (c_Piece x0))]⟩ (zB (zC ?_))
 refine z7 (zA 1 ?_)
 obtain ⟨x133,hx133,h⟩:=bindS h
 refine evs_op (st_idx (c:=c_Rect) (l:=x0.Rects) (i:=s113) (kd:=.i64) (sz:=4) (by kernel_rfl) hx133 rfl) (z1 4 ⟨[(1,.ptr 500000 0),(7,vI s113),(8,.ptr 8 0),(102,s_Rect x0.Rects),(103,vI (x0.Rects.length : Int)),(104,vI s113)],[(8,.box (c_Rect x133)),(500000,.box (c_Piece x0))]⟩ (z7 ?_))
 refine zA 3 ?_
 obtain ⟨l135,hl135,h⟩:=bindS h
 refine evs_op (st_slH (c:=c_Rect) (l:=x0.Rects) (sz:=4) (hi:=s113) (k2:=.i64) (by kernel_rfl) hl135) (evs_op (st_len (c:=c_Rect) (l:=l135) (x:=(s_Rect l135)) (by kernel_rfl) (by kernel_rfl)) (z1 1 ⟨[(1,.ptr 500000 0),(8,.ptr 8 0),(102,s_Rect x0.Rects),(103,vI (x0.Rects.length : Int)),(104,vI s113),(112,s_Rect l135),(113,vI (l135.length : Int)),(114,vI 0)],[(8,.box (c_Rect x133)),(500000,.box (c_Piece x0))]⟩ ?_))
 refine zC ?_
 obtain ⟨x137,hx137,h⟩:=bindS h
 refine sem_loopS (fun (s136 : Unit)=>⟨[(1,.ptr 500000 0),(8,.ptr 500001 0),(102,s_Rect x0.Rects),(103,vI (x0.Rects.length : Int)),(104,vI s113),(112,s_Rect l135),(113,vI (l135.length : Int)),(114,vI 0)],[(500000,.box (c_Piece x0)),(500001,.box (c_Rect x133))]⟩) (fun (x137 : Unit)=>(.exit 5,⟨[(1,.ptr 500000 0),(102,s_Rect x0.Rects),(103,vI (x0.Rects.length : Int)),(104,vI s113)],[(500000,.box (c_Piece x0))]⟩)) (nest_ValidatePiece_k_l2 l135) () x137 (by kernel_rfl) (subR_prep [] [(8,500001),(500000,500000)] (by kernel_rfl) rfl rfl (by kernel_rfl)) (iter_loop hx137) ?_ ?_ ?_
 intro s136 r h
 refine z3 1 ⟨[(1,.ptr 500000 0),(8,.ptr 500001 0),(102,s_Rect x0.Rects),(103,vI (x0.Rects.length : Int)),(104,vI s113),(112,s_Rect l135),(113,vI (l135.length : Int)),(114,vI 0),(115,vB (decide (0 < (l135.length : Int))))],[(500000,.box (c_Piece x0)),(500001,.box (c_Rect x133))]⟩ (zB (zI (decide (0 < (l135.length : Int))) (fun hb=>?_) fun hb=>?_))
 replace h:=iteT hb h
 exact nomatch h
 replace h:=iteF hb h
 refine zL 5 fun τ hτ=>?_
 refine th_exit ?_
 obtain rfl:=osi h
 exact zF hτ
 intro x
 rfl
 intro τ hτ
 refine zQ (bl_normal (zE hτ ⟨[(1,.ptr 500000 0),(102,s_Rect x0.Rects),(103,vI (x0.Rects.length : Int)),(104,vI s113)],[(500000,.box (c_Piece x0))]⟩ ?_))
 refine zD (z6 2 fun τ hτ=>?_)
 obtain rfl:=osi h
 exact zH hτ
 replace h:=iteF hb h
 refine zL 3 fun τ hτ=>?_
 refine th_exit ?_
 obtain rfl:=osi h
 exact zF hτ
 intro x
 rfl
 intro τ hτ
 refine zQ (zE hτ ⟨[(1,.ptr 500000 0)],[(500000,.box (c_Piece x0))]⟩ (zB ?_))
 refine z7 (zA 2 ?_)
 obtain ⟨r142,hr142,h⟩:=bindS h
 refine evs_callP [] (by kernel_rfl) (W.nest_connected_k_ok hr142) (by kernel_rfl) (.inl rfl) (by kernel_rfl) (z1 1 ⟨[(1,.ptr 500000 0),(126,vB (!r142))],[(500000,.box (c_Piece x0))]⟩ (zI (!r142) (fun hb=>?_) fun hb=>?_))
 replace h:=iteT hb h
 exact nomatch h
 replace h:=iteF hb h
 refine z4 ⟨[(1,.ptr 500000 0)],[(500000,.box (c_Piece x0))]⟩ (z7 (zA 1 ?_))
 obtain ⟨r144,hr144,h⟩:=bindS h
 refine evs_callP [] (by kernel_rfl) (W.nest_inside_k_ok hr144) (by kernel_rfl) (.inl rfl) (by kernel_rfl) (z1 1 ⟨[(2,vI r144)],[]⟩ (zN fun τ hτ=>?_))
 obtain rfl:=osi h
 exact zV hτ [(2,vI r144)]
 replace h:=iteF hb h
 exact nomatch h
 replace h:=iteF hb h
 exact nomatch h
 replace h:=iteF hb h
 exact nomatch h
theorem W.nest_ValidSettings_k_ok {set0 : Settings} {r : Bool} (h : nest_ValidSettings_k set0 = some r) : PC G.P 19 [(.agg (c_Settings set0))] [] (vB r) []:=by
 refine zU G Tryz.func19 (zK ⟨[(0,.agg (c_Settings set0))],[]⟩ (z3 2 ⟨[(1,.ptr 1 0)],[(1,.box (c_Settings set0))]⟩ ?_))
 refine z7 (zA 2 ?_)
 obtain ⟨r3,hr3,h⟩:=bindS h
 refine evs_callP [] (by kernel_rfl) (W.nest_from_k_ok hr3) (by kernel_rfl) (.inl rfl) (by kernel_rfl) (zA 1 (zS r3 (fun b0=>⟨[(1,.ptr 1 0),(6,vB b0)],[(1,.box (c_Settings set0))]⟩) (fun hb=>?_) fun hb=>?_))
 replace h:=iteT hb h
 refine zA 2 ?_
 obtain ⟨r4,hr4,h⟩:=bindS h
 refine evs_callP [] (by kernel_rfl) (W.nest_from_k_ok hr4) (by kernel_rfl) (.inl rfl) (by kernel_rfl) (z1 2 ⟨[(2,vB r4)],[]⟩ (zN fun τ hτ=>?_))
 obtain rfl:=osi h
 exact zV hτ [(2,vB r4)]
 replace h:=iteF hb h
 exact nomatch h
theorem W.nest_obstaclesOf_k_ok {s0 : Sheet} {taken : (List (List Rect))} {set2 : Settings} {r : (List nest_obstacle)} (h : nest_obstaclesOf_k s0 taken set2 = some r) : PC G.P 67 [(.agg (c_Sheet s0)),(.sl (List.map (cS c_Rect) taken)),(.agg (c_Settings set2))] [] (.row (.top 0) 131) [(0,.row 131 [] (List.map c_nest_obstacle r))]:=by
 refine zU G Tryz.func67 (zK ⟨[(0,.agg (c_Sheet s0)),(1,.sl (List.map (cS c_Rect) taken)),(2,.agg (c_Settings set2))],[]⟩ (z3 3 ⟨[(1,.sl (List.map (cS c_Rect) taken)),(3,.ptr 3 0),(5,.ptr 5 0)],[(3,.box (c_Sheet s0)),(5,.box (c_Settings set2))]⟩ ?_))
 refine z3 1 ⟨[(1,.sl (List.map (cS c_Rect) taken)),(3,.ptr 3 0),(5,.ptr 5 0),(7,ro 7 131)],[(3,.box (c_Sheet s0)),(5,.box (c_Settings set2)),(7,w_nest_obstacle 131 [])]⟩ (zB (z7 ?_))
 refine zA 5 (evs_op (st_len (c:=(cS c_Rect)) (l:=[s0.Clamps,s0.Used]) (x:=(.sl (List.map (cS c_Rect) [s0.Clamps,s0.Used]))) (by kernel_rfl) (by kernel_rfl)) (z1 1 ⟨[(1,.sl (List.map (cS c_Rect) taken)),(5,.ptr 5 0),(7,ro 7 131),(20,.sl (List.map (cS c_Rect) [s0.Clamps,s0.Used])),(21,vI ([s0.Clamps,s0.Used].length : Int)),(22,vI 0)],[(5,.box (c_Settings set2)),(7,w_nest_obstacle 131 [])]⟩ ?_))
 refine zC ?_
 obtain ⟨x54,hx54,h⟩:=bindS h
 refine sem_loopS (fun (s37 : Int)=>⟨[(1,.sl (List.map (cS c_Rect) taken)),(5,.ptr 500000 0),(7,ro 500001 131),(20,.sl (List.map (cS c_Rect) [s0.Clamps,s0.Used])),(21,vI ([s0.Clamps,s0.Used].length : Int)),(22,vI s37)],[(500000,.box (c_Settings set2)),(500001,w_nest_obstacle 131 [])]⟩) (fun (x54 : Unit)=>(.exit 0,⟨[(1,.sl (List.map (cS c_Rect) taken)),(5,.ptr 500000 0),(7,ro 500001 131)],[(500000,.box (c_Settings set2)),(500001,w_nest_obstacle 131 [])]⟩)) (nest_obstaclesOf_k_l2 s0) 0 x54 (by kernel_rfl) (subR_prep [] [(5,500000),(7,500001)] (by kernel_rfl) rfl rfl (by kernel_rfl)) (iter_loop hx54) ?_ ?_ ?_
 intro s37 r h
 refine z3 1 ⟨[(1,.sl (List.map (cS c_Rect) taken)),(5,.ptr 500000 0),(7,ro 500001 131),(20,.sl (List.map (cS c_Rect) [s0.Clamps,s0.Used])),(21,vI ([s0.Clamps,s0.Used].length : Int)),(22,vI s37),(23,vB (decide (s37 < ([s0.Clamps,s0.Used].length : Int))))],[(500000,.box (c_Settings set2)),(500001,w_nest_obstacle 131 [])]⟩ (zB (zI (decide (s37 < ([s0.Clamps,s0.Used].length : Int))) (fun hb=>?_) fun hb=>?_))
 replace h:=iteT hb h
 refine z4 ⟨[(1,.sl (List.map (cS c_Rect) taken)),(5,.ptr 500000 0),(7,ro 500001 131),(20,.sl (List.map (cS c_Rect) [s0.Clamps,s0.Used])),(21,vI ([s0.Clamps,s0.Used].length : Int)),(22,vI s37)],[(500000,.box (c_Settings set2)),(500001,w_nest_obstacle 131 [])]⟩ (zB (zC ?_))
 refine z7 ?_
 obtain ⟨x51,hx51,h⟩:=bindS h
 refine evs_op (st_idx (c:=(cS c_Rect)) (l:=[s0.Clamps,s0.Used]) (i:=s37) (kd:=.i64) (sz:=1) (by kernel_rfl) hx51 rfl) (z1 2 ⟨[(1,.sl (List.map (cS c_Rect) taken)),(5,.ptr 500000 0),(7,ro 500001 131),(9,s_Rect x51),(20,.sl (List.map (cS c_Rect) [s0.Clamps,s0.Used])),(21,vI ([s0.Clamps,s0.Used].length : Int)),(22,vI s37)],[(500000,.box (c_Settings set2)),(500001,w_nest_obstacle 131 [])]⟩ (z7 ?_))
 refine zA 1 (evs_op (st_len (c:=c_Rect) (l:=x51) (x:=(s_Rect x51)) (by kernel_rfl) (by kernel_rfl)) (z1 1 ⟨[(1,.sl (List.map (cS c_Rect) taken)),(5,.ptr 500000 0),(7,ro 500001 131),(20,.sl (List.map (cS c_Rect) [s0.Clamps,s0.Used])),(21,vI ([s0.Clamps,s0.Used].length : Int)),(22,vI s37),(26,s_Rect x51),(27,vI (x51.length : Int)),(28,vI 0)],[(500000,.box (c_Settings set2)),(500001,w_nest_obstacle 131 [])]⟩ ?_))
 refine zC ?_
 obtain ⟨x53,hx53,h⟩:=bindS h
 refine sem_loopS (fun (s52 : Unit)=>⟨[(1,.sl (List.map (cS c_Rect) taken)),(5,.ptr 500000 0),(7,ro 500001 131),(20,.sl (List.map (cS c_Rect) [s0.Clamps,s0.Used])),(21,vI ([s0.Clamps,s0.Used].length : Int)),(22,vI s37),(26,s_Rect x51),(27,vI (x51.length : Int)),(28,vI 0)],[(500000,.box (c_Settings set2)),(500001,w_nest_obstacle 131 [])]⟩) (fun (x53 : Unit)=>(.exit 2,⟨[(1,.sl (List.map (cS c_Rect) taken)),(5,.ptr 500000 0),(7,ro 500001 131),(20,.sl (List.map (cS c_Rect) [s0.Clamps,s0.Used])),(21,vI ([s0.Clamps,s0.Used].length : Int)),(22,vI s37)],[(500000,.box (c_Settings set2)),(500001,w_nest_obstacle 131 [])]⟩)) (nest_obstaclesOf_k_l1 x51) () x53 (by kernel_rfl) (here (by kernel_rfl)) (iter_loop hx53) ?_ ?_ ?_
 intro s52 r h
 refine z3 1 ⟨[(1,.sl (List.map (cS c_Rect) taken)),(5,.ptr 500000 0),(7,ro 500001 131),(20,.sl (List.map (cS c_Rect) [s0.Clamps,s0.Used])),(21,vI ([s0.Clamps,s0.Used].length : Int)),(22,vI s37),(26,s_Rect x51),(27,vI (x51.length : Int)),(28,vI 0),(29,vB (decide (0 < (x51.length : Int))))],[(500000,.box (c_Settings set2)),(500001,w_nest_obstacle 131 [])]⟩ (zB (zI (decide (0 < (x51.length : Int))) (fun hb=>?_) fun hb=>?_))
 replace h:=iteT hb h
 exact nomatch h
 replace h:=iteF hb h
 refine zL 2 fun τ hτ=>?_
 refine th_exit ?_
 obtain rfl:=osi h
 exact zF hτ
 intro x
 rfl
 intro τ hτ
 refine zQ (bl_normal (zE hτ ⟨[(1,.sl (List.map (cS c_Rect) taken)),(5,.ptr 500000 0),(7,ro 500001 131),(20,.sl (List.map (cS c_Rect) [s0.Clamps,s0.Used])),(21,vI ([s0.Clamps,s0.Used].length : Int)),(22,vI s37)],[(500000,.box (c_Settings set2)),(500001,w_nest_obstacle 131 [])]⟩ ?_))
 refine zD (z6 2 fun τ hτ=>?_)
 obtain rfl:=osi h
 exact zH hτ
 replace h:=iteF hb h
 refine zL 0 fun τ hτ=>?_
 refine th_exit ?_
 obtain rfl:=osi h
 exact zF hτ
 intro x
 rfl
 intro τ hτ
 refine zQ (zE hτ ⟨[(1,.sl (List.map (cS c_Rect) taken)),(5,.ptr 500000 0),(7,ro 500001 131)],[(500000,.box (c_Settings set2)),(500001,w_nest_obstacle 131 [])]⟩ (zB ?_))
 refine z7 (zA 1 (evs_op (st_len (c:=(cS c_Rect)) (l:=taken) (x:=(.sl (List.map (cS c_Rect) taken))) (by kernel_rfl) (by kernel_rfl)) ?_))
 refine z1 1 ⟨[(5,.ptr 500000 0),(7,ro 500001 131),(39,.sl (List.map (cS c_Rect) taken)),(40,vI (taken.length : Int)),(41,vI 0)],[(500000,.box (c_Settings set2)),(500001,w_nest_obstacle 131 [])]⟩ (zC ?_)
 obtain ⟨x552,hx552,h⟩:=bindS h
 refine sem_loopS (fun (s387 : Int × (List nest_obstacle))=>⟨[(5,.ptr 500000 0),(7,ro 500001 131),(39,.sl (List.map (cS c_Rect) taken)),(40,vI (taken.length : Int)),(41,vI s387.1)],[(500000,.box (c_Settings set2)),(500001,w_nest_obstacle 131 s387.2)]⟩) (fun (x552 : (List nest_obstacle))=>(.exit 4,⟨[(7,ro 500000 131)],[(500000,w_nest_obstacle 131 x552)]⟩)) (nest_obstaclesOf_k_l4 taken set2) (0,[]) x552 (by kernel_rfl) (here (by kernel_rfl)) (iter_loop hx552) ?_ ?_ ?_
 intro s387 r h
 refine z3 1 ⟨[(5,.ptr 500000 0),(7,ro 500001 131),(39,.sl (List.map (cS c_Rect) taken)),(40,vI (taken.length : Int)),(41,vI s387.1),(42,vB (decide (s387.1 < (taken.length : Int))))],[(500000,.box (c_Settings set2)),(500001,w_nest_obstacle 131 s387.2)]⟩ (zB (zI (decide (s387.1 < (taken.length : Int))) (fun hb=>?_) fun hb=>?_))
 replace h:=iteT hb h
 refine z4 ⟨[(5,.ptr 500000 0),(7,ro 500001 131),(39,.sl (List.map (cS c_Rect) taken)),(40,vI (taken.length : Int)),(41,vI s387.1)],[(500000,.box (c_Settings set2)),(500001,w_nest_obstacle 131 s387.2)]⟩ (zB (zC ?_))
 refine z7 ?_
 obtain ⟨x512,hx512,h⟩:=bindS h
 refine evs_op (st_idx (c:=(cS c_Rect)) (l:=taken) (i:=s387.1) (kd:=.i64) (sz:=1) (by kernel_rfl) hx512 rfl) (z1 2 ⟨[(5,.ptr 500000 0),(7,ro 500001 131),(13,s_Rect x512),(39,.sl (List.map (cS c_Rect) taken)),(40,vI (taken.length : Int)),(41,vI s387.1)],[(500000,.box (c_Settings set2)),(500001,w_nest_obstacle 131 s387.2)]⟩ (z7 ?_))
 refine zA 1 (evs_op (st_len (c:=c_Rect) (l:=x512) (x:=(s_Rect x512)) (by kernel_rfl) (by kernel_rfl)) (z1 1 ⟨[(5,.ptr 500000 0),(7,ro 500001 131),(39,.sl (List.map (cS c_Rect) taken)),(40,vI (taken.length : Int)),(41,vI s387.1),(45,s_Rect x512),(46,vI (x512.length : Int)),(47,vI 0)],[(500000,.box (c_Settings set2)),(500001,w_nest_obstacle 131 s387.2)]⟩ ?_))
 refine zC ?_
 obtain ⟨x551,hx551,h⟩:=bindS h
 refine sem_loopS (fun (s526 : Int × (List nest_obstacle))=>⟨[(5,.ptr 500000 0),(7,ro 500001 131),(39,.sl (List.map (cS c_Rect) taken)),(40,vI (taken.length : Int)),(41,vI s387.1),(45,s_Rect x512),(46,vI (x512.length : Int)),(47,vI s526.1)],[(500000,.box (c_Settings set2)),(500001,w_nest_obstacle 131 s526.2)]⟩) (fun (x551 : (List nest_obstacle))=>(.exit 6,⟨[(5,.ptr 500000 0),(7,ro 500001 131),(39,.sl (List.map (cS c_Rect) taken)),(40,vI (taken.length : Int)),(41,vI s387.1)],[(500000,.box (c_Settings set2)),(500001,w_nest_obstacle 131 x551)]⟩)) (nest_obstaclesOf_k_l3 set2 x512) (0,s387.2) x551 (by kernel_rfl) (here (by kernel_rfl)) (iter_loop hx551) ?_ ?_ ?_
 intro s526 r h
 refine z3 1 ⟨[(5,.ptr 500000 0),(7,ro 500001 131),(39,.sl (List.map (cS c_Rect) taken)),(40,vI (taken.length : Int)),(41,vI s387.1),(45,s_Rect x512),(46,vI (x512.length : Int)),(47,vI s526.1),(48,vB (decide (s526.1 < (x512.length : Int))))],[(500000,.box (c_Settings set2)),(500001,w_nest_obstacle 131 s526.2)]⟩ (zB (zI (decide (s526.1 < (x512.length : Int))) (fun hb=>?_) fun hb=>?_))
 replace h:=iteT hb h
 refine z4 ⟨[(5,.ptr 500000 0),(7,ro 500001 131),(39,.sl (List.map (cS c_Rect) taken)),(40,vI (taken.length : Int)),(41,vI s387.1),(45,s_Rect x512),(46,vI (x512.length : Int)),(47,vI s526.1)],[(500000,.box (c_Settings set2)),(500001,w_nest_obstacle 131 s526.2)]⟩ (zB (zC ?_))
 refine z7 ?_
 obtain ⟨x546,hx546,h⟩:=bindS h
 refine evs_op (st_idx (c:=c_Rect) (l:=x512) (i:=s526.1) (kd:=.i64) (sz:=4) (by kernel_rfl) hx546 rfl) (z1 3 ⟨[(5,.ptr 500000 0),(7,ro 500001 131),(15,.ptr 15 0),(39,.sl (List.map (cS c_Rect) taken)),(40,vI (taken.length : Int)),(41,vI s387.1),(45,s_Rect x512),(46,vI (x512.length : Int)),(47,vI s526.1)],[(15,.box (c_Rect x546)),(500000,.box (c_Settings set2)),(500001,w_nest_obstacle 131 s526.2)]⟩ (z7 ?_))
 refine zA 1 ?_
 obtain ⟨r548,hr548,h⟩:=bindS h
 refine evs_callP [] (by kernel_rfl) (W.geom_ValidRect_k_ok hr548) (by kernel_rfl) (.inl rfl) (by kernel_rfl) (zP fun τ hτ=>?_)
 refine zE hτ ⟨[(5,.ptr 500000 0),(7,ro 500001 131),(15,.ptr 15 0),(39,.sl (List.map (cS c_Rect) taken)),(40,vI (taken.length : Int)),(41,vI s387.1),(45,s_Rect x512),(46,vI (x512.length : Int)),(47,vI s526.1),(52,vB r548)],[(15,.box (c_Rect x546)),(500000,.box (c_Settings set2)),(500001,w_nest_obstacle 131 s526.2)]⟩ (zI r548 (fun hb=>?_) fun hb=>?_)
 replace h:=iteT hb h
 refine zD (zA 8 ?_)
 obtain ⟨l550,hl550,h⟩:=bindS h
 refine evs_op (st_app (c:=c_nest_obstacle) (l:=s526.2) (l2:=[(nest_obstacle.mk x546 set2.Gap set2.Common)]) (x:=(s_nest_obstacle [(nest_obstacle.mk x546 set2.Gap set2.Common)])) (g:=500001) (e:=131) (sz:=6) (d:=61) (by kernel_rfl) (by kernel_rfl) (by kernel_rfl) (by kernel_rfl) (fun _=>rfl) rfl hl550) (z6 1 fun τ hτ=>?_)
 refine bl_normal (zE hτ ⟨[(5,.ptr 500000 0),(7,ro 500001 131),(39,.sl (List.map (cS c_Rect) taken)),(40,vI (taken.length : Int)),(41,vI s387.1),(45,s_Rect x512),(46,vI (x512.length : Int)),(47,vI s526.1)],[(500000,.box (c_Settings set2)),(500001,w_nest_obstacle 131 l550)]⟩ (zD ?_))
 refine z6 2 fun τ hτ=>?_
 obtain rfl:=osi h
 exact zH hτ
 replace h:=iteF hb h
 exact nomatch h
 replace h:=iteF hb h
 refine zL 6 fun τ hτ=>?_
 refine th_exit ?_
 obtain rfl:=osi h
 exact zF hτ
 intro x
 rfl
 intro τ hτ
 refine zQ (bl_normal (zE hτ ⟨[(5,.ptr 500000 0),(7,ro 500001 131),(39,.sl (List.map (cS c_Rect) taken)),(40,vI (taken.length : Int)),(41,vI s387.1)],[(500000,.box (c_Settings set2)),(500001,w_nest_obstacle 131 x551)]⟩ ?_))
 refine zD (z6 2 fun τ hτ=>?_)
 obtain rfl:=osi h
 exact zH hτ
 replace h:=iteF hb h
 refine zL 4 fun τ hτ=>?_
 refine th_exit ?_
 obtain rfl:=osi h
 exact lk_outS hτ rfl (subR_prep [] [(500001,500000)] (by kernel_rfl) rfl rfl (by kernel_rfl))
 intro x
 rfl
 intro τ hτ
 refine zQ (zE hτ ⟨[(7,ro 500000 131)],[(500000,w_nest_obstacle 131 x552)]⟩ (z8 2 ⟨[(6,ro 500000 131)],[(500000,w_nest_obstacle 131 x552)]⟩ fun τ hτ=>?_))
 obtain rfl:=osi h
 exact rk_ret hτ [(6,ro 0 131)] (subR_prep [] [(500000,0)] (by kernel_rfl) rfl rfl (by kernel_rfl)) (by kernel_rfl)
theorem W.nest_Allowed_k_ok {x0 : Piece} {s1 : Sheet} {turn : Int} {r : Bool} (h : nest_Allowed_k x0 s1 turn = some r) : PC G.P 22 [(.agg (c_Piece x0)),(.agg (c_Sheet s1)),(vI turn)] [] (vB r) []:=by
 refine zU G Tryz.func22 (zK ⟨[(0,.agg (c_Piece x0)),(1,.agg (c_Sheet s1)),(2,vI turn)],[]⟩ (z3 3 ⟨[(2,vI turn),(3,.ptr 3 0),(4,.ptr 4 0)],[(3,.box (c_Piece x0)),(4,.box (c_Sheet s1))]⟩ ?_))
 refine zB (z7 (zA 6 ?_))
 refine zS (x0.Material.toList == s1.Material.toList) (fun b0=>⟨[(2,vI turn),(3,.ptr 3 0),(4,.ptr 4 0),(12,vB (!b0))],[(3,.box (c_Piece x0)),(4,.box (c_Sheet s1))]⟩) (fun hb=>?_) fun hb=>?_
 replace h:=iteT hb h
 refine zA 7 (zS (x0.Gauge != s1.Gauge) (fun b0=>⟨[(2,vI turn),(3,.ptr 3 0),(4,.ptr 4 0),(19,vB b0)],[(3,.box (c_Piece x0)),(4,.box (c_Sheet s1))]⟩) (fun hb=>?_) fun hb=>?_)
 replace h:=iteT hb h
 exact nomatch h
 replace h:=iteF hb h
 refine zA 1 ?_
 obtain ⟨r4,hr4,h⟩:=bindS h
 refine evs_callP [] (by kernel_rfl) (W.nest_from_k_ok hr4) (by kernel_rfl) (.inl rfl) (by kernel_rfl) (z1 2 ⟨[(2,vI turn),(3,.ptr 3 0),(4,.ptr 4 0),(23,vB (!r4))],[(3,.box (c_Piece x0)),(4,.box (c_Sheet s1))]⟩ (zI (!r4) (fun hb=>?_) fun hb=>?_))
 replace h:=iteT hb h
 exact nomatch h
 replace h:=iteF hb h
 refine z4 ⟨[(2,vI turn),(3,.ptr 3 0),(4,.ptr 4 0)],[(3,.box (c_Piece x0)),(4,.box (c_Sheet s1))]⟩ (z7 (zA 4 ?_))
 refine zS (x0.Grain == 0) (fun b0=>⟨[(2,vI turn),(3,.ptr 3 0),(4,.ptr 4 0),(27,vB b0)],[(3,.box (c_Piece x0)),(4,.box (c_Sheet s1))]⟩) (fun hb=>?_) fun hb=>?_
 replace h:=iteT hb h
 refine z1 16 ⟨[(6,vB true)],[]⟩ (zN fun τ hτ=>?_)
 obtain rfl:=osi h
 exact zV hτ [(6,vB true)]
 replace h:=iteF hb h
 exact nomatch h
 replace h:=iteF hb h
 exact nomatch h
theorem W.flat_check_k_ok {f : Flat} {r : Int} (h : flat_check_k f = some r) : PC G.P 126 [(.agg (c_Flat f))] [] (vI r) []:=by
 refine zU G Tryz.func126 (zK ⟨[(0,.agg (c_Flat f))],[]⟩ (z3 2 ⟨[(1,.ptr 1 0)],[(1,.box (c_Flat f))]⟩ ?_))
 refine zB (z7 (zA 2 ?_))
 refine evs_op (st_len (c:=c_Rect) (l:=f.Rects) (x:=(s_Rect f.Rects)) (by kernel_rfl) (by kernel_rfl)) (z1 1 ⟨[(1,.ptr 1 0),(12,vB ((f.Rects.length : Int) == 0))],[(1,.box (c_Flat f))]⟩ (zI ((f.Rects.length : Int) == 0) (fun hb=>?_) fun hb=>?_))
 replace h:=iteT hb h
 exact nomatch h
 replace h:=iteF hb h
 refine z4 ⟨[(1,.ptr 1 0)],[(1,.box (c_Flat f))]⟩ (zB (z7 ?_))
 refine zA 7 (evs_op (st_len (c:=(cS c_Rect)) (l:=[f.Rects,f.Cuts,f.Forms]) (x:=(.sl (List.map (cS c_Rect) [f.Rects,f.Cuts,f.Forms]))) (by kernel_rfl) (by kernel_rfl)) (z1 1 ⟨[(1,.ptr 1 0),(19,.sl (List.map (cS c_Rect) [f.Rects,f.Cuts,f.Forms])),(20,vI ([f.Rects,f.Cuts,f.Forms].length : Int)),(21,vI 0)],[(1,.box (c_Flat f))]⟩ ?_))
 refine zC ?_
 obtain ⟨x354,hx354,h⟩:=bindS h
 refine sem_loopS (fun (s237 : Int)=>⟨[(1,.ptr 500000 0),(19,.sl (List.map (cS c_Rect) [f.Rects,f.Cuts,f.Forms])),(20,vI ([f.Rects,f.Cuts,f.Forms].length : Int)),(21,vI s237)],[(500000,.box (c_Flat f))]⟩) (fun (x354 : Unit)=>(.exit 0,⟨[(1,.ptr 500000 0)],[(500000,.box (c_Flat f))]⟩)) (flat_check_k_l2 f) 0 x354 (by kernel_rfl) (subR_prep [] [(1,500000)] (by kernel_rfl) rfl rfl (by kernel_rfl)) (iter_loop hx354) ?_ ?_ ?_
 intro s237 r h
 refine z3 1 ⟨[(1,.ptr 500000 0),(19,.sl (List.map (cS c_Rect) [f.Rects,f.Cuts,f.Forms])),(20,vI ([f.Rects,f.Cuts,f.Forms].length : Int)),(21,vI s237),(22,vB (decide (s237 < ([f.Rects,f.Cuts,f.Forms].length : Int))))],[(500000,.box (c_Flat f))]⟩ (zB (zI (decide (s237 < ([f.Rects,f.Cuts,f.Forms].length : Int))) (fun hb=>?_) fun hb=>?_))
 replace h:=iteT hb h
 refine z4 ⟨[(1,.ptr 500000 0),(19,.sl (List.map (cS c_Rect) [f.Rects,f.Cuts,f.Forms])),(20,vI ([f.Rects,f.Cuts,f.Forms].length : Int)),(21,vI s237)],[(500000,.box (c_Flat f))]⟩ (zB (zC ?_))
 refine z7 ?_
 obtain ⟨x326,hx326,h⟩:=bindS h
 refine evs_op (st_idx (c:=(cS c_Rect)) (l:=[f.Rects,f.Cuts,f.Forms]) (i:=s237) (kd:=.i64) (sz:=1) (by kernel_rfl) hx326 rfl) (z1 2 ⟨[(1,.ptr 500000 0),(4,s_Rect x326),(19,.sl (List.map (cS c_Rect) [f.Rects,f.Cuts,f.Forms])),(20,vI ([f.Rects,f.Cuts,f.Forms].length : Int)),(21,vI s237)],[(500000,.box (c_Flat f))]⟩ (zB ?_))
 refine z7 (zA 1 (evs_op (st_len (c:=c_Rect) (l:=x326) (x:=(s_Rect x326)) (by kernel_rfl) (by kernel_rfl)) ?_))
 refine z1 1 ⟨[(1,.ptr 500000 0),(4,s_Rect x326),(19,.sl (List.map (cS c_Rect) [f.Rects,f.Cuts,f.Forms])),(20,vI ([f.Rects,f.Cuts,f.Forms].length : Int)),(21,vI s237),(27,vB (decide ((x326.length : Int) > 48)))],[(500000,.box (c_Flat f))]⟩ (zI (decide ((x326.length : Int) > 48)) (fun hb=>?_) fun hb=>?_)
 replace h:=iteT hb h
 exact nomatch h
 replace h:=iteF hb h
 refine z4 ⟨[(1,.ptr 500000 0),(4,s_Rect x326),(19,.sl (List.map (cS c_Rect) [f.Rects,f.Cuts,f.Forms])),(20,vI ([f.Rects,f.Cuts,f.Forms].length : Int)),(21,vI s237)],[(500000,.box (c_Flat f))]⟩ (z7 (zA 1 ?_))
 refine evs_op (st_len (c:=c_Rect) (l:=x326) (x:=(s_Rect x326)) (by kernel_rfl) (by kernel_rfl)) (z1 1 ⟨[(1,.ptr 500000 0),(19,.sl (List.map (cS c_Rect) [f.Rects,f.Cuts,f.Forms])),(20,vI ([f.Rects,f.Cuts,f.Forms].length : Int)),(21,vI s237),(28,s_Rect x326),(29,vI (x326.length : Int)),(30,vI 0)],[(500000,.box (c_Flat f))]⟩ (zC ?_))
 obtain ⟨x353,hx353,h⟩:=bindS h
 refine sem_loopS (fun (s336 : Int)=>⟨[(1,.ptr 500000 0),(19,.sl (List.map (cS c_Rect) [f.Rects,f.Cuts,f.Forms])),(20,vI ([f.Rects,f.Cuts,f.Forms].length : Int)),(21,vI s237),(28,s_Rect x326),(29,vI (x326.length : Int)),(30,vI s336)],[(500000,.box (c_Flat f))]⟩) (fun (x353 : Unit)=>(.exit 2,⟨[(1,.ptr 500000 0),(19,.sl (List.map (cS c_Rect) [f.Rects,f.Cuts,f.Forms])),(20,vI ([f.Rects,f.Cuts,f.Forms].length : Int)),(21,vI s237)],[(500000,.box (c_Flat f))]⟩)) (flat_check_k_l1 x326) 0 x353 (by kernel_rfl) (here (by kernel_rfl)) (iter_loop hx353) ?_ ?_ ?_
 intro s336 r h
 refine z3 1 ⟨[(1,.ptr 500000 0),(19,.sl (List.map (cS c_Rect) [f.Rects,f.Cuts,f.Forms])),(20,vI ([f.Rects,f.Cuts,f.Forms].length : Int)),(21,vI s237),(28,s_Rect x326),(29,vI (x326.length : Int)),(30,vI s336),(31,vB (decide (s336 < (x326.length : Int))))],[(500000,.box (c_Flat f))]⟩ (zB (zI (decide (s336 < (x326.length : Int))) (fun hb=>?_) fun hb=>?_))
 replace h:=iteT hb h
 refine z4 ⟨[(1,.ptr 500000 0),(19,.sl (List.map (cS c_Rect) [f.Rects,f.Cuts,f.Forms])),(20,vI ([f.Rects,f.Cuts,f.Forms].length : Int)),(21,vI s237),(28,s_Rect x326),(29,vI (x326.length : Int)),(30,vI s336)],[(500000,.box (c_Flat f))]⟩ (zB (zC ?_))
 refine z7 ?_
 obtain ⟨x350,hx350,h⟩:=bindS h
 refine evs_op (st_idx (c:=c_Rect) (l:=x326) (i:=s336) (kd:=.i64) (sz:=4) (by kernel_rfl) hx350 rfl) (z1 3 ⟨[(1,.ptr 500000 0),(6,.ptr 6 0),(19,.sl (List.map (cS c_Rect) [f.Rects,f.Cuts,f.Forms])),(20,vI ([f.Rects,f.Cuts,f.Forms].length : Int)),(21,vI s237),(28,s_Rect x326),(29,vI (x326.length : Int)),(30,vI s336)],[(6,.box (c_Rect x350)),(500000,.box (c_Flat f))]⟩ (z7 ?_))
 refine zA 1 ?_
 obtain ⟨r352,hr352,h⟩:=bindS h
 refine evs_callP [] (by kernel_rfl) (W.geom_ValidRect_k_ok hr352) (by kernel_rfl) (.inl rfl) (by kernel_rfl) (z1 1 ⟨[(1,.ptr 500000 0),(19,.sl (List.map (cS c_Rect) [f.Rects,f.Cuts,f.Forms])),(20,vI ([f.Rects,f.Cuts,f.Forms].length : Int)),(21,vI s237),(28,s_Rect x326),(29,vI (x326.length : Int)),(30,vI s336),(36,vB (!r352))],[(500000,.box (c_Flat f))]⟩ (zI (!r352) (fun hb=>?_) fun hb=>?_))
 replace h:=iteT hb h
 exact nomatch h
 replace h:=iteF hb h
 refine zM fun τ hτ=>?_
 refine bl_normal (zE hτ ⟨[(1,.ptr 500000 0),(19,.sl (List.map (cS c_Rect) [f.Rects,f.Cuts,f.Forms])),(20,vI ([f.Rects,f.Cuts,f.Forms].length : Int)),(21,vI s237),(28,s_Rect x326),(29,vI (x326.length : Int)),(30,vI s336)],[(500000,.box (c_Flat f))]⟩ (zD ?_))
 refine z6 2 fun τ hτ=>?_
 obtain rfl:=osi h
 exact zH hτ
 replace h:=iteF hb h
 refine zL 2 fun τ hτ=>?_
 refine th_exit ?_
 obtain rfl:=osi h
 exact zF hτ
 intro x
 rfl
 intro τ hτ
 refine zQ (bl_normal (zE hτ ⟨[(1,.ptr 500000 0),(19,.sl (List.map (cS c_Rect) [f.Rects,f.Cuts,f.Forms])),(20,vI ([f.Rects,f.Cuts,f.Forms].length : Int)),(21,vI s237)],[(500000,.box (c_Flat f))]⟩ ?_))
 refine zD (z6 2 fun τ hτ=>?_)
 obtain rfl:=osi h
 exact zH hτ
 replace h:=iteF hb h
 refine zL 0 fun τ hτ=>?_
 refine th_exit ?_
 obtain rfl:=osi h
 exact zF hτ
 intro x
 rfl
 intro τ hτ
 refine zQ (zE hτ ⟨[(1,.ptr 500000 0)],[(500000,.box (c_Flat f))]⟩ (zB ?_))
 refine z7 (zA 2 (evs_op (st_len (c:=c_BendLine) (l:=f.Bends) (x:=(s_BendLine f.Bends)) (by kernel_rfl) (by kernel_rfl)) ?_))
 refine z1 1 ⟨[(40,s_BendLine f.Bends),(41,vI (f.Bends.length : Int)),(42,vI 0)],[]⟩ (zC ?_)
 obtain ⟨x358,hx358,h⟩:=bindS h
 refine sem_loopS (fun (s357 : Unit)=>⟨[(40,s_BendLine f.Bends),(41,vI (f.Bends.length : Int)),(42,vI 0)],[]⟩) (fun (x358 : Unit)=>(.exit 4,⟨[],[]⟩)) (flat_check_k_l3 f) () x358 (by kernel_rfl) (here (by kernel_rfl)) (iter_loop hx358) ?_ ?_ ?_
 intro s357 r h
 refine z3 1 ⟨[(40,s_BendLine f.Bends),(41,vI (f.Bends.length : Int)),(42,vI 0),(43,vB (decide (0 < (f.Bends.length : Int))))],[]⟩ (zB (zI (decide (0 < (f.Bends.length : Int))) (fun hb=>?_) fun hb=>?_))
 replace h:=iteT hb h
 exact nomatch h
 replace h:=iteF hb h
 refine zL 4 fun τ hτ=>?_
 refine th_exit ?_
 obtain rfl:=osi h
 exact zF hτ
 intro x
 rfl
 intro τ hτ
 refine zQ (zE hτ ⟨[],[]⟩ (z8 1 ⟨[(2,vI 0)],[]⟩ fun τ hτ=>?_))
 obtain rfl:=osi h
 exact zV hτ [(2,vI 0)]
theorem W.flat_quarter_1_k_ok {r0 : Rect} {r : Rect} (h : flat_quarter_1_k r0 = some r) : PC G.P 146 [(.agg (c_Rect r0))] [] (.agg (c_Rect r)) [(0,.box [(vI (isub (ineg r0.Y) r0.H)),(vI r0.X),(vI r0.H),(vI r0.W)])]:=by
 refine zU G Tryz.func146 (zK ⟨[(0,.agg (c_Rect r0))],[]⟩ (z3 2 ⟨[(1,.ptr 1 0),(2,.ptr 2 0)],[(1,.box (c_Rect r0)),(2,.box [(vI 0),(vI 0),(vI 0),(vI 0)])]⟩ ?_))
 refine z8 14 ⟨[(2,.ptr 2 0)],[(2,.box [(vI (isub (ineg r0.Y) r0.H)),(vI r0.X),(vI r0.H),(vI r0.W)])]⟩ fun τ hτ=>?_
 obtain rfl:=osi h
 exact rk_ret hτ [(2,.ptr 0 0)] (subR_prep [] [(2,0)] (by kernel_rfl) rfl rfl (by kernel_rfl)) (by kernel_rfl)
theorem W.flat_mapped_1_k_ok {l : (List Rect)} {r : (List Rect)} (h : flat_mapped_1_k l = some r) : PC G.P 163 [(.sl (List.map c_Rect l)),(.vptr [(.fn 146 [])] 0)] [] (.row (.top 0) 86) [(0,.row 86 [] (List.map c_Rect r))]:=by
 refine zU G Tryz.func163 (zK ⟨[(0,s_Rect l),(1,.vptr [(.fn 146 [])] 0)],[]⟩ (z3 1 ⟨[(0,s_Rect l),(1,.vptr [(.fn 146 [])] 0)],[]⟩ ?_))
 refine z3 1 ⟨[(0,s_Rect l),(1,.vptr [(.fn 146 [])] 0),(4,ro 4 86)],[(4,w_Rect 86 [])]⟩ (zB (z7 ?_))
 refine zA 1 (evs_op (st_len (c:=c_Rect) (l:=l) (x:=(s_Rect l)) (by kernel_rfl) (by kernel_rfl)) (z1 1 ⟨[(1,.vptr [(.fn 146 [])] 0),(4,ro 4 86),(7,s_Rect l),(8,vI (l.length : Int)),(9,vI 0)],[(4,w_Rect 86 [])]⟩ ?_))
 refine zC ?_
 obtain ⟨x78,hx78,h⟩:=bindS h
 refine sem_loopS (fun (s53 : Int × (List Rect))=>⟨[(1,.vptr [(.fn 146 [])] 0),(4,ro 500000 86),(7,s_Rect l),(8,vI (l.length : Int)),(9,vI s53.1)],[(500000,w_Rect 86 s53.2)]⟩) (fun (x78 : (List Rect))=>(.exit 0,⟨[(4,ro 500000 86)],[(500000,w_Rect 86 x78)]⟩)) (flat_mapped_1_k_l1 l) (0,[]) x78 (by kernel_rfl) (subR_prep [] [(4,500000)] (by kernel_rfl) rfl rfl (by kernel_rfl)) (iter_loop hx78) ?_ ?_ ?_
 intro s53 r h
 refine z3 1 ⟨[(1,.vptr [(.fn 146 [])] 0),(4,ro 500000 86),(7,s_Rect l),(8,vI (l.length : Int)),(9,vI s53.1),(10,vB (decide (s53.1 < (l.length : Int))))],[(500000,w_Rect 86 s53.2)]⟩ (zB (zI (decide (s53.1 < (l.length : Int))) (fun hb=>?_) fun hb=>?_))
 replace h:=iteT hb h
 refine z4 ⟨[(1,.vptr [(.fn 146 [])] 0),(4,ro 500000 86),(7,s_Rect l),(8,vI (l.length : Int)),(9,vI s53.1)],[(500000,w_Rect 86 s53.2)]⟩ (zB (zC ?_))
 refine z7 ?_
 obtain ⟨x73,hx73,h⟩:=bindS h
 refine evs_op (st_idx (c:=c_Rect) (l:=l) (i:=s53.1) (kd:=.i64) (sz:=4) (by kernel_rfl) hx73 rfl) (z1 3 ⟨[(1,.vptr [(.fn 146 [])] 0),(4,ro 500000 86),(6,.ptr 6 0),(7,s_Rect l),(8,vI (l.length : Int)),(9,vI s53.1)],[(6,.box (c_Rect x73)),(500000,w_Rect 86 s53.2)]⟩ (zD ?_))
 refine zA 3 ?_
 obtain ⟨r76,hr76,h⟩:=bindS h
 refine evs_callS [] [(0,700150)] [] (by kernel_rfl) (W.flat_quarter_1_k_ok hr76) (by kernel_rfl) (by kernel_rfl) (.inl rfl) (zA 1 ?_)
 obtain ⟨l77,hl77,h⟩:=bindS h
 refine evs_op (st_app (c:=c_Rect) (l:=s53.2) (l2:=[r76]) (x:=(s_Rect [r76])) (g:=500000) (e:=86) (sz:=4) (d:=18) (by kernel_rfl) (by kernel_rfl) (by kernel_rfl) (by kernel_rfl) (fun _=>rfl) rfl hl77) (z6 1 fun τ hτ=>?_)
 refine bl_normal (zE hτ ⟨[(1,.vptr [(.fn 146 [])] 0),(4,ro 500000 86),(7,s_Rect l),(8,vI (l.length : Int)),(9,vI s53.1)],[(500000,w_Rect 86 l77)]⟩ (zD ?_))
 refine z6 2 fun τ hτ=>?_
 obtain rfl:=osi h
 exact zH hτ
 replace h:=iteF hb h
 refine zL 0 fun τ hτ=>?_
 refine th_exit ?_
 obtain rfl:=osi h
 exact zF hτ
 intro x
 rfl
 intro τ hτ
 refine zQ (zE hτ ⟨[(4,ro 500000 86)],[(500000,w_Rect 86 x78)]⟩ (z8 2 ⟨[(3,ro 500000 86)],[(500000,w_Rect 86 x78)]⟩ fun τ hτ=>?_))
 obtain rfl:=osi h
 exact rk_ret hτ [(3,ro 0 86)] (subR_prep [] [(500000,0)] (by kernel_rfl) rfl rfl (by kernel_rfl)) (by kernel_rfl)
theorem W.flat_mapped__flat_quarter_1__flat_quarter_2_k_ok {f : Flat} {r : Flat} (h : flat_mapped__flat_quarter_1__flat_quarter_2_k f = some r) : PC G.P 145 [(.agg (c_Flat f)),(.fn 146 []),(.fn 147 [])] [] (.agg [(.row (.top 1) 86),(.row (.top 2) 86),(.row (.top 3) 86),.nl]) [(0,.box [(.row (.top 1) 86),(.row (.top 2) 86),(.row (.top 3) 86),.nl]),(1,.row 86 [] (List.map c_Rect r.Rects)),(2,.row 86 [] (List.map c_Rect r.Cuts)),(3,.row 86 [] (List.map c_Rect r.Forms))]:=by
 refine zU G Tryz.func145 (zK ⟨[(0,.agg (c_Flat f)),(1,.fn 146 []),(2,.fn 147 [])],[]⟩ (z3 3 ⟨[(2,.fn 147 []),(3,.ptr 3 0),(4,.ptr 4 0),(6,.ptr 6 0)],[(3,.box (c_Flat f)),(4,.box [(.fn 146 [])]),(6,.box [.nl,.nl,.nl,.nl])]⟩ ?_))
 refine z3 2 ⟨[(2,.fn 147 []),(3,.ptr 3 0),(6,.ptr 6 0),(7,.fn 163 [(.ptr 4 0)])],[(3,.box (c_Flat f)),(4,.box [(.fn 146 [])]),(6,.box [.nl,.nl,.nl,.nl])]⟩ (zB (sem_draw [(3,[700150]),(7,[700350]),(11,[700550]),(13,[8])] [(3,[700150]),(7,[700350]),(11,[700550]),(13,[8])] [(3,[4]),(7,[4]),(11,[4])] [(0,[8]),(1,[8]),(2,[8]),(3,[8]),(4,[700150,8]),(5,[700150,8]),(6,[700150,8]),(7,[8]),(8,[700150,700350,8]),(9,[700150,700350,8]),(10,[700150,700350,8]),(11,[8]),(12,[8]),(13,[700150,700350,700550])] [(0,[700150,700350,700550,8]),(1,[700150,700350,700550,8]),(2,[700150,700350,700550,8]),(3,[700350,700550,8]),(4,[700150,700350,700550,8]),(5,[700150,700350,700550,8]),(6,[700150,700350,700550,8]),(7,[700550,8]),(8,[700150,700350,700550,8]),(9,[700150,700350,700550,8]),(10,[700150,700350,700550,8]),(11,[8]),(12,[8]),(13,[700150,700350,700550])] 14 (by kernel_rfl) (by kernel_rfl) [700150,700350,700550,8] (by kernel_rfl) (by kernel_rfl) ?_))
 refine evd_run 3 (by kernel_rfl) ?_
 obtain ⟨r7,hr7,h⟩:=bindS h
 refine evd_callS [(0,700150)] [4] (by kernel_rfl) (by kernel_rfl) (W.flat_mapped_1_k_ok hr7) (by kernel_rfl) (.inr ⟨rfl,fun _ _=>ind_cons (ind_row fun _=>rfl) (fun _ _=>ind_nil)⟩) (by kernel_rfl) (by kernel_rfl) (evd_run 3 (by kernel_rfl) ?_)
 obtain ⟨r8,hr8,h⟩:=bindS h
 refine evd_callS [(0,700350)] [4] (by kernel_rfl) (by kernel_rfl) (W.flat_mapped_1_k_ok hr8) (by kernel_rfl) (.inr ⟨rfl,fun _ _=>ind_cons (ind_row fun _=>rfl) (fun _ _=>ind_nil)⟩) (by kernel_rfl) (by kernel_rfl) (evd_run 3 (by kernel_rfl) ?_)
 obtain ⟨r9,hr9,h⟩:=bindS h
 refine evd_callS [(0,700550)] [4] (by kernel_rfl) (by kernel_rfl) (W.flat_mapped_1_k_ok hr9) (by kernel_rfl) (.inr ⟨rfl,fun _ _=>ind_cons (ind_row fun _=>rfl) (fun _ _=>ind_nil)⟩) (by kernel_rfl) (by kernel_rfl) (evd_run 1 (by kernel_rfl) (evd_new (g:=8) (ob:=.box [.nl,.nl,.nl,.nl]) (v:=(.ptr 8 0)) (by kernel_rfl) (by kernel_rfl) (by kernel_rfl) (by kernel_rfl) (by kernel_rfl) (by kernel_rfl) ?_))
 refine evd_end (by kernel_rfl) (evo_run 1 (by kernel_rfl) (zO fun τ hτ=>?_))
 refine zE hτ ⟨[(2,.fn 147 []),(3,.ptr 3 0),(6,.ptr 6 0),(8,.ptr 8 0)],[(3,.box (c_Flat f)),(6,.box [.nl,.nl,.nl,.nl]),(8,.box [(ro 700150 86),(ro 700350 86),(ro 700550 86),.nl]),(700150,w_Rect 86 r7),(700350,w_Rect 86 r8),(700550,w_Rect 86 r9)]⟩ (zB (z7 ?_))
 refine zA 2 (evs_op (st_len (c:=c_BendLine) (l:=f.Bends) (x:=(s_BendLine f.Bends)) (by kernel_rfl) (by kernel_rfl)) (z1 1 ⟨[(2,.fn 147 []),(6,.ptr 6 0),(8,.ptr 8 0),(26,s_BendLine f.Bends),(27,vI (f.Bends.length : Int)),(28,vI 0)],[(6,.box [.nl,.nl,.nl,.nl]),(8,.box [(ro 700150 86),(ro 700350 86),(ro 700550 86),.nl]),(700150,w_Rect 86 r7),(700350,w_Rect 86 r8),(700550,w_Rect 86 r9)]⟩ ?_))
 refine zC ?_
 obtain ⟨x13,hx13,h⟩:=bindS h
 refine sem_loopS (fun (s12 : Unit)=>⟨[(2,.fn 147 []),(6,.ptr 500000 0),(8,.ptr 500001 0),(26,s_BendLine f.Bends),(27,vI (f.Bends.length : Int)),(28,vI 0)],[(500000,.box [.nl,.nl,.nl,.nl]),(500001,.box [(ro 500002 86),(ro 500003 86),(ro 500004 86),.nl]),(500002,w_Rect 86 r7),(500003,w_Rect 86 r8),(500004,w_Rect 86 r9)]⟩) (fun (x13 : Unit)=>(.exit 0,⟨[(6,.ptr 500000 0),(8,.ptr 500001 0)],[(500000,.box [.nl,.nl,.nl,.nl]),(500001,.box [(ro 500002 86),(ro 500003 86),(ro 500004 86),.nl]),(500002,w_Rect 86 r7),(500003,w_Rect 86 r8),(500004,w_Rect 86 r9)]⟩)) (flat_mapped__flat_quarter_1__flat_quarter_2_k_l1 f) () x13 (by kernel_rfl) (subR_prep [] [(6,500000),(8,500001),(700150,500002),(700350,500003),(700550,500004)] (by kernel_rfl) rfl rfl (by kernel_rfl)) (iter_loop hx13) ?_ ?_ ?_
 intro s12 r h
 refine z3 1 ⟨[(2,.fn 147 []),(6,.ptr 500000 0),(8,.ptr 500001 0),(26,s_BendLine f.Bends),(27,vI (f.Bends.length : Int)),(28,vI 0),(29,vB (decide (0 < (f.Bends.length : Int))))],[(500000,.box [.nl,.nl,.nl,.nl]),(500001,.box [(ro 500002 86),(ro 500003 86),(ro 500004 86),.nl]),(500002,w_Rect 86 r7),(500003,w_Rect 86 r8),(500004,w_Rect 86 r9)]⟩ (zB (zI (decide (0 < (f.Bends.length : Int))) (fun hb=>?_) fun hb=>?_))
 replace h:=iteT hb h
 exact nomatch h
 replace h:=iteF hb h
 refine zL 0 fun τ hτ=>?_
 refine th_exit ?_
 obtain rfl:=osi h
 exact zF hτ
 intro x
 rfl
 intro τ hτ
 refine zQ (zE hτ ⟨[(6,.ptr 500000 0),(8,.ptr 500001 0)],[(500000,.box [.nl,.nl,.nl,.nl]),(500001,.box [(ro 500002 86),(ro 500003 86),(ro 500004 86),.nl]),(500002,w_Rect 86 r7),(500003,w_Rect 86 r8),(500004,w_Rect 86 r9)]⟩ (z8 2 ⟨[(6,.ptr 500000 0)],[(500000,.box [(ro 500002 86),(ro 500003 86),(ro 500004 86),.nl]),(500002,w_Rect 86 r7),(500003,w_Rect 86 r8),(500004,w_Rect 86 r9)]⟩ fun τ hτ=>?_))
 obtain rfl:=osi h
 exact rk_ret hτ [(6,.ptr 0 0)] (subR_prep [] [(500000,0),(500002,1),(500003,2),(500004,3)] (by kernel_rfl) rfl rfl (by kernel_rfl)) (by kernel_rfl)
theorem W.flat_quarter_k_ok {f : Flat} {r : Flat} (h : flat_quarter_k f = some r) : PC G.P 127 [(.agg (c_Flat f))] [] (.agg [(.row (.top 1) 86),(.row (.top 2) 86),(.row (.top 3) 86),.nl]) [(0,.box [(.row (.top 1) 86),(.row (.top 2) 86),(.row (.top 3) 86),.nl]),(1,.row 86 [] (List.map c_Rect r.Rects)),(2,.row 86 [] (List.map c_Rect r.Cuts)),(3,.row 86 [] (List.map c_Rect r.Forms))]:=by
 refine zU G Tryz.func127 (zK ⟨[(0,.agg (c_Flat f))],[]⟩ (z3 2 ⟨[(1,.ptr 1 0),(2,.ptr 2 0)],[(1,.box (c_Flat f)),(2,.box [.nl,.nl,.nl,.nl])]⟩ ?_))
 refine z7 (zA 1 ?_)
 obtain ⟨r2,hr2,h⟩:=bindS h
 refine evs_callS [] [(0,700050),(1,700051),(2,700052),(3,700053)] [] (by kernel_rfl) (W.flat_mapped__flat_quarter_1__flat_quarter_2_k_ok hr2) (by kernel_rfl) (by kernel_rfl) (.inl rfl) (z1 1 ⟨[(2,.ptr 2 0)],[(2,.box [(ro 700051 86),(ro 700052 86),(ro 700053 86),.nl]),(700051,w_Rect 86 r2.Rects),(700052,w_Rect 86 r2.Cuts),(700053,w_Rect 86 r2.Forms)]⟩ (zN fun τ hτ=>?_))
 obtain rfl:=osi h
 exact rk_ret hτ [(2,.ptr 0 0)] (subR_prep [] [(2,0),(700051,1),(700052,2),(700053,3)] (by kernel_rfl) rfl rfl (by kernel_rfl)) (by kernel_rfl)
theorem W.flat_bounds_k_ok {l : (List Rect)} {r : Rect × Int × Int × Int × Int} (h : flat_bounds_k l = some r) : PC G.P 148 [(.sl (List.map c_Rect l))] [] (.agg (c_Rect r.1)) [(0,.box [(vI r.2.1),(vI r.2.2.1),(vI r.2.2.2.1),(vI r.2.2.2.2)])]:=by
 refine zU G Tryz.func148 (zK ⟨[(0,s_Rect l)],[]⟩ (z3 1 ⟨[(0,s_Rect l),(2,.ptr 2 0)],[(2,.box [(vI 0),(vI 0),(vI 0),(vI 0)])]⟩ ?_))
 refine z7 (zA 1 ?_)
 obtain ⟨x2,hx2,h⟩:=bindS h
 refine evs_op (st_idx (c:=c_Rect) (l:=l) (i:=0) (kd:=.i64) (sz:=4) (by kernel_rfl) hx2 rfl) (z1 3 ⟨[(0,s_Rect l),(2,.ptr 2 0),(3,.ptr 3 0)],[(2,.box [(vI 0),(vI 0),(vI 0),(vI 0)]),(3,.box (c_Rect x2))]⟩ (zB ?_))
 refine z7 (zA 1 ?_)
 obtain ⟨l8,hl8,h⟩:=bindS h
 refine evs_op (st_slL (c:=c_Rect) (l:=l) (sz:=4) (lo:=1) (k1:=.i64) (by kernel_rfl) (fun _=>rfl) hl8) (evs_op (st_len (c:=c_Rect) (l:=l8) (x:=(s_Rect l8)) (by kernel_rfl) (by kernel_rfl)) (z1 1 ⟨[(2,.ptr 2 0),(3,.ptr 3 0),(12,s_Rect l8),(13,vI (l8.length : Int)),(14,vI 0)],[(2,.box [(vI 0),(vI 0),(vI 0),(vI 0)]),(3,.box (c_Rect x2))]⟩ ?_))
 refine zC ?_
 obtain ⟨x10,hx10,h⟩:=bindS h
 refine sem_loopS (fun (s9 : Unit)=>⟨[(2,.ptr 500000 0),(3,.ptr 500001 0),(12,s_Rect l8),(13,vI (l8.length : Int)),(14,vI 0)],[(500000,.box [(vI 0),(vI 0),(vI 0),(vI 0)]),(500001,.box (c_Rect x2))]⟩) (fun (x10 : Unit)=>(.exit 0,⟨[(2,.ptr 500000 0),(3,.ptr 500001 0)],[(500000,.box [(vI 0),(vI 0),(vI 0),(vI 0)]),(500001,.box (c_Rect x2))]⟩)) (flat_bounds_k_l1 l8) () x10 (by kernel_rfl) (subR_prep [] [(2,500000),(3,500001)] (by kernel_rfl) rfl rfl (by kernel_rfl)) (iter_loop hx10) ?_ ?_ ?_
 intro s9 r h
 refine z3 1 ⟨[(2,.ptr 500000 0),(3,.ptr 500001 0),(12,s_Rect l8),(13,vI (l8.length : Int)),(14,vI 0),(15,vB (decide (0 < (l8.length : Int))))],[(500000,.box [(vI 0),(vI 0),(vI 0),(vI 0)]),(500001,.box (c_Rect x2))]⟩ (zB (zI (decide (0 < (l8.length : Int))) (fun hb=>?_) fun hb=>?_))
 replace h:=iteT hb h
 exact nomatch h
 replace h:=iteF hb h
 refine zL 0 fun τ hτ=>?_
 refine th_exit ?_
 obtain rfl:=osi h
 exact zF hτ
 intro x
 rfl
 intro τ hτ
 refine zQ (zE hτ ⟨[(2,.ptr 500000 0),(3,.ptr 500001 0)],[(500000,.box [(vI 0),(vI 0),(vI 0),(vI 0)]),(500001,.box (c_Rect x2))]⟩ (z8 2 ⟨[(2,.ptr 500000 0)],[(500000,.box (c_Rect x2))]⟩ fun τ hτ=>?_))
 obtain rfl:=osi h
 exact rk_ret hτ [(2,.ptr 0 0)] (subR_prep [] [(500000,0)] (by kernel_rfl) rfl rfl (by kernel_rfl)) (by kernel_rfl)
theorem W.flat_settled_1_k_ok {r0 : Rect} {a_0 : Int} {a_1 : Int} {a_2 : Int} {a_3 : Int} {r : Rect} (h : flat_settled_1_k r0 a_0 a_1 a_2 a_3 = some r) : PC G.P 149 [(.agg (c_Rect r0)),(.vptr [(vI a_0),(vI a_1),(vI a_2),(vI a_3)] 0)] [] (.agg (c_Rect r)) [(0,.box [(vI (isub r0.X a_0)),(vI (isub r0.Y a_1)),(vI r0.W),(vI r0.H)])]:=by
 refine zU G Tryz.func149 (zK ⟨[(0,.agg (c_Rect r0)),(1,.vptr [(vI a_0),(vI a_1),(vI a_2),(vI a_3)] 0)],[]⟩ (z3 2 ⟨[(1,.vptr [(vI a_0),(vI a_1),(vI a_2),(vI a_3)] 0),(2,.ptr 2 0),(3,.ptr 3 0)],[(2,.box (c_Rect r0)),(3,.box [(vI 0),(vI 0),(vI 0),(vI 0)])]⟩ ?_))
 refine zB (sem_drawN [(11,[2])] [] [] [(7,[2]),(8,[2]),(9,[2])] [] 12 (by kernel_rfl) (by kernel_rfl) (by kernel_rfl) (evd_run 11 (by kernel_rfl) ?_))
 refine evd_set (g:=2) (ob:=.box [(vI (isub r0.X a_0)),(vI r0.Y),(vI r0.W),(vI r0.H)]) (v:=vU) (by kernel_rfl) (by kernel_rfl) (by kernel_rfl) (by kernel_rfl) (by kernel_rfl) (evd_end (by kernel_rfl) (evo_run 2 (by kernel_rfl) ?_))
 refine zO fun τ hτ=>?_
 refine zE hτ ⟨[(2,.ptr 2 0),(3,.ptr 3 0)],[(2,.box [(vI (isub r0.X a_0)),(vI (isub r0.Y a_1)),(vI r0.W),(vI r0.H)]),(3,.box [(vI 0),(vI 0),(vI 0),(vI 0)])]⟩ (z8 2 ⟨[(3,.ptr 3 0)],[(3,.box [(vI (isub r0.X a_0)),(vI (isub r0.Y a_1)),(vI r0.W),(vI r0.H)])]⟩ fun τ hτ=>?_)
 obtain rfl:=osi h
 exact rk_ret hτ [(3,.ptr 0 0)] (subR_prep [] [(3,0)] (by kernel_rfl) rfl rfl (by kernel_rfl)) (by kernel_rfl)
theorem W.flat_mapped_1_k'_ok {l : (List Rect)} {a_0_0_0 : Int} {a_0_0_1 : Int} {a_0_0_2 : Int} {a_0_0_3 : Int} {r : (List Rect)} (h : flat_mapped_1_k' l a_0_0_0 a_0_0_1 a_0_0_2 a_0_0_3 = some r) : PC G.P 163 [(.sl (List.map c_Rect l)),(.vptr [(.fn 149 [(.vptr [(vI a_0_0_0),(vI a_0_0_1),(vI a_0_0_2),(vI a_0_0_3)] 0)])] 0)] [] (.row (.top 0) 86) [(0,.row 86 [] (List.map c_Rect r))]:=by
 refine zU G Tryz.func163 (zK ⟨[(0,s_Rect l),(1,.vptr [(.fn 149 [(.vptr [(vI a_0_0_0),(vI a_0_0_1),(vI a_0_0_2),(vI a_0_0_3)] 0)])] 0)],[]⟩ (z3 1 ⟨[(0,s_Rect l),(1,.vptr [(.fn 149 [(.vptr [(vI a_0_0_0),(vI a_0_0_1),(vI a_0_0_2),(vI a_0_0_3)] 0)])] 0)],[]⟩ ?_))
 refine z3 1 ⟨[(0,s_Rect l),(1,.vptr [(.fn 149 [(.vptr [(vI a_0_0_0),(vI a_0_0_1),(vI a_0_0_2),(vI a_0_0_3)] 0)])] 0),(4,ro 4 86)],[(4,w_Rect 86 [])]⟩ (zB (z7 ?_))
 refine zA 1 (evs_op (st_len (c:=c_Rect) (l:=l) (x:=(s_Rect l)) (by kernel_rfl) (by kernel_rfl)) (z1 1 ⟨[(1,.vptr [(.fn 149 [(.vptr [(vI a_0_0_0),(vI a_0_0_1),(vI a_0_0_2),(vI a_0_0_3)] 0)])] 0),(4,ro 4 86),(7,s_Rect l),(8,vI (l.length : Int)),(9,vI 0)],[(4,w_Rect 86 [])]⟩ ?_))
 refine zC ?_
 obtain ⟨x78,hx78,h⟩:=bindS h
 refine sem_loopS (fun (s53 : Int × (List Rect))=>⟨[(1,.vptr [(.fn 149 [(.vptr [(vI a_0_0_0),(vI a_0_0_1),(vI a_0_0_2),(vI a_0_0_3)] 0)])] 0),(4,ro 500000 86),(7,s_Rect l),(8,vI (l.length : Int)),(9,vI s53.1)],[(500000,w_Rect 86 s53.2)]⟩) (fun (x78 : (List Rect))=>(.exit 0,⟨[(4,ro 500000 86)],[(500000,w_Rect 86 x78)]⟩)) (flat_mapped_1_k'_l1 l a_0_0_0 a_0_0_1 a_0_0_2 a_0_0_3) (0,[]) x78 (by kernel_rfl) (subR_prep [] [(4,500000)] (by kernel_rfl) rfl rfl (by kernel_rfl)) (iter_loop hx78) ?_ ?_ ?_
 intro s53 r h
 refine z3 1 ⟨[(1,.vptr [(.fn 149 [(.vptr [(vI a_0_0_0),(vI a_0_0_1),(vI a_0_0_2),(vI a_0_0_3)] 0)])] 0),(4,ro 500000 86),(7,s_Rect l),(8,vI (l.length : Int)),(9,vI s53.1),(10,vB (decide (s53.1 < (l.length : Int))))],[(500000,w_Rect 86 s53.2)]⟩ (zB (zI (decide (s53.1 < (l.length : Int))) (fun hb=>?_) fun hb=>?_))
 replace h:=iteT hb h
 refine z4 ⟨[(1,.vptr [(.fn 149 [(.vptr [(vI a_0_0_0),(vI a_0_0_1),(vI a_0_0_2),(vI a_0_0_3)] 0)])] 0),(4,ro 500000 86),(7,s_Rect l),(8,vI (l.length : Int)),(9,vI s53.1)],[(500000,w_Rect 86 s53.2)]⟩ (zB (zC ?_))
 refine z7 ?_
 obtain ⟨x73,hx73,h⟩:=bindS h
 refine evs_op (st_idx (c:=c_Rect) (l:=l) (i:=s53.1) (kd:=.i64) (sz:=4) (by kernel_rfl) hx73 rfl) (z1 3 ⟨[(1,.vptr [(.fn 149 [(.vptr [(vI a_0_0_0),(vI a_0_0_1),(vI a_0_0_2),(vI a_0_0_3)] 0)])] 0),(4,ro 500000 86),(6,.ptr 6 0),(7,s_Rect l),(8,vI (l.length : Int)),(9,vI s53.1)],[(6,.box (c_Rect x73)),(500000,w_Rect 86 s53.2)]⟩ (zD ?_))
 refine zA 3 ?_
 obtain ⟨r76,hr76,h⟩:=bindS h
 refine evs_callS [] [(0,700150)] [] (by kernel_rfl) (W.flat_settled_1_k_ok hr76) (by kernel_rfl) (by kernel_rfl) (.inl rfl) (zA 1 ?_)
 obtain ⟨l77,hl77,h⟩:=bindS h
 refine evs_op (st_app (c:=c_Rect) (l:=s53.2) (l2:=[r76]) (x:=(s_Rect [r76])) (g:=500000) (e:=86) (sz:=4) (d:=18) (by kernel_rfl) (by kernel_rfl) (by kernel_rfl) (by kernel_rfl) (fun _=>rfl) rfl hl77) (z6 1 fun τ hτ=>?_)
 refine bl_normal (zE hτ ⟨[(1,.vptr [(.fn 149 [(.vptr [(vI a_0_0_0),(vI a_0_0_1),(vI a_0_0_2),(vI a_0_0_3)] 0)])] 0),(4,ro 500000 86),(7,s_Rect l),(8,vI (l.length : Int)),(9,vI s53.1)],[(500000,w_Rect 86 l77)]⟩ (zD ?_))
 refine z6 2 fun τ hτ=>?_
 obtain rfl:=osi h
 exact zH hτ
 replace h:=iteF hb h
 refine zL 0 fun τ hτ=>?_
 refine th_exit ?_
 obtain rfl:=osi h
 exact zF hτ
 intro x
 rfl
 intro τ hτ
 refine zQ (zE hτ ⟨[(4,ro 500000 86)],[(500000,w_Rect 86 x78)]⟩ (z8 2 ⟨[(3,ro 500000 86)],[(500000,w_Rect 86 x78)]⟩ fun τ hτ=>?_))
 obtain rfl:=osi h
 exact rk_ret hτ [(3,ro 0 86)] (subR_prep [] [(500000,0)] (by kernel_rfl) rfl rfl (by kernel_rfl)) (by kernel_rfl)
theorem W.flat_mapped__flat_settled_1__flat_settled_2_k_ok {f : Flat} {rect_0_0 : Int} {rect_0_1 : Int} {rect_0_2 : Int} {rect_0_3 : Int} {line_0_0 : Int} {line_0_1 : Int} {line_0_2 : Int} {line_0_3 : Int} {r : Flat} (h : flat_mapped__flat_settled_1__flat_settled_2_k f rect_0_0 rect_0_1 rect_0_2 rect_0_3 line_0_0 line_0_1 line_0_2 line_0_3 = some r) : PC G.P 145 [(.agg (c_Flat f)),(.fn 149 [(.vptr [(vI rect_0_0),(vI rect_0_1),(vI rect_0_2),(vI rect_0_3)] 0)]),(.fn 150 [(.vptr [(vI line_0_0),(vI line_0_1),(vI line_0_2),(vI line_0_3)] 0)])] [] (.agg [(.row (.top 1) 86),(.row (.top 2) 86),(.row (.top 3) 86),.nl]) [(0,.box [(.row (.top 1) 86),(.row (.top 2) 86),(.row (.top 3) 86),.nl]),(1,.row 86 [] (List.map c_Rect r.Rects)),(2,.row 86 [] (List.map c_Rect r.Cuts)),(3,.row 86 [] (List.map c_Rect r.Forms))]:=by
 refine zU G Tryz.func145 (zK ⟨[(0,.agg (c_Flat f)),(1,.fn 149 [(.vptr [(vI rect_0_0),(vI rect_0_1),(vI rect_0_2),(vI rect_0_3)] 0)]),(2,.fn 150 [(.vptr [(vI line_0_0),(vI line_0_1),(vI line_0_2),(vI line_0_3)] 0)])],[]⟩ (z3 3 ⟨[(2,.fn 150 [(.vptr [(vI line_0_0),(vI line_0_1),(vI line_0_2),(vI line_0_3)] 0)]),(3,.ptr 3 0),(4,.ptr 4 0),(6,.ptr 6 0)],[(3,.box (c_Flat f)),(4,.box [(.fn 149 [(.vptr [(vI rect_0_0),(vI rect_0_1),(vI rect_0_2),(vI rect_0_3)] 0)])]),(6,.box [.nl,.nl,.nl,.nl])]⟩ ?_))
 refine z3 2 ⟨[(2,.fn 150 [(.vptr [(vI line_0_0),(vI line_0_1),(vI line_0_2),(vI line_0_3)] 0)]),(3,.ptr 3 0),(6,.ptr 6 0),(7,.fn 163 [(.ptr 4 0)])],[(3,.box (c_Flat f)),(4,.box [(.fn 149 [(.vptr [(vI rect_0_0),(vI rect_0_1),(vI rect_0_2),(vI rect_0_3)] 0)])]),(6,.box [.nl,.nl,.nl,.nl])]⟩ (zB (sem_draw [(3,[700150]),(7,[700350]),(11,[700550]),(13,[8])] [(3,[700150]),(7,[700350]),(11,[700550]),(13,[8])] [(3,[4]),(7,[4]),(11,[4])] [(0,[8]),(1,[8]),(2,[8]),(3,[8]),(4,[700150,8]),(5,[700150,8]),(6,[700150,8]),(7,[8]),(8,[700150,700350,8]),(9,[700150,700350,8]),(10,[700150,700350,8]),(11,[8]),(12,[8]),(13,[700150,700350,700550])] [(0,[700150,700350,700550,8]),(1,[700150,700350,700550,8]),(2,[700150,700350,700550,8]),(3,[700350,700550,8]),(4,[700150,700350,700550,8]),(5,[700150,700350,700550,8]),(6,[700150,700350,700550,8]),(7,[700550,8]),(8,[700150,700350,700550,8]),(9,[700150,700350,700550,8]),(10,[700150,700350,700550,8]),(11,[8]),(12,[8]),(13,[700150,700350,700550])] 14 (by kernel_rfl) (by kernel_rfl) [700150,700350,700550,8] (by kernel_rfl) (by kernel_rfl) ?_))
 refine evd_run 3 (by kernel_rfl) ?_
 obtain ⟨r7,hr7,h⟩:=bindS h
 refine evd_callS [(0,700150)] [4] (by kernel_rfl) (by kernel_rfl) (W.flat_mapped_1_k'_ok hr7) (by kernel_rfl) (.inr ⟨rfl,fun _ _=>ind_cons (ind_row fun _=>rfl) (fun _ _=>ind_nil)⟩) (by kernel_rfl) (by kernel_rfl) (evd_run 3 (by kernel_rfl) ?_)
 obtain ⟨r8,hr8,h⟩:=bindS h
 refine evd_callS [(0,700350)] [4] (by kernel_rfl) (by kernel_rfl) (W.flat_mapped_1_k'_ok hr8) (by kernel_rfl) (.inr ⟨rfl,fun _ _=>ind_cons (ind_row fun _=>rfl) (fun _ _=>ind_nil)⟩) (by kernel_rfl) (by kernel_rfl) (evd_run 3 (by kernel_rfl) ?_)
 obtain ⟨r9,hr9,h⟩:=bindS h
 refine evd_callS [(0,700550)] [4] (by kernel_rfl) (by kernel_rfl) (W.flat_mapped_1_k'_ok hr9) (by kernel_rfl) (.inr ⟨rfl,fun _ _=>ind_cons (ind_row fun _=>rfl) (fun _ _=>ind_nil)⟩) (by kernel_rfl) (by kernel_rfl) (evd_run 1 (by kernel_rfl) (evd_new (g:=8) (ob:=.box [.nl,.nl,.nl,.nl]) (v:=(.ptr 8 0)) (by kernel_rfl) (by kernel_rfl) (by kernel_rfl) (by kernel_rfl) (by kernel_rfl) (by kernel_rfl) ?_))
 refine evd_end (by kernel_rfl) (evo_run 1 (by kernel_rfl) (zO fun τ hτ=>?_))
 refine zE hτ ⟨[(2,.fn 150 [(.vptr [(vI line_0_0),(vI line_0_1),(vI line_0_2),(vI line_0_3)] 0)]),(3,.ptr 3 0),(6,.ptr 6 0),(8,.ptr 8 0)],[(3,.box (c_Flat f)),(6,.box [.nl,.nl,.nl,.nl]),(8,.box [(ro 700150 86),(ro 700350 86),(ro 700550 86),.nl]),(700150,w_Rect 86 r7),(700350,w_Rect 86 r8),(700550,w_Rect 86 r9)]⟩ (zB (z7 ?_))
 refine zA 2 (evs_op (st_len (c:=c_BendLine) (l:=f.Bends) (x:=(s_BendLine f.Bends)) (by kernel_rfl) (by kernel_rfl)) (z1 1 ⟨[(2,.fn 150 [(.vptr [(vI line_0_0),(vI line_0_1),(vI line_0_2),(vI line_0_3)] 0)]),(6,.ptr 6 0),(8,.ptr 8 0),(26,s_BendLine f.Bends),(27,vI (f.Bends.length : Int)),(28,vI 0)],[(6,.box [.nl,.nl,.nl,.nl]),(8,.box [(ro 700150 86),(ro 700350 86),(ro 700550 86),.nl]),(700150,w_Rect 86 r7),(700350,w_Rect 86 r8),(700550,w_Rect 86 r9)]⟩ ?_))
 refine zC ?_
 obtain ⟨x13,hx13,h⟩:=bindS h
 refine sem_loopS (fun (s12 : Unit)=>⟨[(2,.fn 150 [(.vptr [(vI line_0_0),(vI line_0_1),(vI line_0_2),(vI line_0_3)] 0)]),(6,.ptr 500000 0),(8,.ptr 500001 0),(26,s_BendLine f.Bends),(27,vI (f.Bends.length : Int)),(28,vI 0)],[(500000,.box [.nl,.nl,.nl,.nl]),(500001,.box [(ro 500002 86),(ro 500003 86),(ro 500004 86),.nl]),(500002,w_Rect 86 r7),(500003,w_Rect 86 r8),(500004,w_Rect 86 r9)]⟩) (fun (x13 : Unit)=>(.exit 0,⟨[(6,.ptr 500000 0),(8,.ptr 500001 0)],[(500000,.box [.nl,.nl,.nl,.nl]),(500001,.box [(ro 500002 86),(ro 500003 86),(ro 500004 86),.nl]),(500002,w_Rect 86 r7),(500003,w_Rect 86 r8),(500004,w_Rect 86 r9)]⟩)) (flat_mapped__flat_settled_1__flat_settled_2_k_l1 f) () x13 (by kernel_rfl) (subR_prep [] [(6,500000),(8,500001),(700150,500002),(700350,500003),(700550,500004)] (by kernel_rfl) rfl rfl (by kernel_rfl)) (iter_loop hx13) ?_ ?_ ?_
 intro s12 r h
 refine z3 1 ⟨[(2,.fn 150 [(.vptr [(vI line_0_0),(vI line_0_1),(vI line_0_2),(vI line_0_3)] 0)]),(6,.ptr 500000 0),(8,.ptr 500001 0),(26,s_BendLine f.Bends),(27,vI (f.Bends.length : Int)),(28,vI 0),(29,vB (decide (0 < (f.Bends.length : Int))))],[(500000,.box [.nl,.nl,.nl,.nl]),(500001,.box [(ro 500002 86),(ro 500003 86),(ro 500004 86),.nl]),(500002,w_Rect 86 r7),(500003,w_Rect 86 r8),(500004,w_Rect 86 r9)]⟩ (zB (zI (decide (0 < (f.Bends.length : Int))) (fun hb=>?_) fun hb=>?_))
 replace h:=iteT hb h
 exact nomatch h
 replace h:=iteF hb h
 refine zL 0 fun τ hτ=>?_
 refine th_exit ?_
 obtain rfl:=osi h
 exact zF hτ
 intro x
 rfl
 intro τ hτ
 refine zQ (zE hτ ⟨[(6,.ptr 500000 0),(8,.ptr 500001 0)],[(500000,.box [.nl,.nl,.nl,.nl]),(500001,.box [(ro 500002 86),(ro 500003 86),(ro 500004 86),.nl]),(500002,w_Rect 86 r7),(500003,w_Rect 86 r8),(500004,w_Rect 86 r9)]⟩ (z8 2 ⟨[(6,.ptr 500000 0)],[(500000,.box [(ro 500002 86),(ro 500003 86),(ro 500004 86),.nl]),(500002,w_Rect 86 r7),(500003,w_Rect 86 r8),(500004,w_Rect 86 r9)]⟩ fun τ hτ=>?_))
 obtain rfl:=osi h
 exact rk_ret hτ [(6,.ptr 0 0)] (subR_prep [] [(500000,0),(500002,1),(500003,2),(500004,3)] (by kernel_rfl) rfl rfl (by kernel_rfl)) (by kernel_rfl)
theorem W.flat_settled_k_ok {f : Flat} {r : Flat × Int} (h : flat_settled_k f = some r) : PC G.P 128 [(.agg (c_Flat f))] [] (.tup [(.agg [(.row (.top 1) 86),(.row (.top 2) 86),(.row (.top 3) 86),.nl]),(vI r.2)]) [(0,.box [(.row (.top 1) 86),(.row (.top 2) 86),(.row (.top 3) 86),.nl]),(1,.row 86 [] (List.map c_Rect r.1.Rects)),(2,.row 86 [] (List.map c_Rect r.1.Cuts)),(3,.row 86 [] (List.map c_Rect r.1.Forms))]:=by
 refine zU G Tryz.func128 (zK ⟨[(0,.agg (c_Flat f))],[]⟩ (z3 3 ⟨[(1,.ptr 1 0),(2,.ptr 2 0)],[(1,.box (c_Flat f)),(2,.box [.nl,.nl,.nl,.nl])]⟩ ?_))
 refine z7 (zA 2 ?_)
 obtain ⟨r2,hr2,h⟩:=bindS h
 refine evs_callS [] [(0,700100)] [] (by kernel_rfl) (W.flat_bounds_k_ok hr2) (by kernel_rfl) (by kernel_rfl) (.inl rfl) (z1 2 ⟨[(1,.ptr 1 0),(2,.ptr 2 0),(4,.ptr 4 0)],[(1,.box (c_Flat f)),(2,.box [.nl,.nl,.nl,.nl]),(4,.box (c_Rect r2.1))]⟩ (z7 ?_))
 refine zA 3 ?_
 obtain ⟨r4,hr4,h⟩:=bindS h
 refine evs_callS [] [(0,700150),(1,700151),(2,700152),(3,700153)] [4] (by kernel_rfl) (W.flat_mapped__flat_settled_1__flat_settled_2_k_ok hr4) (by kernel_rfl) (by kernel_rfl) (.inr ⟨rfl,fun _ _=>ind_cons rfl (fun _ _=>ind_cons (ind_row fun _=>rfl) (fun _ _=>ind_cons (ind_row fun _=>rfl) (fun _ _=>ind_cons (ind_row fun _=>rfl) (fun _ _=>ind_nil))))⟩) (z1 2 ⟨[(2,.ptr 2 0),(5,.ptr 5 0)],[(2,.box [.nl,.nl,.nl,.nl]),(5,.box [(ro 700151 86),(ro 700152 86),(ro 700153 86),.nl]),(700151,w_Rect 86 r4.Rects),(700152,w_Rect 86 r4.Cuts),(700153,w_Rect 86 r4.Forms)]⟩ (zB ?_))
 refine z7 (zA 1 ?_)
 obtain ⟨r8,hr8,h⟩:=bindS h
 refine evs_callP [700151,700152,700153] (by kernel_rfl) (W.flat_check_k_ok hr8) (by kernel_rfl) (.inr rfl) (by kernel_rfl) (z1 1 ⟨[(2,.ptr 2 0),(5,.ptr 5 0),(15,vB (r8 != 0))],[(2,.box [.nl,.nl,.nl,.nl]),(5,.box [(ro 700151 86),(ro 700152 86),(ro 700153 86),.nl]),(700151,w_Rect 86 r4.Rects),(700152,w_Rect 86 r4.Cuts),(700153,w_Rect 86 r4.Forms)]⟩ (zI (r8 != 0) (fun hb=>?_) fun hb=>?_))
 replace h:=iteT hb h
 exact nomatch h
 replace h:=iteF hb h
 refine z4 ⟨[(2,.ptr 2 0),(5,.ptr 5 0)],[(2,.box [.nl,.nl,.nl,.nl]),(5,.box [(ro 700151 86),(ro 700152 86),(ro 700153 86),.nl]),(700151,w_Rect 86 r4.Rects),(700152,w_Rect 86 r4.Cuts),(700153,w_Rect 86 r4.Forms)]⟩ (z8 3 ⟨[(2,.ptr 2 0),(3,vI 0)],[(2,.box [(ro 700151 86),(ro 700152 86),(ro 700153 86),.nl]),(700151,w_Rect 86 r4.Rects),(700152,w_Rect 86 r4.Cuts),(700153,w_Rect 86 r4.Forms)]⟩ fun τ hτ=>?_)
 obtain rfl:=osi h
 exact rk_ret hτ [(2,.ptr 0 0),(3,vI 0)] (subR_prep [] [(2,0),(700151,1),(700152,2),(700153,3)] (by kernel_rfl) rfl rfl (by kernel_rfl)) (by kernel_rfl)
theorem W.flat_Quarter_k_ok {f : Flat} {turns : Int} {r : Flat × Int} (h : flat_Quarter_k f turns = some r) : PC G.P 99 [(.agg (c_Flat f)),(vI turns)] [] (.tup [(.agg [(.row (.top 1) 86),(.row (.top 2) 86),(.row (.top 3) 86),.nl]),(vI r.2)]) [(0,.box [(.row (.top 1) 86),(.row (.top 2) 86),(.row (.top 3) 86),.nl]),(1,.row 86 [] (List.map c_Rect r.1.Rects)),(2,.row 86 [] (List.map c_Rect r.1.Cuts)),(3,.row 86 [] (List.map c_Rect r.1.Forms))]:=by
 refine zU G Tryz.func99 (zK ⟨[(0,.agg (c_Flat f)),(1,vI turns)],[]⟩ (z3 3 ⟨[(1,vI turns),(2,.ptr 2 0),(4,.ptr 4 0)],[(2,.box (c_Flat f)),(4,.box [.nl,.nl,.nl,.nl])]⟩ ?_))
 refine zB (z7 (zA 1 ?_))
 obtain ⟨r4,hr4,h⟩:=bindS h
 refine evs_callP [] (by kernel_rfl) (W.flat_check_k_ok hr4) (by kernel_rfl) (.inl rfl) (by kernel_rfl) (z1 1 ⟨[(1,vI turns),(2,.ptr 2 0),(4,.ptr 4 0),(6,vI r4)],[(2,.box (c_Flat f)),(4,.box [.nl,.nl,.nl,.nl])]⟩ (z7 ?_))
 refine zA 3 (zS (r4 != 0) (fun b0=>⟨[(1,vI turns),(2,.ptr 2 0),(4,.ptr 4 0),(15,vB b0)],[(2,.box (c_Flat f)),(4,.box [.nl,.nl,.nl,.nl])]⟩) (fun hb=>?_) fun hb=>?_)
 replace h:=iteT hb h
 exact nomatch h
 replace h:=iteF hb h
 refine zA 4 (zS (decide (turns < 0)) (fun b0=>⟨[(1,vI turns),(2,.ptr 2 0),(4,.ptr 4 0),(19,vB b0)],[(2,.box (c_Flat f)),(4,.box [.nl,.nl,.nl,.nl])]⟩) (fun hb=>?_) fun hb=>?_)
 replace h:=iteT hb h
 exact nomatch h
 replace h:=iteF hb h
 refine z1 3 ⟨[(1,vI turns),(2,.ptr 2 0),(4,.ptr 4 0),(22,vB (decide (turns > 3)))],[(2,.box (c_Flat f)),(4,.box [.nl,.nl,.nl,.nl])]⟩ (zI (decide (turns > 3)) (fun hb=>?_) fun hb=>?_)
 replace h:=iteT hb h
 exact nomatch h
 replace h:=iteF hb h
 refine z4 ⟨[(1,vI turns),(2,.ptr 2 0),(4,.ptr 4 0)],[(2,.box (c_Flat f)),(4,.box [.nl,.nl,.nl,.nl])]⟩ (z3 3 ⟨[(1,vI turns),(2,.ptr 2 0),(4,.ptr 4 0),(7,.ptr 7 0)],[(2,.box (c_Flat f)),(4,.box [.nl,.nl,.nl,.nl]),(7,.box (c_Flat f))]⟩ (zB ?_))
 refine z3 2 ⟨[(1,vI turns),(2,.ptr 2 0),(4,.ptr 4 0),(7,.ptr 7 0),(25,vI turns),(26,vI 0)],[(2,.box (c_Flat f)),(4,.box [.nl,.nl,.nl,.nl]),(7,.box (c_Flat f))]⟩ (zC ?_)
 obtain ⟨x34,hx34,h⟩:=bindS h
 refine sem_loopS (fun (s25 : Int × (List Rect) × (List Rect) × (List Rect) × (List BendLine))=>⟨[(1,vI turns),(2,.ptr 500000 0),(4,.ptr 500001 0),(7,.ptr 500002 0),(25,vI turns),(26,vI s25.1)],[(500000,.box (c_Flat f)),(500001,.box [.nl,.nl,.nl,.nl]),(500002,.box [(s_Rect s25.2.1),(s_Rect s25.2.2.1),(s_Rect s25.2.2.2.1),(s_BendLine s25.2.2.2.2)])]⟩) (fun (x34 : (List Rect) × (List Rect) × (List Rect) × (List BendLine))=>(.exit 0,⟨[(1,vI turns),(2,.ptr 500000 0),(4,.ptr 500001 0),(7,.ptr 500002 0)],[(500000,.box (c_Flat f)),(500001,.box [.nl,.nl,.nl,.nl]),(500002,.box [(s_Rect x34.1),(s_Rect x34.2.1),(s_Rect x34.2.2.1),(s_BendLine x34.2.2.2)])]⟩)) (flat_Quarter_k_l1 turns) (0,f.Rects,f.Cuts,f.Forms,f.Bends) x34 (by kernel_rfl) (subR_prep [] [(2,500000),(4,500001),(7,500002)] (by kernel_rfl) rfl rfl (by kernel_rfl)) (iter_loop hx34) ?_ ?_ ?_
 intro s25 r h
 refine z3 1 ⟨[(1,vI turns),(2,.ptr 500000 0),(4,.ptr 500001 0),(7,.ptr 500002 0),(25,vI turns),(26,vI s25.1),(27,vB (decide (s25.1 < turns)))],[(500000,.box (c_Flat f)),(500001,.box [.nl,.nl,.nl,.nl]),(500002,.box [(s_Rect s25.2.1),(s_Rect s25.2.2.1),(s_Rect s25.2.2.2.1),(s_BendLine s25.2.2.2.2)])]⟩ (zB (zI (decide (s25.1 < turns)) (fun hb=>?_) fun hb=>?_))
 replace h:=iteT hb h
 refine z4 ⟨[(1,vI turns),(2,.ptr 500000 0),(4,.ptr 500001 0),(7,.ptr 500002 0),(25,vI turns),(26,vI s25.1)],[(500000,.box (c_Flat f)),(500001,.box [.nl,.nl,.nl,.nl]),(500002,.box [(s_Rect s25.2.1),(s_Rect s25.2.2.1),(s_Rect s25.2.2.2.1),(s_BendLine s25.2.2.2.2)])]⟩ (zB (zC ?_))
 refine zD (zA 1 ?_)
 obtain ⟨r33,hr33,h⟩:=bindS h
 refine evs_callS [] [(0,700050),(1,700051),(2,700052),(3,700053)] [] (by kernel_rfl) (W.flat_quarter_k_ok hr33) (by kernel_rfl) (by kernel_rfl) (.inl rfl) (z6 1 fun τ hτ=>?_)
 refine bl_normal (zE hτ ⟨[(1,vI turns),(2,.ptr 500000 0),(4,.ptr 500001 0),(7,.ptr 500002 0),(25,vI turns),(26,vI s25.1)],[(500000,.box (c_Flat f)),(500001,.box [.nl,.nl,.nl,.nl]),(500002,.box [(ro 700051 86),(ro 700052 86),(ro 700053 86),.nl]),(700051,w_Rect 86 r33.Rects),(700052,w_Rect 86 r33.Cuts),(700053,w_Rect 86 r33.Forms)]⟩ (zD ?_))
 refine z6 2 fun τ hτ=>?_
 obtain rfl:=osi h
 exact lk_nextS hτ (subR_prep [.frz 700051,.frz 700052,.frz 700053,.soft (.box 500002 3)] [(500000,500000),(500001,500001),(500002,500002)] (by kernel_rfl) rfl rfl (by kernel_rfl))
 replace h:=iteF hb h
 refine zL 0 fun τ hτ=>?_
 refine th_exit ?_
 obtain rfl:=osi h
 exact zF hτ
 intro x
 rfl
 intro τ hτ
 refine zQ (zE hτ ⟨[(1,vI turns),(2,.ptr 500000 0),(4,.ptr 500001 0),(7,.ptr 500002 0)],[(500000,.box (c_Flat f)),(500001,.box [.nl,.nl,.nl,.nl]),(500002,.box [(s_Rect x34.1),(s_Rect x34.2.1),(s_Rect x34.2.2.1),(s_BendLine x34.2.2.2)])]⟩ (zB ?_))
 refine z7 (zA 2 (evs_op (st_len (c:=c_BendLine) (l:=f.Bends) (x:=(s_BendLine f.Bends)) (by kernel_rfl) (by kernel_rfl)) ?_))
 refine z1 1 ⟨[(1,vI turns),(4,.ptr 500001 0),(7,.ptr 500002 0),(32,s_BendLine f.Bends),(33,vI (f.Bends.length : Int)),(34,vI 0)],[(500001,.box [.nl,.nl,.nl,.nl]),(500002,.box [(s_Rect x34.1),(s_Rect x34.2.1),(s_Rect x34.2.2.1),(s_BendLine x34.2.2.2)])]⟩ (zC ?_)
 obtain ⟨x38,hx38,h⟩:=bindS h
 refine sem_loopS (fun (s37 : Unit)=>⟨[(1,vI turns),(4,.ptr 500000 0),(7,.ptr 500001 0),(32,s_BendLine f.Bends),(33,vI (f.Bends.length : Int)),(34,vI 0)],[(500000,.box [.nl,.nl,.nl,.nl]),(500001,.box [(s_Rect x34.1),(s_Rect x34.2.1),(s_Rect x34.2.2.1),(s_BendLine x34.2.2.2)])]⟩) (fun (x38 : Unit)=>(.exit 2,⟨[(4,.ptr 500000 0),(7,.ptr 500001 0)],[(500000,.box [.nl,.nl,.nl,.nl]),(500001,.box [(s_Rect x34.1),(s_Rect x34.2.1),(s_Rect x34.2.2.1),(s_BendLine x34.2.2.2)])]⟩)) (flat_Quarter_k_l2 f) () x38 (by kernel_rfl) (subR_prep [] [(500001,500000),(500002,500001)] (by kernel_rfl) rfl rfl (by kernel_rfl)) (iter_loop hx38) ?_ ?_ ?_
 intro s37 r h
 refine z3 1 ⟨[(1,vI turns),(4,.ptr 500000 0),(7,.ptr 500001 0),(32,s_BendLine f.Bends),(33,vI (f.Bends.length : Int)),(34,vI 0),(35,vB (decide (0 < (f.Bends.length : Int))))],[(500000,.box [.nl,.nl,.nl,.nl]),(500001,.box [(s_Rect x34.1),(s_Rect x34.2.1),(s_Rect x34.2.2.1),(s_BendLine x34.2.2.2)])]⟩ (zB (zI (decide (0 < (f.Bends.length : Int))) (fun hb=>?_) fun hb=>?_))
 replace h:=iteT hb h
 exact nomatch h
 replace h:=iteF hb h
 refine zL 2 fun τ hτ=>?_
 refine th_exit ?_
 obtain rfl:=osi h
 exact zF hτ
 intro x
 rfl
 intro τ hτ
 refine zQ (zE hτ ⟨[(4,.ptr 500000 0),(7,.ptr 500001 0)],[(500000,.box [.nl,.nl,.nl,.nl]),(500001,.box [(s_Rect x34.1),(s_Rect x34.2.1),(s_Rect x34.2.2.1),(s_BendLine x34.2.2.2)])]⟩ (z7 ?_))
 refine zA 1 ?_
 obtain ⟨r40,hr40,h⟩:=bindS h
 refine evs_callS [] [(0,700050),(1,700051),(2,700052),(3,700053)] [] (by kernel_rfl) (W.flat_settled_k_ok hr40) (by kernel_rfl) (by kernel_rfl) (.inl rfl) (z1 4 ⟨[(4,.ptr 500000 0),(5,vI r40.2)],[(500000,.box [(ro 700051 86),(ro 700052 86),(ro 700053 86),.nl]),(700051,w_Rect 86 r40.1.Rects),(700052,w_Rect 86 r40.1.Cuts),(700053,w_Rect 86 r40.1.Forms)]⟩ (zN fun τ hτ=>?_))
 obtain rfl:=osi h
 exact rk_ret hτ [(4,.ptr 0 0),(5,vI r40.2)] (subR_prep [] [(500000,0),(700051,1),(700052,2),(700053,3)] (by kernel_rfl) rfl rfl (by kernel_rfl)) (by kernel_rfl)
theorem W.nest_moved_k_ok {l : (List Rect)} {x1 : Int} {y : Int} {r : (List Rect)} (h : nest_moved_k l x1 y = some r) : PC G.P 87 [(.sl (List.map c_Rect l)),(vI x1),(vI y)] [] (.row (.top 0) 86) [(0,.row 86 [] (List.map c_Rect r))]:=by
 refine zU G Tryz.func87 (zK ⟨[(0,s_Rect l),(1,vI x1),(2,vI y)],[]⟩ (z3 1 ⟨[(0,s_Rect l),(1,vI x1),(2,vI y)],[]⟩ ?_))
 refine z7 (zA 1 (evs_op (st_len (c:=c_Rect) (l:=l) (x:=(s_Rect l)) (by kernel_rfl) (by kernel_rfl)) ?_))
 obtain ⟨l2,hl2,h⟩:=bindS h
 refine evs_op (st_mk (c:=c_Rect) (z:=(Rect.mk 0 0 0 0)) (n:=(l.length : Int)) (e:=86) (d:=11) (zs:=[(vI 0),(vI 0),(vI 0),(vI 0)]) (k1:=.i64) (k2:=.i64) (by kernel_rfl) rfl hl2) (z1 1 ⟨[(0,s_Rect l),(1,vI x1),(2,vI y),(7,ro 11 86)],[(11,w_Rect 86 l2)]⟩ (z7 ?_))
 refine zA 2 (evs_at (at_copy (c:=c_Rect) (l:=l2) (l2:=l) (d:=(ro 11 86)) (x:=(s_Rect l)) (e:=86) (sz:=4) (g:=11) (lo:=0) (n:=l2.length) (by kernel_rfl) (by kernel_rfl) (by kernel_rfl) (Nat.le_of_eq (Nat.zero_add _)) (by kernel_rfl) (by kernel_rfl) (fun _=>rfl)) (zP fun τ hτ=>?_))
 refine zE hτ ⟨[(1,vI x1),(2,vI y),(7,ro 11 86)],[(11,w_Rect 86 (cpy l2 (0) (List.take (min l.length (l2.length)) l)))]⟩ (zB (z7 ?_))
 refine zA 1 (evs_op (st_len (c:=c_Rect) (l:=(cpy l2 (0) (List.take (min l.length (l2.length)) l))) (x:=(ro 11 86)) (by kernel_rfl) (by kernel_rfl)) (z1 1 ⟨[(1,vI x1),(2,vI y),(7,ro 11 86),(16,vI ((cpy l2 (0) (List.take (min l.length (l2.length)) l)).length : Int)),(17,vI 0)],[(11,w_Rect 86 (cpy l2 (0) (List.take (min l.length (l2.length)) l)))]⟩ ?_))
 refine zC ?_
 obtain ⟨x104,hx104,h⟩:=bindS h
 refine sem_loopS (fun (s71 : Int × (List Rect))=>⟨[(1,vI x1),(2,vI y),(7,ro 500000 86),(16,vI ((cpy l2 (0) (List.take (min l.length (l2.length)) l)).length : Int)),(17,vI s71.1)],[(500000,w_Rect 86 s71.2)]⟩) (fun (x104 : (List Rect))=>(.exit 0,⟨[(7,ro 500000 86)],[(500000,w_Rect 86 x104)]⟩)) (nest_moved_k_l1 l x1 y l2) (0,cpy l2 (0) (List.take (min l.length (l2.length)) l)) x104 (by kernel_rfl) (subR_prep [] [(11,500000)] (by kernel_rfl) rfl rfl (by kernel_rfl)) (iter_loop hx104) ?_ ?_ ?_
 intro s71 r h
 refine z3 1 ⟨[(1,vI x1),(2,vI y),(7,ro 500000 86),(16,vI ((cpy l2 (0) (List.take (min l.length (l2.length)) l)).length : Int)),(17,vI s71.1),(18,vB (decide (s71.1 < ((cpy l2 (0) (List.take (min l.length (l2.length)) l)).length : Int))))],[(500000,w_Rect 86 s71.2)]⟩ (zB (zI (decide (s71.1 < ((cpy l2 (0) (List.take (min l.length (l2.length)) l)).length : Int))) (fun hb=>?_) fun hb=>?_))
 replace h:=iteT hb h
 refine z4 ⟨[(1,vI x1),(2,vI y),(7,ro 500000 86),(16,vI ((cpy l2 (0) (List.take (min l.length (l2.length)) l)).length : Int)),(17,vI s71.1)],[(500000,w_Rect 86 s71.2)]⟩ (zB (zC ?_))
 refine z3 2 ⟨[(1,vI x1),(2,vI y),(7,ro 500000 86),(8,vI s71.1),(16,vI ((cpy l2 (0) (List.take (min l.length (l2.length)) l)).length : Int)),(17,vI s71.1)],[(500000,w_Rect 86 s71.2)]⟩ (z7 (zA 2 ?_))
 obtain ⟨x98,hx98,h⟩:=bindS h
 refine evs_op (st_idxO (c:=c_Rect) (l:=s71.2) (i:=s71.1) (kd:=.i64) (kk:=(.top 500000)) (e:=86) (sz:=4) (by kernel_rfl) (by kernel_rfl) hx98 rfl) (zA 1 (evs_op (st_ldO (c:=c_Rect) (l:=s71.2) (i:=(Int.toNat s71.1)) (v:=(vI x98.X)) (agg:=false) (sz:=1) (kk:=(.top 500000)) (e:=86) (off:=0) (J:=[]) (by kernel_rfl) (by kernel_rfl) (by kernel_rfl) ((idxS hx98).2) (by kernel_rfl)) ?_))
 refine zA 2 ?_
 obtain ⟨x99,hx99,h⟩:=bindS h
 refine evs_op (st_idxO (c:=c_Rect) (l:=s71.2) (i:=s71.1) (kd:=.i64) (kk:=(.top 500000)) (e:=86) (sz:=4) (by kernel_rfl) (by kernel_rfl) hx99 rfl) (zA 1 (evs_op (st_stO (c:=c_Rect) (l:=s71.2) (i:=(Int.toNat s71.1)) (x:=x99) (x':=(Rect.mk (iadd x98.X x1) x99.Y x99.W x99.H)) (v:=(vI (iadd x98.X x1))) (agg:=false) (sz:=1) (kk:=(.top 500000)) (e:=86) (off:=0) (J:=[]) (o:=w_Rect 86 (List.set s71.2 (Int.toNat s71.1) (Rect.mk (iadd x98.X x1) x99.Y x99.W x99.H))) (by kernel_rfl) (by kernel_rfl) (by kernel_rfl) ((idxS hx99).2) (by kernel_rfl) (by kernel_rfl) (by kernel_rfl)) ?_))
 refine zP fun τ hτ=>?_
 refine zE hτ ⟨[(1,vI x1),(2,vI y),(7,ro 500000 86),(8,vI s71.1),(16,vI ((cpy l2 (0) (List.take (min l.length (l2.length)) l)).length : Int)),(17,vI s71.1)],[(500000,w_Rect 86 (List.set s71.2 (Int.toNat s71.1) (Rect.mk (iadd x98.X x1) x99.Y x99.W x99.H)))]⟩ (zD (zA 2 ?_))
 obtain ⟨x102,hx102,h⟩:=bindS h
 refine evs_op (st_idxO (c:=c_Rect) (l:=(List.set s71.2 (Int.toNat s71.1) (Rect.mk (iadd x98.X x1) x99.Y x99.W x99.H))) (i:=s71.1) (kd:=.i64) (kk:=(.top 500000)) (e:=86) (sz:=4) (by kernel_rfl) (by kernel_rfl) hx102 rfl) (zA 1 (evs_op (st_ldO (c:=c_Rect) (l:=(List.set s71.2 (Int.toNat s71.1) (Rect.mk (iadd x98.X x1) x99.Y x99.W x99.H))) (i:=(Int.toNat s71.1)) (v:=(vI x102.Y)) (agg:=false) (sz:=1) (kk:=(.top 500000)) (e:=86) (off:=1) (J:=[]) (by kernel_rfl) (by kernel_rfl) (by kernel_rfl) ((idxS hx102).2) (by kernel_rfl)) ?_))
 refine zA 2 ?_
 obtain ⟨x103,hx103,h⟩:=bindS h
 refine evs_op (st_idxO (c:=c_Rect) (l:=(List.set s71.2 (Int.toNat s71.1) (Rect.mk (iadd x98.X x1) x99.Y x99.W x99.H))) (i:=s71.1) (kd:=.i64) (kk:=(.top 500000)) (e:=86) (sz:=4) (by kernel_rfl) (by kernel_rfl) hx103 rfl) (zA 1 (evs_op (st_stO (c:=c_Rect) (l:=(List.set s71.2 (Int.toNat s71.1) (Rect.mk (iadd x98.X x1) x99.Y x99.W x99.H))) (i:=(Int.toNat s71.1)) (x:=x103) (x':=(Rect.mk x103.X (iadd x102.Y y) x103.W x103.H)) (v:=(vI (iadd x102.Y y))) (agg:=false) (sz:=1) (kk:=(.top 500000)) (e:=86) (off:=1) (J:=[]) (o:=w_Rect 86 (List.set (List.set s71.2 (Int.toNat s71.1) (Rect.mk (iadd x98.X x1) x99.Y x99.W x99.H)) (Int.toNat s71.1) (Rect.mk x103.X (iadd x102.Y y) x103.W x103.H))) (by kernel_rfl) (by kernel_rfl) (by kernel_rfl) ((idxS hx103).2) (by kernel_rfl) (by kernel_rfl) (by kernel_rfl)) ?_))
 refine zP fun τ hτ=>?_
 refine bl_normal (zE hτ ⟨[(1,vI x1),(2,vI y),(7,ro 500000 86),(16,vI ((cpy l2 (0) (List.take (min l.length (l2.length)) l)).length : Int)),(17,vI s71.1)],[(500000,w_Rect 86 (List.set (List.set s71.2 (Int.toNat s71.1) (Rect.mk (iadd x98.X x1) x99.Y x99.W x99.H)) (Int.toNat s71.1) (Rect.mk x103.X (iadd x102.Y y) x103.W x103.H)))]⟩ (zD ?_))
 refine z6 2 fun τ hτ=>?_
 obtain rfl:=osi h
 exact zH hτ
 replace h:=iteF hb h
 refine zL 0 fun τ hτ=>?_
 refine th_exit ?_
 obtain rfl:=osi h
 exact zF hτ
 intro x
 rfl
 intro τ hτ
 refine zQ (zE hτ ⟨[(7,ro 500000 86)],[(500000,w_Rect 86 x104)]⟩ (z8 2 ⟨[(6,ro 500000 86)],[(500000,w_Rect 86 x104)]⟩ fun τ hτ=>?_))
 obtain rfl:=osi h
 exact rk_ret hτ [(6,ro 0 86)] (subR_prep [] [(500000,0)] (by kernel_rfl) rfl rfl (by kernel_rfl)) (by kernel_rfl)
theorem W.nest_put_k_ok {x0 : Piece} {at1 : Placement} {r : Piece × Int} (h : nest_put_k x0 at1 = some r) : PC G.P 68 [(.agg (c_Piece x0)),(.agg (c_Placement at1))] [] (.tup [(.agg [(vS r.1.Name),(vS r.1.Material),(vI r.1.Gauge),(vI r.1.Grain),(.row (.top 1) 86),(.row (.top 2) 86),(.row (.top 3) 86)]),(vI r.2)]) [(0,.box [(vS x0.Name),(vS x0.Material),(vI x0.Gauge),(vI x0.Grain),(.row (.top 1) 86),(.row (.top 2) 86),(.row (.top 3) 86)]),(1,.row 86 [] (List.map c_Rect r.1.Rects)),(2,.row 86 [] (List.map c_Rect r.1.Cuts)),(3,.row 86 [] (List.map c_Rect r.1.Forms))]:=by
 refine zU G Tryz.func68 (zK ⟨[(0,.agg (c_Piece x0)),(1,.agg (c_Placement at1))],[]⟩ (z3 4 ⟨[(2,.ptr 2 0),(3,.ptr 3 0),(4,.ptr 4 0)],[(2,.box (c_Piece x0)),(3,.box (c_Placement at1)),(4,.box [(vS ByteArray.empty),(vS ByteArray.empty),(vI 0),(vI 0),.nl,.nl,.nl])]⟩ ?_))
 refine z7 (zA 9 ?_)
 obtain ⟨r2,hr2,h⟩:=bindS h
 refine evs_callS [] [(0,700450),(1,700451),(2,700452),(3,700453)] [] (by kernel_rfl) (W.flat_Quarter_k_ok hr2) (by kernel_rfl) (by kernel_rfl) (.inl rfl) (z1 6 ⟨[(2,.ptr 2 0),(3,.ptr 3 0),(4,.ptr 4 0),(6,.ptr 6 0),(7,vI r2.2)],[(2,.box (c_Piece x0)),(3,.box (c_Placement at1)),(4,.box [(vS ByteArray.empty),(vS ByteArray.empty),(vI 0),(vI 0),.nl,.nl,.nl]),(6,.box [(ro 700451 86),(ro 700452 86),(ro 700453 86),.nl]),(700451,w_Rect 86 r2.1.Rects),(700452,w_Rect 86 r2.1.Cuts),(700453,w_Rect 86 r2.1.Forms)]⟩ (zB ?_))
 refine z3 2 ⟨[(2,.ptr 2 0),(3,.ptr 3 0),(4,.ptr 4 0),(6,.ptr 6 0),(23,vB (r2.2 != 0))],[(2,.box (c_Piece x0)),(3,.box (c_Placement at1)),(4,.box [(vS ByteArray.empty),(vS ByteArray.empty),(vI 0),(vI 0),.nl,.nl,.nl]),(6,.box [(ro 700451 86),(ro 700452 86),(ro 700453 86),.nl]),(700451,w_Rect 86 r2.1.Rects),(700452,w_Rect 86 r2.1.Cuts),(700453,w_Rect 86 r2.1.Forms)]⟩ (zI (r2.2 != 0) (fun hb=>?_) fun hb=>?_)
 replace h:=iteT hb h
 exact nomatch h
 replace h:=iteF hb h
 refine z4 ⟨[(2,.ptr 2 0),(3,.ptr 3 0),(4,.ptr 4 0),(6,.ptr 6 0)],[(2,.box (c_Piece x0)),(3,.box (c_Placement at1)),(4,.box [(vS ByteArray.empty),(vS ByteArray.empty),(vI 0),(vI 0),.nl,.nl,.nl]),(6,.box [(ro 700451 86),(ro 700452 86),(ro 700453 86),.nl]),(700451,w_Rect 86 r2.1.Rects),(700452,w_Rect 86 r2.1.Cuts),(700453,w_Rect 86 r2.1.Forms)]⟩ (z3 3 ⟨[(3,.ptr 3 0),(4,.ptr 4 0),(6,.ptr 6 0),(8,.ptr 8 0)],[(3,.box (c_Placement at1)),(4,.box [(vS ByteArray.empty),(vS ByteArray.empty),(vI 0),(vI 0),.nl,.nl,.nl]),(6,.box [(ro 700451 86),(ro 700452 86),(ro 700453 86),.nl]),(8,.box (c_Piece x0)),(700451,w_Rect 86 r2.1.Rects),(700452,w_Rect 86 r2.1.Cuts),(700453,w_Rect 86 r2.1.Forms)]⟩ (zB ?_))
 refine sem_draw [(6,[700300]),(13,[700650]),(20,[701000])] [(6,[700300]),(13,[700650]),(20,[701000])] [(6,[700451]),(13,[700452]),(20,[700453])] [(7,[700300]),(8,[700300]),(9,[700300]),(10,[700300]),(11,[700300]),(12,[700300]),(14,[700300,700650]),(15,[700300,700650]),(16,[700300,700650]),(17,[700300,700650]),(18,[700300,700650]),(19,[700300,700650]),(21,[700650,701000])] [(0,[700300,700650,701000]),(1,[700300,700650,701000]),(2,[700300,700650,701000]),(3,[700300,700650,701000]),(4,[700300,700650,701000]),(5,[700300,700650,701000]),(6,[700650,701000]),(7,[700300,700650,701000]),(8,[700300,700650,701000]),(9,[700300,700650,701000]),(10,[700300,700650,701000]),(11,[700300,700650,701000]),(12,[700300,700650,701000]),(13,[701000]),(14,[700300,700650,701000]),(15,[700300,700650,701000]),(16,[700300,700650,701000]),(17,[700300,700650,701000]),(18,[700300,700650,701000]),(19,[700300,700650,701000]),(21,[700650,701000])] 22 (by kernel_rfl) (by kernel_rfl) [700300,700650,701000] (by kernel_rfl) (by kernel_rfl) (evd_run 6 (by kernel_rfl) ?_)
 obtain ⟨r9,hr9,h⟩:=bindS h
 refine evd_callS [(0,700300)] [700451] (by kernel_rfl) (by kernel_rfl) (W.nest_moved_k_ok hr9) (by kernel_rfl) (.inr ⟨rfl,fun _ _=>ind_cons (ind_row fun _=>rfl) (fun _ _=>ind_nil)⟩) (by kernel_rfl) (by kernel_rfl) (evd_run 6 (by kernel_rfl) ?_)
 obtain ⟨r10,hr10,h⟩:=bindS h
 refine evd_callS [(0,700650)] [700452] (by kernel_rfl) (by kernel_rfl) (W.nest_moved_k_ok hr10) (by kernel_rfl) (.inr ⟨rfl,fun _ _=>ind_cons (ind_row fun _=>rfl) (fun _ _=>ind_nil)⟩) (by kernel_rfl) (by kernel_rfl) (evd_run 6 (by kernel_rfl) ?_)
 obtain ⟨r11,hr11,h⟩:=bindS h
 refine evd_callS [(0,701000)] [700453] (by kernel_rfl) (by kernel_rfl) (W.nest_moved_k_ok hr11) (by kernel_rfl) (.inr ⟨rfl,fun _ _=>ind_cons (ind_row fun _=>rfl) (fun _ _=>ind_nil)⟩) (by kernel_rfl) (by kernel_rfl) (evd_run 1 (by kernel_rfl) (evd_end (by kernel_rfl) ?_))
 refine evo_run 5 (by kernel_rfl) (zO fun τ hτ=>?_)
 refine zE hτ ⟨[(4,.ptr 4 0),(8,.ptr 8 0)],[(4,.box [(vS ByteArray.empty),(vS ByteArray.empty),(vI 0),(vI 0),.nl,.nl,.nl]),(8,.box [(vS x0.Name),(vS x0.Material),(vI x0.Gauge),(vI x0.Grain),(ro 700300 86),(ro 700650 86),(ro 701000 86)]),(700300,w_Rect 86 r9),(700650,w_Rect 86 r10),(701000,w_Rect 86 r11)]⟩ (zB (z7 ?_))
 refine zA 2 ?_
 obtain ⟨r21,hr21,h⟩:=bindS h
 refine evs_callP [700300] (by kernel_rfl) (W.nest_valid_k_ok hr21) (by kernel_rfl) (.inr rfl) (by kernel_rfl) (zA 2 (zS r21 (fun b0=>⟨[(4,.ptr 4 0),(8,.ptr 8 0),(54,vB (!b0))],[(4,.box [(vS ByteArray.empty),(vS ByteArray.empty),(vI 0),(vI 0),.nl,.nl,.nl]),(8,.box [(vS x0.Name),(vS x0.Material),(vI x0.Gauge),(vI x0.Grain),(ro 700300 86),(ro 700650 86),(ro 701000 86)]),(700300,w_Rect 86 r9),(700650,w_Rect 86 r10),(701000,w_Rect 86 r11)]⟩) (fun hb=>?_) fun hb=>?_))
 replace h:=iteT hb h
 refine zA 2 ?_
 obtain ⟨r22,hr22,h⟩:=bindS h
 refine evs_callP [700650] (by kernel_rfl) (W.nest_valid_k_ok hr22) (by kernel_rfl) (.inr rfl) (by kernel_rfl) (zA 3 (zS r22 (fun b0=>⟨[(4,.ptr 4 0),(8,.ptr 8 0),(60,vB (!b0))],[(4,.box [(vS ByteArray.empty),(vS ByteArray.empty),(vI 0),(vI 0),.nl,.nl,.nl]),(8,.box [(vS x0.Name),(vS x0.Material),(vI x0.Gauge),(vI x0.Grain),(ro 700300 86),(ro 700650 86),(ro 701000 86)]),(700300,w_Rect 86 r9),(700650,w_Rect 86 r10),(701000,w_Rect 86 r11)]⟩) (fun hb=>?_) fun hb=>?_))
 replace h:=iteT hb h
 refine zA 2 ?_
 obtain ⟨r23,hr23,h⟩:=bindS h
 refine evs_callP [701000] (by kernel_rfl) (W.nest_valid_k_ok hr23) (by kernel_rfl) (.inr rfl) (by kernel_rfl) (z1 2 ⟨[(4,.ptr 4 0),(8,.ptr 8 0),(65,vB (!r23))],[(4,.box [(vS ByteArray.empty),(vS ByteArray.empty),(vI 0),(vI 0),.nl,.nl,.nl]),(8,.box [(vS x0.Name),(vS x0.Material),(vI x0.Gauge),(vI x0.Grain),(ro 700300 86),(ro 700650 86),(ro 701000 86)]),(700300,w_Rect 86 r9),(700650,w_Rect 86 r10),(701000,w_Rect 86 r11)]⟩ (zI (!r23) (fun hb=>?_) fun hb=>?_))
 replace h:=iteT hb h
 exact nomatch h
 replace h:=iteF hb h
 refine z4 ⟨[(4,.ptr 4 0),(8,.ptr 8 0)],[(4,.box [(vS ByteArray.empty),(vS ByteArray.empty),(vI 0),(vI 0),.nl,.nl,.nl]),(8,.box [(vS x0.Name),(vS x0.Material),(vI x0.Gauge),(vI x0.Grain),(ro 700300 86),(ro 700650 86),(ro 701000 86)]),(700300,w_Rect 86 r9),(700650,w_Rect 86 r10),(701000,w_Rect 86 r11)]⟩ (z8 3 ⟨[(4,.ptr 4 0),(5,vI 0)],[(4,.box [(vS x0.Name),(vS x0.Material),(vI x0.Gauge),(vI x0.Grain),(ro 700300 86),(ro 700650 86),(ro 701000 86)]),(700300,w_Rect 86 r9),(700650,w_Rect 86 r10),(701000,w_Rect 86 r11)]⟩ fun τ hτ=>?_)
 obtain rfl:=osi h
 exact rk_ret hτ [(4,.ptr 0 0),(5,vI 0)] (subR_prep [] [(4,0),(700300,1),(700650,2),(701000,3)] (by kernel_rfl) rfl rfl (by kernel_rfl)) (by kernel_rfl)
 replace h:=iteF hb h
 exact nomatch h
 replace h:=iteF hb h
 exact nomatch h
theorem W.bits_Len64_k_ok {x0 : Int} {r : Int} (h : bits_Len64_k x0 = some r) : PC G.P 174 [(vK .u64 x0)] [] (vI r) []:=by
 refine zU G Tryz.func174 (zK ⟨[(0,vK .u64 x0)],[]⟩ (z3 1 ⟨[(0,vK .u64 x0),(2,vI 0)],[]⟩ ?_))
 refine zB (z3 2 ⟨[(0,vK .u64 x0),(2,vI 0),(4,vB (decide (x0 ≥ 4294967296)))],[]⟩ (zI (decide (x0 ≥ 4294967296)) (fun hb=>?_) fun hb=>?_))
 replace h:=iteT hb h
 exact nomatch h
 replace h:=iteF hb h
 refine z4 ⟨[(0,vK .u64 x0),(2,vI 0)],[]⟩ (zB (z3 2 ⟨[(0,vK .u64 x0),(2,vI 0),(8,vB (decide (x0 ≥ 65536)))],[]⟩ ?_))
 refine zI (decide (x0 ≥ 65536)) (fun hb=>?_) fun hb=>?_
 replace h:=iteT hb h
 exact nomatch h
 replace h:=iteF hb h
 refine z4 ⟨[(0,vK .u64 x0),(2,vI 0)],[]⟩ (zB (z3 2 ⟨[(0,vK .u64 x0),(2,vI 0),(14,vB (decide (x0 ≥ 256)))],[]⟩ ?_))
 refine zI (decide (x0 ≥ 256)) (fun hb=>?_) fun hb=>?_
 replace h:=iteT hb h
 exact nomatch h
 replace h:=iteF hb h
 refine z4 ⟨[(0,vK .u64 x0),(2,vI 0)],[]⟩ (z7 (zA 3 ?_))
 obtain ⟨x2,hx2,h⟩:=bindS h
 refine evs_at (at_sidx (s:=(ByteArray.mk #[0,1,2,2,3,3,3,3,4,4,4,4,4,4,4,4,5,5,5,5,5,5,5,5,5,5,5,5,5,5,5,5,6,6,6,6,6,6,6,6,6,6,6,6,6,6,6,6,6,6,6,6,6,6,6,6,6,6,6,6,6,6,6,6,7,7,7,7,7,7,7,7,7,7,7,7,7,7,7,7,7,7,7,7,7,7,7,7,7,7,7,7,7,7,7,7,7,7,7,7,7,7,7,7,7,7,7,7,7,7,7,7,7,7,7,7,7,7,7,7,7,7,7,7,7,7,7,7,8,8,8,8,8,8,8,8,8,8,8,8,8,8,8,8,8,8,8,8,8,8,8,8,8,8,8,8,8,8,8,8,8,8,8,8,8,8,8,8,8,8,8,8,8,8,8,8,8,8,8,8,8,8,8,8,8,8,8,8,8,8,8,8,8,8,8,8,8,8,8,8,8,8,8,8,8,8,8,8,8,8,8,8,8,8,8,8,8,8,8,8,8,8,8,8,8,8,8,8,8,8,8,8,8,8,8,8,8,8,8,8,8,8,8,8,8,8,8,8,8,8,8,8,8,8,8,8])) (i:=(IntKind.wrap .u8 x0)) (kd:=.u8) (by kernel_rfl) hx2) (z1 3 ⟨[(2,vI (iadd 0 (IntKind.wrap .i64 x2)))],[]⟩ (zN fun τ hτ=>?_))
 obtain rfl:=osi h
 exact zV hτ [(2,vI (iadd 0 (IntKind.wrap .i64 x2)))]
theorem W.bits_Len_k_ok {x0 : Int} {r : Int} (h : bits_Len_k x0 = some r) : PC G.P 152 [(vK .u64 x0)] [] (vI r) []:=by
 refine zU G Tryz.func152 (zK ⟨[(0,vK .u64 x0)],[]⟩ (z3 1 ⟨[(0,vK .u64 x0)],[]⟩ ?_))
 refine zB (sem_condF (by kernel_rfl) (by kernel_rfl) (z4 ⟨[(0,vK .u64 x0)],[]⟩ ?_))
 refine z7 (zA 1 ?_)
 obtain ⟨r2,hr2,h⟩:=bindS h
 refine evs_callP [] (by kernel_rfl) (W.bits_Len64_k_ok hr2) (by kernel_rfl) (.inl rfl) (by kernel_rfl) (z1 1 ⟨[(2,vI r2)],[]⟩ (zN fun τ hτ=>?_))
 obtain rfl:=osi h
 exact zV hτ [(2,vI r2)]
theorem W.cmp_isNaN_int_k_ok {x0 : Int} {r : Bool} (h : cmp_isNaN_int_k x0 = some r) : PC G.P 142 [(vI x0)] [] (vB r) []:=by
 refine zU G Tryz.func142 (zK ⟨[(0,vI x0)],[]⟩ (z3 1 ⟨[(0,vI x0)],[]⟩ ?_))
 refine z8 4 ⟨[(2,vB (x0 != x0))],[]⟩ fun τ hτ=>?_
 obtain rfl:=osi h
 exact zV hτ [(2,vB (x0 != x0))]
theorem W.cmp_Less_int_k_ok {x0 : Int} {y : Int} {r : Bool} (h : cmp_Less_int_k x0 y = some r) : PC G.P 170 [(vI x0),(vI y)] [] (vB r) []:=by
 refine zU G Tryz.func170 (zK ⟨[(0,vI x0),(1,vI y)],[]⟩ (z3 1 ⟨[(0,vI x0),(1,vI y)],[]⟩ ?_))
 refine z7 (zA 1 ?_)
 obtain ⟨r2,hr2,h⟩:=bindS h
 refine evs_callP [] (by kernel_rfl) (W.cmp_isNaN_int_k_ok hr2) (by kernel_rfl) (.inl rfl) (by kernel_rfl) (zA 1 (zS r2 (fun b0=>⟨[(0,vI x0),(1,vI y),(7,vB b0)],[]⟩) (fun hb=>?_) fun hb=>?_))
 replace h:=iteT hb h
 exact nomatch h
 replace h:=iteF hb h
 refine z1 10 ⟨[(4,vB (decide (x0 < y)))],[]⟩ (zN fun τ hτ=>?_)
 obtain rfl:=osi h
 exact zV hτ [(4,vB (decide (x0 < y)))]
theorem W.slices_insertionSortOrdered_int_k_ok {a : Int} {b : Int} {h0 : (List Int)} {r : (List Int)} (h : slices_insertionSortOrdered_int_k a b h0 = some r) : PC G.P 164 [(.row (.top 1000000) 3),(vI a),(vI b)] [(1000000,.row 3 [] (List.map cI h0))] (.tup []) [(1000000,.row 3 [] (List.map cI r))]:=by
 refine zU G Tryz.func164 (zK ⟨[(0,ro 1000000 3),(1,vI a),(2,vI b)],[(1000000,wI 3 h0)]⟩ (z3 3 ⟨[(0,ro 1000000 3),(1,vI a),(2,vI b),(6,vI (iadd a 1))],[(1000000,wI 3 h0)]⟩ ?_))
 refine zC ?_
 obtain ⟨x813,hx813,h⟩:=bindS h
 refine sem_loopS (fun (s272 : Int × (List Int))=>⟨[(0,ro 1000000 3),(1,vI a),(2,vI b),(6,vI s272.1)],[(1000000,wI 3 s272.2)]⟩) (fun (x813 : (List Int))=>(.exit 0,⟨[],[(1000000,wI 3 x813)]⟩)) (slices_insertionSortOrdered_int_k_l2 a b) ((iadd a 1),h0) x813 (by kernel_rfl) (here (by kernel_rfl)) (iter_loop hx813) ?_ ?_ ?_
 intro s272 r h
 refine zB (z3 3 ⟨[(0,ro 1000000 3),(1,vI a),(2,vI b),(6,vI s272.1),(12,vB (decide (s272.1 < b)))],[(1000000,wI 3 s272.2)]⟩ (zI (decide (s272.1 < b)) (fun hb=>?_) fun hb=>?_))
 replace h:=iteT hb h
 refine z4 ⟨[(0,ro 1000000 3),(1,vI a),(2,vI b),(6,vI s272.1)],[(1000000,wI 3 s272.2)]⟩ (zB (zC ?_))
 refine z3 2 ⟨[(0,ro 1000000 3),(1,vI a),(2,vI b),(6,vI s272.1),(7,vI s272.1)],[(1000000,wI 3 s272.2)]⟩ (zC ?_)
 obtain ⟨x812,hx812,h⟩:=bindS h
 refine sem_loopS (fun (s723 : Int × (List Int))=>⟨[(0,ro 1000000 3),(1,vI a),(2,vI b),(6,vI s272.1),(7,vI s723.1)],[(1000000,wI 3 s723.2)]⟩) (fun (x812 : (List Int))=>(.exit 2,⟨[(0,ro 1000000 3),(1,vI a),(2,vI b),(6,vI s272.1)],[(1000000,wI 3 x812)]⟩)) (slices_insertionSortOrdered_int_k_l1 a) (s272.1,s272.2) x812 (by kernel_rfl) (here (by kernel_rfl)) (iter_loop hx812) ?_ ?_ ?_
 intro s723 r h
 refine zB (zB ?_)
 obtain ⟨j784,hj784,h⟩:=bindS h
 refine sem_drawP ⟨[(0,ro 1000000 3),(1,vI a),(2,vI b),(6,vI s272.1),(7,vI s723.1),(30,vB j784)],[(1000000,wI 3 s723.2)]⟩ [] [] [] [] [] 13 (by kernel_rfl) (by kernel_rfl) (by kernel_rfl) ?_ fun τ hτ=>?_
 replace h:=hj784
 refine evd_run 4 (by kernel_rfl) (evd_split (decide (s723.1 > a)) (fun b0=>⟨[(19,vB b0),(18,vB b0),(17,vI a),(16,vI s723.1),(0,ro 1000000 3),(1,vI a),(2,vI b),(6,vI s272.1),(7,vI s723.1)],[(1000000,wI 3 s723.2)]⟩) (by kernel_rfl) (fun hb=>?_) fun hb=>?_)
 replace h:=iteT hb h
 refine evd_run 2 (by kernel_rfl) ?_
 obtain ⟨x785,hx785,h⟩:=bindS h
 refine evd_val (by kernel_rfl) (st_idxO (c:=cI) (l:=s723.2) (i:=s723.1) (kd:=.i64) (kk:=(.top 1000000)) (e:=3) (sz:=1) (by kernel_rfl) (by kernel_rfl) hx785 rfl) (by kernel_rfl) (by kernel_rfl) (evd_val (by kernel_rfl) (st_ldO (c:=cI) (l:=s723.2) (i:=(Int.toNat s723.1)) (v:=(vI x785)) (agg:=false) (sz:=1) (kk:=(.top 1000000)) (e:=3) (off:=0) (J:=[]) (by kernel_rfl) (by kernel_rfl) (by kernel_rfl) ((idxS hx785).2) (by kernel_rfl)) (by kernel_rfl) (by kernel_rfl) (evd_run 3 (by kernel_rfl) ?_))
 obtain ⟨x786,hx786,h⟩:=bindS h
 refine evd_val (by kernel_rfl) (st_idxO (c:=cI) (l:=s723.2) (i:=(isub s723.1 1)) (kd:=.i64) (kk:=(.top 1000000)) (e:=3) (sz:=1) (by kernel_rfl) (by kernel_rfl) hx786 rfl) (by kernel_rfl) (by kernel_rfl) (evd_val (by kernel_rfl) (st_ldO (c:=cI) (l:=s723.2) (i:=(Int.toNat (isub s723.1 1))) (v:=(vI x786)) (agg:=false) (sz:=1) (kk:=(.top 1000000)) (e:=3) (off:=0) (J:=[]) (by kernel_rfl) (by kernel_rfl) (by kernel_rfl) ((idxS hx786).2) (by kernel_rfl)) (by kernel_rfl) (by kernel_rfl) (evd_end (by kernel_rfl) ?_))
 obtain ⟨r787,hr787,h⟩:=bindS h
 refine evo_callP [] (by kernel_rfl) (W.cmp_Less_int_k_ok hr787) (by kernel_rfl) (.inl rfl) (by kernel_rfl) (evo_run 1 (by kernel_rfl) (zO fun τ hτ=>?_))
 obtain rfl:=osi h
 exact zG hτ
 replace h:=iteF hb h
 refine evd_run 9 (by kernel_rfl) (evd_end (by kernel_rfl) (evo_run 2 (by kernel_rfl) ?_))
 refine zO fun τ hτ=>?_
 obtain rfl:=osi h
 exact zG hτ
 refine zE hτ ⟨[(0,ro 1000000 3),(1,vI a),(2,vI b),(6,vI s272.1),(7,vI s723.1),(30,vB j784)],[(1000000,wI 3 s723.2)]⟩ (zI j784 (fun hb=>?_) fun hb=>?_)
 replace h:=iteT hb h
 refine z4 ⟨[(0,ro 1000000 3),(1,vI a),(2,vI b),(6,vI s272.1),(7,vI s723.1)],[(1000000,wI 3 s723.2)]⟩ (zB (zC ?_))
 refine sem_drawN [(15,[1000000])] [] [] [(2,[1000000]),(3,[1000000]),(4,[1000000])] [] 16 (by kernel_rfl) (by kernel_rfl) (by kernel_rfl) (evd_run 8 (by kernel_rfl) ?_)
 obtain ⟨x808,hx808,h⟩:=bindS h
 refine evd_val (by kernel_rfl) (st_idxO (c:=cI) (l:=s723.2) (i:=(isub s723.1 1)) (kd:=.i64) (kk:=(.top 1000000)) (e:=3) (sz:=1) (by kernel_rfl) (by kernel_rfl) hx808 rfl) (by kernel_rfl) (by kernel_rfl) (evd_val (by kernel_rfl) (st_ldO (c:=cI) (l:=s723.2) (i:=(Int.toNat (isub s723.1 1))) (v:=(vI x808)) (agg:=false) (sz:=1) (kk:=(.top 1000000)) (e:=3) (off:=0) (J:=[]) (by kernel_rfl) (by kernel_rfl) (by kernel_rfl) ((idxS hx808).2) (by kernel_rfl)) (by kernel_rfl) (by kernel_rfl) (evd_run 2 (by kernel_rfl) ?_))
 obtain ⟨x809,hx809,h⟩:=bindS h
 refine evd_val (by kernel_rfl) (st_idxO (c:=cI) (l:=s723.2) (i:=s723.1) (kd:=.i64) (kk:=(.top 1000000)) (e:=3) (sz:=1) (by kernel_rfl) (by kernel_rfl) hx809 rfl) (by kernel_rfl) (by kernel_rfl) (evd_val (by kernel_rfl) (st_ldO (c:=cI) (l:=s723.2) (i:=(Int.toNat s723.1)) (v:=(vI x809)) (agg:=false) (sz:=1) (kk:=(.top 1000000)) (e:=3) (off:=0) (J:=[]) (by kernel_rfl) (by kernel_rfl) (by kernel_rfl) ((idxS hx809).2) (by kernel_rfl)) (by kernel_rfl) (by kernel_rfl) ?_)
 obtain ⟨x810,hx810,h⟩:=bindS h
 refine evd_val (by kernel_rfl) (st_idxO (c:=cI) (l:=s723.2) (i:=s723.1) (kd:=.i64) (kk:=(.top 1000000)) (e:=3) (sz:=1) (by kernel_rfl) (by kernel_rfl) hx810 rfl) (by kernel_rfl) (by kernel_rfl) (evd_set (by kernel_rfl) (st_stO (c:=cI) (l:=s723.2) (i:=(Int.toNat s723.1)) (x:=x810) (x':=x808) (v:=(vI x808)) (agg:=false) (sz:=1) (kk:=(.top 1000000)) (e:=3) (off:=0) (J:=[]) (o:=wI 3 (List.set s723.2 (Int.toNat s723.1) x808)) (by kernel_rfl) (by kernel_rfl) (by kernel_rfl) ((idxS hx810).2) (by kernel_rfl) (by kernel_rfl) (by kernel_rfl)) (by kernel_rfl) (by kernel_rfl) (by kernel_rfl) (evd_end (by kernel_rfl) ?_))
 obtain ⟨x811,hx811,h⟩:=bindS h
 refine evo_op (st_idxO (c:=cI) (l:=(List.set s723.2 (Int.toNat s723.1) x808)) (i:=(isub s723.1 1)) (kd:=.i64) (kk:=(.top 1000000)) (e:=3) (sz:=1) (by kernel_rfl) (by kernel_rfl) hx811 rfl) (evo_op (st_stO (c:=cI) (l:=(List.set s723.2 (Int.toNat s723.1) x808)) (i:=(Int.toNat (isub s723.1 1))) (x:=x811) (x':=x809) (v:=(vI x809)) (agg:=false) (sz:=1) (kk:=(.top 1000000)) (e:=3) (off:=0) (J:=[]) (o:=wI 3 (List.set (List.set s723.2 (Int.toNat s723.1) x808) (Int.toNat (isub s723.1 1)) x809)) (by kernel_rfl) (by kernel_rfl) (by kernel_rfl) ((idxS hx811).2) (by kernel_rfl) (by kernel_rfl) (by kernel_rfl)) (zO fun τ hτ=>?_))
 refine bl_normal (zE hτ ⟨[(0,ro 1000000 3),(1,vI a),(2,vI b),(6,vI s272.1),(7,vI s723.1)],[(1000000,wI 3 (List.set (List.set s723.2 (Int.toNat s723.1) x808) (Int.toNat (isub s723.1 1)) x809))]⟩ (zD ?_))
 refine z6 3 fun τ hτ=>?_
 obtain rfl:=osi h
 exact zH hτ
 replace h:=iteF hb h
 refine zL 2 fun τ hτ=>?_
 refine th_exit ?_
 obtain rfl:=osi h
 exact zF hτ
 intro x
 rfl
 intro τ hτ
 refine zQ (bl_normal (zE hτ ⟨[(0,ro 1000000 3),(1,vI a),(2,vI b),(6,vI s272.1)],[(1000000,wI 3 x812)]⟩ ?_))
 refine zD (z6 3 fun τ hτ=>?_)
 obtain rfl:=osi h
 exact zH hτ
 replace h:=iteF hb h
 refine zL 0 fun τ hτ=>?_
 refine th_exit ?_
 obtain rfl:=osi h
 exact zF hτ
 intro x
 rfl
 intro τ hτ
 refine zQ ?_
 obtain rfl:=osi h
 exact rk_normal hτ [] (here (by kernel_rfl)) (by kernel_rfl)
theorem W.slices_pdqsortOrdered_int_k_ok {a : Int} {b : Int} {limit : Int} {h0 : (List Int)} {r : (List Int)} (h : slices_pdqsortOrdered_int_k a b limit h0 = some r) : PC G.P 151 [(.row (.top 1000000) 3),(vI a),(vI b),(vI limit)] [(1000000,.row 3 [] (List.map cI h0))] (.tup []) [(1000000,.row 3 [] (List.map cI r))]:=by
 refine zU G Tryz.func151 (zK ⟨[(0,ro 1000000 3),(1,vI a),(2,vI b),(3,vI limit)],[(1000000,wI 3 h0)]⟩ (z3 1 ⟨[(0,ro 1000000 3),(1,vI a),(2,vI b),(3,vI limit),(8,vB true)],[(1000000,wI 3 h0)]⟩ ?_))
 refine z3 1 ⟨[(0,ro 1000000 3),(1,vI a),(2,vI b),(3,vI limit),(8,vB true),(9,vB true)],[(1000000,wI 3 h0)]⟩ (zC ?_)
 obtain ⟨x10,hx10,h⟩:=bindS h
 refine sem_loopS (fun (s1 : Unit)=>⟨[(0,ro 1000000 3),(1,vI a),(2,vI b),(3,vI limit),(8,vB true),(9,vB true)],[(1000000,wI 3 h0)]⟩) (fun (x10 : (List Int))=>(.ret,⟨[],[(1000000,wI 3 x10)]⟩)) (slices_pdqsortOrdered_int_k_l1 a b h0) () x10 (by kernel_rfl) (here (by kernel_rfl)) (iter_loop hx10) ?_ ?_ ?_
 intro s1 r h
 refine zC (z3 4 ⟨[(0,ro 1000000 3),(1,vI a),(2,vI b),(3,vI limit),(8,vB true),(9,vB true),(10,vI (isub b a))],[(1000000,wI 3 h0)]⟩ (zB ?_))
 refine z3 2 ⟨[(0,ro 1000000 3),(1,vI a),(2,vI b),(3,vI limit),(8,vB true),(9,vB true),(10,vI (isub b a)),(23,vB (decide ((isub b a) ≤ 12)))],[(1000000,wI 3 h0)]⟩ (zI (decide ((isub b a) ≤ 12)) (fun hb=>?_) fun hb=>?_)
 replace h:=iteT hb h
 refine z7 (zA 3 ?_)
 obtain ⟨r9,hr9,h⟩:=bindS h
 refine evs_callS [(1000000,1000000)] [] [] (by kernel_rfl) (W.slices_insertionSortOrdered_int_k_ok hr9) (by kernel_rfl) (by kernel_rfl) (.inl rfl) (zP fun τ hτ=>?_)
 refine zE hτ ⟨[],[(1000000,wI 3 r9)]⟩ (zN fun τ hτ=>?_)
 refine th_ret (bl_ret ?_)
 obtain rfl:=osi h
 exact zF hτ
 replace h:=iteF hb h
 exact nomatch h
 intro x
 rfl
 intro τ hτ
 refine bl_ret ?_
 obtain rfl:=osi h
 exact zV hτ []
theorem W.slices_Sort_Lint_int_k_ok {h0 : (List Int)} {r : (List Int)} (h : slices_Sort_Lint_int_k h0 = some r) : PC G.P 129 [(.row (.top 1000000) 3)] [(1000000,.row 3 [] (List.map cI h0))] (.tup []) [(1000000,.row 3 [] (List.map cI r))]:=by
 refine zU G Tryz.func129 (zK ⟨[(0,ro 1000000 3)],[(1000000,wI 3 h0)]⟩ (z7 ?_))
 refine zA 1 (evs_op (st_len (c:=cI) (l:=h0) (x:=(ro 1000000 3)) (by kernel_rfl) (by kernel_rfl)) (z1 1 ⟨[(0,ro 1000000 3),(2,vI (h0.length : Int))],[(1000000,wI 3 h0)]⟩ ?_))
 refine zD (zA 4 ?_)
 obtain ⟨r3,hr3,h⟩:=bindS h
 refine evs_callP [] (by kernel_rfl) (W.bits_Len_k_ok hr3) (by kernel_rfl) (.inl rfl) (by kernel_rfl) ?_
 obtain ⟨r4,hr4,h⟩:=bindS h
 refine evs_callS [(1000000,1000000)] [] [] (by kernel_rfl) (W.slices_pdqsortOrdered_int_k_ok hr4) (by kernel_rfl) (by kernel_rfl) (.inl rfl) (zP fun τ hτ=>?_)
 obtain rfl:=osi h
 exact rk_normal hτ [] (here (by kernel_rfl)) (by kernel_rfl)
theorem W.slices_Compact_Lint_int_k_ok {h0 : (List Int)} {r : (List Int)} (h : slices_Compact_Lint_int_k h0 = some r) : PC G.P 130 [(.row (.top 300000) 3)] [(300000,.row 3 [] (List.map cI h0))] (.row (.top 0) 3) [(0,.row 3 [] (List.map cI r))]:=by
 refine zU G Tryz.func130 (zK ⟨[(0,ro 300000 3)],[(300000,wI 3 h0)]⟩ (z3 1 ⟨[(0,ro 300000 3)],[(300000,wI 3 h0)]⟩ ?_))
 refine zB (z7 (zA 1 ?_))
 refine evs_op (st_len (c:=cI) (l:=h0) (x:=(ro 300000 3)) (by kernel_rfl) (by kernel_rfl)) (z1 1 ⟨[(0,ro 300000 3),(8,vB (decide ((h0.length : Int) < 2)))],[(300000,wI 3 h0)]⟩ (zI (decide ((h0.length : Int) < 2)) (fun hb=>?_) fun hb=>?_))
 replace h:=iteT hb h
 refine z8 2 ⟨[(2,ro 300000 3)],[(300000,wI 3 h0)]⟩ fun τ hτ=>?_
 refine th_ret ?_
 obtain rfl:=osi h
 exact rk_ret hτ [(2,ro 0 3)] (subR_prep [] [(300000,0)] (by kernel_rfl) rfl rfl (by kernel_rfl)) (by kernel_rfl)
 replace h:=iteF hb h
 refine z4 ⟨[(0,ro 300000 3)],[(300000,wI 3 h0)]⟩ (zB (z3 1 ⟨[(0,ro 300000 3),(3,vI 1)],[(300000,wI 3 h0)]⟩ ?_))
 refine zC ?_
 obtain ⟨x78,hx78,h⟩:=bindS h
 refine sem_loopS (fun (s53 : Int)=>⟨[(0,ro 500000 3),(3,vI s53)],[(500000,wI 3 h0)]⟩) (fun (x78 : Unit)=>(.exit 0,⟨[(0,ro 500000 3)],[(500000,wI 3 h0)]⟩)) (slices_Compact_Lint_int_k_l1 h0) 1 x78 (by kernel_rfl) (subR_prep [] [(300000,500000)] (by kernel_rfl) rfl rfl (by kernel_rfl)) (iter_loop hx78) ?_ ?_ ?_
 intro s53 r h
 refine zB (z7 (zA 2 ?_))
 refine evs_op (st_len (c:=cI) (l:=h0) (x:=(ro 500000 3)) (by kernel_rfl) (by kernel_rfl)) (z1 1 ⟨[(0,ro 500000 3),(3,vI s53),(13,vB (decide (s53 < (h0.length : Int))))],[(500000,wI 3 h0)]⟩ (zI (decide (s53 < (h0.length : Int))) (fun hb=>?_) fun hb=>?_))
 replace h:=iteT hb h
 refine z4 ⟨[(0,ro 500000 3),(3,vI s53)],[(500000,wI 3 h0)]⟩ (zB (zC ?_))
 refine zB (sem_drawN [] [] [] [] [] 9 (by kernel_rfl) (by kernel_rfl) (by kernel_rfl) (evd_run 2 (by kernel_rfl) ?_))
 obtain ⟨x76,hx76,h⟩:=bindS h
 refine evd_val (by kernel_rfl) (st_idxO (c:=cI) (l:=h0) (i:=s53) (kd:=.i64) (kk:=(.top 500000)) (e:=3) (sz:=1) (by kernel_rfl) (by kernel_rfl) hx76 rfl) (by kernel_rfl) (by kernel_rfl) (evd_val (by kernel_rfl) (st_ldO (c:=cI) (l:=h0) (i:=(Int.toNat s53)) (v:=(vI x76)) (agg:=false) (sz:=1) (kk:=(.top 500000)) (e:=3) (off:=0) (J:=[]) (by kernel_rfl) (by kernel_rfl) (by kernel_rfl) ((idxS hx76).2) (by kernel_rfl)) (by kernel_rfl) (by kernel_rfl) (evd_run 3 (by kernel_rfl) ?_))
 obtain ⟨x77,hx77,h⟩:=bindS h
 refine evd_val (by kernel_rfl) (st_idxO (c:=cI) (l:=h0) (i:=(isub s53 1)) (kd:=.i64) (kk:=(.top 500000)) (e:=3) (sz:=1) (by kernel_rfl) (by kernel_rfl) hx77 rfl) (by kernel_rfl) (by kernel_rfl) (evd_val (by kernel_rfl) (st_ldO (c:=cI) (l:=h0) (i:=(Int.toNat (isub s53 1))) (v:=(vI x77)) (agg:=false) (sz:=1) (kk:=(.top 500000)) (e:=3) (off:=0) (J:=[]) (by kernel_rfl) (by kernel_rfl) (by kernel_rfl) ((idxS hx77).2) (by kernel_rfl)) (by kernel_rfl) (by kernel_rfl) (evd_end (by kernel_rfl) ?_))
 refine evo_run 1 (by kernel_rfl) (zO fun τ hτ=>?_)
 refine zE hτ ⟨[(0,ro 500000 3),(3,vI s53),(25,vB (x76 == x77))],[(500000,wI 3 h0)]⟩ (zI (x76 == x77) (fun hb=>?_) fun hb=>?_)
 replace h:=iteT hb h
 exact nomatch h
 replace h:=iteF hb h
 refine zM fun τ hτ=>?_
 refine bl_normal (zE hτ ⟨[(0,ro 500000 3),(3,vI s53)],[(500000,wI 3 h0)]⟩ (zD ?_))
 refine z6 3 fun τ hτ=>?_
 obtain rfl:=osi h
 exact zH hτ
 replace h:=iteF hb h
 refine zL 0 fun τ hτ=>?_
 refine th_exit ?_
 obtain rfl:=osi h
 exact zF hτ
 intro x
 rfl
 intro τ hτ
 refine zQ (zE hτ ⟨[(0,ro 500000 3)],[(500000,wI 3 h0)]⟩ (z8 2 ⟨[(2,ro 500000 3)],[(500000,wI 3 h0)]⟩ fun τ hτ=>?_))
 obtain rfl:=osi h
 exact rk_ret hτ [(2,ro 0 3)] (subR_prep [] [(500000,0)] (by kernel_rfl) rfl rfl (by kernel_rfl)) (by kernel_rfl)
theorem W.nest_search_heights_1_k_ok {y : Int} {a_0 : (List Rect)} {a_1 : (List nest_obstacle)} {a_2 : Int} {a_3 : Int} {a_4 : Int} {a_5 : Int} {a_6 : Int} {a_7 : Int} {r : Bool} (h : nest_search_heights_1_k y a_0 a_1 a_2 a_3 a_4 a_5 a_6 a_7 = some r) : PC G.P 132 [(vI y),(.vptr [(.sl (List.map c_Rect a_0)),(.sl (List.map c_nest_obstacle a_1)),(vI a_2),(vI a_3),(vI a_4),(vI a_5),(vI a_6),(vI a_7)] 0)] [] (vB r) []:=by
 refine zU G Tryz.func132 (zK ⟨[(0,vI y),(1,.vptr [(s_Rect a_0),(s_nest_obstacle a_1),(vI a_2),(vI a_3),(vI a_4),(vI a_5),(vI a_6),(vI a_7)] 0)],[]⟩ (z3 1 ⟨[(0,vI y),(1,.vptr [(s_Rect a_0),(s_nest_obstacle a_1),(vI a_2),(vI a_3),(vI a_4),(vI a_5),(vI a_6),(vI a_7)] 0)],[]⟩ ?_))
 refine zB ?_
 obtain ⟨j1,hj1,h⟩:=bindS h
 refine zT ⟨[(3,vB j1)],[]⟩ ?_ fun τ hτ=>?_
 replace h:=hj1
 refine zA 6 (zS (decide (y < a_3)) (fun b0=>⟨[(0,vI y),(1,.vptr [(s_Rect a_0),(s_nest_obstacle a_1),(vI a_2),(vI a_3),(vI a_4),(vI a_5),(vI a_6),(vI a_7)] 0),(9,vB b0)],[]⟩) (fun hb=>?_) fun hb=>?_)
 replace h:=iteT hb h
 refine z6 14 fun τ hτ=>?_
 obtain rfl:=osi h
 exact zG hτ
 replace h:=iteF hb h
 refine z6 14 fun τ hτ=>?_
 obtain rfl:=osi h
 exact zG hτ
 refine zE hτ ⟨[(3,vB j1)],[]⟩ (zN fun τ hτ=>?_)
 obtain rfl:=osi h
 exact zV hτ [(3,vB j1)]
theorem W.slices_IndexFunc_Lint_int__nest_search_heights_1_k_ok {s0 : (List Int)} {f_0_0 : (List Rect)} {f_0_1 : (List nest_obstacle)} {f_0_2 : Int} {f_0_3 : Int} {f_0_4 : Int} {f_0_5 : Int} {f_0_6 : Int} {f_0_7 : Int} {r : Int} (h : slices_IndexFunc_Lint_int__nest_search_heights_1_k s0 f_0_0 f_0_1 f_0_2 f_0_3 f_0_4 f_0_5 f_0_6 f_0_7 = some r) : PC G.P 153 [(.sl (List.map cI s0)),(.fn 132 [(.vptr [(.sl (List.map c_Rect f_0_0)),(.sl (List.map c_nest_obstacle f_0_1)),(vI f_0_2),(vI f_0_3),(vI f_0_4),(vI f_0_5),(vI f_0_6),(vI f_0_7)] 0)])] [] (vI r) []:=by
 refine zU G Tryz.func153 (zK ⟨[(0,sI s0),(1,.fn 132 [(.vptr [(s_Rect f_0_0),(s_nest_obstacle f_0_1),(vI f_0_2),(vI f_0_3),(vI f_0_4),(vI f_0_5),(vI f_0_6),(vI f_0_7)] 0)])],[]⟩ (z3 1 ⟨[(0,sI s0),(1,.fn 132 [(.vptr [(s_Rect f_0_0),(s_nest_obstacle f_0_1),(vI f_0_2),(vI f_0_3),(vI f_0_4),(vI f_0_5),(vI f_0_6),(vI f_0_7)] 0)])],[]⟩ ?_))
 refine zB (z7 (zA 1 ?_))
 refine evs_op (st_len (c:=cI) (l:=s0) (x:=(sI s0)) (by kernel_rfl) (by kernel_rfl)) (z1 1 ⟨[(0,sI s0),(1,.fn 132 [(.vptr [(s_Rect f_0_0),(s_nest_obstacle f_0_1),(vI f_0_2),(vI f_0_3),(vI f_0_4),(vI f_0_5),(vI f_0_6),(vI f_0_7)] 0)]),(7,vI (s0.length : Int)),(8,vI 0)],[]⟩ (zC ?_))
 obtain ⟨x56,hx56,h⟩:=bindS h
 refine sem_loopS (fun (s39 : Int)=>⟨[(0,sI s0),(1,.fn 132 [(.vptr [(s_Rect f_0_0),(s_nest_obstacle f_0_1),(vI f_0_2),(vI f_0_3),(vI f_0_4),(vI f_0_5),(vI f_0_6),(vI f_0_7)] 0)]),(7,vI (s0.length : Int)),(8,vI s39)],[]⟩) (fun (x56 : Int ⊕ Unit)=>match x56 with | .inl j57=>(.ret,⟨[(4,vI j57)],[]⟩) | .inr j58=>(.exit 0,⟨[],[]⟩)) (slices_IndexFunc_Lint_int__nest_search_heights_1_k_l1 s0 f_0_0 f_0_1 f_0_2 f_0_3 f_0_4 f_0_5 f_0_6 f_0_7) 0 x56 (by kernel_rfl) (here (by kernel_rfl)) (iter_loop hx56) ?_ ?_ ?_
 intro s39 r h
 refine z3 1 ⟨[(0,sI s0),(1,.fn 132 [(.vptr [(s_Rect f_0_0),(s_nest_obstacle f_0_1),(vI f_0_2),(vI f_0_3),(vI f_0_4),(vI f_0_5),(vI f_0_6),(vI f_0_7)] 0)]),(7,vI (s0.length : Int)),(8,vI s39),(9,vB (decide (s39 < (s0.length : Int))))],[]⟩ (zB (zI (decide (s39 < (s0.length : Int))) (fun hb=>?_) fun hb=>?_))
 replace h:=iteT hb h
 refine z4 ⟨[(0,sI s0),(1,.fn 132 [(.vptr [(s_Rect f_0_0),(s_nest_obstacle f_0_1),(vI f_0_2),(vI f_0_3),(vI f_0_4),(vI f_0_5),(vI f_0_6),(vI f_0_7)] 0)]),(7,vI (s0.length : Int)),(8,vI s39)],[]⟩ (zB (zC ?_))
 refine z3 2 ⟨[(0,sI s0),(1,.fn 132 [(.vptr [(s_Rect f_0_0),(s_nest_obstacle f_0_1),(vI f_0_2),(vI f_0_3),(vI f_0_4),(vI f_0_5),(vI f_0_6),(vI f_0_7)] 0)]),(5,vI s39),(7,vI (s0.length : Int)),(8,vI s39)],[]⟩ (z7 (zA 3 ?_))
 obtain ⟨x54,hx54,h⟩:=bindS h
 refine evs_op (st_idx (c:=cI) (l:=s0) (i:=s39) (kd:=.i64) (sz:=1) (by kernel_rfl) hx54 rfl) (zA 1 ?_)
 obtain ⟨r55,hr55,h⟩:=bindS h
 refine evs_callP [] (by kernel_rfl) (W.nest_search_heights_1_k_ok hr55) (by kernel_rfl) (.inl rfl) (by kernel_rfl) (zP fun τ hτ=>?_)
 refine zE hτ ⟨[(0,sI s0),(1,.fn 132 [(.vptr [(s_Rect f_0_0),(s_nest_obstacle f_0_1),(vI f_0_2),(vI f_0_3),(vI f_0_4),(vI f_0_5),(vI f_0_6),(vI f_0_7)] 0)]),(5,vI s39),(7,vI (s0.length : Int)),(8,vI s39),(16,vB r55)],[]⟩ (zI r55 (fun hb=>?_) fun hb=>?_)
 replace h:=iteT hb h
 refine z8 2 ⟨[(4,vI s39)],[]⟩ fun τ hτ=>?_
 refine bl_ret (th_ret ?_)
 obtain rfl:=osi h
 exact zF hτ
 replace h:=iteF hb h
 refine zM fun τ hτ=>?_
 refine bl_normal (zE hτ ⟨[(0,sI s0),(1,.fn 132 [(.vptr [(s_Rect f_0_0),(s_nest_obstacle f_0_1),(vI f_0_2),(vI f_0_3),(vI f_0_4),(vI f_0_5),(vI f_0_6),(vI f_0_7)] 0)]),(7,vI (s0.length : Int)),(8,vI s39)],[]⟩ (zD ?_))
 refine z6 2 fun τ hτ=>?_
 obtain rfl:=osi h
 exact zH hτ
 replace h:=iteF hb h
 refine zL 0 fun τ hτ=>?_
 refine th_exit ?_
 obtain rfl:=osi h
 exact zF hτ
 intro x
 rcases x with _ | _ <;> rfl
 intro τ hτ
 rcases x56 with j57 | j58
 refine bl_ret (th_ret ?_)
 obtain rfl:=osi h
 exact zV hτ [(4,vI j57)]
 refine zQ (zE hτ ⟨[],[]⟩ (z8 1 ⟨[(4,vI (-1))],[]⟩ fun τ hτ=>?_))
 obtain rfl:=osi h
 exact zV hτ [(4,vI (-1))]
end Go.Proofs.YtonmponhpfpokaaGreatR
