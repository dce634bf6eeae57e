/- Each Go function does what its model says; written by a program out of the translation. -/
import Derived.Test.YtonmponhpfpokaaGreatRWK2
import Derived.Test.YtonmponhpfpokaaGreatRNeMK
set_option linter.unusedVariables false
set_option linter.unusedSimpArgs false
set_option linter.unusedSectionVars false
namespace Go.Proofs.YtonmponhpfpokaaGreatR
open Go Go.VI Go.SM Go.Proofs
set_option maxRecDepth 100000
set_option maxHeartbeats 4000000
theorem W.flat_mapped__flat_quarter_1__flat_quarter_2_ok {f : Flat} {r : Flat} (h : flat_mapped__flat_quarter_1__flat_quarter_2 f = some r) : PC G.P 145 [(.agg (c_Flat f)),(.fn 146 []),(.fn 147 [])] [] (.agg [(.row (.top 1) 86),(.row (.top 2) 86),(.row (.top 3) 86),(.row (.top 4) 162)]) [(0,.box [(.row (.top 1) 86),(.row (.top 2) 86),(.row (.top 3) 86),(.row (.top 4) 162)]),(1,.row 86 [] (List.map c_Rect r.Rects)),(2,.row 86 [] (List.map c_Rect r.Cuts)),(3,.row 86 [] (List.map c_Rect r.Forms)),(4,.row 162 [] (List.map c_BendLine r.Bends))]:=by
 refine zU G Tryz.func145 (zK ⟨[(0,.agg (c_Flat f)),(1,.fn 146 []),(2,.fn 147 [])],[]⟩ (z3 3 ⟨[(2,.fn 147 []),(3,.ptr 3 0),(4,.ptr 4 0),(6,.ptr 6 0)],[(3,.box (c_Flat f)),(4,.box [(.fn 146 [])]),(6,.box [.nl,.nl,.nl,.nl])]⟩ ?_))
 refine z3 2 ⟨[(2,.fn 147 []),(3,.ptr 3 0),(6,.ptr 6 0),(7,.fn 163 [(.ptr 4 0)])],[(3,.box (c_Flat f)),(4,.box [(.fn 146 [])]),(6,.box [.nl,.nl,.nl,.nl])]⟩ (zB (sem_draw [(3,[700150]),(7,[700350]),(11,[700550]),(13,[8])] [(3,[700150]),(7,[700350]),(11,[700550]),(13,[8])] [(3,[4]),(7,[4]),(11,[4])] [(0,[8]),(1,[8]),(2,[8]),(3,[8]),(4,[700150,8]),(5,[700150,8]),(6,[700150,8]),(7,[8]),(8,[700150,700350,8]),(9,[700150,700350,8]),(10,[700150,700350,8]),(11,[8]),(12,[8]),(13,[700150,700350,700550])] [(0,[700150,700350,700550,8]),(1,[700150,700350,700550,8]),(2,[700150,700350,700550,8]),(3,[700350,700550,8]),(4,[700150,700350,700550,8]),(5,[700150,700350,700550,8]),(6,[700150,700350,700550,8]),(7,[700550,8]),(8,[700150,700350,700550,8]),(9,[700150,700350,700550,8]),(10,[700150,700350,700550,8]),(11,[8]),(12,[8]),(13,[700150,700350,700550])] 14 (by kernel_rfl) (by kernel_rfl) [700150,700350,700550,8] (by kernel_rfl) (by kernel_rfl) ?_))
 refine evd_run 3 (by kernel_rfl) ?_
 obtain ⟨r7,hr7,h⟩:=bindS h
 refine evd_callS [(0,700150)] [4] (by kernel_rfl) (by kernel_rfl) (W.flat_mapped_1_ok hr7) (by kernel_rfl) (.inr ⟨rfl,fun _ _=>ind_cons (ind_row fun _=>rfl) (fun _ _=>ind_nil)⟩) (by kernel_rfl) (by kernel_rfl) (evd_run 3 (by kernel_rfl) ?_)
 obtain ⟨r8,hr8,h⟩:=bindS h
 refine evd_callS [(0,700350)] [4] (by kernel_rfl) (by kernel_rfl) (W.flat_mapped_1_ok hr8) (by kernel_rfl) (.inr ⟨rfl,fun _ _=>ind_cons (ind_row fun _=>rfl) (fun _ _=>ind_nil)⟩) (by kernel_rfl) (by kernel_rfl) (evd_run 3 (by kernel_rfl) ?_)
 obtain ⟨r9,hr9,h⟩:=bindS h
 refine evd_callS [(0,700550)] [4] (by kernel_rfl) (by kernel_rfl) (W.flat_mapped_1_ok hr9) (by kernel_rfl) (.inr ⟨rfl,fun _ _=>ind_cons (ind_row fun _=>rfl) (fun _ _=>ind_nil)⟩) (by kernel_rfl) (by kernel_rfl) (evd_run 1 (by kernel_rfl) (evd_new (g:=8) (ob:=.box [.nl,.nl,.nl,.nl]) (v:=(.ptr 8 0)) (by kernel_rfl) (by kernel_rfl) (by kernel_rfl) (by kernel_rfl) (by kernel_rfl) (by kernel_rfl) ?_))
 refine evd_end (by kernel_rfl) (evo_run 1 (by kernel_rfl) (zO fun τ hτ=>?_))
 refine zE hτ ⟨[(2,.fn 147 []),(3,.ptr 3 0),(6,.ptr 6 0),(8,.ptr 8 0)],[(3,.box (c_Flat f)),(6,.box [.nl,.nl,.nl,.nl]),(8,.box [(ro 700150 86),(ro 700350 86),(ro 700550 86),.nl]),(700150,w_Rect 86 r7),(700350,w_Rect 86 r8),(700550,w_Rect 86 r9)]⟩ (zB (z7 ?_))
 refine zA 2 (evs_op (st_len (c:=c_BendLine) (l:=f.Bends) (x:=(s_BendLine f.Bends)) (by kernel_rfl) (by kernel_rfl)) (z1 1 ⟨[(2,.fn 147 []),(6,.ptr 6 0),(8,.ptr 8 0),(26,s_BendLine f.Bends),(27,vI (f.Bends.length : Int)),(28,vI 0)],[(6,.box [.nl,.nl,.nl,.nl]),(8,.box [(ro 700150 86),(ro 700350 86),(ro 700550 86),.nl]),(700150,w_Rect 86 r7),(700350,w_Rect 86 r8),(700550,w_Rect 86 r9)]⟩ ?_))
 refine zC ?_
 obtain ⟨x87,hx87,h⟩:=bindS h
 refine sem_loopS (fun (s62 : Int × (List BendLine))=>⟨[(2,.fn 147 []),(6,.ptr 500000 0),(8,.ptr 500001 0),(26,s_BendLine f.Bends),(27,vI (f.Bends.length : Int)),(28,vI s62.1)],[(500000,.box [.nl,.nl,.nl,.nl]),(500001,.box [(ro 500002 86),(ro 500003 86),(ro 500004 86),(ro 500005 162)]),(500002,w_Rect 86 r7),(500003,w_Rect 86 r8),(500004,w_Rect 86 r9),(500005,w_BendLine 162 s62.2)]⟩) (fun (x87 : (List BendLine))=>(.exit 0,⟨[(6,.ptr 500000 0),(8,.ptr 500001 0)],[(500000,.box [.nl,.nl,.nl,.nl]),(500001,.box [(ro 500002 86),(ro 500003 86),(ro 500004 86),(ro 500005 162)]),(500002,w_Rect 86 r7),(500003,w_Rect 86 r8),(500004,w_Rect 86 r9),(500005,w_BendLine 162 x87)]⟩)) (flat_mapped__flat_quarter_1__flat_quarter_2_l1 f) (0,[]) x87 (by kernel_rfl) (subR_prep [.row (.box 8 3) 800000 162 []] [(6,500000),(8,500001),(700150,500002),(700350,500003),(700550,500004),(800000,500005)] (by kernel_rfl) rfl rfl (by kernel_rfl)) hx87 ?_ ?_ ?_
 intro s62 r h
 refine z3 1 ⟨[(2,.fn 147 []),(6,.ptr 500000 0),(8,.ptr 500001 0),(26,s_BendLine f.Bends),(27,vI (f.Bends.length : Int)),(28,vI s62.1),(29,vB (decide (s62.1 < (f.Bends.length : Int))))],[(500000,.box [.nl,.nl,.nl,.nl]),(500001,.box [(ro 500002 86),(ro 500003 86),(ro 500004 86),(ro 500005 162)]),(500002,w_Rect 86 r7),(500003,w_Rect 86 r8),(500004,w_Rect 86 r9),(500005,w_BendLine 162 s62.2)]⟩ (zB (zI (decide (s62.1 < (f.Bends.length : Int))) (fun hb=>?_) fun hb=>?_))
 replace h:=iteT hb h
 refine z4 ⟨[(2,.fn 147 []),(6,.ptr 500000 0),(8,.ptr 500001 0),(26,s_BendLine f.Bends),(27,vI (f.Bends.length : Int)),(28,vI s62.1)],[(500000,.box [.nl,.nl,.nl,.nl]),(500001,.box [(ro 500002 86),(ro 500003 86),(ro 500004 86),(ro 500005 162)]),(500002,w_Rect 86 r7),(500003,w_Rect 86 r8),(500004,w_Rect 86 r9),(500005,w_BendLine 162 s62.2)]⟩ (zB (zC ?_))
 refine z7 ?_
 obtain ⟨x82,hx82,h⟩:=bindS h
 refine evs_op (st_idx (c:=c_BendLine) (l:=f.Bends) (i:=s62.1) (kd:=.i64) (sz:=8) (by kernel_rfl) hx82 rfl) (z1 3 ⟨[(2,.fn 147 []),(6,.ptr 500000 0),(8,.ptr 500001 0),(10,.ptr 10 0),(26,s_BendLine f.Bends),(27,vI (f.Bends.length : Int)),(28,vI s62.1)],[(10,.box (c_BendLine x82)),(500000,.box [.nl,.nl,.nl,.nl]),(500001,.box [(ro 500002 86),(ro 500003 86),(ro 500004 86),(ro 500005 162)]),(500002,w_Rect 86 r7),(500003,w_Rect 86 r8),(500004,w_Rect 86 r9),(500005,w_BendLine 162 s62.2)]⟩ (z7 ?_))
 refine zA 3 ?_
 obtain ⟨r84,hr84,h⟩:=bindS h
 refine evs_callS [] [(0,700150)] [] (by kernel_rfl) (W.flat_quarter_2_ok hr84) (by kernel_rfl) (by kernel_rfl) (.inl rfl) (z1 2 ⟨[(2,.fn 147 []),(6,.ptr 500000 0),(8,.ptr 500001 0),(10,.ptr 10 0),(26,s_BendLine f.Bends),(27,vI (f.Bends.length : Int)),(28,vI s62.1)],[(10,.box [(vI x82.Flange),(vI x82.Parent),(vI r84.X1),(vI r84.Y1),(vI r84.X2),(vI r84.Y2),(vI x82.Angle),(vI x82.Deduct)]),(500000,.box [.nl,.nl,.nl,.nl]),(500001,.box [(ro 500002 86),(ro 500003 86),(ro 500004 86),(ro 500005 162)]),(500002,w_Rect 86 r7),(500003,w_Rect 86 r8),(500004,w_Rect 86 r9),(500005,w_BendLine 162 s62.2)]⟩ (zD ?_))
 refine zA 4 ?_
 obtain ⟨l86,hl86,h⟩:=bindS h
 refine evs_op (st_app (c:=c_BendLine) (l:=s62.2) (l2:=[(BendLine.mk x82.Flange x82.Parent r84 x82.Angle x82.Deduct)]) (x:=(s_BendLine [(BendLine.mk x82.Flange x82.Parent r84 x82.Angle x82.Deduct)])) (g:=500005) (e:=162) (sz:=8) (d:=41) (by kernel_rfl) (by kernel_rfl) (by kernel_rfl) (by kernel_rfl) (fun _=>rfl) rfl hl86) (z6 2 fun τ hτ=>?_)
 refine bl_normal (zE hτ ⟨[(2,.fn 147 []),(6,.ptr 500000 0),(8,.ptr 500001 0),(26,s_BendLine f.Bends),(27,vI (f.Bends.length : Int)),(28,vI s62.1)],[(500000,.box [.nl,.nl,.nl,.nl]),(500001,.box [(ro 500002 86),(ro 500003 86),(ro 500004 86),(ro 500005 162)]),(500002,w_Rect 86 r7),(500003,w_Rect 86 r8),(500004,w_Rect 86 r9),(500005,w_BendLine 162 l86)]⟩ (zD ?_))
 refine z6 2 fun τ hτ=>?_
 obtain rfl:=osi h
 exact zH hτ
 replace h:=iteF hb h
 refine zL 0 fun τ hτ=>?_
 refine th_exit ?_
 obtain rfl:=osi h
 exact zF hτ
 intro x
 rfl
 intro τ hτ
 refine zQ (zE hτ ⟨[(6,.ptr 500000 0),(8,.ptr 500001 0)],[(500000,.box [.nl,.nl,.nl,.nl]),(500001,.box [(ro 500002 86),(ro 500003 86),(ro 500004 86),(ro 500005 162)]),(500002,w_Rect 86 r7),(500003,w_Rect 86 r8),(500004,w_Rect 86 r9),(500005,w_BendLine 162 x87)]⟩ (z8 2 ⟨[(6,.ptr 500000 0)],[(500000,.box [(ro 500002 86),(ro 500003 86),(ro 500004 86),(ro 500005 162)]),(500002,w_Rect 86 r7),(500003,w_Rect 86 r8),(500004,w_Rect 86 r9),(500005,w_BendLine 162 x87)]⟩ fun τ hτ=>?_))
 obtain rfl:=osi h
 exact rk_ret hτ [(6,.ptr 0 0)] (subR_prep [] [(500000,0),(500002,1),(500003,2),(500004,3),(500005,4)] (by kernel_rfl) rfl rfl (by kernel_rfl)) (by kernel_rfl)
theorem W.flat_quarter_ok {f : Flat} {r : Flat} (h : flat_quarter f = some r) : PC G.P 127 [(.agg (c_Flat f))] [] (.agg [(.row (.top 1) 86),(.row (.top 2) 86),(.row (.top 3) 86),(.row (.top 4) 162)]) [(0,.box [(.row (.top 1) 86),(.row (.top 2) 86),(.row (.top 3) 86),(.row (.top 4) 162)]),(1,.row 86 [] (List.map c_Rect r.Rects)),(2,.row 86 [] (List.map c_Rect r.Cuts)),(3,.row 86 [] (List.map c_Rect r.Forms)),(4,.row 162 [] (List.map c_BendLine r.Bends))]:=by
 refine zU G Tryz.func127 (zK ⟨[(0,.agg (c_Flat f))],[]⟩ (z3 2 ⟨[(1,.ptr 1 0),(2,.ptr 2 0)],[(1,.box (c_Flat f)),(2,.box [.nl,.nl,.nl,.nl])]⟩ ?_))
 refine z7 (zA 1 ?_)
 obtain ⟨r2,hr2,h⟩:=bindS h
 refine evs_callS [] [(0,700050),(1,700051),(2,700052),(3,700053),(4,700054)] [] (by kernel_rfl) (W.flat_mapped__flat_quarter_1__flat_quarter_2_ok hr2) (by kernel_rfl) (by kernel_rfl) (.inl rfl) (z1 1 ⟨[(2,.ptr 2 0)],[(2,.box [(ro 700051 86),(ro 700052 86),(ro 700053 86),(ro 700054 162)]),(700051,w_Rect 86 r2.Rects),(700052,w_Rect 86 r2.Cuts),(700053,w_Rect 86 r2.Forms),(700054,w_BendLine 162 r2.Bends)]⟩ (zN fun τ hτ=>?_))
 obtain rfl:=osi h
 exact rk_ret hτ [(2,.ptr 0 0)] (subR_prep [] [(2,0),(700051,1),(700052,2),(700053,3),(700054,4)] (by kernel_rfl) rfl rfl (by kernel_rfl)) (by kernel_rfl)
theorem W.flat_bounds_ok {l : (List Rect)} {r : Rect × Int × Int × Int × Int} (h : flat_bounds l = some r) : PC G.P 148 [(.sl (List.map c_Rect l))] [] (.agg (c_Rect r.1)) [(0,.box [(vI r.2.1),(vI r.2.2.1),(vI r.2.2.2.1),(vI r.2.2.2.2)])]:=by
 refine zU G Tryz.func148 (zK ⟨[(0,s_Rect l)],[]⟩ (z3 1 ⟨[(0,s_Rect l),(2,.ptr 2 0)],[(2,.box [(vI 0),(vI 0),(vI 0),(vI 0)])]⟩ ?_))
 refine z7 (zA 1 ?_)
 obtain ⟨x2,hx2,h⟩:=bindS h
 refine evs_op (st_idx (c:=c_Rect) (l:=l) (i:=0) (kd:=.i64) (sz:=4) (by kernel_rfl) hx2 rfl) (z1 3 ⟨[(0,s_Rect l),(2,.ptr 2 0),(3,.ptr 3 0)],[(2,.box [(vI 0),(vI 0),(vI 0),(vI 0)]),(3,.box (c_Rect x2))]⟩ (zB ?_))
 refine z7 (zA 1 ?_)
 obtain ⟨l21,hl21,h⟩:=bindS h
 refine evs_op (st_slL (c:=c_Rect) (l:=l) (sz:=4) (lo:=1) (k1:=.i64) (by kernel_rfl) (fun _=>rfl) hl21) (evs_op (st_len (c:=c_Rect) (l:=l21) (x:=(s_Rect l21)) (by kernel_rfl) (by kernel_rfl)) (z1 1 ⟨[(2,.ptr 2 0),(3,.ptr 3 0),(12,s_Rect l21),(13,vI (l21.length : Int)),(14,vI 0)],[(2,.box [(vI 0),(vI 0),(vI 0),(vI 0)]),(3,.box (c_Rect x2))]⟩ ?_))
 refine zC ?_
 obtain ⟨x36,hx36,h⟩:=bindS h
 refine sem_loopS (fun (s27 : Int × Int × Int × Int × Int)=>⟨[(2,.ptr 500000 0),(3,.ptr 500001 0),(12,s_Rect l21),(13,vI (l21.length : Int)),(14,vI s27.1)],[(500000,.box [(vI 0),(vI 0),(vI 0),(vI 0)]),(500001,.box [(vI s27.2.1),(vI s27.2.2.1),(vI s27.2.2.2.1),(vI s27.2.2.2.2)])]⟩) (fun (x36 : Int × Int × Int × Int)=>(.exit 0,⟨[(2,.ptr 500000 0),(3,.ptr 500001 0)],[(500000,.box [(vI 0),(vI 0),(vI 0),(vI 0)]),(500001,.box [(vI x36.1),(vI x36.2.1),(vI x36.2.2.1),(vI x36.2.2.2)])]⟩)) (flat_bounds_l1 l21) (0,x2.X,x2.Y,x2.W,x2.H) x36 (by kernel_rfl) (subR_prep [] [(2,500000),(3,500001)] (by kernel_rfl) rfl rfl (by kernel_rfl)) hx36 ?_ ?_ ?_
 intro s27 r h
 refine z3 1 ⟨[(2,.ptr 500000 0),(3,.ptr 500001 0),(12,s_Rect l21),(13,vI (l21.length : Int)),(14,vI s27.1),(15,vB (decide (s27.1 < (l21.length : Int))))],[(500000,.box [(vI 0),(vI 0),(vI 0),(vI 0)]),(500001,.box [(vI s27.2.1),(vI s27.2.2.1),(vI s27.2.2.2.1),(vI s27.2.2.2.2)])]⟩ (zB (zI (decide (s27.1 < (l21.length : Int))) (fun hb=>?_) fun hb=>?_))
 replace h:=iteT hb h
 refine z4 ⟨[(2,.ptr 500000 0),(3,.ptr 500001 0),(12,s_Rect l21),(13,vI (l21.length : Int)),(14,vI s27.1)],[(500000,.box [(vI 0),(vI 0),(vI 0),(vI 0)]),(500001,.box [(vI s27.2.1),(vI s27.2.2.1),(vI s27.2.2.2.1),(vI s27.2.2.2.2)])]⟩ (zB (zC ?_))
 refine z7 ?_
 obtain ⟨x35,hx35,h⟩:=bindS h
 refine evs_op (st_idx (c:=c_Rect) (l:=l21) (i:=s27.1) (kd:=.i64) (sz:=4) (by kernel_rfl) hx35 rfl) (z1 3 ⟨[(2,.ptr 500000 0),(3,.ptr 500001 0),(5,.ptr 5 0),(12,s_Rect l21),(13,vI (l21.length : Int)),(14,vI s27.1)],[(5,.box (c_Rect x35)),(500000,.box [(vI 0),(vI 0),(vI 0),(vI 0)]),(500001,.box [(vI s27.2.1),(vI s27.2.2.1),(vI s27.2.2.2.1),(vI s27.2.2.2.2)])]⟩ (zB ?_))
 refine sem_drawN [] [] [] [] [] 11 (by kernel_rfl) (by kernel_rfl) (by kernel_rfl) (evd_run 11 (by kernel_rfl) (evd_end (by kernel_rfl) ?_))
 refine evo_run 1 (by kernel_rfl) (zO fun τ hτ=>?_)
 refine zE hτ ⟨[(2,.ptr 500000 0),(3,.ptr 500001 0),(5,.ptr 5 0),(6,vI (imin s27.2.1 x35.X)),(7,vI (imin s27.2.2.1 x35.Y)),(12,s_Rect l21),(13,vI (l21.length : Int)),(14,vI s27.1)],[(5,.box (c_Rect x35)),(500000,.box [(vI 0),(vI 0),(vI 0),(vI 0)]),(500001,.box [(vI s27.2.1),(vI s27.2.2.1),(vI s27.2.2.2.1),(vI s27.2.2.2.2)])]⟩ (zB (sem_drawN [(27,[500001])] [] [] [(17,[500001]),(18,[500001]),(19,[500001]),(20,[500001]),(21,[500001]),(22,[500001]),(23,[500001]),(24,[500001]),(25,[500001])] [] 28 (by kernel_rfl) (by kernel_rfl) (by kernel_rfl) ?_))
 refine evd_run 27 (by kernel_rfl) (evd_set (g:=500001) (ob:=.box [(vI s27.2.1),(vI s27.2.2.1),(vI (isub (imax (iadd s27.2.1 s27.2.2.2.1) (iadd x35.X x35.W)) (imin s27.2.1 x35.X))),(vI s27.2.2.2.2)]) (v:=vU) (by kernel_rfl) (by kernel_rfl) (by kernel_rfl) (by kernel_rfl) (by kernel_rfl) (evd_end (by kernel_rfl) ?_))
 refine evo_run 2 (by kernel_rfl) (zO fun τ hτ=>?_)
 refine zE hτ ⟨[(2,.ptr 500000 0),(3,.ptr 500001 0),(6,vI (imin s27.2.1 x35.X)),(7,vI (imin s27.2.2.1 x35.Y)),(12,s_Rect l21),(13,vI (l21.length : Int)),(14,vI s27.1)],[(500000,.box [(vI 0),(vI 0),(vI 0),(vI 0)]),(500001,.box [(vI s27.2.1),(vI s27.2.2.1),(vI (isub (imax (iadd s27.2.1 s27.2.2.2.1) (iadd x35.X x35.W)) (imin s27.2.1 x35.X))),(vI (isub (imax (iadd s27.2.2.1 s27.2.2.2.2) (iadd x35.Y x35.H)) (imin s27.2.2.1 x35.Y)))])]⟩ (zD (z6 6 fun τ hτ=>?_))
 refine bl_normal (zE hτ ⟨[(2,.ptr 500000 0),(3,.ptr 500001 0),(12,s_Rect l21),(13,vI (l21.length : Int)),(14,vI s27.1)],[(500000,.box [(vI 0),(vI 0),(vI 0),(vI 0)]),(500001,.box [(vI (imin s27.2.1 x35.X)),(vI (imin s27.2.2.1 x35.Y)),(vI (isub (imax (iadd s27.2.1 s27.2.2.2.1) (iadd x35.X x35.W)) (imin s27.2.1 x35.X))),(vI (isub (imax (iadd s27.2.2.1 s27.2.2.2.2) (iadd x35.Y x35.H)) (imin s27.2.2.1 x35.Y)))])]⟩ (zD ?_))
 refine z6 2 fun τ hτ=>?_
 obtain rfl:=osi h
 exact zH hτ
 replace h:=iteF hb h
 refine zL 0 fun τ hτ=>?_
 refine th_exit ?_
 obtain rfl:=osi h
 exact zF hτ
 intro x
 rfl
 intro τ hτ
 refine zQ (zE hτ ⟨[(2,.ptr 500000 0),(3,.ptr 500001 0)],[(500000,.box [(vI 0),(vI 0),(vI 0),(vI 0)]),(500001,.box [(vI x36.1),(vI x36.2.1),(vI x36.2.2.1),(vI x36.2.2.2)])]⟩ (z8 2 ⟨[(2,.ptr 500000 0)],[(500000,.box [(vI x36.1),(vI x36.2.1),(vI x36.2.2.1),(vI x36.2.2.2)])]⟩ fun τ hτ=>?_))
 obtain rfl:=osi h
 exact rk_ret hτ [(2,.ptr 0 0)] (subR_prep [] [(500000,0)] (by kernel_rfl) rfl rfl (by kernel_rfl)) (by kernel_rfl)
theorem W.flat_settled_1_ok {r0 : Rect} {a_0 : Int} {a_1 : Int} {a_2 : Int} {a_3 : Int} {r : Rect} (h : flat_settled_1 r0 a_0 a_1 a_2 a_3 = some r) : PC G.P 149 [(.agg (c_Rect r0)),(.vptr [(vI a_0),(vI a_1),(vI a_2),(vI a_3)] 0)] [] (.agg (c_Rect r)) [(0,.box [(vI (isub r0.X a_0)),(vI (isub r0.Y a_1)),(vI r0.W),(vI r0.H)])]:=by
 refine zU G Tryz.func149 (zK ⟨[(0,.agg (c_Rect r0)),(1,.vptr [(vI a_0),(vI a_1),(vI a_2),(vI a_3)] 0)],[]⟩ (z3 2 ⟨[(1,.vptr [(vI a_0),(vI a_1),(vI a_2),(vI a_3)] 0),(2,.ptr 2 0),(3,.ptr 3 0)],[(2,.box (c_Rect r0)),(3,.box [(vI 0),(vI 0),(vI 0),(vI 0)])]⟩ ?_))
 refine zB (sem_drawN [(11,[2])] [] [] [(7,[2]),(8,[2]),(9,[2])] [] 12 (by kernel_rfl) (by kernel_rfl) (by kernel_rfl) (evd_run 11 (by kernel_rfl) ?_))
 refine evd_set (g:=2) (ob:=.box [(vI (isub r0.X a_0)),(vI r0.Y),(vI r0.W),(vI r0.H)]) (v:=vU) (by kernel_rfl) (by kernel_rfl) (by kernel_rfl) (by kernel_rfl) (by kernel_rfl) (evd_end (by kernel_rfl) (evo_run 2 (by kernel_rfl) ?_))
 refine zO fun τ hτ=>?_
 refine zE hτ ⟨[(2,.ptr 2 0),(3,.ptr 3 0)],[(2,.box [(vI (isub r0.X a_0)),(vI (isub r0.Y a_1)),(vI r0.W),(vI r0.H)]),(3,.box [(vI 0),(vI 0),(vI 0),(vI 0)])]⟩ (z8 2 ⟨[(3,.ptr 3 0)],[(3,.box [(vI (isub r0.X a_0)),(vI (isub r0.Y a_1)),(vI r0.W),(vI r0.H)])]⟩ fun τ hτ=>?_)
 obtain rfl:=osi h
 exact rk_ret hτ [(3,.ptr 0 0)] (subR_prep [] [(3,0)] (by kernel_rfl) rfl rfl (by kernel_rfl)) (by kernel_rfl)
theorem W.flat_mapped_1'_ok {l : (List Rect)} {a_0_0_0 : Int} {a_0_0_1 : Int} {a_0_0_2 : Int} {a_0_0_3 : Int} {r : (List Rect)} (h : flat_mapped_1' l a_0_0_0 a_0_0_1 a_0_0_2 a_0_0_3 = some r) : PC G.P 163 [(.sl (List.map c_Rect l)),(.vptr [(.fn 149 [(.vptr [(vI a_0_0_0),(vI a_0_0_1),(vI a_0_0_2),(vI a_0_0_3)] 0)])] 0)] [] (.row (.top 0) 86) [(0,.row 86 [] (List.map c_Rect r))]:=by
 refine zU G Tryz.func163 (zK ⟨[(0,s_Rect l),(1,.vptr [(.fn 149 [(.vptr [(vI a_0_0_0),(vI a_0_0_1),(vI a_0_0_2),(vI a_0_0_3)] 0)])] 0)],[]⟩ (z3 1 ⟨[(0,s_Rect l),(1,.vptr [(.fn 149 [(.vptr [(vI a_0_0_0),(vI a_0_0_1),(vI a_0_0_2),(vI a_0_0_3)] 0)])] 0)],[]⟩ ?_))
 refine z3 1 ⟨[(0,s_Rect l),(1,.vptr [(.fn 149 [(.vptr [(vI a_0_0_0),(vI a_0_0_1),(vI a_0_0_2),(vI a_0_0_3)] 0)])] 0),(4,ro 4 86)],[(4,w_Rect 86 [])]⟩ (zB (z7 ?_))
 refine zA 1 (evs_op (st_len (c:=c_Rect) (l:=l) (x:=(s_Rect l)) (by kernel_rfl) (by kernel_rfl)) (z1 1 ⟨[(1,.vptr [(.fn 149 [(.vptr [(vI a_0_0_0),(vI a_0_0_1),(vI a_0_0_2),(vI a_0_0_3)] 0)])] 0),(4,ro 4 86),(7,s_Rect l),(8,vI (l.length : Int)),(9,vI 0)],[(4,w_Rect 86 [])]⟩ ?_))
 refine zC ?_
 obtain ⟨x78,hx78,h⟩:=bindS h
 refine sem_loopS (fun (s53 : Int × (List Rect))=>⟨[(1,.vptr [(.fn 149 [(.vptr [(vI a_0_0_0),(vI a_0_0_1),(vI a_0_0_2),(vI a_0_0_3)] 0)])] 0),(4,ro 500000 86),(7,s_Rect l),(8,vI (l.length : Int)),(9,vI s53.1)],[(500000,w_Rect 86 s53.2)]⟩) (fun (x78 : (List Rect))=>(.exit 0,⟨[(4,ro 500000 86)],[(500000,w_Rect 86 x78)]⟩)) (flat_mapped_1'_l1 l a_0_0_0 a_0_0_1 a_0_0_2 a_0_0_3) (0,[]) x78 (by kernel_rfl) (subR_prep [] [(4,500000)] (by kernel_rfl) rfl rfl (by kernel_rfl)) hx78 ?_ ?_ ?_
 intro s53 r h
 refine z3 1 ⟨[(1,.vptr [(.fn 149 [(.vptr [(vI a_0_0_0),(vI a_0_0_1),(vI a_0_0_2),(vI a_0_0_3)] 0)])] 0),(4,ro 500000 86),(7,s_Rect l),(8,vI (l.length : Int)),(9,vI s53.1),(10,vB (decide (s53.1 < (l.length : Int))))],[(500000,w_Rect 86 s53.2)]⟩ (zB (zI (decide (s53.1 < (l.length : Int))) (fun hb=>?_) fun hb=>?_))
 replace h:=iteT hb h
 refine z4 ⟨[(1,.vptr [(.fn 149 [(.vptr [(vI a_0_0_0),(vI a_0_0_1),(vI a_0_0_2),(vI a_0_0_3)] 0)])] 0),(4,ro 500000 86),(7,s_Rect l),(8,vI (l.length : Int)),(9,vI s53.1)],[(500000,w_Rect 86 s53.2)]⟩ (zB (zC ?_))
 refine z7 ?_
 obtain ⟨x73,hx73,h⟩:=bindS h
 refine evs_op (st_idx (c:=c_Rect) (l:=l) (i:=s53.1) (kd:=.i64) (sz:=4) (by kernel_rfl) hx73 rfl) (z1 3 ⟨[(1,.vptr [(.fn 149 [(.vptr [(vI a_0_0_0),(vI a_0_0_1),(vI a_0_0_2),(vI a_0_0_3)] 0)])] 0),(4,ro 500000 86),(6,.ptr 6 0),(7,s_Rect l),(8,vI (l.length : Int)),(9,vI s53.1)],[(6,.box (c_Rect x73)),(500000,w_Rect 86 s53.2)]⟩ (zD ?_))
 refine zA 3 ?_
 obtain ⟨r76,hr76,h⟩:=bindS h
 refine evs_callS [] [(0,700150)] [] (by kernel_rfl) (W.flat_settled_1_ok hr76) (by kernel_rfl) (by kernel_rfl) (.inl rfl) (zA 1 ?_)
 obtain ⟨l77,hl77,h⟩:=bindS h
 refine evs_op (st_app (c:=c_Rect) (l:=s53.2) (l2:=[r76]) (x:=(s_Rect [r76])) (g:=500000) (e:=86) (sz:=4) (d:=18) (by kernel_rfl) (by kernel_rfl) (by kernel_rfl) (by kernel_rfl) (fun _=>rfl) rfl hl77) (z6 1 fun τ hτ=>?_)
 refine bl_normal (zE hτ ⟨[(1,.vptr [(.fn 149 [(.vptr [(vI a_0_0_0),(vI a_0_0_1),(vI a_0_0_2),(vI a_0_0_3)] 0)])] 0),(4,ro 500000 86),(7,s_Rect l),(8,vI (l.length : Int)),(9,vI s53.1)],[(500000,w_Rect 86 l77)]⟩ (zD ?_))
 refine z6 2 fun τ hτ=>?_
 obtain rfl:=osi h
 exact zH hτ
 replace h:=iteF hb h
 refine zL 0 fun τ hτ=>?_
 refine th_exit ?_
 obtain rfl:=osi h
 exact zF hτ
 intro x
 rfl
 intro τ hτ
 refine zQ (zE hτ ⟨[(4,ro 500000 86)],[(500000,w_Rect 86 x78)]⟩ (z8 2 ⟨[(3,ro 500000 86)],[(500000,w_Rect 86 x78)]⟩ fun τ hτ=>?_))
 obtain rfl:=osi h
 exact rk_ret hτ [(3,ro 0 86)] (subR_prep [] [(500000,0)] (by kernel_rfl) rfl rfl (by kernel_rfl)) (by kernel_rfl)
theorem W.flat_settled_2_ok {s0 : Segment} {a_0 : Int} {a_1 : Int} {a_2 : Int} {a_3 : Int} {r : Segment} (h : flat_settled_2 s0 a_0 a_1 a_2 a_3 = some r) : PC G.P 150 [(.agg (c_Segment s0)),(.vptr [(vI a_0),(vI a_1),(vI a_2),(vI a_3)] 0)] [] (.agg (c_Segment r)) [(0,.box [(vI (isub s0.X1 a_0)),(vI (isub s0.Y1 a_1)),(vI (isub s0.X2 a_0)),(vI (isub s0.Y2 a_1))])]:=by
 refine zU G Tryz.func150 (zK ⟨[(0,.agg (c_Segment s0)),(1,.vptr [(vI a_0),(vI a_1),(vI a_2),(vI a_3)] 0)],[]⟩ (z3 2 ⟨[(1,.vptr [(vI a_0),(vI a_1),(vI a_2),(vI a_3)] 0),(2,.ptr 2 0),(3,.ptr 3 0)],[(2,.box (c_Segment s0)),(3,.box [(vI 0),(vI 0),(vI 0),(vI 0)])]⟩ ?_))
 refine z8 22 ⟨[(3,.ptr 3 0)],[(3,.box [(vI (isub s0.X1 a_0)),(vI (isub s0.Y1 a_1)),(vI (isub s0.X2 a_0)),(vI (isub s0.Y2 a_1))])]⟩ fun τ hτ=>?_
 obtain rfl:=osi h
 exact rk_ret hτ [(3,.ptr 0 0)] (subR_prep [] [(3,0)] (by kernel_rfl) rfl rfl (by kernel_rfl)) (by kernel_rfl)
theorem W.flat_mapped__flat_settled_1__flat_settled_2_ok {f : Flat} {rect_0_0 : Int} {rect_0_1 : Int} {rect_0_2 : Int} {rect_0_3 : Int} {line_0_0 : Int} {line_0_1 : Int} {line_0_2 : Int} {line_0_3 : Int} {r : Flat} (h : flat_mapped__flat_settled_1__flat_settled_2 f rect_0_0 rect_0_1 rect_0_2 rect_0_3 line_0_0 line_0_1 line_0_2 line_0_3 = some r) : PC G.P 145 [(.agg (c_Flat f)),(.fn 149 [(.vptr [(vI rect_0_0),(vI rect_0_1),(vI rect_0_2),(vI rect_0_3)] 0)]),(.fn 150 [(.vptr [(vI line_0_0),(vI line_0_1),(vI line_0_2),(vI line_0_3)] 0)])] [] (.agg [(.row (.top 1) 86),(.row (.top 2) 86),(.row (.top 3) 86),(.row (.top 4) 162)]) [(0,.box [(.row (.top 1) 86),(.row (.top 2) 86),(.row (.top 3) 86),(.row (.top 4) 162)]),(1,.row 86 [] (List.map c_Rect r.Rects)),(2,.row 86 [] (List.map c_Rect r.Cuts)),(3,.row 86 [] (List.map c_Rect r.Forms)),(4,.row 162 [] (List.map c_BendLine r.Bends))]:=by
 refine zU G Tryz.func145 (zK ⟨[(0,.agg (c_Flat f)),(1,.fn 149 [(.vptr [(vI rect_0_0),(vI rect_0_1),(vI rect_0_2),(vI rect_0_3)] 0)]),(2,.fn 150 [(.vptr [(vI line_0_0),(vI line_0_1),(vI line_0_2),(vI line_0_3)] 0)])],[]⟩ (z3 3 ⟨[(2,.fn 150 [(.vptr [(vI line_0_0),(vI line_0_1),(vI line_0_2),(vI line_0_3)] 0)]),(3,.ptr 3 0),(4,.ptr 4 0),(6,.ptr 6 0)],[(3,.box (c_Flat f)),(4,.box [(.fn 149 [(.vptr [(vI rect_0_0),(vI rect_0_1),(vI rect_0_2),(vI rect_0_3)] 0)])]),(6,.box [.nl,.nl,.nl,.nl])]⟩ ?_))
 refine z3 2 ⟨[(2,.fn 150 [(.vptr [(vI line_0_0),(vI line_0_1),(vI line_0_2),(vI line_0_3)] 0)]),(3,.ptr 3 0),(6,.ptr 6 0),(7,.fn 163 [(.ptr 4 0)])],[(3,.box (c_Flat f)),(4,.box [(.fn 149 [(.vptr [(vI rect_0_0),(vI rect_0_1),(vI rect_0_2),(vI rect_0_3)] 0)])]),(6,.box [.nl,.nl,.nl,.nl])]⟩ (zB (sem_draw [(3,[700150]),(7,[700350]),(11,[700550]),(13,[8])] [(3,[700150]),(7,[700350]),(11,[700550]),(13,[8])] [(3,[4]),(7,[4]),(11,[4])] [(0,[8]),(1,[8]),(2,[8]),(3,[8]),(4,[700150,8]),(5,[700150,8]),(6,[700150,8]),(7,[8]),(8,[700150,700350,8]),(9,[700150,700350,8]),(10,[700150,700350,8]),(11,[8]),(12,[8]),(13,[700150,700350,700550])] [(0,[700150,700350,700550,8]),(1,[700150,700350,700550,8]),(2,[700150,700350,700550,8]),(3,[700350,700550,8]),(4,[700150,700350,700550,8]),(5,[700150,700350,700550,8]),(6,[700150,700350,700550,8]),(7,[700550,8]),(8,[700150,700350,700550,8]),(9,[700150,700350,700550,8]),(10,[700150,700350,700550,8]),(11,[8]),(12,[8]),(13,[700150,700350,700550])] 14 (by kernel_rfl) (by kernel_rfl) [700150,700350,700550,8] (by kernel_rfl) (by kernel_rfl) ?_))
 refine evd_run 3 (by kernel_rfl) ?_
 obtain ⟨r7,hr7,h⟩:=bindS h
 refine evd_callS [(0,700150)] [4] (by kernel_rfl) (by kernel_rfl) (W.flat_mapped_1'_ok hr7) (by kernel_rfl) (.inr ⟨rfl,fun _ _=>ind_cons (ind_row fun _=>rfl) (fun _ _=>ind_nil)⟩) (by kernel_rfl) (by kernel_rfl) (evd_run 3 (by kernel_rfl) ?_)
 obtain ⟨r8,hr8,h⟩:=bindS h
 refine evd_callS [(0,700350)] [4] (by kernel_rfl) (by kernel_rfl) (W.flat_mapped_1'_ok hr8) (by kernel_rfl) (.inr ⟨rfl,fun _ _=>ind_cons (ind_row fun _=>rfl) (fun _ _=>ind_nil)⟩) (by kernel_rfl) (by kernel_rfl) (evd_run 3 (by kernel_rfl) ?_)
 obtain ⟨r9,hr9,h⟩:=bindS h
 refine evd_callS [(0,700550)] [4] (by kernel_rfl) (by kernel_rfl) (W.flat_mapped_1'_ok hr9) (by kernel_rfl) (.inr ⟨rfl,fun _ _=>ind_cons (ind_row fun _=>rfl) (fun _ _=>ind_nil)⟩) (by kernel_rfl) (by kernel_rfl) (evd_run 1 (by kernel_rfl) (evd_new (g:=8) (ob:=.box [.nl,.nl,.nl,.nl]) (v:=(.ptr 8 0)) (by kernel_rfl) (by kernel_rfl) (by kernel_rfl) (by kernel_rfl) (by kernel_rfl) (by kernel_rfl) ?_))
 refine evd_end (by kernel_rfl) (evo_run 1 (by kernel_rfl) (zO fun τ hτ=>?_))
 refine zE hτ ⟨[(2,.fn 150 [(.vptr [(vI line_0_0),(vI line_0_1),(vI line_0_2),(vI line_0_3)] 0)]),(3,.ptr 3 0),(6,.ptr 6 0),(8,.ptr 8 0)],[(3,.box (c_Flat f)),(6,.box [.nl,.nl,.nl,.nl]),(8,.box [(ro 700150 86),(ro 700350 86),(ro 700550 86),.nl]),(700150,w_Rect 86 r7),(700350,w_Rect 86 r8),(700550,w_Rect 86 r9)]⟩ (zB (z7 ?_))
 refine zA 2 (evs_op (st_len (c:=c_BendLine) (l:=f.Bends) (x:=(s_BendLine f.Bends)) (by kernel_rfl) (by kernel_rfl)) (z1 1 ⟨[(2,.fn 150 [(.vptr [(vI line_0_0),(vI line_0_1),(vI line_0_2),(vI line_0_3)] 0)]),(6,.ptr 6 0),(8,.ptr 8 0),(26,s_BendLine f.Bends),(27,vI (f.Bends.length : Int)),(28,vI 0)],[(6,.box [.nl,.nl,.nl,.nl]),(8,.box [(ro 700150 86),(ro 700350 86),(ro 700550 86),.nl]),(700150,w_Rect 86 r7),(700350,w_Rect 86 r8),(700550,w_Rect 86 r9)]⟩ ?_))
 refine zC ?_
 obtain ⟨x87,hx87,h⟩:=bindS h
 refine sem_loopS (fun (s62 : Int × (List BendLine))=>⟨[(2,.fn 150 [(.vptr [(vI line_0_0),(vI line_0_1),(vI line_0_2),(vI line_0_3)] 0)]),(6,.ptr 500000 0),(8,.ptr 500001 0),(26,s_BendLine f.Bends),(27,vI (f.Bends.length : Int)),(28,vI s62.1)],[(500000,.box [.nl,.nl,.nl,.nl]),(500001,.box [(ro 500002 86),(ro 500003 86),(ro 500004 86),(ro 500005 162)]),(500002,w_Rect 86 r7),(500003,w_Rect 86 r8),(500004,w_Rect 86 r9),(500005,w_BendLine 162 s62.2)]⟩) (fun (x87 : (List BendLine))=>(.exit 0,⟨[(6,.ptr 500000 0),(8,.ptr 500001 0)],[(500000,.box [.nl,.nl,.nl,.nl]),(500001,.box [(ro 500002 86),(ro 500003 86),(ro 500004 86),(ro 500005 162)]),(500002,w_Rect 86 r7),(500003,w_Rect 86 r8),(500004,w_Rect 86 r9),(500005,w_BendLine 162 x87)]⟩)) (flat_mapped__flat_settled_1__flat_settled_2_l1 f line_0_0 line_0_1 line_0_2 line_0_3) (0,[]) x87 (by kernel_rfl) (subR_prep [.row (.box 8 3) 800000 162 []] [(6,500000),(8,500001),(700150,500002),(700350,500003),(700550,500004),(800000,500005)] (by kernel_rfl) rfl rfl (by kernel_rfl)) hx87 ?_ ?_ ?_
 intro s62 r h
 refine z3 1 ⟨[(2,.fn 150 [(.vptr [(vI line_0_0),(vI line_0_1),(vI line_0_2),(vI line_0_3)] 0)]),(6,.ptr 500000 0),(8,.ptr 500001 0),(26,s_BendLine f.Bends),(27,vI (f.Bends.length : Int)),(28,vI s62.1),(29,vB (decide (s62.1 < (f.Bends.length : Int))))],[(500000,.box [.nl,.nl,.nl,.nl]),(500001,.box [(ro 500002 86),(ro 500003 86),(ro 500004 86),(ro 500005 162)]),(500002,w_Rect 86 r7),(500003,w_Rect 86 r8),(500004,w_Rect 86 r9),(500005,w_BendLine 162 s62.2)]⟩ (zB (zI (decide (s62.1 < (f.Bends.length : Int))) (fun hb=>?_) fun hb=>?_))
 replace h:=iteT hb h
 refine z4 ⟨[(2,.fn 150 [(.vptr [(vI line_0_0),(vI line_0_1),(vI line_0_2),(vI line_0_3)] 0)]),(6,.ptr 500000 0),(8,.ptr 500001 0),(26,s_BendLine f.Bends),(27,vI (f.Bends.length : Int)),(28,vI s62.1)],[(500000,.box [.nl,.nl,.nl,.nl]),(500001,.box [(ro 500002 86),(ro 500003 86),(ro 500004 86),(ro 500005 162)]),(500002,w_Rect 86 r7),(500003,w_Rect 86 r8),(500004,w_Rect 86 r9),(500005,w_BendLine 162 s62.2)]⟩ (zB (zC ?_))
 refine z7 ?_
 obtain ⟨x82,hx82,h⟩:=bindS h
 refine evs_op (st_idx (c:=c_BendLine) (l:=f.Bends) (i:=s62.1) (kd:=.i64) (sz:=8) (by kernel_rfl) hx82 rfl) (z1 3 ⟨[(2,.fn 150 [(.vptr [(vI line_0_0),(vI line_0_1),(vI line_0_2),(vI line_0_3)] 0)]),(6,.ptr 500000 0),(8,.ptr 500001 0),(10,.ptr 10 0),(26,s_BendLine f.Bends),(27,vI (f.Bends.length : Int)),(28,vI s62.1)],[(10,.box (c_BendLine x82)),(500000,.box [.nl,.nl,.nl,.nl]),(500001,.box [(ro 500002 86),(ro 500003 86),(ro 500004 86),(ro 500005 162)]),(500002,w_Rect 86 r7),(500003,w_Rect 86 r8),(500004,w_Rect 86 r9),(500005,w_BendLine 162 s62.2)]⟩ (z7 ?_))
 refine zA 3 ?_
 obtain ⟨r84,hr84,h⟩:=bindS h
 refine evs_callS [] [(0,700150)] [] (by kernel_rfl) (W.flat_settled_2_ok hr84) (by kernel_rfl) (by kernel_rfl) (.inl rfl) (z1 2 ⟨[(2,.fn 150 [(.vptr [(vI line_0_0),(vI line_0_1),(vI line_0_2),(vI line_0_3)] 0)]),(6,.ptr 500000 0),(8,.ptr 500001 0),(10,.ptr 10 0),(26,s_BendLine f.Bends),(27,vI (f.Bends.length : Int)),(28,vI s62.1)],[(10,.box [(vI x82.Flange),(vI x82.Parent),(vI r84.X1),(vI r84.Y1),(vI r84.X2),(vI r84.Y2),(vI x82.Angle),(vI x82.Deduct)]),(500000,.box [.nl,.nl,.nl,.nl]),(500001,.box [(ro 500002 86),(ro 500003 86),(ro 500004 86),(ro 500005 162)]),(500002,w_Rect 86 r7),(500003,w_Rect 86 r8),(500004,w_Rect 86 r9),(500005,w_BendLine 162 s62.2)]⟩ (zD ?_))
 refine zA 4 ?_
 obtain ⟨l86,hl86,h⟩:=bindS h
 refine evs_op (st_app (c:=c_BendLine) (l:=s62.2) (l2:=[(BendLine.mk x82.Flange x82.Parent r84 x82.Angle x82.Deduct)]) (x:=(s_BendLine [(BendLine.mk x82.Flange x82.Parent r84 x82.Angle x82.Deduct)])) (g:=500005) (e:=162) (sz:=8) (d:=41) (by kernel_rfl) (by kernel_rfl) (by kernel_rfl) (by kernel_rfl) (fun _=>rfl) rfl hl86) (z6 2 fun τ hτ=>?_)
 refine bl_normal (zE hτ ⟨[(2,.fn 150 [(.vptr [(vI line_0_0),(vI line_0_1),(vI line_0_2),(vI line_0_3)] 0)]),(6,.ptr 500000 0),(8,.ptr 500001 0),(26,s_BendLine f.Bends),(27,vI (f.Bends.length : Int)),(28,vI s62.1)],[(500000,.box [.nl,.nl,.nl,.nl]),(500001,.box [(ro 500002 86),(ro 500003 86),(ro 500004 86),(ro 500005 162)]),(500002,w_Rect 86 r7),(500003,w_Rect 86 r8),(500004,w_Rect 86 r9),(500005,w_BendLine 162 l86)]⟩ (zD ?_))
 refine z6 2 fun τ hτ=>?_
 obtain rfl:=osi h
 exact zH hτ
 replace h:=iteF hb h
 refine zL 0 fun τ hτ=>?_
 refine th_exit ?_
 obtain rfl:=osi h
 exact zF hτ
 intro x
 rfl
 intro τ hτ
 refine zQ (zE hτ ⟨[(6,.ptr 500000 0),(8,.ptr 500001 0)],[(500000,.box [.nl,.nl,.nl,.nl]),(500001,.box [(ro 500002 86),(ro 500003 86),(ro 500004 86),(ro 500005 162)]),(500002,w_Rect 86 r7),(500003,w_Rect 86 r8),(500004,w_Rect 86 r9),(500005,w_BendLine 162 x87)]⟩ (z8 2 ⟨[(6,.ptr 500000 0)],[(500000,.box [(ro 500002 86),(ro 500003 86),(ro 500004 86),(ro 500005 162)]),(500002,w_Rect 86 r7),(500003,w_Rect 86 r8),(500004,w_Rect 86 r9),(500005,w_BendLine 162 x87)]⟩ fun τ hτ=>?_))
 obtain rfl:=osi h
 exact rk_ret hτ [(6,.ptr 0 0)] (subR_prep [] [(500000,0),(500002,1),(500003,2),(500004,3),(500005,4)] (by kernel_rfl) rfl rfl (by kernel_rfl)) (by kernel_rfl)
theorem W.flat_settled_ok {f : Flat} {r : Flat × Int} (h : flat_settled f = some r) : PC G.P 128 [(.agg (c_Flat f))] [] (.tup [(.agg [(.row (.top 1) 86),(.row (.top 2) 86),(.row (.top 3) 86),(.row (.top 4) 162)]),(vI r.2)]) [(0,.box [(.row (.top 1) 86),(.row (.top 2) 86),(.row (.top 3) 86),(.row (.top 4) 162)]),(1,.row 86 [] (List.map c_Rect r.1.Rects)),(2,.row 86 [] (List.map c_Rect r.1.Cuts)),(3,.row 86 [] (List.map c_Rect r.1.Forms)),(4,.row 162 [] (List.map c_BendLine r.1.Bends))]:=by
 refine zU G Tryz.func128 (zK ⟨[(0,.agg (c_Flat f))],[]⟩ (z3 3 ⟨[(1,.ptr 1 0),(2,.ptr 2 0)],[(1,.box (c_Flat f)),(2,.box [.nl,.nl,.nl,.nl])]⟩ ?_))
 refine z7 (zA 2 ?_)
 obtain ⟨r2,hr2,h⟩:=bindS h
 refine evs_callS [] [(0,700100)] [] (by kernel_rfl) (W.flat_bounds_ok hr2) (by kernel_rfl) (by kernel_rfl) (.inl rfl) (z1 2 ⟨[(1,.ptr 1 0),(2,.ptr 2 0),(4,.ptr 4 0)],[(1,.box (c_Flat f)),(2,.box [.nl,.nl,.nl,.nl]),(4,.box (c_Rect r2.1))]⟩ (z7 ?_))
 refine zA 3 ?_
 obtain ⟨r4,hr4,h⟩:=bindS h
 refine evs_callS [] [(0,700150),(1,700151),(2,700152),(3,700153),(4,700154)] [4] (by kernel_rfl) (W.flat_mapped__flat_settled_1__flat_settled_2_ok hr4) (by kernel_rfl) (by kernel_rfl) (.inr ⟨rfl,fun _ _=>ind_cons rfl (fun _ _=>ind_cons (ind_row fun _=>rfl) (fun _ _=>ind_cons (ind_row fun _=>rfl) (fun _ _=>ind_cons (ind_row fun _=>rfl) (fun _ _=>ind_cons (ind_row fun _=>rfl) (fun _ _=>ind_nil)))))⟩) (z1 2 ⟨[(2,.ptr 2 0),(5,.ptr 5 0)],[(2,.box [.nl,.nl,.nl,.nl]),(5,.box [(ro 700151 86),(ro 700152 86),(ro 700153 86),(ro 700154 162)]),(700151,w_Rect 86 r4.Rects),(700152,w_Rect 86 r4.Cuts),(700153,w_Rect 86 r4.Forms),(700154,w_BendLine 162 r4.Bends)]⟩ (zB ?_))
 refine z7 (zA 1 ?_)
 obtain ⟨r8,hr8,h⟩:=bindS h
 refine evs_callP [700151,700152,700153,700154] (by kernel_rfl) (W.flat_check_ok hr8) (by kernel_rfl) (.inr rfl) (by kernel_rfl) (z1 1 ⟨[(2,.ptr 2 0),(5,.ptr 5 0),(15,vB (r8 != 0))],[(2,.box [.nl,.nl,.nl,.nl]),(5,.box [(ro 700151 86),(ro 700152 86),(ro 700153 86),(ro 700154 162)]),(700151,w_Rect 86 r4.Rects),(700152,w_Rect 86 r4.Cuts),(700153,w_Rect 86 r4.Forms),(700154,w_BendLine 162 r4.Bends)]⟩ (zI (r8 != 0) (fun hb=>?_) fun hb=>?_))
 replace h:=iteT hb h
 refine z8 3 ⟨[(2,.ptr 2 0),(3,vI 4)],[(2,.box [.nl,.nl,.nl,.nl])]⟩ fun τ hτ=>?_
 refine th_ret ?_
 obtain rfl:=osi h
 exact rk_ret hτ [(2,.ptr 0 0),(3,vI 4)] (subR_prep [.row (.box 2 0) 800000 86 [],.row (.box 2 1) 800001 86 [],.row (.box 2 2) 800002 86 [],.row (.box 2 3) 800003 162 []] [(2,0),(800000,1),(800001,2),(800002,3),(800003,4)] (by kernel_rfl) rfl rfl (by kernel_rfl)) (by kernel_rfl)
 replace h:=iteF hb h
 refine z4 ⟨[(2,.ptr 2 0),(5,.ptr 5 0)],[(2,.box [.nl,.nl,.nl,.nl]),(5,.box [(ro 700151 86),(ro 700152 86),(ro 700153 86),(ro 700154 162)]),(700151,w_Rect 86 r4.Rects),(700152,w_Rect 86 r4.Cuts),(700153,w_Rect 86 r4.Forms),(700154,w_BendLine 162 r4.Bends)]⟩ (z8 3 ⟨[(2,.ptr 2 0),(3,vI 0)],[(2,.box [(ro 700151 86),(ro 700152 86),(ro 700153 86),(ro 700154 162)]),(700151,w_Rect 86 r4.Rects),(700152,w_Rect 86 r4.Cuts),(700153,w_Rect 86 r4.Forms),(700154,w_BendLine 162 r4.Bends)]⟩ fun τ hτ=>?_)
 obtain rfl:=osi h
 exact rk_ret hτ [(2,.ptr 0 0),(3,vI 0)] (subR_prep [] [(2,0),(700151,1),(700152,2),(700153,3),(700154,4)] (by kernel_rfl) rfl rfl (by kernel_rfl)) (by kernel_rfl)
theorem W.flat_Quarter_ok {f : Flat} {turns : Int} {r : Flat × Int} (h : flat_Quarter f turns = some r) : PC G.P 99 [(.agg (c_Flat f)),(vI turns)] [] (.tup [(.agg [(.row (.top 1) 86),(.row (.top 2) 86),(.row (.top 3) 86),(.row (.top 4) 162)]),(vI r.2)]) [(0,.box [(.row (.top 1) 86),(.row (.top 2) 86),(.row (.top 3) 86),(.row (.top 4) 162)]),(1,.row 86 [] (List.map c_Rect r.1.Rects)),(2,.row 86 [] (List.map c_Rect r.1.Cuts)),(3,.row 86 [] (List.map c_Rect r.1.Forms)),(4,.row 162 [] (List.map c_BendLine r.1.Bends))]:=by
 refine zU G Tryz.func99 (zK ⟨[(0,.agg (c_Flat f)),(1,vI turns)],[]⟩ (z3 3 ⟨[(1,vI turns),(2,.ptr 2 0),(4,.ptr 4 0)],[(2,.box (c_Flat f)),(4,.box [.nl,.nl,.nl,.nl])]⟩ ?_))
 refine zB (z7 (zA 1 ?_))
 obtain ⟨r5,hr5,h⟩:=bindS h
 refine evs_callP [] (by kernel_rfl) (W.flat_check_ok hr5) (by kernel_rfl) (.inl rfl) (by kernel_rfl) (z1 1 ⟨[(1,vI turns),(2,.ptr 2 0),(4,.ptr 4 0),(6,vI r5)],[(2,.box (c_Flat f)),(4,.box [.nl,.nl,.nl,.nl])]⟩ (zB ?_))
 obtain ⟨j6,hj6,h⟩:=bindS h
 refine zT ⟨[(1,vI turns),(2,.ptr 500000 0),(4,.ptr 500001 0),(22,vB j6)],[(500000,.box (c_Flat f)),(500001,.box [.nl,.nl,.nl,.nl])]⟩ ?_ fun τ hτ=>?_
 replace h:=hj6
 refine zA 3 (zS (r5 != 0) (fun b0=>⟨[(1,vI turns),(2,.ptr 2 0),(4,.ptr 4 0),(15,vB b0)],[(2,.box (c_Flat f)),(4,.box [.nl,.nl,.nl,.nl])]⟩) (fun hb=>?_) fun hb=>?_)
 replace h:=iteT hb h
 refine z6 7 fun τ hτ=>?_
 obtain rfl:=osi h
 exact leafC hτ (subR_prep [] [(2,500000),(4,500001)] (by kernel_rfl) rfl rfl (by kernel_rfl))
 replace h:=iteF hb h
 refine zA 4 (zS (decide (turns < 0)) (fun b0=>⟨[(1,vI turns),(2,.ptr 2 0),(4,.ptr 4 0),(19,vB b0)],[(2,.box (c_Flat f)),(4,.box [.nl,.nl,.nl,.nl])]⟩) (fun hb=>?_) fun hb=>?_)
 replace h:=iteT hb h
 refine z6 3 fun τ hτ=>?_
 obtain rfl:=osi h
 exact leafC hτ (subR_prep [] [(2,500000),(4,500001)] (by kernel_rfl) rfl rfl (by kernel_rfl))
 replace h:=iteF hb h
 refine z6 3 fun τ hτ=>?_
 obtain rfl:=osi h
 exact leafC hτ (subR_prep [] [(2,500000),(4,500001)] (by kernel_rfl) rfl rfl (by kernel_rfl))
 refine zE hτ ⟨[(1,vI turns),(2,.ptr 500000 0),(4,.ptr 500001 0),(22,vB j6)],[(500000,.box (c_Flat f)),(500001,.box [.nl,.nl,.nl,.nl])]⟩ (zI j6 (fun hb=>?_) fun hb=>?_)
 replace h:=iteT hb h
 refine z8 3 ⟨[(4,.ptr 500001 0),(5,vI 1)],[(500001,.box [.nl,.nl,.nl,.nl])]⟩ fun τ hτ=>?_
 refine th_ret ?_
 obtain rfl:=osi h
 exact rk_ret hτ [(4,.ptr 0 0),(5,vI 1)] (subR_prep [.row (.box 500001 0) 800000 86 [],.row (.box 500001 1) 800001 86 [],.row (.box 500001 2) 800002 86 [],.row (.box 500001 3) 800003 162 []] [(500001,0),(800000,1),(800001,2),(800002,3),(800003,4)] (by kernel_rfl) rfl rfl (by kernel_rfl)) (by kernel_rfl)
 replace h:=iteF hb h
 refine z4 ⟨[(1,vI turns),(2,.ptr 500000 0),(4,.ptr 500001 0)],[(500000,.box (c_Flat f)),(500001,.box [.nl,.nl,.nl,.nl])]⟩ (z3 3 ⟨[(1,vI turns),(2,.ptr 500000 0),(4,.ptr 500001 0),(7,.ptr 7 0)],[(7,.box (c_Flat f)),(500000,.box (c_Flat f)),(500001,.box [.nl,.nl,.nl,.nl])]⟩ (zB ?_))
 refine z3 2 ⟨[(1,vI turns),(2,.ptr 500000 0),(4,.ptr 500001 0),(7,.ptr 7 0),(25,vI turns),(26,vI 0)],[(7,.box (c_Flat f)),(500000,.box (c_Flat f)),(500001,.box [.nl,.nl,.nl,.nl])]⟩ (zC ?_)
 obtain ⟨x36,hx36,h⟩:=bindS h
 refine sem_loopS (fun (s27 : Int × (List Rect) × (List Rect) × (List Rect) × (List BendLine))=>⟨[(1,vI turns),(2,.ptr 500000 0),(4,.ptr 500001 0),(7,.ptr 500002 0),(25,vI turns),(26,vI s27.1)],[(500000,.box (c_Flat f)),(500001,.box [.nl,.nl,.nl,.nl]),(500002,.box [(s_Rect s27.2.1),(s_Rect s27.2.2.1),(s_Rect s27.2.2.2.1),(s_BendLine s27.2.2.2.2)])]⟩) (fun (x36 : (List Rect) × (List Rect) × (List Rect) × (List BendLine))=>(.exit 0,⟨[(1,vI turns),(2,.ptr 500000 0),(4,.ptr 500001 0),(7,.ptr 500002 0)],[(500000,.box (c_Flat f)),(500001,.box [.nl,.nl,.nl,.nl]),(500002,.box [(s_Rect x36.1),(s_Rect x36.2.1),(s_Rect x36.2.2.1),(s_BendLine x36.2.2.2)])]⟩)) (flat_Quarter_l1 turns) (0,f.Rects,f.Cuts,f.Forms,f.Bends) x36 (by kernel_rfl) (subR_prep [] [(7,500002),(500000,500000),(500001,500001)] (by kernel_rfl) rfl rfl (by kernel_rfl)) hx36 ?_ ?_ ?_
 intro s27 r h
 refine z3 1 ⟨[(1,vI turns),(2,.ptr 500000 0),(4,.ptr 500001 0),(7,.ptr 500002 0),(25,vI turns),(26,vI s27.1),(27,vB (decide (s27.1 < turns)))],[(500000,.box (c_Flat f)),(500001,.box [.nl,.nl,.nl,.nl]),(500002,.box [(s_Rect s27.2.1),(s_Rect s27.2.2.1),(s_Rect s27.2.2.2.1),(s_BendLine s27.2.2.2.2)])]⟩ (zB (zI (decide (s27.1 < turns)) (fun hb=>?_) fun hb=>?_))
 replace h:=iteT hb h
 refine z4 ⟨[(1,vI turns),(2,.ptr 500000 0),(4,.ptr 500001 0),(7,.ptr 500002 0),(25,vI turns),(26,vI s27.1)],[(500000,.box (c_Flat f)),(500001,.box [.nl,.nl,.nl,.nl]),(500002,.box [(s_Rect s27.2.1),(s_Rect s27.2.2.1),(s_Rect s27.2.2.2.1),(s_BendLine s27.2.2.2.2)])]⟩ (zB (zC ?_))
 refine zD (zA 1 ?_)
 obtain ⟨r35,hr35,h⟩:=bindS h
 refine evs_callS [] [(0,700050),(1,700051),(2,700052),(3,700053),(4,700054)] [] (by kernel_rfl) (W.flat_quarter_ok hr35) (by kernel_rfl) (by kernel_rfl) (.inl rfl) (z6 1 fun τ hτ=>?_)
 refine bl_normal (zE hτ ⟨[(1,vI turns),(2,.ptr 500000 0),(4,.ptr 500001 0),(7,.ptr 500002 0),(25,vI turns),(26,vI s27.1)],[(500000,.box (c_Flat f)),(500001,.box [.nl,.nl,.nl,.nl]),(500002,.box [(ro 700051 86),(ro 700052 86),(ro 700053 86),(ro 700054 162)]),(700051,w_Rect 86 r35.Rects),(700052,w_Rect 86 r35.Cuts),(700053,w_Rect 86 r35.Forms),(700054,w_BendLine 162 r35.Bends)]⟩ (zD ?_))
 refine z6 2 fun τ hτ=>?_
 obtain rfl:=osi h
 exact lk_nextS hτ (subR_prep [.frz 700051,.frz 700052,.frz 700053,.frz 700054] [(500000,500000),(500001,500001),(500002,500002)] (by kernel_rfl) rfl rfl (by kernel_rfl))
 replace h:=iteF hb h
 refine zL 0 fun τ hτ=>?_
 refine th_exit ?_
 obtain rfl:=osi h
 exact zF hτ
 intro x
 rfl
 intro τ hτ
 refine zQ (zE hτ ⟨[(1,vI turns),(2,.ptr 500000 0),(4,.ptr 500001 0),(7,.ptr 500002 0)],[(500000,.box (c_Flat f)),(500001,.box [.nl,.nl,.nl,.nl]),(500002,.box [(s_Rect x36.1),(s_Rect x36.2.1),(s_Rect x36.2.2.1),(s_BendLine x36.2.2.2)])]⟩ (zB ?_))
 refine z7 (zA 2 (evs_op (st_len (c:=c_BendLine) (l:=f.Bends) (x:=(s_BendLine f.Bends)) (by kernel_rfl) (by kernel_rfl)) ?_))
 refine z1 1 ⟨[(1,vI turns),(4,.ptr 500001 0),(7,.ptr 500002 0),(32,s_BendLine f.Bends),(33,vI (f.Bends.length : Int)),(34,vI 0)],[(500001,.box [.nl,.nl,.nl,.nl]),(500002,.box [(s_Rect x36.1),(s_Rect x36.2.1),(s_Rect x36.2.2.1),(s_BendLine x36.2.2.2)])]⟩ (zC ?_)
 obtain ⟨x40,hx40,h⟩:=bindS h
 refine sem_loopS (fun (s39 : Unit)=>⟨[(1,vI turns),(4,.ptr 500000 0),(7,.ptr 500001 0),(32,s_BendLine f.Bends),(33,vI (f.Bends.length : Int)),(34,vI 0)],[(500000,.box [.nl,.nl,.nl,.nl]),(500001,.box [(s_Rect x36.1),(s_Rect x36.2.1),(s_Rect x36.2.2.1),(s_BendLine x36.2.2.2)])]⟩) (fun (x40 : Unit)=>(.exit 2,⟨[(4,.ptr 500000 0),(7,.ptr 500001 0)],[(500000,.box [.nl,.nl,.nl,.nl]),(500001,.box [(s_Rect x36.1),(s_Rect x36.2.1),(s_Rect x36.2.2.1),(s_BendLine x36.2.2.2)])]⟩)) (flat_Quarter_l2 f) () x40 (by kernel_rfl) (subR_prep [] [(500001,500000),(500002,500001)] (by kernel_rfl) rfl rfl (by kernel_rfl)) hx40 ?_ ?_ ?_
 intro s39 r h
 refine z3 1 ⟨[(1,vI turns),(4,.ptr 500000 0),(7,.ptr 500001 0),(32,s_BendLine f.Bends),(33,vI (f.Bends.length : Int)),(34,vI 0),(35,vB (decide (0 < (f.Bends.length : Int))))],[(500000,.box [.nl,.nl,.nl,.nl]),(500001,.box [(s_Rect x36.1),(s_Rect x36.2.1),(s_Rect x36.2.2.1),(s_BendLine x36.2.2.2)])]⟩ (zB (zI (decide (0 < (f.Bends.length : Int))) (fun hb=>?_) fun hb=>?_))
 replace h:=iteT hb h
 exact nomatch h
 replace h:=iteF hb h
 refine zL 2 fun τ hτ=>?_
 refine th_exit ?_
 obtain rfl:=osi h
 exact zF hτ
 intro x
 rfl
 intro τ hτ
 refine zQ (zE hτ ⟨[(4,.ptr 500000 0),(7,.ptr 500001 0)],[(500000,.box [.nl,.nl,.nl,.nl]),(500001,.box [(s_Rect x36.1),(s_Rect x36.2.1),(s_Rect x36.2.2.1),(s_BendLine x36.2.2.2)])]⟩ (z7 ?_))
 refine zA 1 ?_
 obtain ⟨r42,hr42,h⟩:=bindS h
 refine evs_callS [] [(0,700050),(1,700051),(2,700052),(3,700053),(4,700054)] [] (by kernel_rfl) (W.flat_settled_ok hr42) (by kernel_rfl) (by kernel_rfl) (.inl rfl) (z1 4 ⟨[(4,.ptr 500000 0),(5,vI r42.2)],[(500000,.box [(ro 700051 86),(ro 700052 86),(ro 700053 86),(ro 700054 162)]),(700051,w_Rect 86 r42.1.Rects),(700052,w_Rect 86 r42.1.Cuts),(700053,w_Rect 86 r42.1.Forms),(700054,w_BendLine 162 r42.1.Bends)]⟩ (zN fun τ hτ=>?_))
 obtain rfl:=osi h
 exact rk_ret hτ [(4,.ptr 0 0),(5,vI r42.2)] (subR_prep [] [(500000,0),(700051,1),(700052,2),(700053,3),(700054,4)] (by kernel_rfl) rfl rfl (by kernel_rfl)) (by kernel_rfl)
theorem W.nest_moved_ok {l : (List Rect)} {x1 : Int} {y : Int} {r : (List Rect)} (h : nest_moved l x1 y = some r) : PC G.P 87 [(.sl (List.map c_Rect l)),(vI x1),(vI y)] [] (.row (.top 0) 86) [(0,.row 86 [] (List.map c_Rect r))]:=by
 refine zU G Tryz.func87 (zK ⟨[(0,s_Rect l),(1,vI x1),(2,vI y)],[]⟩ (z3 1 ⟨[(0,s_Rect l),(1,vI x1),(2,vI y)],[]⟩ ?_))
 refine z7 (zA 1 (evs_op (st_len (c:=c_Rect) (l:=l) (x:=(s_Rect l)) (by kernel_rfl) (by kernel_rfl)) ?_))
 obtain ⟨l2,hl2,h⟩:=bindS h
 refine evs_op (st_mk (c:=c_Rect) (z:=(Rect.mk 0 0 0 0)) (n:=(l.length : Int)) (e:=86) (d:=11) (zs:=[(vI 0),(vI 0),(vI 0),(vI 0)]) (k1:=.i64) (k2:=.i64) (by kernel_rfl) rfl hl2) (z1 1 ⟨[(0,s_Rect l),(1,vI x1),(2,vI y),(7,ro 11 86)],[(11,w_Rect 86 l2)]⟩ (z7 ?_))
 refine zA 2 (evs_at (at_copy (c:=c_Rect) (l:=l2) (l2:=l) (d:=(ro 11 86)) (x:=(s_Rect l)) (e:=86) (sz:=4) (g:=11) (lo:=0) (n:=l2.length) (by kernel_rfl) (by kernel_rfl) (by kernel_rfl) (Nat.le_of_eq (Nat.zero_add _)) (by kernel_rfl) (by kernel_rfl) (fun _=>rfl)) (zP fun τ hτ=>?_))
 refine zE hτ ⟨[(1,vI x1),(2,vI y),(7,ro 11 86)],[(11,w_Rect 86 (cpy l2 (0) (List.take (min l.length (l2.length)) l)))]⟩ (zB (z7 ?_))
 refine zA 1 (evs_op (st_len (c:=c_Rect) (l:=(cpy l2 (0) (List.take (min l.length (l2.length)) l))) (x:=(ro 11 86)) (by kernel_rfl) (by kernel_rfl)) (z1 1 ⟨[(1,vI x1),(2,vI y),(7,ro 11 86),(16,vI ((cpy l2 (0) (List.take (min l.length (l2.length)) l)).length : Int)),(17,vI 0)],[(11,w_Rect 86 (cpy l2 (0) (List.take (min l.length (l2.length)) l)))]⟩ ?_))
 refine zC ?_
 obtain ⟨x104,hx104,h⟩:=bindS h
 refine sem_loopS (fun (s71 : Int × (List Rect))=>⟨[(1,vI x1),(2,vI y),(7,ro 500000 86),(16,vI ((cpy l2 (0) (List.take (min l.length (l2.length)) l)).length : Int)),(17,vI s71.1)],[(500000,w_Rect 86 s71.2)]⟩) (fun (x104 : (List Rect))=>(.exit 0,⟨[(7,ro 500000 86)],[(500000,w_Rect 86 x104)]⟩)) (nest_moved_l1 l x1 y l2) (0,cpy l2 (0) (List.take (min l.length (l2.length)) l)) x104 (by kernel_rfl) (subR_prep [] [(11,500000)] (by kernel_rfl) rfl rfl (by kernel_rfl)) hx104 ?_ ?_ ?_
 intro s71 r h
 refine z3 1 ⟨[(1,vI x1),(2,vI y),(7,ro 500000 86),(16,vI ((cpy l2 (0) (List.take (min l.length (l2.length)) l)).length : Int)),(17,vI s71.1),(18,vB (decide (s71.1 < ((cpy l2 (0) (List.take (min l.length (l2.length)) l)).length : Int))))],[(500000,w_Rect 86 s71.2)]⟩ (zB (zI (decide (s71.1 < ((cpy l2 (0) (List.take (min l.length (l2.length)) l)).length : Int))) (fun hb=>?_) fun hb=>?_))
 replace h:=iteT hb h
 refine z4 ⟨[(1,vI x1),(2,vI y),(7,ro 500000 86),(16,vI ((cpy l2 (0) (List.take (min l.length (l2.length)) l)).length : Int)),(17,vI s71.1)],[(500000,w_Rect 86 s71.2)]⟩ (zB (zC ?_))
 refine z3 2 ⟨[(1,vI x1),(2,vI y),(7,ro 500000 86),(8,vI s71.1),(16,vI ((cpy l2 (0) (List.take (min l.length (l2.length)) l)).length : Int)),(17,vI s71.1)],[(500000,w_Rect 86 s71.2)]⟩ (z7 (zA 2 ?_))
 obtain ⟨x98,hx98,h⟩:=bindS h
 refine evs_op (st_idxO (c:=c_Rect) (l:=s71.2) (i:=s71.1) (kd:=.i64) (kk:=(.top 500000)) (e:=86) (sz:=4) (by kernel_rfl) (by kernel_rfl) hx98 rfl) (zA 1 (evs_op (st_ldO (c:=c_Rect) (l:=s71.2) (i:=(Int.toNat s71.1)) (v:=(vI x98.X)) (agg:=false) (sz:=1) (kk:=(.top 500000)) (e:=86) (off:=0) (J:=[]) (by kernel_rfl) (by kernel_rfl) (by kernel_rfl) ((idxS hx98).2) (by kernel_rfl)) ?_))
 refine zA 2 ?_
 obtain ⟨x99,hx99,h⟩:=bindS h
 refine evs_op (st_idxO (c:=c_Rect) (l:=s71.2) (i:=s71.1) (kd:=.i64) (kk:=(.top 500000)) (e:=86) (sz:=4) (by kernel_rfl) (by kernel_rfl) hx99 rfl) (zA 1 (evs_op (st_stO (c:=c_Rect) (l:=s71.2) (i:=(Int.toNat s71.1)) (x:=x99) (x':=(Rect.mk (iadd x98.X x1) x99.Y x99.W x99.H)) (v:=(vI (iadd x98.X x1))) (agg:=false) (sz:=1) (kk:=(.top 500000)) (e:=86) (off:=0) (J:=[]) (o:=w_Rect 86 (List.set s71.2 (Int.toNat s71.1) (Rect.mk (iadd x98.X x1) x99.Y x99.W x99.H))) (by kernel_rfl) (by kernel_rfl) (by kernel_rfl) ((idxS hx99).2) (by kernel_rfl) (by kernel_rfl) (by kernel_rfl)) ?_))
 refine zP fun τ hτ=>?_
 refine zE hτ ⟨[(1,vI x1),(2,vI y),(7,ro 500000 86),(8,vI s71.1),(16,vI ((cpy l2 (0) (List.take (min l.length (l2.length)) l)).length : Int)),(17,vI s71.1)],[(500000,w_Rect 86 (List.set s71.2 (Int.toNat s71.1) (Rect.mk (iadd x98.X x1) x99.Y x99.W x99.H)))]⟩ (zD (zA 2 ?_))
 obtain ⟨x102,hx102,h⟩:=bindS h
 refine evs_op (st_idxO (c:=c_Rect) (l:=(List.set s71.2 (Int.toNat s71.1) (Rect.mk (iadd x98.X x1) x99.Y x99.W x99.H))) (i:=s71.1) (kd:=.i64) (kk:=(.top 500000)) (e:=86) (sz:=4) (by kernel_rfl) (by kernel_rfl) hx102 rfl) (zA 1 (evs_op (st_ldO (c:=c_Rect) (l:=(List.set s71.2 (Int.toNat s71.1) (Rect.mk (iadd x98.X x1) x99.Y x99.W x99.H))) (i:=(Int.toNat s71.1)) (v:=(vI x102.Y)) (agg:=false) (sz:=1) (kk:=(.top 500000)) (e:=86) (off:=1) (J:=[]) (by kernel_rfl) (by kernel_rfl) (by kernel_rfl) ((idxS hx102).2) (by kernel_rfl)) ?_))
 refine zA 2 ?_
 obtain ⟨x103,hx103,h⟩:=bindS h
 refine evs_op (st_idxO (c:=c_Rect) (l:=(List.set s71.2 (Int.toNat s71.1) (Rect.mk (iadd x98.X x1) x99.Y x99.W x99.H))) (i:=s71.1) (kd:=.i64) (kk:=(.top 500000)) (e:=86) (sz:=4) (by kernel_rfl) (by kernel_rfl) hx103 rfl) (zA 1 (evs_op (st_stO (c:=c_Rect) (l:=(List.set s71.2 (Int.toNat s71.1) (Rect.mk (iadd x98.X x1) x99.Y x99.W x99.H))) (i:=(Int.toNat s71.1)) (x:=x103) (x':=(Rect.mk x103.X (iadd x102.Y y) x103.W x103.H)) (v:=(vI (iadd x102.Y y))) (agg:=false) (sz:=1) (kk:=(.top 500000)) (e:=86) (off:=1) (J:=[]) (o:=w_Rect 86 (List.set (List.set s71.2 (Int.toNat s71.1) (Rect.mk (iadd x98.X x1) x99.Y x99.W x99.H)) (Int.toNat s71.1) (Rect.mk x103.X (iadd x102.Y y) x103.W x103.H))) (by kernel_rfl) (by kernel_rfl) (by kernel_rfl) ((idxS hx103).2) (by kernel_rfl) (by kernel_rfl) (by kernel_rfl)) ?_))
 refine zP fun τ hτ=>?_
 refine bl_normal (zE hτ ⟨[(1,vI x1),(2,vI y),(7,ro 500000 86),(16,vI ((cpy l2 (0) (List.take (min l.length (l2.length)) l)).length : Int)),(17,vI s71.1)],[(500000,w_Rect 86 (List.set (List.set s71.2 (Int.toNat s71.1) (Rect.mk (iadd x98.X x1) x99.Y x99.W x99.H)) (Int.toNat s71.1) (Rect.mk x103.X (iadd x102.Y y) x103.W x103.H)))]⟩ (zD ?_))
 refine z6 2 fun τ hτ=>?_
 obtain rfl:=osi h
 exact zH hτ
 replace h:=iteF hb h
 refine zL 0 fun τ hτ=>?_
 refine th_exit ?_
 obtain rfl:=osi h
 exact zF hτ
 intro x
 rfl
 intro τ hτ
 refine zQ (zE hτ ⟨[(7,ro 500000 86)],[(500000,w_Rect 86 x104)]⟩ (z8 2 ⟨[(6,ro 500000 86)],[(500000,w_Rect 86 x104)]⟩ fun τ hτ=>?_))
 obtain rfl:=osi h
 exact rk_ret hτ [(6,ro 0 86)] (subR_prep [] [(500000,0)] (by kernel_rfl) rfl rfl (by kernel_rfl)) (by kernel_rfl)
theorem W.nest_put_ok {x0 : Piece} {at1 : Placement} {r : Piece × Int × ByteArray × ByteArray × Int × Int} (h : nest_put x0 at1 = some r) : PC G.P 68 [(.agg (c_Piece x0)),(.agg (c_Placement at1))] [] (.tup [(.agg [(vS r.1.Name),(vS r.1.Material),(vI r.1.Gauge),(vI r.1.Grain),(.row (.top 1) 86),(.row (.top 2) 86),(.row (.top 3) 86)]),(vI r.2.1)]) [(0,.box [(vS r.2.2.1),(vS r.2.2.2.1),(vI r.2.2.2.2.1),(vI r.2.2.2.2.2),(.row (.top 1) 86),(.row (.top 2) 86),(.row (.top 3) 86)]),(1,.row 86 [] (List.map c_Rect r.1.Rects)),(2,.row 86 [] (List.map c_Rect r.1.Cuts)),(3,.row 86 [] (List.map c_Rect r.1.Forms))]:=by
 refine zU G Tryz.func68 (zK ⟨[(0,.agg (c_Piece x0)),(1,.agg (c_Placement at1))],[]⟩ (z3 4 ⟨[(2,.ptr 2 0),(3,.ptr 3 0),(4,.ptr 4 0)],[(2,.box (c_Piece x0)),(3,.box (c_Placement at1)),(4,.box [(vS ByteArray.empty),(vS ByteArray.empty),(vI 0),(vI 0),.nl,.nl,.nl])]⟩ ?_))
 refine z7 (zA 9 ?_)
 obtain ⟨r2,hr2,h⟩:=bindS h
 refine evs_callS [] [(0,700450),(1,700451),(2,700452),(3,700453),(4,700454)] [] (by kernel_rfl) (W.flat_Quarter_ok hr2) (by kernel_rfl) (by kernel_rfl) (.inl rfl) (z1 6 ⟨[(2,.ptr 2 0),(3,.ptr 3 0),(4,.ptr 4 0),(6,.ptr 6 0),(7,vI r2.2)],[(2,.box (c_Piece x0)),(3,.box (c_Placement at1)),(4,.box [(vS ByteArray.empty),(vS ByteArray.empty),(vI 0),(vI 0),.nl,.nl,.nl]),(6,.box [(ro 700451 86),(ro 700452 86),(ro 700453 86),(ro 700454 162)]),(700451,w_Rect 86 r2.1.Rects),(700452,w_Rect 86 r2.1.Cuts),(700453,w_Rect 86 r2.1.Forms),(700454,w_BendLine 162 r2.1.Bends)]⟩ (zB ?_))
 refine z3 2 ⟨[(2,.ptr 2 0),(3,.ptr 3 0),(4,.ptr 4 0),(6,.ptr 6 0),(23,vB (r2.2 != 0))],[(2,.box (c_Piece x0)),(3,.box (c_Placement at1)),(4,.box [(vS ByteArray.empty),(vS ByteArray.empty),(vI 0),(vI 0),.nl,.nl,.nl]),(6,.box [(ro 700451 86),(ro 700452 86),(ro 700453 86),(ro 700454 162)]),(700451,w_Rect 86 r2.1.Rects),(700452,w_Rect 86 r2.1.Cuts),(700453,w_Rect 86 r2.1.Forms),(700454,w_BendLine 162 r2.1.Bends)]⟩ (zI (r2.2 != 0) (fun hb=>?_) fun hb=>?_)
 replace h:=iteT hb h
 refine z8 3 ⟨[(4,.ptr 4 0),(5,vI 4)],[(4,.box [(vS ByteArray.empty),(vS ByteArray.empty),(vI 0),(vI 0),.nl,.nl,.nl])]⟩ fun τ hτ=>?_
 refine th_ret ?_
 obtain rfl:=osi h
 exact rk_ret hτ [(4,.ptr 0 0),(5,vI 4)] (subR_prep [.row (.box 4 4) 800000 86 [],.row (.box 4 5) 800001 86 [],.row (.box 4 6) 800002 86 []] [(4,0),(800000,1),(800001,2),(800002,3)] (by kernel_rfl) rfl rfl (by kernel_rfl)) (by kernel_rfl)
 replace h:=iteF hb h
 refine z4 ⟨[(2,.ptr 2 0),(3,.ptr 3 0),(4,.ptr 4 0),(6,.ptr 6 0)],[(2,.box (c_Piece x0)),(3,.box (c_Placement at1)),(4,.box [(vS ByteArray.empty),(vS ByteArray.empty),(vI 0),(vI 0),.nl,.nl,.nl]),(6,.box [(ro 700451 86),(ro 700452 86),(ro 700453 86),(ro 700454 162)]),(700451,w_Rect 86 r2.1.Rects),(700452,w_Rect 86 r2.1.Cuts),(700453,w_Rect 86 r2.1.Forms),(700454,w_BendLine 162 r2.1.Bends)]⟩ (z3 3 ⟨[(3,.ptr 3 0),(4,.ptr 4 0),(6,.ptr 6 0),(8,.ptr 8 0)],[(3,.box (c_Placement at1)),(4,.box [(vS ByteArray.empty),(vS ByteArray.empty),(vI 0),(vI 0),.nl,.nl,.nl]),(6,.box [(ro 700451 86),(ro 700452 86),(ro 700453 86),(ro 700454 162)]),(8,.box (c_Piece x0)),(700451,w_Rect 86 r2.1.Rects),(700452,w_Rect 86 r2.1.Cuts),(700453,w_Rect 86 r2.1.Forms),(700454,w_BendLine 162 r2.1.Bends)]⟩ (zB ?_))
 refine sem_draw [(6,[700300]),(13,[700650]),(20,[701000])] [(6,[700300]),(13,[700650]),(20,[701000])] [(6,[700451]),(13,[700452]),(20,[700453])] [(7,[700300]),(8,[700300]),(9,[700300]),(10,[700300]),(11,[700300]),(12,[700300]),(14,[700300,700650]),(15,[700300,700650]),(16,[700300,700650]),(17,[700300,700650]),(18,[700300,700650]),(19,[700300,700650]),(21,[700650,701000])] [(0,[700300,700650,701000]),(1,[700300,700650,701000]),(2,[700300,700650,701000]),(3,[700300,700650,701000]),(4,[700300,700650,701000]),(5,[700300,700650,701000]),(6,[700650,701000]),(7,[700300,700650,701000]),(8,[700300,700650,701000]),(9,[700300,700650,701000]),(10,[700300,700650,701000]),(11,[700300,700650,701000]),(12,[700300,700650,701000]),(13,[701000]),(14,[700300,700650,701000]),(15,[700300,700650,701000]),(16,[700300,700650,701000]),(17,[700300,700650,701000]),(18,[700300,700650,701000]),(19,[700300,700650,701000]),(21,[700650,701000])] 22 (by kernel_rfl) (by kernel_rfl) [700300,700650,701000] (by kernel_rfl) (by kernel_rfl) (evd_run 6 (by kernel_rfl) ?_)
 obtain ⟨r9,hr9,h⟩:=bindS h
 refine evd_callS [(0,700300)] [700451] (by kernel_rfl) (by kernel_rfl) (W.nest_moved_ok hr9) (by kernel_rfl) (.inr ⟨rfl,fun _ _=>ind_cons (ind_row fun _=>rfl) (fun _ _=>ind_nil)⟩) (by kernel_rfl) (by kernel_rfl) (evd_run 6 (by kernel_rfl) ?_)
 obtain ⟨r10,hr10,h⟩:=bindS h
 refine evd_callS [(0,700650)] [700452] (by kernel_rfl) (by kernel_rfl) (W.nest_moved_ok hr10) (by kernel_rfl) (.inr ⟨rfl,fun _ _=>ind_cons (ind_row fun _=>rfl) (fun _ _=>ind_nil)⟩) (by kernel_rfl) (by kernel_rfl) (evd_run 6 (by kernel_rfl) ?_)
 obtain ⟨r11,hr11,h⟩:=bindS h
 refine evd_callS [(0,701000)] [700453] (by kernel_rfl) (by kernel_rfl) (W.nest_moved_ok hr11) (by kernel_rfl) (.inr ⟨rfl,fun _ _=>ind_cons (ind_row fun _=>rfl) (fun _ _=>ind_nil)⟩) (by kernel_rfl) (by kernel_rfl) (evd_run 1 (by kernel_rfl) (evd_end (by kernel_rfl) ?_))
 refine evo_run 5 (by kernel_rfl) (zO fun τ hτ=>?_)
 refine zE hτ ⟨[(4,.ptr 4 0),(8,.ptr 8 0)],[(4,.box [(vS ByteArray.empty),(vS ByteArray.empty),(vI 0),(vI 0),.nl,.nl,.nl]),(8,.box [(vS x0.Name),(vS x0.Material),(vI x0.Gauge),(vI x0.Grain),(ro 700300 86),(ro 700650 86),(ro 701000 86)]),(700300,w_Rect 86 r9),(700650,w_Rect 86 r10),(701000,w_Rect 86 r11)]⟩ (zB (zB ?_))
 obtain ⟨j22,hj22,h⟩:=bindS h
 refine zT ⟨[(4,.ptr 500000 0),(8,.ptr 500001 0),(65,vB j22)],[(500000,.box [(vS ByteArray.empty),(vS ByteArray.empty),(vI 0),(vI 0),.nl,.nl,.nl]),(500001,.box [(vS x0.Name),(vS x0.Material),(vI x0.Gauge),(vI x0.Grain),(ro 500002 86),(ro 500003 86),(ro 500004 86)]),(500002,w_Rect 86 r9),(500003,w_Rect 86 r10),(500004,w_Rect 86 r11)]⟩ ?_ fun τ hτ=>?_
 replace h:=hj22
 refine zA 2 ?_
 obtain ⟨r23,hr23,h⟩:=bindS h
 refine evs_callP [700300] (by kernel_rfl) (W.nest_valid_ok hr23) (by kernel_rfl) (.inr rfl) (by kernel_rfl) (zA 2 (zS r23 (fun b0=>⟨[(4,.ptr 4 0),(8,.ptr 8 0),(54,vB (!b0))],[(4,.box [(vS ByteArray.empty),(vS ByteArray.empty),(vI 0),(vI 0),.nl,.nl,.nl]),(8,.box [(vS x0.Name),(vS x0.Material),(vI x0.Gauge),(vI x0.Grain),(ro 700300 86),(ro 700650 86),(ro 701000 86)]),(700300,w_Rect 86 r9),(700650,w_Rect 86 r10),(701000,w_Rect 86 r11)]⟩) (fun hb=>?_) fun hb=>?_))
 replace h:=iteT hb h
 refine zA 2 ?_
 obtain ⟨r24,hr24,h⟩:=bindS h
 refine evs_callP [700650] (by kernel_rfl) (W.nest_valid_ok hr24) (by kernel_rfl) (.inr rfl) (by kernel_rfl) (zA 3 (zS r24 (fun b0=>⟨[(4,.ptr 4 0),(8,.ptr 8 0),(60,vB (!b0))],[(4,.box [(vS ByteArray.empty),(vS ByteArray.empty),(vI 0),(vI 0),.nl,.nl,.nl]),(8,.box [(vS x0.Name),(vS x0.Material),(vI x0.Gauge),(vI x0.Grain),(ro 700300 86),(ro 700650 86),(ro 701000 86)]),(700300,w_Rect 86 r9),(700650,w_Rect 86 r10),(701000,w_Rect 86 r11)]⟩) (fun hb=>?_) fun hb=>?_))
 replace h:=iteT hb h
 refine zA 2 ?_
 obtain ⟨r25,hr25,h⟩:=bindS h
 refine evs_callP [701000] (by kernel_rfl) (W.nest_valid_ok hr25) (by kernel_rfl) (.inr rfl) (by kernel_rfl) (z6 2 fun τ hτ=>?_)
 obtain rfl:=osi h
 exact leafC hτ (subR_prep [] [(4,500000),(8,500001),(700300,500002),(700650,500003),(701000,500004)] (by kernel_rfl) rfl rfl (by kernel_rfl))
 replace h:=iteF hb h
 refine z6 5 fun τ hτ=>?_
 obtain rfl:=osi h
 exact leafC hτ (subR_prep [] [(4,500000),(8,500001),(700300,500002),(700650,500003),(701000,500004)] (by kernel_rfl) rfl rfl (by kernel_rfl))
 replace h:=iteF hb h
 refine z6 11 fun τ hτ=>?_
 obtain rfl:=osi h
 exact leafC hτ (subR_prep [] [(4,500000),(8,500001),(700300,500002),(700650,500003),(701000,500004)] (by kernel_rfl) rfl rfl (by kernel_rfl))
 refine zE hτ ⟨[(4,.ptr 500000 0),(8,.ptr 500001 0),(65,vB j22)],[(500000,.box [(vS ByteArray.empty),(vS ByteArray.empty),(vI 0),(vI 0),.nl,.nl,.nl]),(500001,.box [(vS x0.Name),(vS x0.Material),(vI x0.Gauge),(vI x0.Grain),(ro 500002 86),(ro 500003 86),(ro 500004 86)]),(500002,w_Rect 86 r9),(500003,w_Rect 86 r10),(500004,w_Rect 86 r11)]⟩ (zI j22 (fun hb=>?_) fun hb=>?_)
 replace h:=iteT hb h
 refine z8 3 ⟨[(4,.ptr 500000 0),(5,vI 4)],[(500000,.box [(vS ByteArray.empty),(vS ByteArray.empty),(vI 0),(vI 0),.nl,.nl,.nl])]⟩ fun τ hτ=>?_
 refine th_ret ?_
 obtain rfl:=osi h
 exact rk_ret hτ [(4,.ptr 0 0),(5,vI 4)] (subR_prep [.row (.box 500000 4) 800000 86 [],.row (.box 500000 5) 800001 86 [],.row (.box 500000 6) 800002 86 []] [(500000,0),(800000,1),(800001,2),(800002,3)] (by kernel_rfl) rfl rfl (by kernel_rfl)) (by kernel_rfl)
 replace h:=iteF hb h
 refine z4 ⟨[(4,.ptr 500000 0),(8,.ptr 500001 0)],[(500000,.box [(vS ByteArray.empty),(vS ByteArray.empty),(vI 0),(vI 0),.nl,.nl,.nl]),(500001,.box [(vS x0.Name),(vS x0.Material),(vI x0.Gauge),(vI x0.Grain),(ro 500002 86),(ro 500003 86),(ro 500004 86)]),(500002,w_Rect 86 r9),(500003,w_Rect 86 r10),(500004,w_Rect 86 r11)]⟩ (z8 3 ⟨[(4,.ptr 500000 0),(5,vI 0)],[(500000,.box [(vS x0.Name),(vS x0.Material),(vI x0.Gauge),(vI x0.Grain),(ro 500002 86),(ro 500003 86),(ro 500004 86)]),(500002,w_Rect 86 r9),(500003,w_Rect 86 r10),(500004,w_Rect 86 r11)]⟩ fun τ hτ=>?_)
 obtain rfl:=osi h
 exact rk_ret hτ [(4,.ptr 0 0),(5,vI 0)] (subR_prep [] [(500000,0),(500002,1),(500003,2),(500004,3)] (by kernel_rfl) rfl rfl (by kernel_rfl)) (by kernel_rfl)
theorem W.nest_Put_ok {x0 : Piece} {at1 : Placement} {r : Piece × Int × ByteArray × ByteArray × Int × Int} (h : nest_Put x0 at1 = some r) : PC G.P 28 [(.agg (c_Piece x0)),(.agg (c_Placement at1))] [] (.tup [(.agg [(vS r.1.Name),(vS r.1.Material),(vI r.1.Gauge),(vI r.1.Grain),(.row (.top 1) 86),(.row (.top 2) 86),(.row (.top 3) 86)]),(vI r.2.1)]) [(0,.box [(vS r.2.2.1),(vS r.2.2.2.1),(vI r.2.2.2.2.1),(vI r.2.2.2.2.2),(.row (.top 1) 86),(.row (.top 2) 86),(.row (.top 3) 86)]),(1,.row 86 [] (List.map c_Rect r.1.Rects)),(2,.row 86 [] (List.map c_Rect r.1.Cuts)),(3,.row 86 [] (List.map c_Rect r.1.Forms))]:=by
 refine zU G Tryz.func28 (zK ⟨[(0,.agg (c_Piece x0)),(1,.agg (c_Placement at1))],[]⟩ (z3 4 ⟨[(2,.ptr 2 0),(3,.ptr 3 0),(4,.ptr 4 0)],[(2,.box (c_Piece x0)),(3,.box (c_Placement at1)),(4,.box [(vS ByteArray.empty),(vS ByteArray.empty),(vI 0),(vI 0),.nl,.nl,.nl])]⟩ ?_))
 refine zB (z7 (zA 1 ?_))
 obtain ⟨r4,hr4,h⟩:=bindS h
 refine evs_callP [] (by kernel_rfl) (W.nest_ValidatePiece_ok hr4) (by kernel_rfl) (.inl rfl) (by kernel_rfl) (z1 1 ⟨[(2,.ptr 2 0),(3,.ptr 3 0),(4,.ptr 4 0),(6,vI r4)],[(2,.box (c_Piece x0)),(3,.box (c_Placement at1)),(4,.box [(vS ByteArray.empty),(vS ByteArray.empty),(vI 0),(vI 0),.nl,.nl,.nl])]⟩ (z3 2 ⟨[(2,.ptr 2 0),(3,.ptr 3 0),(4,.ptr 4 0),(6,vI r4),(10,vB (r4 != 0))],[(2,.box (c_Piece x0)),(3,.box (c_Placement at1)),(4,.box [(vS ByteArray.empty),(vS ByteArray.empty),(vI 0),(vI 0),.nl,.nl,.nl])]⟩ ?_))
 refine zI (r4 != 0) (fun hb=>?_) fun hb=>?_
 replace h:=iteT hb h
 refine z8 4 ⟨[(4,.ptr 4 0),(5,vI r4)],[(4,.box [(vS ByteArray.empty),(vS ByteArray.empty),(vI 0),(vI 0),.nl,.nl,.nl])]⟩ fun τ hτ=>?_
 refine th_ret ?_
 obtain rfl:=osi h
 exact rk_ret hτ [(4,.ptr 0 0),(5,vI r4)] (subR_prep [.row (.box 4 4) 800000 86 [],.row (.box 4 5) 800001 86 [],.row (.box 4 6) 800002 86 []] [(4,0),(800000,1),(800001,2),(800002,3)] (by kernel_rfl) rfl rfl (by kernel_rfl)) (by kernel_rfl)
 replace h:=iteF hb h
 refine z4 ⟨[(2,.ptr 2 0),(3,.ptr 3 0),(4,.ptr 4 0)],[(2,.box (c_Piece x0)),(3,.box (c_Placement at1)),(4,.box [(vS ByteArray.empty),(vS ByteArray.empty),(vI 0),(vI 0),.nl,.nl,.nl])]⟩ (zB (z7 ?_))
 refine zA 2 ?_
 obtain ⟨r8,hr8,h⟩:=bindS h
 refine evs_callP [] (by kernel_rfl) (W.nest_from_ok hr8) (by kernel_rfl) (.inl rfl) (by kernel_rfl) (z1 1 ⟨[(2,.ptr 2 0),(3,.ptr 3 0),(4,.ptr 4 0),(16,vB (!r8))],[(2,.box (c_Piece x0)),(3,.box (c_Placement at1)),(4,.box [(vS ByteArray.empty),(vS ByteArray.empty),(vI 0),(vI 0),.nl,.nl,.nl])]⟩ (zI (!r8) (fun hb=>?_) fun hb=>?_))
 replace h:=iteT hb h
 refine z8 3 ⟨[(4,.ptr 4 0),(5,vI 1)],[(4,.box [(vS ByteArray.empty),(vS ByteArray.empty),(vI 0),(vI 0),.nl,.nl,.nl])]⟩ fun τ hτ=>?_
 refine th_ret ?_
 obtain rfl:=osi h
 exact rk_ret hτ [(4,.ptr 0 0),(5,vI 1)] (subR_prep [.row (.box 4 4) 800000 86 [],.row (.box 4 5) 800001 86 [],.row (.box 4 6) 800002 86 []] [(4,0),(800000,1),(800001,2),(800002,3)] (by kernel_rfl) rfl rfl (by kernel_rfl)) (by kernel_rfl)
 replace h:=iteF hb h
 refine z4 ⟨[(2,.ptr 2 0),(3,.ptr 3 0),(4,.ptr 4 0)],[(2,.box (c_Piece x0)),(3,.box (c_Placement at1)),(4,.box [(vS ByteArray.empty),(vS ByteArray.empty),(vI 0),(vI 0),.nl,.nl,.nl])]⟩ (zB (zB ?_))
 obtain ⟨j16,hj16,h⟩:=bindS h
 refine zT ⟨[(2,.ptr 500000 0),(3,.ptr 500001 0),(4,.ptr 500002 0),(27,vB j16)],[(500000,.box (c_Piece x0)),(500001,.box (c_Placement at1)),(500002,.box [(vS ByteArray.empty),(vS ByteArray.empty),(vI 0),(vI 0),.nl,.nl,.nl])]⟩ ?_ fun τ hτ=>?_
 replace h:=hj16
 refine zA 2 ?_
 obtain ⟨r17,hr17,h⟩:=bindS h
 refine evs_callP [] (by kernel_rfl) (W.nest_from_ok hr17) (by kernel_rfl) (.inl rfl) (by kernel_rfl) (zA 2 (zS r17 (fun b0=>⟨[(2,.ptr 2 0),(3,.ptr 3 0),(4,.ptr 4 0),(22,vB (!b0))],[(2,.box (c_Piece x0)),(3,.box (c_Placement at1)),(4,.box [(vS ByteArray.empty),(vS ByteArray.empty),(vI 0),(vI 0),.nl,.nl,.nl])]⟩) (fun hb=>?_) fun hb=>?_))
 replace h:=iteT hb h
 refine zA 2 ?_
 obtain ⟨r18,hr18,h⟩:=bindS h
 refine evs_callP [] (by kernel_rfl) (W.nest_from_ok hr18) (by kernel_rfl) (.inl rfl) (by kernel_rfl) (z6 2 fun τ hτ=>?_)
 obtain rfl:=osi h
 exact leafC hτ (subR_prep [] [(2,500000),(3,500001),(4,500002)] (by kernel_rfl) rfl rfl (by kernel_rfl))
 replace h:=iteF hb h
 refine z6 5 fun τ hτ=>?_
 obtain rfl:=osi h
 exact leafC hτ (subR_prep [] [(2,500000),(3,500001),(4,500002)] (by kernel_rfl) rfl rfl (by kernel_rfl))
 refine zE hτ ⟨[(2,.ptr 500000 0),(3,.ptr 500001 0),(4,.ptr 500002 0),(27,vB j16)],[(500000,.box (c_Piece x0)),(500001,.box (c_Placement at1)),(500002,.box [(vS ByteArray.empty),(vS ByteArray.empty),(vI 0),(vI 0),.nl,.nl,.nl])]⟩ (zI j16 (fun hb=>?_) fun hb=>?_)
 replace h:=iteT hb h
 refine z8 3 ⟨[(4,.ptr 500002 0),(5,vI 4)],[(500002,.box [(vS ByteArray.empty),(vS ByteArray.empty),(vI 0),(vI 0),.nl,.nl,.nl])]⟩ fun τ hτ=>?_
 refine th_ret ?_
 obtain rfl:=osi h
 exact rk_ret hτ [(4,.ptr 0 0),(5,vI 4)] (subR_prep [.row (.box 500002 4) 800000 86 [],.row (.box 500002 5) 800001 86 [],.row (.box 500002 6) 800002 86 []] [(500002,0),(800000,1),(800001,2),(800002,3)] (by kernel_rfl) rfl rfl (by kernel_rfl)) (by kernel_rfl)
 replace h:=iteF hb h
 refine z4 ⟨[(2,.ptr 500000 0),(3,.ptr 500001 0),(4,.ptr 500002 0)],[(500000,.box (c_Piece x0)),(500001,.box (c_Placement at1)),(500002,.box [(vS ByteArray.empty),(vS ByteArray.empty),(vI 0),(vI 0),.nl,.nl,.nl])]⟩ (z7 (zA 2 ?_))
 obtain ⟨r20,hr20,h⟩:=bindS h
 refine evs_callS [] [(0,700100),(1,700101),(2,700102),(3,700103)] [] (by kernel_rfl) (W.nest_put_ok hr20) (by kernel_rfl) (by kernel_rfl) (.inl rfl) (z1 4 ⟨[(4,.ptr 500002 0),(5,vI r20.2.1)],[(500002,.box [(vS r20.1.Name),(vS r20.1.Material),(vI r20.1.Gauge),(vI r20.1.Grain),(ro 700101 86),(ro 700102 86),(ro 700103 86)]),(700101,w_Rect 86 r20.1.Rects),(700102,w_Rect 86 r20.1.Cuts),(700103,w_Rect 86 r20.1.Forms)]⟩ (zN fun τ hτ=>?_))
 obtain rfl:=osi h
 exact rk_ret hτ [(4,.ptr 0 0),(5,vI r20.2.1)] (subR_prep [] [(500002,0),(700101,1),(700102,2),(700103,3)] (by kernel_rfl) rfl rfl (by kernel_rfl)) (by kernel_rfl)
theorem W.sheetmetalref06_Shift_ok {l : (List Rect)} {x1 : Int} {y : Int} {r : (List Rect)} (h : sheetmetalref06_Shift l x1 y = some r) : PC G.P 104 [(.sl (List.map c_Rect l)),(vI x1),(vI y)] [] (.row (.top 0) 86) [(0,.row 86 [] (List.map c_Rect r))]:=by
 refine zU G Tryz.func104 (zK ⟨[(0,s_Rect l),(1,vI x1),(2,vI y)],[]⟩ (z3 1 ⟨[(0,s_Rect l),(1,vI x1),(2,vI y)],[]⟩ ?_))
 refine z3 1 ⟨[(0,s_Rect l),(1,vI x1),(2,vI y),(7,ro 7 86)],[(7,w_Rect 86 [])]⟩ (z3 1 ⟨[(0,s_Rect l),(1,vI x1),(2,vI y),(7,ro 7 86),(8,vI 2147483648)],[(7,w_Rect 86 [])]⟩ (zB ?_))
 refine z3 1 ⟨[(0,s_Rect l),(1,vI x1),(2,vI y),(7,ro 7 86),(8,vI 2147483648),(9,vI 0)],[(7,w_Rect 86 [])]⟩ (zC ?_)
 obtain ⟨x90,hx90,h⟩:=bindS h
 refine sem_loopS (fun (s61 : Int × (List Rect))=>⟨[(0,s_Rect l),(1,vI x1),(2,vI y),(7,ro 500000 86),(8,vI 2147483648),(9,vI s61.1)],[(500000,w_Rect 86 s61.2)]⟩) (fun (x90 : (List Rect))=>(.exit 0,⟨[(7,ro 500000 86)],[(500000,w_Rect 86 x90)]⟩)) (sheetmetalref06_Shift_l2 l x1 y) (0,[]) x90 (by kernel_rfl) (subR_prep [] [(7,500000)] (by kernel_rfl) rfl rfl (by kernel_rfl)) hx90 ?_ ?_ ?_
 intro s61 r h
 refine zB (z7 (zA 2 ?_))
 refine evs_op (st_len (c:=c_Rect) (l:=l) (x:=(s_Rect l)) (by kernel_rfl) (by kernel_rfl)) (z1 1 ⟨[(0,s_Rect l),(1,vI x1),(2,vI y),(7,ro 500000 86),(8,vI 2147483648),(9,vI s61.1),(14,vB (decide (s61.1 < (l.length : Int))))],[(500000,w_Rect 86 s61.2)]⟩ (zI (decide (s61.1 < (l.length : Int))) (fun hb=>?_) fun hb=>?_))
 replace h:=iteT hb h
 refine z4 ⟨[(0,s_Rect l),(1,vI x1),(2,vI y),(7,ro 500000 86),(8,vI 2147483648),(9,vI s61.1)],[(500000,w_Rect 86 s61.2)]⟩ (zB (zC ?_))
 refine z7 (zA 2 ?_)
 obtain ⟨x84,hx84,h⟩:=bindS h
 refine evs_op (st_idx (c:=c_Rect) (l:=l) (i:=s61.1) (kd:=.i64) (sz:=4) (by kernel_rfl) hx84 rfl) (z1 3 ⟨[(0,s_Rect l),(1,vI x1),(2,vI y),(7,ro 500000 86),(8,vI 2147483648),(9,vI s61.1),(10,.ptr 10 0)],[(10,.box (c_Rect x84)),(500000,w_Rect 86 s61.2)]⟩ (sem_seqJ (fun (j86 : Int × Int)=>⟨[(0,s_Rect l),(1,vI x1),(2,vI y),(7,ro 500000 86),(8,vI 2147483648),(9,vI s61.1),(10,.ptr 500001 0)],[(500000,w_Rect 86 s61.2),(500001,.box [(vI j86.1),(vI j86.2),(vI x84.W),(vI x84.H)])]⟩) (sheetmetalref06_Shift_k1 s61 x84) r (by kernel_rfl) (fun j86 h=>?_) ?_))
 refine zD (zA 3 ?_)
 obtain ⟨l88,hl88,h⟩:=bindS h
 refine evs_op (st_app (c:=c_Rect) (l:=s61.2) (l2:=[(Rect.mk j86.1 j86.2 x84.W x84.H)]) (x:=(s_Rect [(Rect.mk j86.1 j86.2 x84.W x84.H)])) (g:=500000) (e:=86) (sz:=4) (d:=58) (by kernel_rfl) (by kernel_rfl) (by kernel_rfl) (by kernel_rfl) (fun _=>rfl) rfl hl88) (z6 1 fun τ hτ=>?_)
 refine bl_normal (zE hτ ⟨[(0,s_Rect l),(1,vI x1),(2,vI y),(7,ro 500000 86),(8,vI 2147483648),(9,vI s61.1)],[(500000,w_Rect 86 l88)]⟩ (zD ?_))
 refine z6 3 fun τ hτ=>?_
 obtain rfl:=osi h
 exact zH hτ
 refine zB ?_
 obtain ⟨j89,hj89,h⟩:=bindS h
 refine zT ⟨[(0,s_Rect l),(1,vI x1),(2,vI y),(7,ro 500000 86),(8,vI 2147483648),(9,vI s61.1),(10,.ptr 500001 0),(44,vB j89)],[(500000,w_Rect 86 s61.2),(500001,.box (c_Rect x84))]⟩ ?_ fun τ hτ=>?_
 replace h:=hj89
 refine zA 6 (zS (decide (x84.X > (-2147483648))) (fun b0=>⟨[(0,s_Rect l),(1,vI x1),(2,vI y),(7,ro 500000 86),(8,vI 2147483648),(9,vI s61.1),(10,.ptr 10 0),(26,vB b0)],[(10,.box (c_Rect x84)),(500000,w_Rect 86 s61.2)]⟩) (fun hb=>?_) fun hb=>?_)
 replace h:=iteT hb h
 refine zA 6 (zS (decide (x84.X < 2147483648)) (fun b0=>⟨[(0,s_Rect l),(1,vI x1),(2,vI y),(7,ro 500000 86),(8,vI 2147483648),(9,vI s61.1),(10,.ptr 10 0),(32,vB b0)],[(10,.box (c_Rect x84)),(500000,w_Rect 86 s61.2)]⟩) (fun hb=>?_) fun hb=>?_)
 replace h:=iteT hb h
 refine zA 7 (zS (decide (x84.Y > (-2147483648))) (fun b0=>⟨[(0,s_Rect l),(1,vI x1),(2,vI y),(7,ro 500000 86),(8,vI 2147483648),(9,vI s61.1),(10,.ptr 10 0),(39,vB b0)],[(10,.box (c_Rect x84)),(500000,w_Rect 86 s61.2)]⟩) (fun hb=>?_) fun hb=>?_)
 replace h:=iteT hb h
 refine z6 5 fun τ hτ=>?_
 obtain rfl:=osi h
 exact leafC hτ (subR_prep [] [(10,500001),(500000,500000)] (by kernel_rfl) rfl rfl (by kernel_rfl))
 replace h:=iteF hb h
 refine z6 5 fun τ hτ=>?_
 obtain rfl:=osi h
 exact leafC hτ (subR_prep [] [(10,500001),(500000,500000)] (by kernel_rfl) rfl rfl (by kernel_rfl))
 replace h:=iteF hb h
 refine z6 12 fun τ hτ=>?_
 obtain rfl:=osi h
 exact leafC hτ (subR_prep [] [(10,500001),(500000,500000)] (by kernel_rfl) rfl rfl (by kernel_rfl))
 replace h:=iteF hb h
 refine z6 18 fun τ hτ=>?_
 obtain rfl:=osi h
 exact leafC hτ (subR_prep [] [(10,500001),(500000,500000)] (by kernel_rfl) rfl rfl (by kernel_rfl))
 refine zE hτ ⟨[(0,s_Rect l),(1,vI x1),(2,vI y),(7,ro 500000 86),(8,vI 2147483648),(9,vI s61.1),(10,.ptr 500001 0),(44,vB j89)],[(500000,w_Rect 86 s61.2),(500001,.box (c_Rect x84))]⟩ (zI j89 (fun hb=>?_) fun hb=>?_)
 replace h:=iteT hb h
 refine z3 6 ⟨[(0,s_Rect l),(1,vI x1),(2,vI y),(7,ro 500000 86),(8,vI 2147483648),(9,vI s61.1),(10,.ptr 500001 0)],[(500000,w_Rect 86 s61.2),(500001,.box [(vI (iadd x84.X x1)),(vI x84.Y),(vI x84.W),(vI x84.H)])]⟩ (zD (z6 6 fun τ hτ=>?_))
 exact jk_normal ((iadd x84.X x1),(iadd x84.Y y)) h hτ (here (by kernel_rfl))
 replace h:=iteF hb h
 refine zM fun τ hτ=>?_
 exact jk_normal (x84.X,x84.Y) h hτ (here (by kernel_rfl))
 replace h:=iteF hb h
 refine zL 0 fun τ hτ=>?_
 refine th_exit ?_
 obtain rfl:=osi h
 exact zF hτ
 intro x
 rfl
 intro τ hτ
 refine zQ (zE hτ ⟨[(7,ro 500000 86)],[(500000,w_Rect 86 x90)]⟩ (z8 2 ⟨[(6,ro 500000 86)],[(500000,w_Rect 86 x90)]⟩ fun τ hτ=>?_))
 obtain rfl:=osi h
 exact rk_ret hτ [(6,ro 0 86)] (subR_prep [] [(500000,0)] (by kernel_rfl) rfl rfl (by kernel_rfl)) (by kernel_rfl)
theorem W.sheetmetalref06_Move_ok {x0 : Piece} {dx : Int} {dy : Int} {r : Piece} (h : sheetmetalref06_Move x0 dx dy = some r) : PC G.P 74 [(.agg (c_Piece x0)),(vI dx),(vI dy)] [] (.agg [(vS r.Name),(vS r.Material),(vI r.Gauge),(vI r.Grain),(.row (.top 1) 86),(.row (.top 2) 86),(.row (.top 3) 86)]) [(0,.box [(vS x0.Name),(vS x0.Material),(vI x0.Gauge),(vI x0.Grain),(.row (.top 1) 86),(.row (.top 2) 86),(.row (.top 3) 86)]),(1,.row 86 [] (List.map c_Rect r.Rects)),(2,.row 86 [] (List.map c_Rect r.Cuts)),(3,.row 86 [] (List.map c_Rect r.Forms))]:=by
 refine zU G Tryz.func74 (zK ⟨[(0,.agg (c_Piece x0)),(1,vI dx),(2,vI dy)],[]⟩ (z3 2 ⟨[(1,vI dx),(2,vI dy),(3,.ptr 3 0),(6,.ptr 6 0)],[(3,.box (c_Piece x0)),(6,.box [(vS ByteArray.empty),(vS ByteArray.empty),(vI 0),(vI 0),.nl,.nl,.nl])]⟩ ?_))
 refine z7 (zA 4 ?_)
 obtain ⟨r2,hr2,h⟩:=bindS h
 refine evs_callS [] [(0,700200)] [] (by kernel_rfl) (W.sheetmetalref06_Shift_ok hr2) (by kernel_rfl) (by kernel_rfl) (.inl rfl) (z1 2 ⟨[(1,vI dx),(2,vI dy),(3,.ptr 3 0),(6,.ptr 6 0)],[(3,.box [(vS x0.Name),(vS x0.Material),(vI x0.Gauge),(vI x0.Grain),(ro 700200 86),(s_Rect x0.Cuts),(s_Rect x0.Forms)]),(6,.box [(vS ByteArray.empty),(vS ByteArray.empty),(vI 0),(vI 0),.nl,.nl,.nl]),(700200,w_Rect 86 r2)]⟩ (z7 ?_))
 refine zA 4 ?_
 obtain ⟨r4,hr4,h⟩:=bindS h
 refine evs_callS [] [(0,700201)] [] (by kernel_rfl) (W.sheetmetalref06_Shift_ok hr4) (by kernel_rfl) (by kernel_rfl) (.inl rfl) (z1 2 ⟨[(1,vI dx),(2,vI dy),(3,.ptr 3 0),(6,.ptr 6 0)],[(3,.box [(vS x0.Name),(vS x0.Material),(vI x0.Gauge),(vI x0.Grain),(ro 700200 86),(ro 700201 86),(s_Rect x0.Forms)]),(6,.box [(vS ByteArray.empty),(vS ByteArray.empty),(vI 0),(vI 0),.nl,.nl,.nl]),(700200,w_Rect 86 r2),(700201,w_Rect 86 r4)]⟩ (z7 ?_))
 refine zA 4 ?_
 obtain ⟨r6,hr6,h⟩:=bindS h
 refine evs_callS [] [(0,700202)] [] (by kernel_rfl) (W.sheetmetalref06_Shift_ok hr6) (by kernel_rfl) (by kernel_rfl) (.inl rfl) (z1 2 ⟨[(3,.ptr 3 0),(6,.ptr 6 0)],[(3,.box [(vS x0.Name),(vS x0.Material),(vI x0.Gauge),(vI x0.Grain),(ro 700200 86),(ro 700201 86),(ro 700202 86)]),(6,.box [(vS ByteArray.empty),(vS ByteArray.empty),(vI 0),(vI 0),.nl,.nl,.nl]),(700200,w_Rect 86 r2),(700201,w_Rect 86 r4),(700202,w_Rect 86 r6)]⟩ (z8 2 ⟨[(6,.ptr 6 0)],[(6,.box [(vS x0.Name),(vS x0.Material),(vI x0.Gauge),(vI x0.Grain),(ro 700200 86),(ro 700201 86),(ro 700202 86)]),(700200,w_Rect 86 r2),(700201,w_Rect 86 r4),(700202,w_Rect 86 r6)]⟩ fun τ hτ=>?_))
 obtain rfl:=osi h
 exact rk_ret hτ [(6,.ptr 0 0)] (subR_prep [] [(6,0),(700200,1),(700201,2),(700202,3)] (by kernel_rfl) rfl rfl (by kernel_rfl)) (by kernel_rfl)
theorem W.sheetmetalref06_quarter_ok {l : (List Rect)} {r : (List Rect)} (h : sheetmetalref06_quarter l = some r) : PC G.P 105 [(.sl (List.map c_Rect l))] [] (.row (.top 0) 86) [(0,.row 86 [] (List.map c_Rect r))]:=by
 refine zU G Tryz.func105 (zK ⟨[(0,s_Rect l)],[]⟩ (z3 1 ⟨[(0,s_Rect l)],[]⟩ ?_))
 refine z3 1 ⟨[(0,s_Rect l),(3,ro 3 86)],[(3,w_Rect 86 [])]⟩ (zB (z3 1 ⟨[(0,s_Rect l),(3,ro 3 86),(4,vI 0)],[(3,w_Rect 86 [])]⟩ ?_))
 refine zC ?_
 obtain ⟨x54,hx54,h⟩:=bindS h
 refine sem_loopS (fun (s37 : Int × (List Rect))=>⟨[(0,s_Rect l),(3,ro 500000 86),(4,vI s37.1)],[(500000,w_Rect 86 s37.2)]⟩) (fun (x54 : (List Rect))=>(.exit 0,⟨[(3,ro 500000 86)],[(500000,w_Rect 86 x54)]⟩)) (sheetmetalref06_quarter_l1 l) (0,[]) x54 (by kernel_rfl) (subR_prep [] [(3,500000)] (by kernel_rfl) rfl rfl (by kernel_rfl)) hx54 ?_ ?_ ?_
 intro s37 r h
 refine zB (z7 (zA 2 ?_))
 refine evs_op (st_len (c:=c_Rect) (l:=l) (x:=(s_Rect l)) (by kernel_rfl) (by kernel_rfl)) (z1 1 ⟨[(0,s_Rect l),(3,ro 500000 86),(4,vI s37.1),(9,vB (decide (s37.1 < (l.length : Int))))],[(500000,w_Rect 86 s37.2)]⟩ (zI (decide (s37.1 < (l.length : Int))) (fun hb=>?_) fun hb=>?_))
 replace h:=iteT hb h
 refine z4 ⟨[(0,s_Rect l),(3,ro 500000 86),(4,vI s37.1)],[(500000,w_Rect 86 s37.2)]⟩ (zB (zC ?_))
 refine z7 (zA 2 ?_)
 obtain ⟨x51,hx51,h⟩:=bindS h
 refine evs_op (st_idx (c:=c_Rect) (l:=l) (i:=s37.1) (kd:=.i64) (sz:=4) (by kernel_rfl) hx51 rfl) (z1 3 ⟨[(0,s_Rect l),(3,ro 500000 86),(4,vI s37.1),(5,.ptr 5 0)],[(5,.box (c_Rect x51)),(500000,w_Rect 86 s37.2)]⟩ (zD ?_))
 refine zA 15 ?_
 obtain ⟨l53,hl53,h⟩:=bindS h
 refine evs_op (st_app (c:=c_Rect) (l:=s37.2) (l2:=[(Rect.mk (ineg (iadd x51.Y x51.H)) x51.X x51.H x51.W)]) (x:=(s_Rect [(Rect.mk (ineg (iadd x51.Y x51.H)) x51.X x51.H x51.W)])) (g:=500000) (e:=86) (sz:=4) (d:=31) (by kernel_rfl) (by kernel_rfl) (by kernel_rfl) (by kernel_rfl) (fun _=>rfl) rfl hl53) (z6 1 fun τ hτ=>?_)
 refine bl_normal (zE hτ ⟨[(0,s_Rect l),(3,ro 500000 86),(4,vI s37.1)],[(500000,w_Rect 86 l53)]⟩ (zD ?_))
 refine z6 3 fun τ hτ=>?_
 obtain rfl:=osi h
 exact zH hτ
 replace h:=iteF hb h
 refine zL 0 fun τ hτ=>?_
 refine th_exit ?_
 obtain rfl:=osi h
 exact zF hτ
 intro x
 rfl
 intro τ hτ
 refine zQ (zE hτ ⟨[(3,ro 500000 86)],[(500000,w_Rect 86 x54)]⟩ (z8 2 ⟨[(2,ro 500000 86)],[(500000,w_Rect 86 x54)]⟩ fun τ hτ=>?_))
 obtain rfl:=osi h
 exact rk_ret hτ [(2,ro 0 86)] (subR_prep [] [(500000,0)] (by kernel_rfl) rfl rfl (by kernel_rfl)) (by kernel_rfl)
theorem W.sheetmetalref06_Turned_ok {x0 : Piece} {turn : Int} {r : Piece × ByteArray × ByteArray × Int × Int} (h : sheetmetalref06_Turned x0 turn = some r) : PC G.P 75 [(.agg (c_Piece x0)),(vI turn)] [] (.agg [(vS r.1.Name),(vS r.1.Material),(vI r.1.Gauge),(vI r.1.Grain),(.row (.top 1) 86),(.row (.top 2) 86),(.row (.top 3) 86)]) [(0,.box [(vS r.2.1),(vS r.2.2.1),(vI r.2.2.2.1),(vI r.2.2.2.2),(.row (.top 1) 86),(.row (.top 2) 86),(.row (.top 3) 86)]),(1,.row 86 [] (List.map c_Rect r.1.Rects)),(2,.row 86 [] (List.map c_Rect r.1.Cuts)),(3,.row 86 [] (List.map c_Rect r.1.Forms))]:=by
 refine zU G Tryz.func75 (zK ⟨[(0,.agg (c_Piece x0)),(1,vI turn)],[]⟩ (z3 2 ⟨[(1,vI turn),(2,.ptr 2 0),(4,.ptr 4 0)],[(2,.box (c_Piece x0)),(4,.box [(vS ByteArray.empty),(vS ByteArray.empty),(vI 0),(vI 0),.nl,.nl,.nl])]⟩ ?_))
 refine z7 (zA 1 ?_)
 obtain ⟨r2,hr2,h⟩:=bindS h
 refine evs_callS [] [(0,700050),(1,700051),(2,700052),(3,700053)] [] (by kernel_rfl) (W.sheetmetalref06_Move_ok hr2) (by kernel_rfl) (by kernel_rfl) (.inl rfl) (z1 1 ⟨[(1,vI turn),(2,.ptr 2 0),(4,.ptr 4 0)],[(2,.box [(vS r2.Name),(vS r2.Material),(vI r2.Gauge),(vI r2.Grain),(ro 700051 86),(ro 700052 86),(ro 700053 86)]),(4,.box [(vS ByteArray.empty),(vS ByteArray.empty),(vI 0),(vI 0),.nl,.nl,.nl]),(700051,w_Rect 86 r2.Rects),(700052,w_Rect 86 r2.Cuts),(700053,w_Rect 86 r2.Forms)]⟩ (zB ?_))
 refine z3 1 ⟨[(1,vI turn),(2,.ptr 2 0),(4,.ptr 4 0),(5,vI 0)],[(2,.box [(vS r2.Name),(vS r2.Material),(vI r2.Gauge),(vI r2.Grain),(ro 700051 86),(ro 700052 86),(ro 700053 86)]),(4,.box [(vS ByteArray.empty),(vS ByteArray.empty),(vI 0),(vI 0),.nl,.nl,.nl]),(700051,w_Rect 86 r2.Rects),(700052,w_Rect 86 r2.Cuts),(700053,w_Rect 86 r2.Forms)]⟩ (zC ?_)
 obtain ⟨x80,hx80,h⟩:=bindS h
 refine sem_loopS (fun (s55 : Int × (List Rect) × (List Rect) × (List Rect))=>⟨[(1,vI turn),(2,.ptr 500000 0),(4,.ptr 500004 0),(5,vI s55.1)],[(500000,.box [(vS r2.Name),(vS r2.Material),(vI r2.Gauge),(vI r2.Grain),(ro 500001 86),(ro 500002 86),(ro 500003 86)]),(500001,w_Rect 86 s55.2.1),(500002,w_Rect 86 s55.2.2.1),(500003,w_Rect 86 s55.2.2.2),(500004,.box [(vS ByteArray.empty),(vS ByteArray.empty),(vI 0),(vI 0),.nl,.nl,.nl])]⟩) (fun (x80 : (List Rect) × (List Rect) × (List Rect))=>(.exit 0,⟨[(2,.ptr 500000 0),(4,.ptr 500004 0)],[(500000,.box [(vS r2.Name),(vS r2.Material),(vI r2.Gauge),(vI r2.Grain),(ro 500001 86),(ro 500002 86),(ro 500003 86)]),(500001,w_Rect 86 x80.1),(500002,w_Rect 86 x80.2.1),(500003,w_Rect 86 x80.2.2),(500004,.box [(vS ByteArray.empty),(vS ByteArray.empty),(vI 0),(vI 0),.nl,.nl,.nl])]⟩)) (sheetmetalref06_Turned_l1 turn) (0,r2.Rects,r2.Cuts,r2.Forms) x80 (by kernel_rfl) (subR_prep [] [(2,500000),(4,500004),(700051,500001),(700052,500002),(700053,500003)] (by kernel_rfl) rfl rfl (by kernel_rfl)) hx80 ?_ ?_ ?_
 intro s55 r h
 refine zB (z3 3 ⟨[(1,vI turn),(2,.ptr 500000 0),(4,.ptr 500004 0),(5,vI s55.1),(12,vB (decide (s55.1 < turn)))],[(500000,.box [(vS r2.Name),(vS r2.Material),(vI r2.Gauge),(vI r2.Grain),(ro 500001 86),(ro 500002 86),(ro 500003 86)]),(500001,w_Rect 86 s55.2.1),(500002,w_Rect 86 s55.2.2.1),(500003,w_Rect 86 s55.2.2.2),(500004,.box [(vS ByteArray.empty),(vS ByteArray.empty),(vI 0),(vI 0),.nl,.nl,.nl])]⟩ (zI (decide (s55.1 < turn)) (fun hb=>?_) fun hb=>?_))
 replace h:=iteT hb h
 refine z4 ⟨[(1,vI turn),(2,.ptr 500000 0),(4,.ptr 500004 0),(5,vI s55.1)],[(500000,.box [(vS r2.Name),(vS r2.Material),(vI r2.Gauge),(vI r2.Grain),(ro 500001 86),(ro 500002 86),(ro 500003 86)]),(500001,w_Rect 86 s55.2.1),(500002,w_Rect 86 s55.2.2.1),(500003,w_Rect 86 s55.2.2.2),(500004,.box [(vS ByteArray.empty),(vS ByteArray.empty),(vI 0),(vI 0),.nl,.nl,.nl])]⟩ (zB (zC ?_))
 refine z7 (zA 2 ?_)
 obtain ⟨r75,hr75,h⟩:=bindS h
 refine evs_callS [] [(0,700100)] [500001] (by kernel_rfl) (W.sheetmetalref06_quarter_ok hr75) (by kernel_rfl) (by kernel_rfl) (.inr ⟨rfl,fun _ _=>ind_cons (ind_row fun _=>rfl) (fun _ _=>ind_nil)⟩) (z1 2 ⟨[(1,vI turn),(2,.ptr 500000 0),(4,.ptr 500004 0),(5,vI s55.1)],[(500000,.box [(vS r2.Name),(vS r2.Material),(vI r2.Gauge),(vI r2.Grain),(ro 700100 86),(ro 500002 86),(ro 500003 86)]),(500002,w_Rect 86 s55.2.2.1),(500003,w_Rect 86 s55.2.2.2),(500004,.box [(vS ByteArray.empty),(vS ByteArray.empty),(vI 0),(vI 0),.nl,.nl,.nl]),(700100,w_Rect 86 r75)]⟩ (z7 ?_))
 refine zA 2 ?_
 obtain ⟨r77,hr77,h⟩:=bindS h
 refine evs_callS [] [(0,700101)] [500002] (by kernel_rfl) (W.sheetmetalref06_quarter_ok hr77) (by kernel_rfl) (by kernel_rfl) (.inr ⟨rfl,fun _ _=>ind_cons (ind_row fun _=>rfl) (fun _ _=>ind_nil)⟩) (z1 2 ⟨[(1,vI turn),(2,.ptr 500000 0),(4,.ptr 500004 0),(5,vI s55.1)],[(500000,.box [(vS r2.Name),(vS r2.Material),(vI r2.Gauge),(vI r2.Grain),(ro 700100 86),(ro 700101 86),(ro 500003 86)]),(500003,w_Rect 86 s55.2.2.2),(500004,.box [(vS ByteArray.empty),(vS ByteArray.empty),(vI 0),(vI 0),.nl,.nl,.nl]),(700100,w_Rect 86 r75),(700101,w_Rect 86 r77)]⟩ (zD ?_))
 refine zA 2 ?_
 obtain ⟨r79,hr79,h⟩:=bindS h
 refine evs_callS [] [(0,700102)] [500003] (by kernel_rfl) (W.sheetmetalref06_quarter_ok hr79) (by kernel_rfl) (by kernel_rfl) (.inr ⟨rfl,fun _ _=>ind_cons (ind_row fun _=>rfl) (fun _ _=>ind_nil)⟩) (z6 2 fun τ hτ=>?_)
 refine bl_normal (zE hτ ⟨[(1,vI turn),(2,.ptr 500000 0),(4,.ptr 500004 0),(5,vI s55.1)],[(500000,.box [(vS r2.Name),(vS r2.Material),(vI r2.Gauge),(vI r2.Grain),(ro 700100 86),(ro 700101 86),(ro 700102 86)]),(500004,.box [(vS ByteArray.empty),(vS ByteArray.empty),(vI 0),(vI 0),.nl,.nl,.nl]),(700100,w_Rect 86 r75),(700101,w_Rect 86 r77),(700102,w_Rect 86 r79)]⟩ (zD ?_))
 refine z6 3 fun τ hτ=>?_
 obtain rfl:=osi h
 exact lk_nextS hτ (subR_prep [] [(500000,500000),(500004,500004),(700100,500001),(700101,500002),(700102,500003)] (by kernel_rfl) rfl rfl (by kernel_rfl))
 replace h:=iteF hb h
 refine zL 0 fun τ hτ=>?_
 refine th_exit ?_
 obtain rfl:=osi h
 exact zF hτ
 intro x
 rfl
 intro τ hτ
 refine zQ (zE hτ ⟨[(2,.ptr 500000 0),(4,.ptr 500004 0)],[(500000,.box [(vS r2.Name),(vS r2.Material),(vI r2.Gauge),(vI r2.Grain),(ro 500001 86),(ro 500002 86),(ro 500003 86)]),(500001,w_Rect 86 x80.1),(500002,w_Rect 86 x80.2.1),(500003,w_Rect 86 x80.2.2),(500004,.box [(vS ByteArray.empty),(vS ByteArray.empty),(vI 0),(vI 0),.nl,.nl,.nl])]⟩ (z7 ?_))
 refine zA 2 ?_
 obtain ⟨r82,hr82,h⟩:=bindS h
 refine evs_callP [500001] (by kernel_rfl) (W.sheetmetalref06_least_ok hr82) (by kernel_rfl) (.inr rfl) (by kernel_rfl) (z1 5 ⟨[(2,.ptr 500000 0),(4,.ptr 500004 0),(6,vI r82.1),(7,vI r82.2)],[(500000,.box [(vS r2.Name),(vS r2.Material),(vI r2.Gauge),(vI r2.Grain),(ro 500001 86),(ro 500002 86),(ro 500003 86)]),(500001,w_Rect 86 x80.1),(500002,w_Rect 86 x80.2.1),(500003,w_Rect 86 x80.2.2),(500004,.box [(vS ByteArray.empty),(vS ByteArray.empty),(vI 0),(vI 0),.nl,.nl,.nl])]⟩ (z7 ?_))
 refine zA 5 ?_
 obtain ⟨r84,hr84,h⟩:=bindS h
 refine evs_callS [] [(0,700250),(1,700251),(2,700252),(3,700253)] [500001,500002,500003] (by kernel_rfl) (W.sheetmetalref06_Move_ok hr84) (by kernel_rfl) (by kernel_rfl) (.inr ⟨rfl,fun _ _=>ind_cons rfl (fun _ _=>ind_cons (ind_row fun _=>rfl) (fun _ _=>ind_cons (ind_row fun _=>rfl) (fun _ _=>ind_cons (ind_row fun _=>rfl) (fun _ _=>ind_nil))))⟩) (z1 1 ⟨[(4,.ptr 500004 0)],[(500004,.box [(vS r84.Name),(vS r84.Material),(vI r84.Gauge),(vI r84.Grain),(ro 700251 86),(ro 700252 86),(ro 700253 86)]),(700251,w_Rect 86 r84.Rects),(700252,w_Rect 86 r84.Cuts),(700253,w_Rect 86 r84.Forms)]⟩ (zN fun τ hτ=>?_))
 obtain rfl:=osi h
 exact rk_ret hτ [(4,.ptr 0 0)] (subR_prep [] [(500004,0),(700251,1),(700252,2),(700253,3)] (by kernel_rfl) rfl rfl (by kernel_rfl)) (by kernel_rfl)
theorem W.sheetmetalref06_Put_ok {x0 : Piece} {at1 : Placement} {r : Piece × Int × ByteArray × ByteArray × Int × Int} (h : sheetmetalref06_Put x0 at1 = some r) : PC G.P 29 [(.agg (c_Piece x0)),(.agg (c_Placement at1))] [] (.tup [(.agg [(vS r.1.Name),(vS r.1.Material),(vI r.1.Gauge),(vI r.1.Grain),(.row (.top 1) 86),(.row (.top 2) 86),(.row (.top 3) 86)]),(vI r.2.1)]) [(0,.box [(vS r.2.2.1),(vS r.2.2.2.1),(vI r.2.2.2.2.1),(vI r.2.2.2.2.2),(.row (.top 1) 86),(.row (.top 2) 86),(.row (.top 3) 86)]),(1,.row 86 [] (List.map c_Rect r.1.Rects)),(2,.row 86 [] (List.map c_Rect r.1.Cuts)),(3,.row 86 [] (List.map c_Rect r.1.Forms))]:=by
 refine zU G Tryz.func29 (zK ⟨[(0,.agg (c_Piece x0)),(1,.agg (c_Placement at1))],[]⟩ (z3 4 ⟨[(2,.ptr 2 0),(3,.ptr 3 0),(4,.ptr 4 0)],[(2,.box (c_Piece x0)),(3,.box (c_Placement at1)),(4,.box [(vS ByteArray.empty),(vS ByteArray.empty),(vI 0),(vI 0),.nl,.nl,.nl])]⟩ ?_))
 refine z7 (zA 1 ?_)
 obtain ⟨r2,hr2,h⟩:=bindS h
 refine evs_callP [] (by kernel_rfl) (W.sheetmetalref06_ValidatePiece_ok hr2) (by kernel_rfl) (.inl rfl) (by kernel_rfl) (z1 1 ⟨[(2,.ptr 2 0),(3,.ptr 3 0),(4,.ptr 4 0),(6,vI r2)],[(2,.box (c_Piece x0)),(3,.box (c_Placement at1)),(4,.box [(vS ByteArray.empty),(vS ByteArray.empty),(vI 0),(vI 0),.nl,.nl,.nl])]⟩ (zB ?_))
 refine z3 2 ⟨[(2,.ptr 2 0),(3,.ptr 3 0),(4,.ptr 4 0),(6,vI r2),(11,vB (r2 != 0))],[(2,.box (c_Piece x0)),(3,.box (c_Placement at1)),(4,.box [(vS ByteArray.empty),(vS ByteArray.empty),(vI 0),(vI 0),.nl,.nl,.nl])]⟩ (zI (r2 != 0) (fun hb=>?_) fun hb=>?_)
 replace h:=iteT hb h
 refine z8 4 ⟨[(4,.ptr 4 0),(5,vI r2)],[(4,.box [(vS ByteArray.empty),(vS ByteArray.empty),(vI 0),(vI 0),.nl,.nl,.nl])]⟩ fun τ hτ=>?_
 refine th_ret ?_
 obtain rfl:=osi h
 exact rk_ret hτ [(4,.ptr 0 0),(5,vI r2)] (subR_prep [.row (.box 4 4) 800000 86 [],.row (.box 4 5) 800001 86 [],.row (.box 4 6) 800002 86 []] [(4,0),(800000,1),(800001,2),(800002,3)] (by kernel_rfl) rfl rfl (by kernel_rfl)) (by kernel_rfl)
 replace h:=iteF hb h
 refine z4 ⟨[(2,.ptr 2 0),(3,.ptr 3 0),(4,.ptr 4 0)],[(2,.box (c_Piece x0)),(3,.box (c_Placement at1)),(4,.box [(vS ByteArray.empty),(vS ByteArray.empty),(vI 0),(vI 0),.nl,.nl,.nl])]⟩ (zB (zB ?_))
 obtain ⟨j4,hj4,h⟩:=bindS h
 refine zT ⟨[(2,.ptr 500000 0),(3,.ptr 500001 0),(4,.ptr 500002 0),(21,vB j4)],[(500000,.box (c_Piece x0)),(500001,.box (c_Placement at1)),(500002,.box [(vS ByteArray.empty),(vS ByteArray.empty),(vI 0),(vI 0),.nl,.nl,.nl])]⟩ ?_ fun τ hτ=>?_
 replace h:=hj4
 refine zA 4 (zS (decide (at1.Turn < 0)) (fun b0=>⟨[(2,.ptr 2 0),(3,.ptr 3 0),(4,.ptr 4 0),(17,vB b0)],[(2,.box (c_Piece x0)),(3,.box (c_Placement at1)),(4,.box [(vS ByteArray.empty),(vS ByteArray.empty),(vI 0),(vI 0),.nl,.nl,.nl])]⟩) (fun hb=>?_) fun hb=>?_)
 replace h:=iteT hb h
 refine z6 4 fun τ hτ=>?_
 obtain rfl:=osi h
 exact leafC hτ (subR_prep [] [(2,500000),(3,500001),(4,500002)] (by kernel_rfl) rfl rfl (by kernel_rfl))
 replace h:=iteF hb h
 refine z6 4 fun τ hτ=>?_
 obtain rfl:=osi h
 exact leafC hτ (subR_prep [] [(2,500000),(3,500001),(4,500002)] (by kernel_rfl) rfl rfl (by kernel_rfl))
 refine zE hτ ⟨[(2,.ptr 500000 0),(3,.ptr 500001 0),(4,.ptr 500002 0),(21,vB j4)],[(500000,.box (c_Piece x0)),(500001,.box (c_Placement at1)),(500002,.box [(vS ByteArray.empty),(vS ByteArray.empty),(vI 0),(vI 0),.nl,.nl,.nl])]⟩ (zI j4 (fun hb=>?_) fun hb=>?_)
 replace h:=iteT hb h
 refine z8 3 ⟨[(4,.ptr 500002 0),(5,vI 1)],[(500002,.box [(vS ByteArray.empty),(vS ByteArray.empty),(vI 0),(vI 0),.nl,.nl,.nl])]⟩ fun τ hτ=>?_
 refine th_ret ?_
 obtain rfl:=osi h
 exact rk_ret hτ [(4,.ptr 0 0),(5,vI 1)] (subR_prep [.row (.box 500002 4) 800000 86 [],.row (.box 500002 5) 800001 86 [],.row (.box 500002 6) 800002 86 []] [(500002,0),(800000,1),(800001,2),(800002,3)] (by kernel_rfl) rfl rfl (by kernel_rfl)) (by kernel_rfl)
 replace h:=iteF hb h
 refine z4 ⟨[(2,.ptr 500000 0),(3,.ptr 500001 0),(4,.ptr 500002 0)],[(500000,.box (c_Piece x0)),(500001,.box (c_Placement at1)),(500002,.box [(vS ByteArray.empty),(vS ByteArray.empty),(vI 0),(vI 0),.nl,.nl,.nl])]⟩ (zB (zB ?_))
 obtain ⟨j12,hj12,h⟩:=bindS h
 refine zT ⟨[(2,.ptr 500000 0),(3,.ptr 500001 0),(4,.ptr 500002 0),(32,vB j12)],[(500000,.box (c_Piece x0)),(500001,.box (c_Placement at1)),(500002,.box [(vS ByteArray.empty),(vS ByteArray.empty),(vI 0),(vI 0),.nl,.nl,.nl])]⟩ ?_ fun τ hτ=>?_
 replace h:=hj12
 refine zA 2 ?_
 obtain ⟨r13,hr13,h⟩:=bindS h
 refine evs_callP [] (by kernel_rfl) (W.sheetmetalref06_near_ok hr13) (by kernel_rfl) (.inl rfl) (by kernel_rfl) (zA 2 (zS r13 (fun b0=>⟨[(2,.ptr 500000 0),(3,.ptr 500001 0),(4,.ptr 500002 0),(27,vB (!b0))],[(500000,.box (c_Piece x0)),(500001,.box (c_Placement at1)),(500002,.box [(vS ByteArray.empty),(vS ByteArray.empty),(vI 0),(vI 0),.nl,.nl,.nl])]⟩) (fun hb=>?_) fun hb=>?_))
 replace h:=iteT hb h
 refine zA 2 ?_
 obtain ⟨r14,hr14,h⟩:=bindS h
 refine evs_callP [] (by kernel_rfl) (W.sheetmetalref06_near_ok hr14) (by kernel_rfl) (.inl rfl) (by kernel_rfl) (z6 2 fun τ hτ=>?_)
 obtain rfl:=osi h
 exact zG hτ
 replace h:=iteF hb h
 refine z6 5 fun τ hτ=>?_
 obtain rfl:=osi h
 exact zG hτ
 refine zE hτ ⟨[(2,.ptr 500000 0),(3,.ptr 500001 0),(4,.ptr 500002 0),(32,vB j12)],[(500000,.box (c_Piece x0)),(500001,.box (c_Placement at1)),(500002,.box [(vS ByteArray.empty),(vS ByteArray.empty),(vI 0),(vI 0),.nl,.nl,.nl])]⟩ (zI j12 (fun hb=>?_) fun hb=>?_)
 replace h:=iteT hb h
 refine z8 3 ⟨[(4,.ptr 500002 0),(5,vI 4)],[(500002,.box [(vS ByteArray.empty),(vS ByteArray.empty),(vI 0),(vI 0),.nl,.nl,.nl])]⟩ fun τ hτ=>?_
 refine th_ret ?_
 obtain rfl:=osi h
 exact rk_ret hτ [(4,.ptr 0 0),(5,vI 4)] (subR_prep [.row (.box 500002 4) 800000 86 [],.row (.box 500002 5) 800001 86 [],.row (.box 500002 6) 800002 86 []] [(500002,0),(800000,1),(800001,2),(800002,3)] (by kernel_rfl) rfl rfl (by kernel_rfl)) (by kernel_rfl)
 replace h:=iteF hb h
 refine z4 ⟨[(2,.ptr 500000 0),(3,.ptr 500001 0),(4,.ptr 500002 0)],[(500000,.box (c_Piece x0)),(500001,.box (c_Placement at1)),(500002,.box [(vS ByteArray.empty),(vS ByteArray.empty),(vI 0),(vI 0),.nl,.nl,.nl])]⟩ (zB (sem_draw [(3,[700150,700151,700152,700153]),(8,[700400,700401,700402,700403]),(9,[7])] [(3,[700150,700151,700152,700153]),(8,[700400,700401,700402,700403]),(9,[7])] [(8,[700151,700152,700153])] [(0,[7]),(1,[7]),(2,[7]),(3,[7]),(4,[700150,700151,700152,700153,7]),(5,[700150,700151,700152,700153,7]),(6,[700150,700151,700152,700153,7]),(7,[700150,700151,700152,700153,7]),(8,[7]),(9,[700150,700151,700152,700153,700400,700401,700402,700403])] [(0,[700150,700151,700152,700153,700400,700401,700402,700403,7]),(1,[700150,700151,700152,700153,700400,700401,700402,700403,7]),(2,[700150,700151,700152,700153,700400,700401,700402,700403,7]),(3,[700400,700401,700402,700403,7]),(4,[700150,700151,700152,700153,700400,700401,700402,700403,7]),(5,[700150,700151,700152,700153,700400,700401,700402,700403,7]),(6,[700150,700151,700152,700153,700400,700401,700402,700403,7]),(7,[700150,700151,700152,700153,700400,700401,700402,700403,7]),(8,[7]),(9,[700150,700151,700152,700153,700400,700401,700402,700403])] 10 (by kernel_rfl) (by kernel_rfl) [700150,700151,700152,700153,700400,700401,700402,700403,7] (by kernel_rfl) (by kernel_rfl) ?_))
 refine evd_run 3 (by kernel_rfl) ?_
 obtain ⟨r19,hr19,h⟩:=bindS h
 refine evd_callS [(0,700150),(1,700151),(2,700152),(3,700153)] [] (by kernel_rfl) (by kernel_rfl) (W.sheetmetalref06_Turned_ok hr19) (by kernel_rfl) (.inl rfl) (by kernel_rfl) (by kernel_rfl) (evd_run 4 (by kernel_rfl) ?_)
 obtain ⟨r20,hr20,h⟩:=bindS h
 refine evd_callS [(0,700400),(1,700401),(2,700402),(3,700403)] [700151,700152,700153] (by kernel_rfl) (by kernel_rfl) (W.sheetmetalref06_Move_ok hr20) (by kernel_rfl) (.inr ⟨rfl,fun _ _=>ind_cons rfl (fun _ _=>ind_cons (ind_row fun _=>rfl) (fun _ _=>ind_cons (ind_row fun _=>rfl) (fun _ _=>ind_cons (ind_row fun _=>rfl) (fun _ _=>ind_nil))))⟩) (by kernel_rfl) (by kernel_rfl) (evd_new (g:=7) (ob:=.box [(vS ByteArray.empty),(vS ByteArray.empty),(vI 0),(vI 0),.nl,.nl,.nl]) (v:=(.ptr 7 0)) (by kernel_rfl) (by kernel_rfl) (by kernel_rfl) (by kernel_rfl) (by kernel_rfl) (by kernel_rfl) (evd_end (by kernel_rfl) ?_))
 refine evo_run 1 (by kernel_rfl) (zO fun τ hτ=>?_)
 refine zE hτ ⟨[(4,.ptr 500002 0),(7,.ptr 7 0)],[(7,.box [(vS r20.Name),(vS r20.Material),(vI r20.Gauge),(vI r20.Grain),(ro 700401 86),(ro 700402 86),(ro 700403 86)]),(500002,.box [(vS ByteArray.empty),(vS ByteArray.empty),(vI 0),(vI 0),.nl,.nl,.nl]),(700401,w_Rect 86 r20.Rects),(700402,w_Rect 86 r20.Cuts),(700403,w_Rect 86 r20.Forms)]⟩ (zB (zB ?_))
 obtain ⟨j31,hj31,h⟩:=bindS h
 refine zT ⟨[(4,.ptr 500000 0),(7,.ptr 500001 0),(58,vB j31)],[(500000,.box [(vS ByteArray.empty),(vS ByteArray.empty),(vI 0),(vI 0),.nl,.nl,.nl]),(500001,.box [(vS r20.Name),(vS r20.Material),(vI r20.Gauge),(vI r20.Grain),(ro 500002 86),(ro 500003 86),(ro 500004 86)]),(500002,w_Rect 86 r20.Rects),(500003,w_Rect 86 r20.Cuts),(500004,w_Rect 86 r20.Forms)]⟩ ?_ fun τ hτ=>?_
 replace h:=hj31
 refine zA 2 ?_
 obtain ⟨r32,hr32,h⟩:=bindS h
 refine evs_callP [700401] (by kernel_rfl) (W.sheetmetalref06_Rights_ok hr32) (by kernel_rfl) (.inr rfl) (by kernel_rfl) (zA 2 (zS r32 (fun b0=>⟨[(4,.ptr 500002 0),(7,.ptr 7 0),(47,vB (!b0))],[(7,.box [(vS r20.Name),(vS r20.Material),(vI r20.Gauge),(vI r20.Grain),(ro 700401 86),(ro 700402 86),(ro 700403 86)]),(500002,.box [(vS ByteArray.empty),(vS ByteArray.empty),(vI 0),(vI 0),.nl,.nl,.nl]),(700401,w_Rect 86 r20.Rects),(700402,w_Rect 86 r20.Cuts),(700403,w_Rect 86 r20.Forms)]⟩) (fun hb=>?_) fun hb=>?_))
 replace h:=iteT hb h
 refine zA 2 ?_
 obtain ⟨r33,hr33,h⟩:=bindS h
 refine evs_callP [700402] (by kernel_rfl) (W.sheetmetalref06_Rights_ok hr33) (by kernel_rfl) (.inr rfl) (by kernel_rfl) (zA 3 (zS r33 (fun b0=>⟨[(4,.ptr 500002 0),(7,.ptr 7 0),(53,vB (!b0))],[(7,.box [(vS r20.Name),(vS r20.Material),(vI r20.Gauge),(vI r20.Grain),(ro 700401 86),(ro 700402 86),(ro 700403 86)]),(500002,.box [(vS ByteArray.empty),(vS ByteArray.empty),(vI 0),(vI 0),.nl,.nl,.nl]),(700401,w_Rect 86 r20.Rects),(700402,w_Rect 86 r20.Cuts),(700403,w_Rect 86 r20.Forms)]⟩) (fun hb=>?_) fun hb=>?_))
 replace h:=iteT hb h
 refine zA 2 ?_
 obtain ⟨r34,hr34,h⟩:=bindS h
 refine evs_callP [700403] (by kernel_rfl) (W.sheetmetalref06_Rights_ok hr34) (by kernel_rfl) (.inr rfl) (by kernel_rfl) (z6 2 fun τ hτ=>?_)
 obtain rfl:=osi h
 exact leafC hτ (subR_prep [] [(7,500001),(500002,500000),(700401,500002),(700402,500003),(700403,500004)] (by kernel_rfl) rfl rfl (by kernel_rfl))
 replace h:=iteF hb h
 refine z6 5 fun τ hτ=>?_
 obtain rfl:=osi h
 exact leafC hτ (subR_prep [] [(7,500001),(500002,500000),(700401,500002),(700402,500003),(700403,500004)] (by kernel_rfl) rfl rfl (by kernel_rfl))
 replace h:=iteF hb h
 refine z6 11 fun τ hτ=>?_
 obtain rfl:=osi h
 exact leafC hτ (subR_prep [] [(7,500001),(500002,500000),(700401,500002),(700402,500003),(700403,500004)] (by kernel_rfl) rfl rfl (by kernel_rfl))
 refine zE hτ ⟨[(4,.ptr 500000 0),(7,.ptr 500001 0),(58,vB j31)],[(500000,.box [(vS ByteArray.empty),(vS ByteArray.empty),(vI 0),(vI 0),.nl,.nl,.nl]),(500001,.box [(vS r20.Name),(vS r20.Material),(vI r20.Gauge),(vI r20.Grain),(ro 500002 86),(ro 500003 86),(ro 500004 86)]),(500002,w_Rect 86 r20.Rects),(500003,w_Rect 86 r20.Cuts),(500004,w_Rect 86 r20.Forms)]⟩ (zI j31 (fun hb=>?_) fun hb=>?_)
 replace h:=iteT hb h
 refine z8 3 ⟨[(4,.ptr 500000 0),(5,vI 4)],[(500000,.box [(vS ByteArray.empty),(vS ByteArray.empty),(vI 0),(vI 0),.nl,.nl,.nl])]⟩ fun τ hτ=>?_
 refine th_ret ?_
 obtain rfl:=osi h
 exact rk_ret hτ [(4,.ptr 0 0),(5,vI 4)] (subR_prep [.row (.box 500000 4) 800000 86 [],.row (.box 500000 5) 800001 86 [],.row (.box 500000 6) 800002 86 []] [(500000,0),(800000,1),(800001,2),(800002,3)] (by kernel_rfl) rfl rfl (by kernel_rfl)) (by kernel_rfl)
 replace h:=iteF hb h
 refine z4 ⟨[(4,.ptr 500000 0),(7,.ptr 500001 0)],[(500000,.box [(vS ByteArray.empty),(vS ByteArray.empty),(vI 0),(vI 0),.nl,.nl,.nl]),(500001,.box [(vS r20.Name),(vS r20.Material),(vI r20.Gauge),(vI r20.Grain),(ro 500002 86),(ro 500003 86),(ro 500004 86)]),(500002,w_Rect 86 r20.Rects),(500003,w_Rect 86 r20.Cuts),(500004,w_Rect 86 r20.Forms)]⟩ (z8 3 ⟨[(4,.ptr 500000 0),(5,vI 0)],[(500000,.box [(vS r20.Name),(vS r20.Material),(vI r20.Gauge),(vI r20.Grain),(ro 500002 86),(ro 500003 86),(ro 500004 86)]),(500002,w_Rect 86 r20.Rects),(500003,w_Rect 86 r20.Cuts),(500004,w_Rect 86 r20.Forms)]⟩ fun τ hτ=>?_)
 obtain rfl:=osi h
 exact rk_ret hτ [(4,.ptr 0 0),(5,vI 0)] (subR_prep [] [(500000,0),(500002,1),(500003,2),(500004,3)] (by kernel_rfl) rfl rfl (by kernel_rfl)) (by kernel_rfl)
theorem W.nest_overlaps_ok {a : (List Rect)} {b : (List Rect)} {r : Bool} (h : nest_overlaps a b = some r) : PC G.P 84 [(.sl (List.map c_Rect a)),(.sl (List.map c_Rect b))] [] (vB r) []:=by
 refine zU G Tryz.func84 (zK ⟨[(0,s_Rect a),(1,s_Rect b)],[]⟩ (z3 1 ⟨[(0,s_Rect a),(1,s_Rect b)],[]⟩ ?_))
 refine zB (z7 (zA 1 ?_))
 refine evs_op (st_len (c:=c_Rect) (l:=a) (x:=(s_Rect a)) (by kernel_rfl) (by kernel_rfl)) (z1 1 ⟨[(1,s_Rect b),(9,s_Rect a),(10,vI (a.length : Int)),(11,vI 0)],[]⟩ (zC ?_))
 obtain ⟨x380,hx380,h⟩:=bindS h
 refine sem_loopS (fun (s255 : Int)=>⟨[(1,s_Rect b),(9,s_Rect a),(10,vI (a.length : Int)),(11,vI s255)],[]⟩) (fun (x380 : Unit ⊕ Unit)=>match x380 with | .inl j381=>(.ret,⟨[(4,vB true)],[]⟩) | .inr j382=>(.exit 0,⟨[],[]⟩)) (nest_overlaps_l2 a b) 0 x380 (by kernel_rfl) (here (by kernel_rfl)) hx380 ?_ ?_ ?_
 intro s255 r h
 refine z3 1 ⟨[(1,s_Rect b),(9,s_Rect a),(10,vI (a.length : Int)),(11,vI s255),(12,vB (decide (s255 < (a.length : Int))))],[]⟩ (zB (zI (decide (s255 < (a.length : Int))) (fun hb=>?_) fun hb=>?_))
 replace h:=iteT hb h
 refine z4 ⟨[(1,s_Rect b),(9,s_Rect a),(10,vI (a.length : Int)),(11,vI s255)],[]⟩ (zB (zC ?_))
 refine z7 ?_
 obtain ⟨x350,hx350,h⟩:=bindS h
 refine evs_op (st_idx (c:=c_Rect) (l:=a) (i:=s255) (kd:=.i64) (sz:=4) (by kernel_rfl) hx350 rfl) (z1 3 ⟨[(1,s_Rect b),(6,.ptr 6 0),(9,s_Rect a),(10,vI (a.length : Int)),(11,vI s255)],[(6,.box (c_Rect x350))]⟩ (z7 ?_))
 refine zA 1 (evs_op (st_len (c:=c_Rect) (l:=b) (x:=(s_Rect b)) (by kernel_rfl) (by kernel_rfl)) (z1 1 ⟨[(1,s_Rect b),(6,.ptr 6 0),(9,s_Rect a),(10,vI (a.length : Int)),(11,vI s255),(15,s_Rect b),(16,vI (b.length : Int)),(17,vI 0)],[(6,.box (c_Rect x350))]⟩ ?_))
 refine zC ?_
 obtain ⟨x377,hx377,h⟩:=bindS h
 refine sem_loopS (fun (s360 : Int)=>⟨[(1,s_Rect b),(6,.ptr 500000 0),(9,s_Rect a),(10,vI (a.length : Int)),(11,vI s255),(15,s_Rect b),(16,vI (b.length : Int)),(17,vI s360)],[(500000,.box (c_Rect x350))]⟩) (fun (x377 : Unit ⊕ Unit)=>match x377 with | .inl j378=>(.ret,⟨[(4,vB true)],[]⟩) | .inr j379=>(.exit 2,⟨[(1,s_Rect b),(9,s_Rect a),(10,vI (a.length : Int)),(11,vI s255)],[]⟩)) (nest_overlaps_l1 b x350) 0 x377 (by kernel_rfl) (subR_prep [] [(6,500000)] (by kernel_rfl) rfl rfl (by kernel_rfl)) hx377 ?_ ?_ ?_
 intro s360 r h
 refine z3 1 ⟨[(1,s_Rect b),(6,.ptr 500000 0),(9,s_Rect a),(10,vI (a.length : Int)),(11,vI s255),(15,s_Rect b),(16,vI (b.length : Int)),(17,vI s360),(18,vB (decide (s360 < (b.length : Int))))],[(500000,.box (c_Rect x350))]⟩ (zB (zI (decide (s360 < (b.length : Int))) (fun hb=>?_) fun hb=>?_))
 replace h:=iteT hb h
 refine z4 ⟨[(1,s_Rect b),(6,.ptr 500000 0),(9,s_Rect a),(10,vI (a.length : Int)),(11,vI s255),(15,s_Rect b),(16,vI (b.length : Int)),(17,vI s360)],[(500000,.box (c_Rect x350))]⟩ (zB (zC ?_))
 refine z7 ?_
 obtain ⟨x374,hx374,h⟩:=bindS h
 refine evs_op (st_idx (c:=c_Rect) (l:=b) (i:=s360) (kd:=.i64) (sz:=4) (by kernel_rfl) hx374 rfl) (z1 3 ⟨[(1,s_Rect b),(6,.ptr 500000 0),(8,.ptr 8 0),(9,s_Rect a),(10,vI (a.length : Int)),(11,vI s255),(15,s_Rect b),(16,vI (b.length : Int)),(17,vI s360)],[(8,.box (c_Rect x374)),(500000,.box (c_Rect x350))]⟩ (z7 ?_))
 refine zA 2 ?_
 obtain ⟨r376,hr376,h⟩:=bindS h
 refine evs_callP [] (by kernel_rfl) (W.geom_Overlap_ok hr376) (by kernel_rfl) (.inl rfl) (by kernel_rfl) (zP fun τ hτ=>?_)
 refine zE hτ ⟨[(1,s_Rect b),(6,.ptr 500000 0),(9,s_Rect a),(10,vI (a.length : Int)),(11,vI s255),(15,s_Rect b),(16,vI (b.length : Int)),(17,vI s360),(23,vB r376)],[(500000,.box (c_Rect x350))]⟩ (zI r376 (fun hb=>?_) fun hb=>?_)
 replace h:=iteT hb h
 refine z8 1 ⟨[(4,vB true)],[]⟩ fun τ hτ=>?_
 refine bl_ret (th_ret ?_)
 obtain rfl:=osi h
 exact zF hτ
 replace h:=iteF hb h
 refine zM fun τ hτ=>?_
 refine bl_normal (zE hτ ⟨[(1,s_Rect b),(6,.ptr 500000 0),(9,s_Rect a),(10,vI (a.length : Int)),(11,vI s255),(15,s_Rect b),(16,vI (b.length : Int)),(17,vI s360)],[(500000,.box (c_Rect x350))]⟩ (zD ?_))
 refine z6 2 fun τ hτ=>?_
 obtain rfl:=osi h
 exact zH hτ
 replace h:=iteF hb h
 refine zL 2 fun τ hτ=>?_
 refine th_exit ?_
 obtain rfl:=osi h
 exact zF hτ
 intro x
 rcases x with _ | _ <;> rfl
 intro τ hτ
 rcases x377 with j378 | j379
 refine bl_ret (bl_ret (th_ret ?_))
 obtain rfl:=osi h
 exact zF hτ
 refine zQ (bl_normal (zE hτ ⟨[(1,s_Rect b),(9,s_Rect a),(10,vI (a.length : Int)),(11,vI s255)],[]⟩ ?_))
 refine zD (z6 2 fun τ hτ=>?_)
 obtain rfl:=osi h
 exact zH hτ
 replace h:=iteF hb h
 refine zL 0 fun τ hτ=>?_
 refine th_exit ?_
 obtain rfl:=osi h
 exact zF hτ
 intro x
 rcases x with _ | _ <;> rfl
 intro τ hτ
 rcases x380 with j381 | j382
 refine bl_ret (th_ret ?_)
 obtain rfl:=osi h
 exact zV hτ [(4,vB true)]
 refine zQ (zE hτ ⟨[],[]⟩ (z8 1 ⟨[(4,vB false)],[]⟩ fun τ hτ=>?_))
 obtain rfl:=osi h
 exact zV hτ [(4,vB false)]
theorem W.nest_lists_ok {sheets : (List Sheet)} {pieces : (List Piece)} {r : Int} (h : nest_lists sheets pieces = some r) : PC G.P 77 [(.sl (List.map c_Sheet sheets)),(.sl (List.map c_Piece pieces))] [] (vI r) []:=by
 refine zU G Tryz.func77 (zK ⟨[(0,s_Sheet sheets),(1,s_Piece pieces)],[]⟩ (z3 1 ⟨[(0,s_Sheet sheets),(1,s_Piece pieces)],[]⟩ ?_))
 refine zB (zB ?_)
 obtain ⟨j2,hj2,h⟩:=bindS h
 refine zT ⟨[(0,s_Sheet sheets),(1,s_Piece pieces),(18,vB j2)],[]⟩ ?_ fun τ hτ=>?_
 replace h:=hj2
 refine zA 1 (evs_op (st_len (c:=c_Sheet) (l:=sheets) (x:=(s_Sheet sheets)) (by kernel_rfl) (by kernel_rfl)) (zA 2 ?_))
 refine zS (decide ((sheets.length : Int) > 4)) (fun b0=>⟨[(0,s_Sheet sheets),(1,s_Piece pieces),(14,vB b0)],[]⟩) (fun hb=>?_) fun hb=>?_
 replace h:=iteT hb h
 refine z6 4 fun τ hτ=>?_
 obtain rfl:=osi h
 exact zG hτ
 replace h:=iteF hb h
 refine zA 1 (evs_op (st_len (c:=c_Piece) (l:=pieces) (x:=(s_Piece pieces)) (by kernel_rfl) (by kernel_rfl)) (z6 2 fun τ hτ=>?_))
 obtain rfl:=osi h
 exact zG hτ
 refine zE hτ ⟨[(0,s_Sheet sheets),(1,s_Piece pieces),(18,vB j2)],[]⟩ (zI j2 (fun hb=>?_) fun hb=>?_)
 replace h:=iteT hb h
 refine z8 1 ⟨[(4,vI 4)],[]⟩ fun τ hτ=>?_
 refine th_ret ?_
 obtain rfl:=osi h
 exact zV hτ [(4,vI 4)]
 replace h:=iteF hb h
 refine z4 ⟨[(0,s_Sheet sheets),(1,s_Piece pieces)],[]⟩ (zB (z7 ?_))
 refine zA 1 (evs_op (st_len (c:=c_Sheet) (l:=sheets) (x:=(s_Sheet sheets)) (by kernel_rfl) (by kernel_rfl)) (z1 1 ⟨[(1,s_Piece pieces),(19,s_Sheet sheets),(20,vI (sheets.length : Int)),(21,vI 0)],[]⟩ ?_))
 refine zC ?_
 obtain ⟨x58,hx58,h⟩:=bindS h
 refine sem_loopS (fun (s41 : Int)=>⟨[(1,s_Piece pieces),(19,s_Sheet sheets),(20,vI (sheets.length : Int)),(21,vI s41)],[]⟩) (fun (x58 : Int ⊕ Unit)=>match x58 with | .inl j59=>(.ret,⟨[(4,vI j59)],[]⟩) | .inr j60=>(.exit 0,⟨[(1,s_Piece pieces)],[]⟩)) (nest_lists_l1 sheets) 0 x58 (by kernel_rfl) (here (by kernel_rfl)) hx58 ?_ ?_ ?_
 intro s41 r h
 refine z3 1 ⟨[(1,s_Piece pieces),(19,s_Sheet sheets),(20,vI (sheets.length : Int)),(21,vI s41),(22,vB (decide (s41 < (sheets.length : Int))))],[]⟩ (zB (zI (decide (s41 < (sheets.length : Int))) (fun hb=>?_) fun hb=>?_))
 replace h:=iteT hb h
 refine z4 ⟨[(1,s_Piece pieces),(19,s_Sheet sheets),(20,vI (sheets.length : Int)),(21,vI s41)],[]⟩ (zB (zC ?_))
 refine z7 ?_
 obtain ⟨x55,hx55,h⟩:=bindS h
 refine evs_op (st_idx (c:=c_Sheet) (l:=sheets) (i:=s41) (kd:=.i64) (sz:=8) (by kernel_rfl) hx55 rfl) (z1 3 ⟨[(1,s_Piece pieces),(6,.ptr 6 0),(19,s_Sheet sheets),(20,vI (sheets.length : Int)),(21,vI s41)],[(6,.box (c_Sheet x55))]⟩ (z7 ?_))
 refine zA 1 ?_
 obtain ⟨r57,hr57,h⟩:=bindS h
 refine evs_callP [] (by kernel_rfl) (W.nest_ValidateSheet_ok hr57) (by kernel_rfl) (.inl rfl) (by kernel_rfl) (z1 1 ⟨[(1,s_Piece pieces),(7,vI r57),(19,s_Sheet sheets),(20,vI (sheets.length : Int)),(21,vI s41)],[]⟩ (z3 2 ⟨[(1,s_Piece pieces),(7,vI r57),(19,s_Sheet sheets),(20,vI (sheets.length : Int)),(21,vI s41),(28,vB (r57 != 0))],[]⟩ ?_))
 refine zI (r57 != 0) (fun hb=>?_) fun hb=>?_
 replace h:=iteT hb h
 refine z8 2 ⟨[(4,vI r57)],[]⟩ fun τ hτ=>?_
 refine bl_ret (th_ret ?_)
 obtain rfl:=osi h
 exact zF hτ
 replace h:=iteF hb h
 refine zM fun τ hτ=>?_
 refine bl_normal (zE hτ ⟨[(1,s_Piece pieces),(19,s_Sheet sheets),(20,vI (sheets.length : Int)),(21,vI s41)],[]⟩ (zD ?_))
 refine z6 2 fun τ hτ=>?_
 obtain rfl:=osi h
 exact zH hτ
 replace h:=iteF hb h
 refine zL 0 fun τ hτ=>?_
 refine th_exit ?_
 obtain rfl:=osi h
 exact zF hτ
 intro x
 rcases x with _ | _ <;> rfl
 intro τ hτ
 rcases x58 with j59 | j60
 refine bl_ret (th_ret ?_)
 obtain rfl:=osi h
 exact zV hτ [(4,vI j59)]
 refine zQ (zE hτ ⟨[(1,s_Piece pieces)],[]⟩ (zB ?_))
 refine z7 (zA 1 (evs_op (st_len (c:=c_Piece) (l:=pieces) (x:=(s_Piece pieces)) (by kernel_rfl) (by kernel_rfl)) ?_))
 refine z1 1 ⟨[(31,s_Piece pieces),(32,vI (pieces.length : Int)),(33,vI 0)],[]⟩ (zC ?_)
 obtain ⟨x116,hx116,h⟩:=bindS h
 refine sem_loopS (fun (s99 : Int)=>⟨[(31,s_Piece pieces),(32,vI (pieces.length : Int)),(33,vI s99)],[]⟩) (fun (x116 : Int ⊕ Unit)=>match x116 with | .inl j117=>(.ret,⟨[(4,vI j117)],[]⟩) | .inr j118=>(.exit 2,⟨[],[]⟩)) (nest_lists_l2 pieces) 0 x116 (by kernel_rfl) (here (by kernel_rfl)) hx116 ?_ ?_ ?_
 intro s99 r h
 refine z3 1 ⟨[(31,s_Piece pieces),(32,vI (pieces.length : Int)),(33,vI s99),(34,vB (decide (s99 < (pieces.length : Int))))],[]⟩ (zB (zI (decide (s99 < (pieces.length : Int))) (fun hb=>?_) fun hb=>?_))
 replace h:=iteT hb h
 refine z4 ⟨[(31,s_Piece pieces),(32,vI (pieces.length : Int)),(33,vI s99)],[]⟩ (zB (zC ?_))
 refine z7 ?_
 obtain ⟨x113,hx113,h⟩:=bindS h
 refine evs_op (st_idx (c:=c_Piece) (l:=pieces) (i:=s99) (kd:=.i64) (sz:=7) (by kernel_rfl) hx113 rfl) (z1 3 ⟨[(9,.ptr 9 0),(31,s_Piece pieces),(32,vI (pieces.length : Int)),(33,vI s99)],[(9,.box (c_Piece x113))]⟩ (z7 ?_))
 refine zA 1 ?_
 obtain ⟨r115,hr115,h⟩:=bindS h
 refine evs_callP [] (by kernel_rfl) (W.nest_ValidatePiece_ok hr115) (by kernel_rfl) (.inl rfl) (by kernel_rfl) (z1 1 ⟨[(10,vI r115),(31,s_Piece pieces),(32,vI (pieces.length : Int)),(33,vI s99)],[]⟩ (z3 2 ⟨[(10,vI r115),(31,s_Piece pieces),(32,vI (pieces.length : Int)),(33,vI s99),(40,vB (r115 != 0))],[]⟩ ?_))
 refine zI (r115 != 0) (fun hb=>?_) fun hb=>?_
 replace h:=iteT hb h
 refine z8 2 ⟨[(4,vI r115)],[]⟩ fun τ hτ=>?_
 refine bl_ret (th_ret ?_)
 obtain rfl:=osi h
 exact zF hτ
 replace h:=iteF hb h
 refine zM fun τ hτ=>?_
 refine bl_normal (zE hτ ⟨[(31,s_Piece pieces),(32,vI (pieces.length : Int)),(33,vI s99)],[]⟩ (zD ?_))
 refine z6 2 fun τ hτ=>?_
 obtain rfl:=osi h
 exact zH hτ
 replace h:=iteF hb h
 refine zL 2 fun τ hτ=>?_
 refine th_exit ?_
 obtain rfl:=osi h
 exact zF hτ
 intro x
 rcases x with _ | _ <;> rfl
 intro τ hτ
 rcases x116 with j117 | j118
 refine bl_ret (th_ret ?_)
 obtain rfl:=osi h
 exact zV hτ [(4,vI j117)]
 refine zQ (zE hτ ⟨[],[]⟩ (z8 1 ⟨[(4,vI 0)],[]⟩ fun τ hτ=>?_))
 obtain rfl:=osi h
 exact zV hτ [(4,vI 0)]
theorem W.sheetmetalref06_given_ok {sheets : (List Sheet)} {pieces : (List Piece)} {r : Int} (h : sheetmetalref06_given sheets pieces = some r) : PC G.P 79 [(.sl (List.map c_Sheet sheets)),(.sl (List.map c_Piece pieces))] [] (vI r) []:=by
 refine zU G Tryz.func79 (zK ⟨[(0,s_Sheet sheets),(1,s_Piece pieces)],[]⟩ (z3 1 ⟨[(0,s_Sheet sheets),(1,s_Piece pieces)],[]⟩ ?_))
 refine zB (zB ?_)
 obtain ⟨j2,hj2,h⟩:=bindS h
 refine zT ⟨[(0,s_Sheet sheets),(1,s_Piece pieces),(16,vB j2)],[]⟩ ?_ fun τ hτ=>?_
 replace h:=hj2
 refine zA 1 (evs_op (st_len (c:=c_Sheet) (l:=sheets) (x:=(s_Sheet sheets)) (by kernel_rfl) (by kernel_rfl)) (zA 2 ?_))
 refine zS (decide ((sheets.length : Int) > 4)) (fun b0=>⟨[(0,s_Sheet sheets),(1,s_Piece pieces),(12,vB b0)],[]⟩) (fun hb=>?_) fun hb=>?_
 replace h:=iteT hb h
 refine z6 4 fun τ hτ=>?_
 obtain rfl:=osi h
 exact zG hτ
 replace h:=iteF hb h
 refine zA 1 (evs_op (st_len (c:=c_Piece) (l:=pieces) (x:=(s_Piece pieces)) (by kernel_rfl) (by kernel_rfl)) (z6 2 fun τ hτ=>?_))
 obtain rfl:=osi h
 exact zG hτ
 refine zE hτ ⟨[(0,s_Sheet sheets),(1,s_Piece pieces),(16,vB j2)],[]⟩ (zI j2 (fun hb=>?_) fun hb=>?_)
 replace h:=iteT hb h
 refine z8 1 ⟨[(4,vI 4)],[]⟩ fun τ hτ=>?_
 refine th_ret ?_
 obtain rfl:=osi h
 exact zV hτ [(4,vI 4)]
 replace h:=iteF hb h
 refine z4 ⟨[(0,s_Sheet sheets),(1,s_Piece pieces)],[]⟩ (zB (z3 1 ⟨[(0,s_Sheet sheets),(1,s_Piece pieces),(5,vI 0)],[]⟩ ?_))
 refine zC ?_
 obtain ⟨x58,hx58,h⟩:=bindS h
 refine sem_loopS (fun (s41 : Int)=>⟨[(0,s_Sheet sheets),(1,s_Piece pieces),(5,vI s41)],[]⟩) (fun (x58 : Int ⊕ Unit)=>match x58 with | .inl j59=>(.ret,⟨[(4,vI j59)],[]⟩) | .inr j60=>(.exit 0,⟨[(1,s_Piece pieces)],[]⟩)) (sheetmetalref06_given_l1 sheets) 0 x58 (by kernel_rfl) (here (by kernel_rfl)) hx58 ?_ ?_ ?_
 intro s41 r h
 refine zB (z7 (zA 2 ?_))
 refine evs_op (st_len (c:=c_Sheet) (l:=sheets) (x:=(s_Sheet sheets)) (by kernel_rfl) (by kernel_rfl)) (z1 1 ⟨[(0,s_Sheet sheets),(1,s_Piece pieces),(5,vI s41),(20,vB (decide (s41 < (sheets.length : Int))))],[]⟩ (zI (decide (s41 < (sheets.length : Int))) (fun hb=>?_) fun hb=>?_))
 replace h:=iteT hb h
 refine z4 ⟨[(0,s_Sheet sheets),(1,s_Piece pieces),(5,vI s41)],[]⟩ (zB (zC ?_))
 refine z7 (zA 2 ?_)
 obtain ⟨x56,hx56,h⟩:=bindS h
 refine evs_op (st_idx (c:=c_Sheet) (l:=sheets) (i:=s41) (kd:=.i64) (sz:=8) (by kernel_rfl) hx56 rfl) (zA 1 ?_)
 obtain ⟨r57,hr57,h⟩:=bindS h
 refine evs_callP [] (by kernel_rfl) (W.sheetmetalref06_ValidateSheet_ok hr57) (by kernel_rfl) (.inl rfl) (by kernel_rfl) (z1 1 ⟨[(0,s_Sheet sheets),(1,s_Piece pieces),(5,vI s41),(6,vI r57)],[]⟩ (z3 2 ⟨[(0,s_Sheet sheets),(1,s_Piece pieces),(5,vI s41),(6,vI r57),(29,vB (r57 != 0))],[]⟩ ?_))
 refine zI (r57 != 0) (fun hb=>?_) fun hb=>?_
 replace h:=iteT hb h
 refine z8 2 ⟨[(4,vI r57)],[]⟩ fun τ hτ=>?_
 refine bl_ret (th_ret ?_)
 obtain rfl:=osi h
 exact zF hτ
 replace h:=iteF hb h
 refine zM fun τ hτ=>?_
 refine bl_normal (zE hτ ⟨[(0,s_Sheet sheets),(1,s_Piece pieces),(5,vI s41)],[]⟩ (zD ?_))
 refine z6 3 fun τ hτ=>?_
 obtain rfl:=osi h
 exact zH hτ
 replace h:=iteF hb h
 refine zL 0 fun τ hτ=>?_
 refine th_exit ?_
 obtain rfl:=osi h
 exact zF hτ
 intro x
 rcases x with _ | _ <;> rfl
 intro τ hτ
 rcases x58 with j59 | j60
 refine bl_ret (th_ret ?_)
 obtain rfl:=osi h
 exact zV hτ [(4,vI j59)]
 refine zQ (zE hτ ⟨[(1,s_Piece pieces)],[]⟩ (zB ?_))
 refine z3 1 ⟨[(1,s_Piece pieces),(7,vI 0)],[]⟩ (zC ?_)
 obtain ⟨x116,hx116,h⟩:=bindS h
 refine sem_loopS (fun (s99 : Int)=>⟨[(1,s_Piece pieces),(7,vI s99)],[]⟩) (fun (x116 : Int ⊕ Unit)=>match x116 with | .inl j117=>(.ret,⟨[(4,vI j117)],[]⟩) | .inr j118=>(.exit 2,⟨[],[]⟩)) (sheetmetalref06_given_l2 pieces) 0 x116 (by kernel_rfl) (here (by kernel_rfl)) hx116 ?_ ?_ ?_
 intro s99 r h
 refine zB (z7 (zA 2 ?_))
 refine evs_op (st_len (c:=c_Piece) (l:=pieces) (x:=(s_Piece pieces)) (by kernel_rfl) (by kernel_rfl)) (z1 1 ⟨[(1,s_Piece pieces),(7,vI s99),(34,vB (decide (s99 < (pieces.length : Int))))],[]⟩ (zI (decide (s99 < (pieces.length : Int))) (fun hb=>?_) fun hb=>?_))
 replace h:=iteT hb h
 refine z4 ⟨[(1,s_Piece pieces),(7,vI s99)],[]⟩ (zB (zC ?_))
 refine z7 (zA 2 ?_)
 obtain ⟨x114,hx114,h⟩:=bindS h
 refine evs_op (st_idx (c:=c_Piece) (l:=pieces) (i:=s99) (kd:=.i64) (sz:=7) (by kernel_rfl) hx114 rfl) (zA 1 ?_)
 obtain ⟨r115,hr115,h⟩:=bindS h
 refine evs_callP [] (by kernel_rfl) (W.sheetmetalref06_ValidatePiece_ok hr115) (by kernel_rfl) (.inl rfl) (by kernel_rfl) (z1 1 ⟨[(1,s_Piece pieces),(7,vI s99),(8,vI r115)],[]⟩ (z3 2 ⟨[(1,s_Piece pieces),(7,vI s99),(8,vI r115),(43,vB (r115 != 0))],[]⟩ ?_))
 refine zI (r115 != 0) (fun hb=>?_) fun hb=>?_
 replace h:=iteT hb h
 refine z8 2 ⟨[(4,vI r115)],[]⟩ fun τ hτ=>?_
 refine bl_ret (th_ret ?_)
 obtain rfl:=osi h
 exact zF hτ
 replace h:=iteF hb h
 refine zM fun τ hτ=>?_
 refine bl_normal (zE hτ ⟨[(1,s_Piece pieces),(7,vI s99)],[]⟩ (zD ?_))
 refine z6 3 fun τ hτ=>?_
 obtain rfl:=osi h
 exact zH hτ
 replace h:=iteF hb h
 refine zL 2 fun τ hτ=>?_
 refine th_exit ?_
 obtain rfl:=osi h
 exact zF hτ
 intro x
 rcases x with _ | _ <;> rfl
 intro τ hτ
 rcases x116 with j117 | j118
 refine bl_ret (th_ret ?_)
 obtain rfl:=osi h
 exact zV hτ [(4,vI j117)]
 refine zQ (zE hτ ⟨[],[]⟩ (z8 1 ⟨[(4,vI 0)],[]⟩ fun τ hτ=>?_))
 obtain rfl:=osi h
 exact zV hτ [(4,vI 0)]
theorem W.nest_liesWell_ok {x0 : Piece} {s1 : Sheet} {set2 : Settings} {turn : Int} {r : Bool} (h : nest_liesWell x0 s1 set2 turn = some r) : PC G.P 78 [(.agg (c_Piece x0)),(.agg (c_Sheet s1)),(.agg (c_Settings set2)),(vI turn)] [] (vB r) []:=by
 refine zU G Tryz.func78 (zK ⟨[(0,.agg (c_Piece x0)),(1,.agg (c_Sheet s1)),(2,.agg (c_Settings set2)),(3,vI turn)],[]⟩ (z3 4 ⟨[(3,vI turn),(4,.ptr 4 0),(5,.ptr 5 0),(6,.ptr 6 0)],[(4,.box (c_Piece x0)),(5,.box (c_Sheet s1)),(6,.box (c_Settings set2))]⟩ ?_))
 refine z7 (zA 3 ?_)
 obtain ⟨r2,hr2,h⟩:=bindS h
 refine evs_callS [] [(0,700150)] [] (by kernel_rfl) (W.nest_inner_ok hr2) (by kernel_rfl) (by kernel_rfl) (.inl rfl) (z1 6 ⟨[(3,vI turn),(4,.ptr 4 0),(5,.ptr 5 0),(9,.ptr 9 0),(10,vB r2.2)],[(4,.box (c_Piece x0)),(5,.box (c_Sheet s1)),(9,.box (c_Rect r2.1))]⟩ (zB ?_))
 refine zB ?_
 obtain ⟨j7,hj7,h⟩:=bindS h
 refine zT ⟨[(4,.ptr 500000 0),(5,.ptr 500001 0),(9,.ptr 500002 0),(28,vB j7)],[(500000,.box (c_Piece x0)),(500001,.box (c_Sheet s1)),(500002,.box (c_Rect r2.1))]⟩ ?_ fun τ hτ=>?_
 replace h:=hj7
 refine zA 3 (zS r2.2 (fun b0=>⟨[(3,vI turn),(4,.ptr 4 0),(5,.ptr 5 0),(9,.ptr 9 0),(22,vB (!b0))],[(4,.box (c_Piece x0)),(5,.box (c_Sheet s1)),(9,.box (c_Rect r2.1))]⟩) (fun hb=>?_) fun hb=>?_)
 replace h:=iteT hb h
 refine zA 3 ?_
 obtain ⟨r8,hr8,h⟩:=bindS h
 refine evs_callP [] (by kernel_rfl) (W.nest_Allowed_ok hr8) (by kernel_rfl) (.inl rfl) (by kernel_rfl) (z6 2 fun τ hτ=>?_)
 obtain rfl:=osi h
 exact leafC hτ (subR_prep [] [(4,500000),(5,500001),(9,500002)] (by kernel_rfl) rfl rfl (by kernel_rfl))
 replace h:=iteF hb h
 refine z6 6 fun τ hτ=>?_
 obtain rfl:=osi h
 exact leafC hτ (subR_prep [] [(4,500000),(5,500001),(9,500002)] (by kernel_rfl) rfl rfl (by kernel_rfl))
 refine zE hτ ⟨[(4,.ptr 500000 0),(5,.ptr 500001 0),(9,.ptr 500002 0),(28,vB j7)],[(500000,.box (c_Piece x0)),(500001,.box (c_Sheet s1)),(500002,.box (c_Rect r2.1))]⟩ (zI j7 (fun hb=>?_) fun hb=>?_)
 replace h:=iteT hb h
 refine z8 1 ⟨[(8,vB false)],[]⟩ fun τ hτ=>?_
 refine th_ret ?_
 obtain rfl:=osi h
 exact zV hτ [(8,vB false)]
 replace h:=iteF hb h
 refine z4 ⟨[(4,.ptr 500000 0),(5,.ptr 500001 0),(9,.ptr 500002 0)],[(500000,.box (c_Piece x0)),(500001,.box (c_Sheet s1)),(500002,.box (c_Rect r2.1))]⟩ (zB (z7 ?_))
 refine zA 2 (evs_op (st_len (c:=c_Rect) (l:=x0.Rects) (x:=(s_Rect x0.Rects)) (by kernel_rfl) (by kernel_rfl)) (z1 1 ⟨[(4,.ptr 500000 0),(5,.ptr 500001 0),(9,.ptr 500002 0),(30,s_Rect x0.Rects),(31,vI (x0.Rects.length : Int)),(32,vI 0)],[(500000,.box (c_Piece x0)),(500001,.box (c_Sheet s1)),(500002,.box (c_Rect r2.1))]⟩ ?_))
 refine zC ?_
 obtain ⟨x64,hx64,h⟩:=bindS h
 refine sem_loopS (fun (s47 : Int)=>⟨[(4,.ptr 500000 0),(5,.ptr 500001 0),(9,.ptr 500002 0),(30,s_Rect x0.Rects),(31,vI (x0.Rects.length : Int)),(32,vI s47)],[(500000,.box (c_Piece x0)),(500001,.box (c_Sheet s1)),(500002,.box (c_Rect r2.1))]⟩) (fun (x64 : Unit ⊕ Unit)=>match x64 with | .inl j65=>(.ret,⟨[(8,vB false)],[]⟩) | .inr j66=>(.exit 0,⟨[(4,.ptr 500000 0),(5,.ptr 500001 0)],[(500000,.box (c_Piece x0)),(500001,.box (c_Sheet s1))]⟩)) (nest_liesWell_l1 x0 r2) 0 x64 (by kernel_rfl) (here (by kernel_rfl)) hx64 ?_ ?_ ?_
 intro s47 r h
 refine z3 1 ⟨[(4,.ptr 500000 0),(5,.ptr 500001 0),(9,.ptr 500002 0),(30,s_Rect x0.Rects),(31,vI (x0.Rects.length : Int)),(32,vI s47),(33,vB (decide (s47 < (x0.Rects.length : Int))))],[(500000,.box (c_Piece x0)),(500001,.box (c_Sheet s1)),(500002,.box (c_Rect r2.1))]⟩ (zB (zI (decide (s47 < (x0.Rects.length : Int))) (fun hb=>?_) fun hb=>?_))
 replace h:=iteT hb h
 refine z4 ⟨[(4,.ptr 500000 0),(5,.ptr 500001 0),(9,.ptr 500002 0),(30,s_Rect x0.Rects),(31,vI (x0.Rects.length : Int)),(32,vI s47)],[(500000,.box (c_Piece x0)),(500001,.box (c_Sheet s1)),(500002,.box (c_Rect r2.1))]⟩ (zB (zC ?_))
 refine z7 ?_
 obtain ⟨x61,hx61,h⟩:=bindS h
 refine evs_op (st_idx (c:=c_Rect) (l:=x0.Rects) (i:=s47) (kd:=.i64) (sz:=4) (by kernel_rfl) hx61 rfl) (z1 3 ⟨[(4,.ptr 500000 0),(5,.ptr 500001 0),(9,.ptr 500002 0),(12,.ptr 12 0),(30,s_Rect x0.Rects),(31,vI (x0.Rects.length : Int)),(32,vI s47)],[(12,.box (c_Rect x61)),(500000,.box (c_Piece x0)),(500001,.box (c_Sheet s1)),(500002,.box (c_Rect r2.1))]⟩ (z7 ?_))
 refine zA 2 ?_
 obtain ⟨r63,hr63,h⟩:=bindS h
 refine evs_callP [] (by kernel_rfl) (W.geom_Inside_ok hr63) (by kernel_rfl) (.inl rfl) (by kernel_rfl) (z1 1 ⟨[(4,.ptr 500000 0),(5,.ptr 500001 0),(9,.ptr 500002 0),(30,s_Rect x0.Rects),(31,vI (x0.Rects.length : Int)),(32,vI s47),(39,vB (!r63))],[(500000,.box (c_Piece x0)),(500001,.box (c_Sheet s1)),(500002,.box (c_Rect r2.1))]⟩ (zI (!r63) (fun hb=>?_) fun hb=>?_))
 replace h:=iteT hb h
 refine z8 1 ⟨[(8,vB false)],[]⟩ fun τ hτ=>?_
 refine bl_ret (th_ret ?_)
 obtain rfl:=osi h
 exact zF hτ
 replace h:=iteF hb h
 refine zM fun τ hτ=>?_
 refine bl_normal (zE hτ ⟨[(4,.ptr 500000 0),(5,.ptr 500001 0),(9,.ptr 500002 0),(30,s_Rect x0.Rects),(31,vI (x0.Rects.length : Int)),(32,vI s47)],[(500000,.box (c_Piece x0)),(500001,.box (c_Sheet s1)),(500002,.box (c_Rect r2.1))]⟩ (zD ?_))
 refine z6 2 fun τ hτ=>?_
 obtain rfl:=osi h
 exact zH hτ
 replace h:=iteF hb h
 refine zL 0 fun τ hτ=>?_
 refine th_exit ?_
 obtain rfl:=osi h
 exact zF hτ
 intro x
 rcases x with _ | _ <;> rfl
 intro τ hτ
 rcases x64 with j65 | j66
 refine bl_ret (th_ret ?_)
 obtain rfl:=osi h
 exact zV hτ [(8,vB false)]
 refine zQ (zE hτ ⟨[(4,.ptr 500000 0),(5,.ptr 500001 0)],[(500000,.box (c_Piece x0)),(500001,.box (c_Sheet s1))]⟩ (zB ?_))
 obtain ⟨j69,hj69,h⟩:=bindS h
 refine zT ⟨[(8,vB j69)],[]⟩ ?_ fun τ hτ=>?_
 replace h:=hj69
 refine zA 4 ?_
 obtain ⟨r70,hr70,h⟩:=bindS h
 refine evs_callP [] (by kernel_rfl) (W.nest_overlaps_ok hr70) (by kernel_rfl) (.inl rfl) (by kernel_rfl) (zA 2 (zS r70 (fun b0=>⟨[(4,.ptr 500000 0),(5,.ptr 500001 0),(47,vB (!b0))],[(500000,.box (c_Piece x0)),(500001,.box (c_Sheet s1))]⟩) (fun hb=>?_) fun hb=>?_))
 replace h:=iteT hb h
 refine z6 8 fun τ hτ=>?_
 obtain rfl:=osi h
 exact zG hτ
 replace h:=iteF hb h
 refine zA 4 ?_
 obtain ⟨r71,hr71,h⟩:=bindS h
 refine evs_callP [] (by kernel_rfl) (W.nest_overlaps_ok hr71) (by kernel_rfl) (.inl rfl) (by kernel_rfl) (z6 3 fun τ hτ=>?_)
 obtain rfl:=osi h
 exact zG hτ
 refine zE hτ ⟨[(8,vB j69)],[]⟩ (zN fun τ hτ=>?_)
 obtain rfl:=osi h
 exact zV hτ [(8,vB j69)]
theorem W.nest_Check_ok {sheets : (List Sheet)} {pieces : (List Piece)} {set2 : Settings} {l : (List Placement)} {r : Int × Int} (h : nest_Check sheets pieces set2 l = some r) : PC G.P 32 [(.sl (List.map c_Sheet sheets)),(.sl (List.map c_Piece pieces)),(.agg (c_Settings set2)),(.sl (List.map c_Placement l))] [] (.tup [(vI r.1),(vI r.2)]) []:=by
 refine zU G Tryz.func32 (zK ⟨[(0,s_Sheet sheets),(1,s_Piece pieces),(2,.agg (c_Settings set2)),(3,s_Placement l)],[]⟩ (z3 3 ⟨[(0,s_Sheet sheets),(1,s_Piece pieces),(3,s_Placement l),(6,.ptr 6 0)],[(6,.box (c_Settings set2))]⟩ ?_))
 refine zB (z7 (zA 2 ?_))
 obtain ⟨r4,hr4,h⟩:=bindS h
 refine evs_callP [] (by kernel_rfl) (W.nest_lists_ok hr4) (by kernel_rfl) (.inl rfl) (by kernel_rfl) (z1 1 ⟨[(0,s_Sheet sheets),(1,s_Piece pieces),(3,s_Placement l),(6,.ptr 6 0),(10,vI r4)],[(6,.box (c_Settings set2))]⟩ (z3 2 ⟨[(0,s_Sheet sheets),(1,s_Piece pieces),(3,s_Placement l),(6,.ptr 6 0),(10,vI r4),(24,vB (r4 != 0))],[(6,.box (c_Settings set2))]⟩ ?_))
 refine zI (r4 != 0) (fun hb=>?_) fun hb=>?_
 replace h:=iteT hb h
 refine z8 3 ⟨[(8,vI 0),(9,vI r4)],[]⟩ fun τ hτ=>?_
 refine th_ret ?_
 obtain rfl:=osi h
 exact zV hτ [(8,vI 0),(9,vI r4)]
 replace h:=iteF hb h
 refine z4 ⟨[(0,s_Sheet sheets),(1,s_Piece pieces),(3,s_Placement l),(6,.ptr 6 0)],[(6,.box (c_Settings set2))]⟩ (zB (z7 ?_))
 refine zA 1 ?_
 obtain ⟨r8,hr8,h⟩:=bindS h
 refine evs_callP [] (by kernel_rfl) (W.nest_ValidSettings_ok hr8) (by kernel_rfl) (.inl rfl) (by kernel_rfl) (z1 1 ⟨[(0,s_Sheet sheets),(1,s_Piece pieces),(3,s_Placement l),(6,.ptr 6 0),(28,vB (!r8))],[(6,.box (c_Settings set2))]⟩ (zI (!r8) (fun hb=>?_) fun hb=>?_))
 replace h:=iteT hb h
 refine z8 2 ⟨[(8,vI 0),(9,vI 1)],[]⟩ fun τ hτ=>?_
 refine th_ret ?_
 obtain rfl:=osi h
 exact zV hτ [(8,vI 0),(9,vI 1)]
 replace h:=iteF hb h
 refine z4 ⟨[(0,s_Sheet sheets),(1,s_Piece pieces),(3,s_Placement l),(6,.ptr 6 0)],[(6,.box (c_Settings set2))]⟩ (z3 1 ⟨[(0,s_Sheet sheets),(1,s_Piece pieces),(3,s_Placement l),(6,.ptr 6 0),(11,ro 11 26)],[(6,.box (c_Settings set2)),(11,w_Piece 26 [])]⟩ (zB ?_))
 refine z7 (zA 1 (evs_op (st_len (c:=c_Placement) (l:=l) (x:=(s_Placement l)) (by kernel_rfl) (by kernel_rfl)) ?_))
 refine z1 1 ⟨[(0,s_Sheet sheets),(1,s_Piece pieces),(3,s_Placement l),(6,.ptr 6 0),(11,ro 11 26),(29,s_Placement l),(30,vI (l.length : Int)),(31,vI 0)],[(6,.box (c_Settings set2)),(11,w_Piece 26 [])]⟩ (zC ?_)
 obtain ⟨x2320,hx2320,h⟩:=bindS h
 refine sem_loopS (fun (s1551 : Int × (List Piece))=>⟨[(0,s_Sheet sheets),(1,s_Piece pieces),(3,s_Placement l),(6,.ptr 500000 0),(11,ro 500001 26),(29,s_Placement l),(30,vI (l.length : Int)),(31,vI s1551.1)],[(500000,.box (c_Settings set2)),(500001,w_Piece 26 s1551.2)]⟩) (fun (x2320 : (Int × Int) ⊕ Unit)=>match x2320 with | .inl j2321=>(.ret,⟨[(8,vI j2321.1),(9,vI j2321.2)],[]⟩) | .inr j2322=>(.exit 0,⟨[],[]⟩)) (nest_Check_l3 sheets pieces set2 l) (0,[]) x2320 (by kernel_rfl) (subR_prep [] [(6,500000),(11,500001)] (by kernel_rfl) rfl rfl (by kernel_rfl)) hx2320 ?_ ?_ ?_
 intro s1551 r h
 refine z3 1 ⟨[(0,s_Sheet sheets),(1,s_Piece pieces),(3,s_Placement l),(6,.ptr 500000 0),(11,ro 500001 26),(29,s_Placement l),(30,vI (l.length : Int)),(31,vI s1551.1),(32,vB (decide (s1551.1 < (l.length : Int))))],[(500000,.box (c_Settings set2)),(500001,w_Piece 26 s1551.2)]⟩ (zB (zI (decide (s1551.1 < (l.length : Int))) (fun hb=>?_) fun hb=>?_))
 replace h:=iteT hb h
 refine z4 ⟨[(0,s_Sheet sheets),(1,s_Piece pieces),(3,s_Placement l),(6,.ptr 500000 0),(11,ro 500001 26),(29,s_Placement l),(30,vI (l.length : Int)),(31,vI s1551.1)],[(500000,.box (c_Settings set2)),(500001,w_Piece 26 s1551.2)]⟩ (zB (zC ?_))
 refine z7 (zA 1 ?_)
 obtain ⟨x2129,hx2129,h⟩:=bindS h
 refine evs_op (st_idx (c:=c_Placement) (l:=l) (i:=s1551.1) (kd:=.i64) (sz:=5) (by kernel_rfl) hx2129 rfl) (z1 4 ⟨[(0,s_Sheet sheets),(1,s_Piece pieces),(3,s_Placement l),(6,.ptr 500000 0),(11,ro 500001 26),(12,vI s1551.1),(13,.ptr 13 0),(29,s_Placement l),(30,vI (l.length : Int)),(31,vI s1551.1)],[(13,.box (c_Placement x2129)),(500000,.box (c_Settings set2)),(500001,w_Piece 26 s1551.2)]⟩ (zB ?_))
 refine zB ?_
 obtain ⟨j2137,hj2137,h⟩:=bindS h
 refine zT ⟨[(0,s_Sheet sheets),(1,s_Piece pieces),(3,s_Placement l),(6,.ptr 500000 0),(11,ro 500001 26),(12,vI s1551.1),(13,.ptr 500002 0),(29,s_Placement l),(30,vI (l.length : Int)),(31,vI s1551.1),(51,vB j2137)],[(500000,.box (c_Settings set2)),(500001,w_Piece 26 s1551.2),(500002,.box (c_Placement x2129))]⟩ ?_ fun τ hτ=>?_
 replace h:=hj2137
 refine zA 3 (evs_op (st_len (c:=c_Piece) (l:=pieces) (x:=(s_Piece pieces)) (by kernel_rfl) (by kernel_rfl)) (zA 1 ?_))
 obtain ⟨r2138,hr2138,h⟩:=bindS h
 refine evs_callP [] (by kernel_rfl) (W.nest_from_ok hr2138) (by kernel_rfl) (.inl rfl) (by kernel_rfl) (zA 2 (zS r2138 (fun b0=>⟨[(0,s_Sheet sheets),(1,s_Piece pieces),(3,s_Placement l),(6,.ptr 500000 0),(11,ro 500001 26),(12,vI s1551.1),(13,.ptr 13 0),(29,s_Placement l),(30,vI (l.length : Int)),(31,vI s1551.1),(43,vB (!b0))],[(13,.box (c_Placement x2129)),(500000,.box (c_Settings set2)),(500001,w_Piece 26 s1551.2)]⟩) (fun hb=>?_) fun hb=>?_))
 replace h:=iteT hb h
 refine zA 3 (evs_op (st_len (c:=c_Sheet) (l:=sheets) (x:=(s_Sheet sheets)) (by kernel_rfl) (by kernel_rfl)) (zA 1 ?_))
 obtain ⟨r2139,hr2139,h⟩:=bindS h
 refine evs_callP [] (by kernel_rfl) (W.nest_from_ok hr2139) (by kernel_rfl) (.inl rfl) (by kernel_rfl) (z6 2 fun τ hτ=>?_)
 obtain rfl:=osi h
 exact leafC hτ (subR_prep [] [(13,500002),(500000,500000),(500001,500001)] (by kernel_rfl) rfl rfl (by kernel_rfl))
 replace h:=iteF hb h
 refine z6 8 fun τ hτ=>?_
 obtain rfl:=osi h
 exact leafC hτ (subR_prep [] [(13,500002),(500000,500000),(500001,500001)] (by kernel_rfl) rfl rfl (by kernel_rfl))
 refine zE hτ ⟨[(0,s_Sheet sheets),(1,s_Piece pieces),(3,s_Placement l),(6,.ptr 500000 0),(11,ro 500001 26),(12,vI s1551.1),(13,.ptr 500002 0),(29,s_Placement l),(30,vI (l.length : Int)),(31,vI s1551.1),(51,vB j2137)],[(500000,.box (c_Settings set2)),(500001,w_Piece 26 s1551.2),(500002,.box (c_Placement x2129))]⟩ (zI j2137 (fun hb=>?_) fun hb=>?_)
 replace h:=iteT hb h
 refine z8 3 ⟨[(8,vI s1551.1),(9,vI 1)],[]⟩ fun τ hτ=>?_
 refine th_ret (bl_ret (th_ret ?_))
 obtain rfl:=osi h
 exact zF hτ
 replace h:=iteF hb h
 refine z4 ⟨[(0,s_Sheet sheets),(1,s_Piece pieces),(3,s_Placement l),(6,.ptr 500000 0),(11,ro 500001 26),(12,vI s1551.1),(13,.ptr 500002 0),(29,s_Placement l),(30,vI (l.length : Int)),(31,vI s1551.1)],[(500000,.box (c_Settings set2)),(500001,w_Piece 26 s1551.2),(500002,.box (c_Placement x2129))]⟩ (zB (sem_draw [(6,[700300,700301,700302,700303]),(10,[14]),(11,[14])] [(6,[700300,700301,700302,700303]),(10,[14])] [] [(0,[14]),(1,[14]),(2,[14]),(3,[14]),(4,[14]),(5,[14]),(6,[14]),(7,[14]),(8,[14]),(9,[14]),(10,[700300,700301,700302,700303])] [(0,[700300,700301,700302,700303,14]),(1,[700300,700301,700302,700303,14]),(2,[700300,700301,700302,700303,14]),(3,[700300,700301,700302,700303,14]),(4,[700300,700301,700302,700303,14]),(5,[700300,700301,700302,700303,14]),(6,[14]),(7,[14]),(8,[14]),(9,[14]),(10,[700300,700301,700302,700303])] 12 (by kernel_rfl) (by kernel_rfl) [700300,700301,700302,700303,14] (by kernel_rfl) (by kernel_rfl) ?_))
 refine evd_run 3 (by kernel_rfl) ?_
 obtain ⟨x2144,hx2144,h⟩:=bindS h
 refine evd_val (by kernel_rfl) (st_idx (c:=c_Piece) (l:=pieces) (i:=x2129.Piece) (kd:=.i64) (sz:=7) (by kernel_rfl) hx2144 rfl) (by kernel_rfl) (by kernel_rfl) (evd_run 2 (by kernel_rfl) ?_)
 obtain ⟨r2145,hr2145,h⟩:=bindS h
 refine evd_callS [(0,700300),(1,700301),(2,700302),(3,700303)] [] (by kernel_rfl) (by kernel_rfl) (W.nest_Put_ok hr2145) (by kernel_rfl) (.inl rfl) (by kernel_rfl) (by kernel_rfl) (evd_run 3 (by kernel_rfl) (evd_new (g:=14) (ob:=.box [(vS ByteArray.empty),(vS ByteArray.empty),(vI 0),(vI 0),.nl,.nl,.nl]) (v:=(.ptr 14 0)) (by kernel_rfl) (by kernel_rfl) (by kernel_rfl) (by kernel_rfl) (by kernel_rfl) (by kernel_rfl) ?_))
 refine evd_set (g:=14) (ob:=.box [(vS r2145.1.Name),(vS r2145.1.Material),(vI r2145.1.Gauge),(vI r2145.1.Grain),(ro 700301 86),(ro 700302 86),(ro 700303 86)]) (v:=vU) (by kernel_rfl) (by kernel_rfl) (by kernel_rfl) (by kernel_rfl) (by kernel_rfl) (evd_end (by kernel_rfl) (evo_run 1 (by kernel_rfl) ?_))
 refine zO fun τ hτ=>?_
 refine zE hτ ⟨[(0,s_Sheet sheets),(1,s_Piece pieces),(3,s_Placement l),(6,.ptr 500000 0),(11,ro 500001 26),(12,vI s1551.1),(13,.ptr 500002 0),(14,.ptr 14 0),(15,vI r2145.2.1),(29,s_Placement l),(30,vI (l.length : Int)),(31,vI s1551.1)],[(14,.box [(vS r2145.1.Name),(vS r2145.1.Material),(vI r2145.1.Gauge),(vI r2145.1.Grain),(ro 700301 86),(ro 700302 86),(ro 700303 86)]),(500000,.box (c_Settings set2)),(500001,w_Piece 26 s1551.2),(500002,.box (c_Placement x2129)),(700301,w_Rect 86 r2145.1.Rects),(700302,w_Rect 86 r2145.1.Cuts),(700303,w_Rect 86 r2145.1.Forms)]⟩ (zB (z3 2 ⟨[(0,s_Sheet sheets),(1,s_Piece pieces),(3,s_Placement l),(6,.ptr 500000 0),(11,ro 500001 26),(12,vI s1551.1),(13,.ptr 500002 0),(14,.ptr 14 0),(29,s_Placement l),(30,vI (l.length : Int)),(31,vI s1551.1),(64,vB (r2145.2.1 != 0))],[(14,.box [(vS r2145.1.Name),(vS r2145.1.Material),(vI r2145.1.Gauge),(vI r2145.1.Grain),(ro 700301 86),(ro 700302 86),(ro 700303 86)]),(500000,.box (c_Settings set2)),(500001,w_Piece 26 s1551.2),(500002,.box (c_Placement x2129)),(700301,w_Rect 86 r2145.1.Rects),(700302,w_Rect 86 r2145.1.Cuts),(700303,w_Rect 86 r2145.1.Forms)]⟩ ?_))
 refine zI (r2145.2.1 != 0) (fun hb=>?_) fun hb=>?_
 replace h:=iteT hb h
 refine z8 3 ⟨[(8,vI s1551.1),(9,vI 1)],[]⟩ fun τ hτ=>?_
 refine th_ret (bl_ret (th_ret ?_))
 obtain rfl:=osi h
 exact zF hτ
 replace h:=iteF hb h
 refine z4 ⟨[(0,s_Sheet sheets),(1,s_Piece pieces),(3,s_Placement l),(6,.ptr 500000 0),(11,ro 500001 26),(12,vI s1551.1),(13,.ptr 500002 0),(14,.ptr 14 0),(29,s_Placement l),(30,vI (l.length : Int)),(31,vI s1551.1)],[(14,.box [(vS r2145.1.Name),(vS r2145.1.Material),(vI r2145.1.Gauge),(vI r2145.1.Grain),(ro 700301 86),(ro 700302 86),(ro 700303 86)]),(500000,.box (c_Settings set2)),(500001,w_Piece 26 s1551.2),(500002,.box (c_Placement x2129)),(700301,w_Rect 86 r2145.1.Rects),(700302,w_Rect 86 r2145.1.Cuts),(700303,w_Rect 86 r2145.1.Forms)]⟩ (zB (z7 ?_))
 refine zA 2 ?_
 obtain ⟨l2166,hl2166,h⟩:=bindS h
 refine evs_op (st_slH (c:=c_Placement) (l:=l) (sz:=5) (hi:=s1551.1) (k2:=.i64) (by kernel_rfl) hl2166) (evs_op (st_len (c:=c_Placement) (l:=l2166) (x:=(s_Placement l2166)) (by kernel_rfl) (by kernel_rfl)) (z1 1 ⟨[(0,s_Sheet sheets),(1,s_Piece pieces),(3,s_Placement l),(6,.ptr 500000 0),(11,ro 500001 26),(12,vI s1551.1),(13,.ptr 500002 0),(14,.ptr 14 0),(29,s_Placement l),(30,vI (l.length : Int)),(31,vI s1551.1),(68,s_Placement l2166),(69,vI (l2166.length : Int)),(70,vI 0)],[(14,.box [(vS r2145.1.Name),(vS r2145.1.Material),(vI r2145.1.Gauge),(vI r2145.1.Grain),(ro 700301 86),(ro 700302 86),(ro 700303 86)]),(500000,.box (c_Settings set2)),(500001,w_Piece 26 s1551.2),(500002,.box (c_Placement x2129)),(700301,w_Rect 86 r2145.1.Rects),(700302,w_Rect 86 r2145.1.Cuts),(700303,w_Rect 86 r2145.1.Forms)]⟩ ?_))
 refine zC ?_
 obtain ⟨x2181,hx2181,h⟩:=bindS h
 refine sem_loopS (fun (s2172 : Int)=>⟨[(0,s_Sheet sheets),(1,s_Piece pieces),(3,s_Placement l),(6,.ptr 500000 0),(11,ro 500001 26),(12,vI s1551.1),(13,.ptr 500002 0),(14,.ptr 500003 0),(29,s_Placement l),(30,vI (l.length : Int)),(31,vI s1551.1),(68,s_Placement l2166),(69,vI (l2166.length : Int)),(70,vI s2172)],[(500000,.box (c_Settings set2)),(500001,w_Piece 26 s1551.2),(500002,.box (c_Placement x2129)),(500003,.box [(vS r2145.1.Name),(vS r2145.1.Material),(vI r2145.1.Gauge),(vI r2145.1.Grain),(ro 500004 86),(ro 500005 86),(ro 500006 86)]),(500004,w_Rect 86 r2145.1.Rects),(500005,w_Rect 86 r2145.1.Cuts),(500006,w_Rect 86 r2145.1.Forms)]⟩) (fun (x2181 : Unit ⊕ Unit)=>match x2181 with | .inl j2182=>(.ret,⟨[(8,vI s1551.1),(9,vI 12)],[]⟩) | .inr j2183=>(.exit 2,⟨[(0,s_Sheet sheets),(1,s_Piece pieces),(3,s_Placement l),(6,.ptr 500000 0),(11,ro 500001 26),(12,vI s1551.1),(13,.ptr 500002 0),(14,.ptr 500003 0),(29,s_Placement l),(30,vI (l.length : Int)),(31,vI s1551.1)],[(500000,.box (c_Settings set2)),(500001,w_Piece 26 s1551.2),(500002,.box (c_Placement x2129)),(500003,.box [(vS r2145.1.Name),(vS r2145.1.Material),(vI r2145.1.Gauge),(vI r2145.1.Grain),(ro 500004 86),(ro 500005 86),(ro 500006 86)]),(500004,w_Rect 86 r2145.1.Rects),(500005,w_Rect 86 r2145.1.Cuts),(500006,w_Rect 86 r2145.1.Forms)]⟩)) (nest_Check_l1 x2129 l2166) 0 x2181 (by kernel_rfl) (subR_prep [] [(14,500003),(500000,500000),(500001,500001),(500002,500002),(700301,500004),(700302,500005),(700303,500006)] (by kernel_rfl) rfl rfl (by kernel_rfl)) hx2181 ?_ ?_ ?_
 intro s2172 r h
 refine z3 1 ⟨[(0,s_Sheet sheets),(1,s_Piece pieces),(3,s_Placement l),(6,.ptr 500000 0),(11,ro 500001 26),(12,vI s1551.1),(13,.ptr 500002 0),(14,.ptr 500003 0),(29,s_Placement l),(30,vI (l.length : Int)),(31,vI s1551.1),(68,s_Placement l2166),(69,vI (l2166.length : Int)),(70,vI s2172),(71,vB (decide (s2172 < (l2166.length : Int))))],[(500000,.box (c_Settings set2)),(500001,w_Piece 26 s1551.2),(500002,.box (c_Placement x2129)),(500003,.box [(vS r2145.1.Name),(vS r2145.1.Material),(vI r2145.1.Gauge),(vI r2145.1.Grain),(ro 500004 86),(ro 500005 86),(ro 500006 86)]),(500004,w_Rect 86 r2145.1.Rects),(500005,w_Rect 86 r2145.1.Cuts),(500006,w_Rect 86 r2145.1.Forms)]⟩ (zB (zI (decide (s2172 < (l2166.length : Int))) (fun hb=>?_) fun hb=>?_))
 replace h:=iteT hb h
 refine z4 ⟨[(0,s_Sheet sheets),(1,s_Piece pieces),(3,s_Placement l),(6,.ptr 500000 0),(11,ro 500001 26),(12,vI s1551.1),(13,.ptr 500002 0),(14,.ptr 500003 0),(29,s_Placement l),(30,vI (l.length : Int)),(31,vI s1551.1),(68,s_Placement l2166),(69,vI (l2166.length : Int)),(70,vI s2172)],[(500000,.box (c_Settings set2)),(500001,w_Piece 26 s1551.2),(500002,.box (c_Placement x2129)),(500003,.box [(vS r2145.1.Name),(vS r2145.1.Material),(vI r2145.1.Gauge),(vI r2145.1.Grain),(ro 500004 86),(ro 500005 86),(ro 500006 86)]),(500004,w_Rect 86 r2145.1.Rects),(500005,w_Rect 86 r2145.1.Cuts),(500006,w_Rect 86 r2145.1.Forms)]⟩ (zB (zC ?_))
 refine z7 ?_
 obtain ⟨x2180,hx2180,h⟩:=bindS h
 refine evs_op (st_idx (c:=c_Placement) (l:=l2166) (i:=s2172) (kd:=.i64) (sz:=5) (by kernel_rfl) hx2180 rfl) (z1 3 ⟨[(0,s_Sheet sheets),(1,s_Piece pieces),(3,s_Placement l),(6,.ptr 500000 0),(11,ro 500001 26),(12,vI s1551.1),(13,.ptr 500002 0),(14,.ptr 500003 0),(17,.ptr 17 0),(29,s_Placement l),(30,vI (l.length : Int)),(31,vI s1551.1),(68,s_Placement l2166),(69,vI (l2166.length : Int)),(70,vI s2172)],[(17,.box (c_Placement x2180)),(500000,.box (c_Settings set2)),(500001,w_Piece 26 s1551.2),(500002,.box (c_Placement x2129)),(500003,.box [(vS r2145.1.Name),(vS r2145.1.Material),(vI r2145.1.Gauge),(vI r2145.1.Grain),(ro 500004 86),(ro 500005 86),(ro 500006 86)]),(500004,w_Rect 86 r2145.1.Rects),(500005,w_Rect 86 r2145.1.Cuts),(500006,w_Rect 86 r2145.1.Forms)]⟩ (z3 5 ⟨[(0,s_Sheet sheets),(1,s_Piece pieces),(3,s_Placement l),(6,.ptr 500000 0),(11,ro 500001 26),(12,vI s1551.1),(13,.ptr 500002 0),(14,.ptr 500003 0),(29,s_Placement l),(30,vI (l.length : Int)),(31,vI s1551.1),(68,s_Placement l2166),(69,vI (l2166.length : Int)),(70,vI s2172),(78,vB (x2180.Piece == x2129.Piece))],[(500000,.box (c_Settings set2)),(500001,w_Piece 26 s1551.2),(500002,.box (c_Placement x2129)),(500003,.box [(vS r2145.1.Name),(vS r2145.1.Material),(vI r2145.1.Gauge),(vI r2145.1.Grain),(ro 500004 86),(ro 500005 86),(ro 500006 86)]),(500004,w_Rect 86 r2145.1.Rects),(500005,w_Rect 86 r2145.1.Cuts),(500006,w_Rect 86 r2145.1.Forms)]⟩ ?_))
 refine zI (x2180.Piece == x2129.Piece) (fun hb=>?_) fun hb=>?_
 replace h:=iteT hb h
 refine z8 3 ⟨[(8,vI s1551.1),(9,vI 12)],[]⟩ fun τ hτ=>?_
 refine bl_ret (th_ret ?_)
 obtain rfl:=osi h
 exact zF hτ
 replace h:=iteF hb h
 refine zM fun τ hτ=>?_
 refine bl_normal (zE hτ ⟨[(0,s_Sheet sheets),(1,s_Piece pieces),(3,s_Placement l),(6,.ptr 500000 0),(11,ro 500001 26),(12,vI s1551.1),(13,.ptr 500002 0),(14,.ptr 500003 0),(29,s_Placement l),(30,vI (l.length : Int)),(31,vI s1551.1),(68,s_Placement l2166),(69,vI (l2166.length : Int)),(70,vI s2172)],[(500000,.box (c_Settings set2)),(500001,w_Piece 26 s1551.2),(500002,.box (c_Placement x2129)),(500003,.box [(vS r2145.1.Name),(vS r2145.1.Material),(vI r2145.1.Gauge),(vI r2145.1.Grain),(ro 500004 86),(ro 500005 86),(ro 500006 86)]),(500004,w_Rect 86 r2145.1.Rects),(500005,w_Rect 86 r2145.1.Cuts),(500006,w_Rect 86 r2145.1.Forms)]⟩ (zD ?_))
 refine z6 2 fun τ hτ=>?_
 obtain rfl:=osi h
 exact zH hτ
 replace h:=iteF hb h
 refine zL 2 fun τ hτ=>?_
 refine th_exit ?_
 obtain rfl:=osi h
 exact zF hτ
 intro x
 rcases x with _ | _ <;> rfl
 intro τ hτ
 rcases x2181 with j2182 | j2183
 refine bl_ret (th_ret (bl_ret ?_))
 refine th_ret ?_
 obtain rfl:=osi h
 exact zF hτ
 refine zQ (zE hτ ⟨[(0,s_Sheet sheets),(1,s_Piece pieces),(3,s_Placement l),(6,.ptr 500000 0),(11,ro 500001 26),(12,vI s1551.1),(13,.ptr 500002 0),(14,.ptr 500003 0),(29,s_Placement l),(30,vI (l.length : Int)),(31,vI s1551.1)],[(500000,.box (c_Settings set2)),(500001,w_Piece 26 s1551.2),(500002,.box (c_Placement x2129)),(500003,.box [(vS r2145.1.Name),(vS r2145.1.Material),(vI r2145.1.Gauge),(vI r2145.1.Grain),(ro 500004 86),(ro 500005 86),(ro 500006 86)]),(500004,w_Rect 86 r2145.1.Rects),(500005,w_Rect 86 r2145.1.Cuts),(500006,w_Rect 86 r2145.1.Forms)]⟩ (zB ?_))
 refine zB (sem_drawN [] [] [] [] [] 9 (by kernel_rfl) (by kernel_rfl) (by kernel_rfl) (evd_run 4 (by kernel_rfl) ?_))
 obtain ⟨x2194,hx2194,h⟩:=bindS h
 refine evd_val (by kernel_rfl) (st_idx (c:=c_Sheet) (l:=sheets) (i:=x2129.Sheet) (kd:=.i64) (sz:=8) (by kernel_rfl) hx2194 rfl) (by kernel_rfl) (by kernel_rfl) (evd_run 4 (by kernel_rfl) (evd_end (by kernel_rfl) ?_))
 obtain ⟨r2195,hr2195,h⟩:=bindS h
 refine evo_callP [500004,500005,500006] (by kernel_rfl) (W.nest_liesWell_ok hr2195) (by kernel_rfl) (.inr rfl) (by kernel_rfl) (evo_run 1 (by kernel_rfl) (zO fun τ hτ=>?_))
 refine zE hτ ⟨[(0,s_Sheet sheets),(1,s_Piece pieces),(3,s_Placement l),(6,.ptr 500000 0),(11,ro 500001 26),(12,vI s1551.1),(13,.ptr 500002 0),(14,.ptr 500003 0),(29,s_Placement l),(30,vI (l.length : Int)),(31,vI s1551.1),(91,vB (!r2195))],[(500000,.box (c_Settings set2)),(500001,w_Piece 26 s1551.2),(500002,.box (c_Placement x2129)),(500003,.box [(vS r2145.1.Name),(vS r2145.1.Material),(vI r2145.1.Gauge),(vI r2145.1.Grain),(ro 500004 86),(ro 500005 86),(ro 500006 86)]),(500004,w_Rect 86 r2145.1.Rects),(500005,w_Rect 86 r2145.1.Cuts),(500006,w_Rect 86 r2145.1.Forms)]⟩ (zI (!r2195) (fun hb=>?_) fun hb=>?_)
 replace h:=iteT hb h
 refine z8 3 ⟨[(8,vI s1551.1),(9,vI 13)],[]⟩ fun τ hτ=>?_
 refine th_ret (bl_ret (th_ret ?_))
 obtain rfl:=osi h
 exact zF hτ
 replace h:=iteF hb h
 refine z4 ⟨[(0,s_Sheet sheets),(1,s_Piece pieces),(3,s_Placement l),(6,.ptr 500000 0),(11,ro 500001 26),(12,vI s1551.1),(13,.ptr 500002 0),(14,.ptr 500003 0),(29,s_Placement l),(30,vI (l.length : Int)),(31,vI s1551.1)],[(500000,.box (c_Settings set2)),(500001,w_Piece 26 s1551.2),(500002,.box (c_Placement x2129)),(500003,.box [(vS r2145.1.Name),(vS r2145.1.Material),(vI r2145.1.Gauge),(vI r2145.1.Grain),(ro 500004 86),(ro 500005 86),(ro 500006 86)]),(500004,w_Rect 86 r2145.1.Rects),(500005,w_Rect 86 r2145.1.Cuts),(500006,w_Rect 86 r2145.1.Forms)]⟩ (zB (z7 ?_))
 refine zA 2 ?_
 obtain ⟨l2258,hl2258,h⟩:=bindS h
 refine evs_op (st_slH (c:=c_Placement) (l:=l) (sz:=5) (hi:=s1551.1) (k2:=.i64) (by kernel_rfl) hl2258) (evs_op (st_len (c:=c_Placement) (l:=l2258) (x:=(s_Placement l2258)) (by kernel_rfl) (by kernel_rfl)) (z1 1 ⟨[(0,s_Sheet sheets),(1,s_Piece pieces),(3,s_Placement l),(6,.ptr 500000 0),(11,ro 500001 26),(12,vI s1551.1),(13,.ptr 500002 0),(14,.ptr 500003 0),(29,s_Placement l),(30,vI (l.length : Int)),(31,vI s1551.1),(95,s_Placement l2258),(96,vI (l2258.length : Int)),(97,vI 0)],[(500000,.box (c_Settings set2)),(500001,w_Piece 26 s1551.2),(500002,.box (c_Placement x2129)),(500003,.box [(vS r2145.1.Name),(vS r2145.1.Material),(vI r2145.1.Gauge),(vI r2145.1.Grain),(ro 500004 86),(ro 500005 86),(ro 500006 86)]),(500004,w_Rect 86 r2145.1.Rects),(500005,w_Rect 86 r2145.1.Cuts),(500006,w_Rect 86 r2145.1.Forms)]⟩ ?_))
 refine zC ?_
 obtain ⟨x2315,hx2315,h⟩:=bindS h
 refine sem_loopS (fun (s2278 : Int)=>⟨[(0,s_Sheet sheets),(1,s_Piece pieces),(3,s_Placement l),(6,.ptr 500000 0),(11,ro 500001 26),(12,vI s1551.1),(13,.ptr 500002 0),(14,.ptr 500003 0),(29,s_Placement l),(30,vI (l.length : Int)),(31,vI s1551.1),(95,s_Placement l2258),(96,vI (l2258.length : Int)),(97,vI s2278)],[(500000,.box (c_Settings set2)),(500001,w_Piece 26 s1551.2),(500002,.box (c_Placement x2129)),(500003,.box [(vS r2145.1.Name),(vS r2145.1.Material),(vI r2145.1.Gauge),(vI r2145.1.Grain),(ro 500004 86),(ro 500005 86),(ro 500006 86)]),(500004,w_Rect 86 r2145.1.Rects),(500005,w_Rect 86 r2145.1.Cuts),(500006,w_Rect 86 r2145.1.Forms)]⟩) (fun (x2315 : Unit ⊕ Unit)=>match x2315 with | .inl j2316=>(.ret,⟨[(8,vI s1551.1),(9,vI 7)],[]⟩) | .inr j2317=>(.exit 4,⟨[(0,s_Sheet sheets),(1,s_Piece pieces),(3,s_Placement l),(6,.ptr 500000 0),(11,ro 500001 26),(14,.ptr 500002 0),(29,s_Placement l),(30,vI (l.length : Int)),(31,vI s1551.1)],[(500000,.box (c_Settings set2)),(500001,w_Piece 26 s1551.2),(500002,.box [(vS r2145.1.Name),(vS r2145.1.Material),(vI r2145.1.Gauge),(vI r2145.1.Grain),(ro 500003 86),(ro 500004 86),(ro 500005 86)]),(500003,w_Rect 86 r2145.1.Rects),(500004,w_Rect 86 r2145.1.Cuts),(500005,w_Rect 86 r2145.1.Forms)]⟩)) (nest_Check_l2 set2 s1551 x2129 r2145 l2258) 0 x2315 (by kernel_rfl) (here (by kernel_rfl)) hx2315 ?_ ?_ ?_
 intro s2278 r h
 refine z3 1 ⟨[(0,s_Sheet sheets),(1,s_Piece pieces),(3,s_Placement l),(6,.ptr 500000 0),(11,ro 500001 26),(12,vI s1551.1),(13,.ptr 500002 0),(14,.ptr 500003 0),(29,s_Placement l),(30,vI (l.length : Int)),(31,vI s1551.1),(95,s_Placement l2258),(96,vI (l2258.length : Int)),(97,vI s2278),(98,vB (decide (s2278 < (l2258.length : Int))))],[(500000,.box (c_Settings set2)),(500001,w_Piece 26 s1551.2),(500002,.box (c_Placement x2129)),(500003,.box [(vS r2145.1.Name),(vS r2145.1.Material),(vI r2145.1.Gauge),(vI r2145.1.Grain),(ro 500004 86),(ro 500005 86),(ro 500006 86)]),(500004,w_Rect 86 r2145.1.Rects),(500005,w_Rect 86 r2145.1.Cuts),(500006,w_Rect 86 r2145.1.Forms)]⟩ (zB (zI (decide (s2278 < (l2258.length : Int))) (fun hb=>?_) fun hb=>?_))
 replace h:=iteT hb h
 refine z4 ⟨[(0,s_Sheet sheets),(1,s_Piece pieces),(3,s_Placement l),(6,.ptr 500000 0),(11,ro 500001 26),(12,vI s1551.1),(13,.ptr 500002 0),(14,.ptr 500003 0),(29,s_Placement l),(30,vI (l.length : Int)),(31,vI s1551.1),(95,s_Placement l2258),(96,vI (l2258.length : Int)),(97,vI s2278)],[(500000,.box (c_Settings set2)),(500001,w_Piece 26 s1551.2),(500002,.box (c_Placement x2129)),(500003,.box [(vS r2145.1.Name),(vS r2145.1.Material),(vI r2145.1.Gauge),(vI r2145.1.Grain),(ro 500004 86),(ro 500005 86),(ro 500006 86)]),(500004,w_Rect 86 r2145.1.Rects),(500005,w_Rect 86 r2145.1.Cuts),(500006,w_Rect 86 r2145.1.Forms)]⟩ (zB (zC ?_))
 refine z7 (zA 1 ?_)
 obtain ⟨x2307,hx2307,h⟩:=bindS h
 refine evs_op (st_idx (c:=c_Placement) (l:=l2258) (i:=s2278) (kd:=.i64) (sz:=5) (by kernel_rfl) hx2307 rfl) (z1 4 ⟨[(0,s_Sheet sheets),(1,s_Piece pieces),(3,s_Placement l),(6,.ptr 500000 0),(11,ro 500001 26),(12,vI s1551.1),(13,.ptr 500002 0),(14,.ptr 500003 0),(18,vI s2278),(19,.ptr 19 0),(29,s_Placement l),(30,vI (l.length : Int)),(31,vI s1551.1),(95,s_Placement l2258),(96,vI (l2258.length : Int)),(97,vI s2278)],[(19,.box (c_Placement x2307)),(500000,.box (c_Settings set2)),(500001,w_Piece 26 s1551.2),(500002,.box (c_Placement x2129)),(500003,.box [(vS r2145.1.Name),(vS r2145.1.Material),(vI r2145.1.Gauge),(vI r2145.1.Grain),(ro 500004 86),(ro 500005 86),(ro 500006 86)]),(500004,w_Rect 86 r2145.1.Rects),(500005,w_Rect 86 r2145.1.Cuts),(500006,w_Rect 86 r2145.1.Forms)]⟩ (zB ?_))
 obtain ⟨j2312,hj2312,h⟩:=bindS h
 refine sem_drawP ⟨[(0,s_Sheet sheets),(1,s_Piece pieces),(3,s_Placement l),(6,.ptr 500000 0),(11,ro 500001 26),(12,vI s1551.1),(13,.ptr 500002 0),(14,.ptr 500003 0),(29,s_Placement l),(30,vI (l.length : Int)),(31,vI s1551.1),(95,s_Placement l2258),(96,vI (l2258.length : Int)),(97,vI s2278),(118,vB j2312)],[(500000,.box (c_Settings set2)),(500001,w_Piece 26 s1551.2),(500002,.box (c_Placement x2129)),(500003,.box [(vS r2145.1.Name),(vS r2145.1.Material),(vI r2145.1.Gauge),(vI r2145.1.Grain),(ro 500004 86),(ro 500005 86),(ro 500006 86)]),(500004,w_Rect 86 r2145.1.Rects),(500005,w_Rect 86 r2145.1.Cuts),(500006,w_Rect 86 r2145.1.Forms)]⟩ [] [] [] [] [] 14 (by kernel_rfl) (by kernel_rfl) (by kernel_rfl) ?_ fun τ hτ=>?_
 replace h:=hj2312
 refine evd_run 6 (by kernel_rfl) (evd_split (x2307.Sheet == x2129.Sheet) (fun b0=>⟨[(107,vB b0),(106,vB b0),(105,vI x2129.Sheet),(104,.ptr 500002 1),(103,vI x2307.Sheet),(102,.ptr 19 1),(0,s_Sheet sheets),(1,s_Piece pieces),(3,s_Placement l),(6,.ptr 500000 0),(11,ro 500001 26),(12,vI s1551.1),(13,.ptr 500002 0),(14,.ptr 500003 0),(18,vI s2278),(19,.ptr 19 0),(29,s_Placement l),(30,vI (l.length : Int)),(31,vI s1551.1),(95,s_Placement l2258),(96,vI (l2258.length : Int)),(97,vI s2278)],[(19,.box (c_Placement x2307)),(500000,.box (c_Settings set2)),(500001,w_Piece 26 s1551.2),(500002,.box (c_Placement x2129)),(500003,.box [(vS r2145.1.Name),(vS r2145.1.Material),(vI r2145.1.Gauge),(vI r2145.1.Grain),(ro 500004 86),(ro 500005 86),(ro 500006 86)]),(500004,w_Rect 86 r2145.1.Rects),(500005,w_Rect 86 r2145.1.Cuts),(500006,w_Rect 86 r2145.1.Forms)]⟩) (by kernel_rfl) (fun hb=>?_) fun hb=>?_)
 replace h:=iteT hb h
 refine evd_run 4 (by kernel_rfl) ?_
 obtain ⟨x2313,hx2313,h⟩:=bindS h
 refine evd_val (by kernel_rfl) (st_idxO (c:=c_Piece) (l:=s1551.2) (i:=s2278) (kd:=.i64) (kk:=(.top 500001)) (e:=26) (sz:=7) (by kernel_rfl) (by kernel_rfl) hx2313 rfl) (by kernel_rfl) (by kernel_rfl) (evd_run 1 (by kernel_rfl) (evd_val (by kernel_rfl) (st_ldO (c:=c_Piece) (l:=s1551.2) (i:=(Int.toNat s2278)) (v:=(s_Rect x2313.Rects)) (agg:=false) (sz:=1) (kk:=(.top 500001)) (e:=26) (off:=4) (J:=[]) (by kernel_rfl) (by kernel_rfl) (by kernel_rfl) ((idxS hx2313).2) (by kernel_rfl)) (by kernel_rfl) (by kernel_rfl) ?_))
 refine evd_run 1 (by kernel_rfl) (evd_end (by kernel_rfl) ?_)
 obtain ⟨r2314,hr2314,h⟩:=bindS h
 refine evo_callP [500004] (by kernel_rfl) (W.nest_Clear_ok hr2314) (by kernel_rfl) (.inr rfl) (by kernel_rfl) (evo_run 2 (by kernel_rfl) (zO fun τ hτ=>?_))
 obtain rfl:=osi h
 exact zG hτ
 replace h:=iteF hb h
 refine evd_run 8 (by kernel_rfl) (evd_end (by kernel_rfl) (evo_run 3 (by kernel_rfl) ?_))
 refine zO fun τ hτ=>?_
 obtain rfl:=osi h
 exact zG hτ
 refine zE hτ ⟨[(0,s_Sheet sheets),(1,s_Piece pieces),(3,s_Placement l),(6,.ptr 500000 0),(11,ro 500001 26),(12,vI s1551.1),(13,.ptr 500002 0),(14,.ptr 500003 0),(29,s_Placement l),(30,vI (l.length : Int)),(31,vI s1551.1),(95,s_Placement l2258),(96,vI (l2258.length : Int)),(97,vI s2278),(118,vB j2312)],[(500000,.box (c_Settings set2)),(500001,w_Piece 26 s1551.2),(500002,.box (c_Placement x2129)),(500003,.box [(vS r2145.1.Name),(vS r2145.1.Material),(vI r2145.1.Gauge),(vI r2145.1.Grain),(ro 500004 86),(ro 500005 86),(ro 500006 86)]),(500004,w_Rect 86 r2145.1.Rects),(500005,w_Rect 86 r2145.1.Cuts),(500006,w_Rect 86 r2145.1.Forms)]⟩ (zI j2312 (fun hb=>?_) fun hb=>?_)
 replace h:=iteT hb h
 refine z8 3 ⟨[(8,vI s1551.1),(9,vI 7)],[]⟩ fun τ hτ=>?_
 refine bl_ret (th_ret ?_)
 obtain rfl:=osi h
 exact zF hτ
 replace h:=iteF hb h
 refine zM fun τ hτ=>?_
 refine bl_normal (zE hτ ⟨[(0,s_Sheet sheets),(1,s_Piece pieces),(3,s_Placement l),(6,.ptr 500000 0),(11,ro 500001 26),(12,vI s1551.1),(13,.ptr 500002 0),(14,.ptr 500003 0),(29,s_Placement l),(30,vI (l.length : Int)),(31,vI s1551.1),(95,s_Placement l2258),(96,vI (l2258.length : Int)),(97,vI s2278)],[(500000,.box (c_Settings set2)),(500001,w_Piece 26 s1551.2),(500002,.box (c_Placement x2129)),(500003,.box [(vS r2145.1.Name),(vS r2145.1.Material),(vI r2145.1.Gauge),(vI r2145.1.Grain),(ro 500004 86),(ro 500005 86),(ro 500006 86)]),(500004,w_Rect 86 r2145.1.Rects),(500005,w_Rect 86 r2145.1.Cuts),(500006,w_Rect 86 r2145.1.Forms)]⟩ (zD ?_))
 refine z6 2 fun τ hτ=>?_
 obtain rfl:=osi h
 exact zH hτ
 replace h:=iteF hb h
 refine zL 4 fun τ hτ=>?_
 refine th_exit ?_
 obtain rfl:=osi h
 exact lk_outS hτ rfl (subR_prep [] [(500000,500000),(500001,500001),(500003,500002),(500004,500003),(500005,500004),(500006,500005)] (by kernel_rfl) rfl rfl (by kernel_rfl))
 intro x
 rcases x with _ | _ <;> rfl
 intro τ hτ
 rcases x2315 with j2316 | j2317
 refine bl_ret (th_ret (bl_ret ?_))
 refine th_ret ?_
 obtain rfl:=osi h
 exact zF hτ
 refine zQ (zE hτ ⟨[(0,s_Sheet sheets),(1,s_Piece pieces),(3,s_Placement l),(6,.ptr 500000 0),(11,ro 500001 26),(14,.ptr 500002 0),(29,s_Placement l),(30,vI (l.length : Int)),(31,vI s1551.1)],[(500000,.box (c_Settings set2)),(500001,w_Piece 26 s1551.2),(500002,.box [(vS r2145.1.Name),(vS r2145.1.Material),(vI r2145.1.Gauge),(vI r2145.1.Grain),(ro 500003 86),(ro 500004 86),(ro 500005 86)]),(500003,w_Rect 86 r2145.1.Rects),(500004,w_Rect 86 r2145.1.Cuts),(500005,w_Rect 86 r2145.1.Forms)]⟩ (zD ?_))
 refine zA 2 (evs_prep [.frz 500003,.frz 500004,.frz 500005] (by kernel_rfl) (zA 1 ?_))
 obtain ⟨l2319,hl2319,h⟩:=bindS h
 refine evs_op (st_app (c:=c_Piece) (l:=s1551.2) (l2:=[(Piece.mk r2145.1.Name r2145.1.Material r2145.1.Gauge r2145.1.Grain r2145.1.Rects r2145.1.Cuts r2145.1.Forms)]) (x:=(s_Piece [(Piece.mk r2145.1.Name r2145.1.Material r2145.1.Gauge r2145.1.Grain r2145.1.Rects r2145.1.Cuts r2145.1.Forms)])) (g:=500001) (e:=26) (sz:=7) (d:=124) (by kernel_rfl) (by kernel_rfl) (by kernel_rfl) (by kernel_rfl) (fun _=>rfl) rfl hl2319) (z6 1 fun τ hτ=>?_)
 refine bl_normal (zE hτ ⟨[(0,s_Sheet sheets),(1,s_Piece pieces),(3,s_Placement l),(6,.ptr 500000 0),(11,ro 500001 26),(29,s_Placement l),(30,vI (l.length : Int)),(31,vI s1551.1)],[(500000,.box (c_Settings set2)),(500001,w_Piece 26 l2319)]⟩ (zD ?_))
 refine z6 2 fun τ hτ=>?_
 obtain rfl:=osi h
 exact zH hτ
 replace h:=iteF hb h
 refine zL 0 fun τ hτ=>?_
 refine th_exit ?_
 obtain rfl:=osi h
 exact zF hτ
 intro x
 rcases x with _ | _ <;> rfl
 intro τ hτ
 rcases x2320 with j2321 | j2322
 refine bl_ret (th_ret ?_)
 obtain rfl:=osi h
 exact zV hτ [(8,vI j2321.1),(9,vI j2321.2)]
 refine zQ (zE hτ ⟨[],[]⟩ (z8 2 ⟨[(8,vI 0),(9,vI 0)],[]⟩ fun τ hτ=>?_))
 obtain rfl:=osi h
 exact zV hτ [(8,vI 0),(9,vI 0)]
end Go.Proofs.YtonmponhpfpokaaGreatR
