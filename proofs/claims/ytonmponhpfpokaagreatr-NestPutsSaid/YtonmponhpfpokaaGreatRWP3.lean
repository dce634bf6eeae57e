/- Each Go function does what its model says; written by a program out of the translation. -/
import Derived.Test.YtonmponhpfpokaaGreatRWP2
import Derived.Test.YtonmponhpfpokaaGreatRNeMP
set_option linter.unusedVariables false
set_option linter.unusedSimpArgs false
set_option linter.unusedSectionVars false
namespace Go.Proofs.YtonmponhpfpokaaGreatR
open Go Go.VI Go.SM Go.Proofs
set_option maxRecDepth 100000
set_option maxHeartbeats 4000000
theorem W.flat_mapped__flat_quarter_1__flat_quarter_2_ok {f : Flat} {r : Flat} (h : flat_mapped__flat_quarter_1__flat_quarter_2 f = some r) : PC G.P 145 [(.agg (c_Flat f)), (.fn 146 []), (.fn 147 [])] [] (.agg [(.row (.top 1) 86), (.row (.top 2) 86), (.row (.top 3) 86), (.row (.top 4) 162)]) [(0, .box [(.row (.top 1) 86), (.row (.top 2) 86), (.row (.top 3) 86), (.row (.top 4) 162)]), (1, .row 86 [] (List.map c_Rect r.Rects)), (2, .row 86 [] (List.map c_Rect r.Cuts)), (3, .row 86 [] (List.map c_Rect r.Forms)), (4, .row 162 [] (List.map c_BendLine r.Bends))] := by
 refine zU G Tryz.func145 ?_
 refine zK ⟨[(0,.agg (c_Flat f)),(1,.fn 146 []),(2,.fn 147 [])],[]⟩ ?_
 refine z3 3 ⟨[(2,.fn 147 []),(3,.ptr 3 0),(4,.ptr 4 0),(6,.ptr 6 0)],[(3,.box (c_Flat f)),(4,.box [(.fn 146 [])]),(6,.box [.nl,.nl,.nl,.nl])]⟩ ?_
 refine z3 2 ⟨[(2,.fn 147 []),(3,.ptr 3 0),(6,.ptr 6 0),(7,.fn 163 [(.ptr 4 0)])],[(3,.box (c_Flat f)),(4,.box [(.fn 146 [])]),(6,.box [.nl,.nl,.nl,.nl])]⟩ ?_
 refine zB ?_
 refine sem_draw [(3,[700150]),(7,[700350]),(11,[700550]),(13,[8])] [(3,[700150]),(7,[700350]),(11,[700550]),(13,[8])] [(3,[4]),(7,[4]),(11,[4])] [(0,[8]),(1,[8]),(2,[8]),(3,[8]),(4,[700150,8]),(5,[700150,8]),(6,[700150,8]),(7,[8]),(8,[700150,700350,8]),(9,[700150,700350,8]),(10,[700150,700350,8]),(11,[8]),(12,[8]),(13,[700150,700350,700550])] [(0,[700150,700350,700550,8]),(1,[700150,700350,700550,8]),(2,[700150,700350,700550,8]),(3,[700350,700550,8]),(4,[700150,700350,700550,8]),(5,[700150,700350,700550,8]),(6,[700150,700350,700550,8]),(7,[700550,8]),(8,[700150,700350,700550,8]),(9,[700150,700350,700550,8]),(10,[700150,700350,700550,8]),(11,[8]),(12,[8]),(13,[700150,700350,700550])] 14 (by kernel_rfl) (by kernel_rfl) [700150,700350,700550,8] (by kernel_rfl) (by kernel_rfl) ?_
 refine evd_run 3 (by kernel_rfl) ?_
 obtain ⟨r7,hr7,h⟩:=bindS h
 refine evd_callS [(0,700150)] [4] (by kernel_rfl) (by kernel_rfl) (W.flat_mapped_1_ok hr7) (by kernel_rfl) (.inr ⟨rfl,fun _ _=>ind_cons (ind_row fun _=>rfl) (fun _ _=>ind_nil)⟩) (by kernel_rfl) (by kernel_rfl) ?_
 refine evd_run 3 (by kernel_rfl) ?_
 obtain ⟨r8,hr8,h⟩:=bindS h
 refine evd_callS [(0,700350)] [4] (by kernel_rfl) (by kernel_rfl) (W.flat_mapped_1_ok hr8) (by kernel_rfl) (.inr ⟨rfl,fun _ _=>ind_cons (ind_row fun _=>rfl) (fun _ _=>ind_nil)⟩) (by kernel_rfl) (by kernel_rfl) ?_
 refine evd_run 3 (by kernel_rfl) ?_
 obtain ⟨r9,hr9,h⟩:=bindS h
 refine evd_callS [(0,700550)] [4] (by kernel_rfl) (by kernel_rfl) (W.flat_mapped_1_ok hr9) (by kernel_rfl) (.inr ⟨rfl,fun _ _=>ind_cons (ind_row fun _=>rfl) (fun _ _=>ind_nil)⟩) (by kernel_rfl) (by kernel_rfl) ?_
 refine evd_run 1 (by kernel_rfl) ?_
 refine evd_new (g:=8) (ob:=.box [.nl,.nl,.nl,.nl]) (v:=(.ptr 8 0)) (by kernel_rfl) (by kernel_rfl) (by kernel_rfl) (by kernel_rfl) (by kernel_rfl) (by kernel_rfl) ?_
 refine evd_end (by kernel_rfl) ?_
 refine evo_run 1 (by kernel_rfl) ?_
 refine zO fun τ hτ=>?_
 refine zE hτ ⟨[(2,.fn 147 []),(3,.ptr 3 0),(6,.ptr 6 0),(8,.ptr 8 0)],[(3,.box (c_Flat f)),(6,.box [.nl,.nl,.nl,.nl]),(8,.box [(.row (.top 700150) 86),(.row (.top 700350) 86),(.row (.top 700550) 86),.nl]),(700150,.row 86 [] (List.map c_Rect r7)),(700350,.row 86 [] (List.map c_Rect r8)),(700550,.row 86 [] (List.map c_Rect r9))]⟩ ?_
 refine zB ?_
 refine z7 ?_
 refine zA 2 ?_
 refine evs_op (st_len (c:=c_BendLine) (l:=f.Bends) (x:=(.sl (List.map c_BendLine f.Bends))) (by kernel_rfl) (by kernel_rfl)) ?_
 refine z1 1 ⟨[(2,.fn 147 []),(6,.ptr 6 0),(8,.ptr 8 0),(26,.sl (List.map c_BendLine f.Bends)),(27,vI (f.Bends.length : Int)),(28,vI 0)],[(6,.box [.nl,.nl,.nl,.nl]),(8,.box [(.row (.top 700150) 86),(.row (.top 700350) 86),(.row (.top 700550) 86),.nl]),(700150,.row 86 [] (List.map c_Rect r7)),(700350,.row 86 [] (List.map c_Rect r8)),(700550,.row 86 [] (List.map c_Rect r9))]⟩ ?_
 refine zC ?_
 obtain ⟨x87,hx87,h⟩:=bindS h
 refine sem_loopS (fun (s62 : Int × (List BendLine))=>⟨[(2,.fn 147 []),(6,.ptr 500000 0),(8,.ptr 500001 0),(26,.sl (List.map c_BendLine f.Bends)),(27,vI (f.Bends.length : Int)),(28,vI s62.1)],[(500000,.box [.nl,.nl,.nl,.nl]),(500001,.box [(.row (.top 500002) 86),(.row (.top 500003) 86),(.row (.top 500004) 86),(.row (.top 500005) 162)]),(500002,.row 86 [] (List.map c_Rect r7)),(500003,.row 86 [] (List.map c_Rect r8)),(500004,.row 86 [] (List.map c_Rect r9)),(500005,.row 162 [] (List.map c_BendLine s62.2))]⟩) (fun (x87 : (List BendLine))=>(.exit 0,⟨[(6,.ptr 500000 0),(8,.ptr 500001 0)],[(500000,.box [.nl,.nl,.nl,.nl]),(500001,.box [(.row (.top 500002) 86),(.row (.top 500003) 86),(.row (.top 500004) 86),(.row (.top 500005) 162)]),(500002,.row 86 [] (List.map c_Rect r7)),(500003,.row 86 [] (List.map c_Rect r8)),(500004,.row 86 [] (List.map c_Rect r9)),(500005,.row 162 [] (List.map c_BendLine x87))]⟩)) (flat_mapped__flat_quarter_1__flat_quarter_2_l1 f) (0,[]) x87 (by kernel_rfl) (subR_prep [.row (.box 8 3) 800000 162 []] [(6,500000),(8,500001),(700150,500002),(700350,500003),(700550,500004),(800000,500005)] (by kernel_rfl) rfl rfl (by kernel_rfl)) hx87 ?_ ?_ ?_
 intro s62 r h
 refine z3 1 ⟨[(2,.fn 147 []),(6,.ptr 500000 0),(8,.ptr 500001 0),(26,.sl (List.map c_BendLine f.Bends)),(27,vI (f.Bends.length : Int)),(28,vI s62.1),(29,vB (decide (s62.1 < (f.Bends.length : Int))))],[(500000,.box [.nl,.nl,.nl,.nl]),(500001,.box [(.row (.top 500002) 86),(.row (.top 500003) 86),(.row (.top 500004) 86),(.row (.top 500005) 162)]),(500002,.row 86 [] (List.map c_Rect r7)),(500003,.row 86 [] (List.map c_Rect r8)),(500004,.row 86 [] (List.map c_Rect r9)),(500005,.row 162 [] (List.map c_BendLine s62.2))]⟩ ?_
 refine zB ?_
 refine zI (decide (s62.1 < (f.Bends.length : Int))) (fun hb=>?_) fun hb=>?_
 replace h:=iteT hb h
 refine z4 ⟨[(2,.fn 147 []),(6,.ptr 500000 0),(8,.ptr 500001 0),(26,.sl (List.map c_BendLine f.Bends)),(27,vI (f.Bends.length : Int)),(28,vI s62.1)],[(500000,.box [.nl,.nl,.nl,.nl]),(500001,.box [(.row (.top 500002) 86),(.row (.top 500003) 86),(.row (.top 500004) 86),(.row (.top 500005) 162)]),(500002,.row 86 [] (List.map c_Rect r7)),(500003,.row 86 [] (List.map c_Rect r8)),(500004,.row 86 [] (List.map c_Rect r9)),(500005,.row 162 [] (List.map c_BendLine s62.2))]⟩ ?_
 refine zB ?_
 refine zC ?_
 refine z7 ?_
 obtain ⟨x82,hx82,h⟩:=bindS h
 refine evs_op (st_idx (c:=c_BendLine) (l:=f.Bends) (i:=s62.1) (kd:=.i64) (sz:=8) (by kernel_rfl) hx82 rfl) ?_
 refine z1 3 ⟨[(2,.fn 147 []),(6,.ptr 500000 0),(8,.ptr 500001 0),(10,.ptr 10 0),(26,.sl (List.map c_BendLine f.Bends)),(27,vI (f.Bends.length : Int)),(28,vI s62.1)],[(10,.box (c_BendLine x82)),(500000,.box [.nl,.nl,.nl,.nl]),(500001,.box [(.row (.top 500002) 86),(.row (.top 500003) 86),(.row (.top 500004) 86),(.row (.top 500005) 162)]),(500002,.row 86 [] (List.map c_Rect r7)),(500003,.row 86 [] (List.map c_Rect r8)),(500004,.row 86 [] (List.map c_Rect r9)),(500005,.row 162 [] (List.map c_BendLine s62.2))]⟩ ?_
 refine z7 ?_
 refine zA 3 ?_
 obtain ⟨r84,hr84,h⟩:=bindS h
 refine evs_callS [] [(0,700150)] [] (by kernel_rfl) (W.flat_quarter_2_ok hr84) (by kernel_rfl) (by kernel_rfl) (.inl rfl) ?_
 refine z1 2 ⟨[(2,.fn 147 []),(6,.ptr 500000 0),(8,.ptr 500001 0),(10,.ptr 10 0),(26,.sl (List.map c_BendLine f.Bends)),(27,vI (f.Bends.length : Int)),(28,vI s62.1)],[(10,.box [(vI x82.Flange),(vI x82.Parent),(vI r84.X1),(vI r84.Y1),(vI r84.X2),(vI r84.Y2),(vI x82.Angle),(vI x82.Deduct)]),(500000,.box [.nl,.nl,.nl,.nl]),(500001,.box [(.row (.top 500002) 86),(.row (.top 500003) 86),(.row (.top 500004) 86),(.row (.top 500005) 162)]),(500002,.row 86 [] (List.map c_Rect r7)),(500003,.row 86 [] (List.map c_Rect r8)),(500004,.row 86 [] (List.map c_Rect r9)),(500005,.row 162 [] (List.map c_BendLine s62.2))]⟩ ?_
 refine zD ?_
 refine zA 4 ?_
 obtain ⟨l86,hl86,h⟩:=bindS h
 refine evs_op (st_app (c:=c_BendLine) (l:=s62.2) (l2:=[(BendLine.mk x82.Flange x82.Parent r84 x82.Angle x82.Deduct)]) (x:=(.sl (List.map c_BendLine [(BendLine.mk x82.Flange x82.Parent r84 x82.Angle x82.Deduct)]))) (g:=500005) (e:=162) (sz:=8) (d:=41) (by kernel_rfl) (by kernel_rfl) (by kernel_rfl) (by kernel_rfl) (fun _=>rfl) rfl hl86) ?_
 refine z6 2 fun τ hτ=>?_
 refine bl_normal ?_
 refine zE hτ ⟨[(2,.fn 147 []),(6,.ptr 500000 0),(8,.ptr 500001 0),(26,.sl (List.map c_BendLine f.Bends)),(27,vI (f.Bends.length : Int)),(28,vI s62.1)],[(500000,.box [.nl,.nl,.nl,.nl]),(500001,.box [(.row (.top 500002) 86),(.row (.top 500003) 86),(.row (.top 500004) 86),(.row (.top 500005) 162)]),(500002,.row 86 [] (List.map c_Rect r7)),(500003,.row 86 [] (List.map c_Rect r8)),(500004,.row 86 [] (List.map c_Rect r9)),(500005,.row 162 [] (List.map c_BendLine l86))]⟩ ?_
 refine zD ?_
 refine z6 2 fun τ hτ=>?_
 obtain rfl:=Option.some.inj h
 exact zH hτ
 replace h:=iteF hb h
 refine zL 0 fun τ hτ=>?_
 refine th_exit ?_
 obtain rfl:=Option.some.inj h
 exact zF hτ
 intro x
 rfl
 intro τ hτ
 refine zQ ?_
 refine zE hτ ⟨[(6,.ptr 500000 0),(8,.ptr 500001 0)],[(500000,.box [.nl,.nl,.nl,.nl]),(500001,.box [(.row (.top 500002) 86),(.row (.top 500003) 86),(.row (.top 500004) 86),(.row (.top 500005) 162)]),(500002,.row 86 [] (List.map c_Rect r7)),(500003,.row 86 [] (List.map c_Rect r8)),(500004,.row 86 [] (List.map c_Rect r9)),(500005,.row 162 [] (List.map c_BendLine x87))]⟩ ?_
 refine z8 2 ⟨[(6,.ptr 500000 0)],[(500000,.box [(.row (.top 500002) 86),(.row (.top 500003) 86),(.row (.top 500004) 86),(.row (.top 500005) 162)]),(500002,.row 86 [] (List.map c_Rect r7)),(500003,.row 86 [] (List.map c_Rect r8)),(500004,.row 86 [] (List.map c_Rect r9)),(500005,.row 162 [] (List.map c_BendLine x87))]⟩ fun τ hτ=>?_
 obtain rfl:=Option.some.inj h
 exact rk_ret hτ [(6,.ptr 0 0)] (subR_prep [] [(500000,0),(500002,1),(500003,2),(500004,3),(500005,4)] (by kernel_rfl) rfl rfl (by kernel_rfl)) (by kernel_rfl)
theorem W.flat_quarter_ok {f : Flat} {r : Flat} (h : flat_quarter f = some r) : PC G.P 127 [(.agg (c_Flat f))] [] (.agg [(.row (.top 1) 86), (.row (.top 2) 86), (.row (.top 3) 86), (.row (.top 4) 162)]) [(0, .box [(.row (.top 1) 86), (.row (.top 2) 86), (.row (.top 3) 86), (.row (.top 4) 162)]), (1, .row 86 [] (List.map c_Rect r.Rects)), (2, .row 86 [] (List.map c_Rect r.Cuts)), (3, .row 86 [] (List.map c_Rect r.Forms)), (4, .row 162 [] (List.map c_BendLine r.Bends))] := by
 refine zU G Tryz.func127 ?_
 refine zK ⟨[(0,.agg (c_Flat f))],[]⟩ ?_
 refine z3 2 ⟨[(1,.ptr 1 0),(2,.ptr 2 0)],[(1,.box (c_Flat f)),(2,.box [.nl,.nl,.nl,.nl])]⟩ ?_
 refine z7 ?_
 refine zA 1 ?_
 obtain ⟨r2,hr2,h⟩:=bindS h
 refine evs_callS [] [(0,700050),(1,700051),(2,700052),(3,700053),(4,700054)] [] (by kernel_rfl) (W.flat_mapped__flat_quarter_1__flat_quarter_2_ok hr2) (by kernel_rfl) (by kernel_rfl) (.inl rfl) ?_
 refine z1 1 ⟨[(2,.ptr 2 0)],[(2,.box [(.row (.top 700051) 86),(.row (.top 700052) 86),(.row (.top 700053) 86),(.row (.top 700054) 162)]),(700051,.row 86 [] (List.map c_Rect r2.Rects)),(700052,.row 86 [] (List.map c_Rect r2.Cuts)),(700053,.row 86 [] (List.map c_Rect r2.Forms)),(700054,.row 162 [] (List.map c_BendLine r2.Bends))]⟩ ?_
 refine zN fun τ hτ=>?_
 obtain rfl:=Option.some.inj h
 exact rk_ret hτ [(2,.ptr 0 0)] (subR_prep [] [(2,0),(700051,1),(700052,2),(700053,3),(700054,4)] (by kernel_rfl) rfl rfl (by kernel_rfl)) (by kernel_rfl)
theorem W.flat_bounds_ok {l : (List Rect)} {r : Rect × Int × Int × Int × Int} (h : flat_bounds l = some r) : PC G.P 148 [(.sl (List.map c_Rect l))] [] (.agg (c_Rect r.1)) [(0, .box [(vI r.2.1), (vI r.2.2.1), (vI r.2.2.2.1), (vI r.2.2.2.2)])] := by
 refine zU G Tryz.func148 ?_
 refine zK ⟨[(0,.sl (List.map c_Rect l))],[]⟩ ?_
 refine z3 1 ⟨[(0,.sl (List.map c_Rect l)),(2,.ptr 2 0)],[(2,.box [(vI 0),(vI 0),(vI 0),(vI 0)])]⟩ ?_
 refine z7 ?_
 refine zA 1 ?_
 obtain ⟨x2,hx2,h⟩:=bindS h
 refine evs_op (st_idx (c:=c_Rect) (l:=l) (i:=0) (kd:=.i64) (sz:=4) (by kernel_rfl) hx2 rfl) ?_
 refine z1 3 ⟨[(0,.sl (List.map c_Rect l)),(2,.ptr 2 0),(3,.ptr 3 0)],[(2,.box [(vI 0),(vI 0),(vI 0),(vI 0)]),(3,.box (c_Rect x2))]⟩ ?_
 refine zB ?_
 refine z7 ?_
 refine zA 1 ?_
 obtain ⟨l21,hl21,h⟩:=bindS h
 refine evs_op (st_slL (c:=c_Rect) (l:=l) (sz:=4) (lo:=1) (k1:=.i64) (by kernel_rfl) (fun _=>rfl) hl21) ?_
 refine evs_op (st_len (c:=c_Rect) (l:=l21) (x:=(.sl (List.map c_Rect l21))) (by kernel_rfl) (by kernel_rfl)) ?_
 refine z1 1 ⟨[(2,.ptr 2 0),(3,.ptr 3 0),(12,.sl (List.map c_Rect l21)),(13,vI (l21.length : Int)),(14,vI 0)],[(2,.box [(vI 0),(vI 0),(vI 0),(vI 0)]),(3,.box (c_Rect x2))]⟩ ?_
 refine zC ?_
 obtain ⟨x36,hx36,h⟩:=bindS h
 refine sem_loopS (fun (s27 : Int × Int × Int × Int × Int)=>⟨[(2,.ptr 500000 0),(3,.ptr 500001 0),(12,.sl (List.map c_Rect l21)),(13,vI (l21.length : Int)),(14,vI s27.1)],[(500000,.box [(vI 0),(vI 0),(vI 0),(vI 0)]),(500001,.box [(vI s27.2.1),(vI s27.2.2.1),(vI s27.2.2.2.1),(vI s27.2.2.2.2)])]⟩) (fun (x36 : Int × Int × Int × Int)=>(.exit 0,⟨[(2,.ptr 500000 0),(3,.ptr 500001 0)],[(500000,.box [(vI 0),(vI 0),(vI 0),(vI 0)]),(500001,.box [(vI x36.1),(vI x36.2.1),(vI x36.2.2.1),(vI x36.2.2.2)])]⟩)) (flat_bounds_l1 l21) (0,x2.X,x2.Y,x2.W,x2.H) x36 (by kernel_rfl) (subR_prep [] [(2,500000),(3,500001)] (by kernel_rfl) rfl rfl (by kernel_rfl)) hx36 ?_ ?_ ?_
 intro s27 r h
 refine z3 1 ⟨[(2,.ptr 500000 0),(3,.ptr 500001 0),(12,.sl (List.map c_Rect l21)),(13,vI (l21.length : Int)),(14,vI s27.1),(15,vB (decide (s27.1 < (l21.length : Int))))],[(500000,.box [(vI 0),(vI 0),(vI 0),(vI 0)]),(500001,.box [(vI s27.2.1),(vI s27.2.2.1),(vI s27.2.2.2.1),(vI s27.2.2.2.2)])]⟩ ?_
 refine zB ?_
 refine zI (decide (s27.1 < (l21.length : Int))) (fun hb=>?_) fun hb=>?_
 replace h:=iteT hb h
 refine z4 ⟨[(2,.ptr 500000 0),(3,.ptr 500001 0),(12,.sl (List.map c_Rect l21)),(13,vI (l21.length : Int)),(14,vI s27.1)],[(500000,.box [(vI 0),(vI 0),(vI 0),(vI 0)]),(500001,.box [(vI s27.2.1),(vI s27.2.2.1),(vI s27.2.2.2.1),(vI s27.2.2.2.2)])]⟩ ?_
 refine zB ?_
 refine zC ?_
 refine z7 ?_
 obtain ⟨x35,hx35,h⟩:=bindS h
 refine evs_op (st_idx (c:=c_Rect) (l:=l21) (i:=s27.1) (kd:=.i64) (sz:=4) (by kernel_rfl) hx35 rfl) ?_
 refine z1 3 ⟨[(2,.ptr 500000 0),(3,.ptr 500001 0),(5,.ptr 5 0),(12,.sl (List.map c_Rect l21)),(13,vI (l21.length : Int)),(14,vI s27.1)],[(5,.box (c_Rect x35)),(500000,.box [(vI 0),(vI 0),(vI 0),(vI 0)]),(500001,.box [(vI s27.2.1),(vI s27.2.2.1),(vI s27.2.2.2.1),(vI s27.2.2.2.2)])]⟩ ?_
 refine zB ?_
 refine sem_drawN [] [] [] [] [] 11 (by kernel_rfl) (by kernel_rfl) (by kernel_rfl) ?_
 refine evd_run 11 (by kernel_rfl) ?_
 refine evd_end (by kernel_rfl) ?_
 refine evo_run 1 (by kernel_rfl) ?_
 refine zO fun τ hτ=>?_
 refine zE hτ ⟨[(2,.ptr 500000 0),(3,.ptr 500001 0),(5,.ptr 5 0),(6,vI (imin s27.2.1 x35.X)),(7,vI (imin s27.2.2.1 x35.Y)),(12,.sl (List.map c_Rect l21)),(13,vI (l21.length : Int)),(14,vI s27.1)],[(5,.box (c_Rect x35)),(500000,.box [(vI 0),(vI 0),(vI 0),(vI 0)]),(500001,.box [(vI s27.2.1),(vI s27.2.2.1),(vI s27.2.2.2.1),(vI s27.2.2.2.2)])]⟩ ?_
 refine zB ?_
 refine sem_drawN [(27,[500001])] [] [] [(17,[500001]),(18,[500001]),(19,[500001]),(20,[500001]),(21,[500001]),(22,[500001]),(23,[500001]),(24,[500001]),(25,[500001])] [] 28 (by kernel_rfl) (by kernel_rfl) (by kernel_rfl) ?_
 refine evd_run 27 (by kernel_rfl) ?_
 refine evd_set (g:=500001) (ob:=.box [(vI s27.2.1),(vI s27.2.2.1),(vI (isub (imax (iadd s27.2.1 s27.2.2.2.1) (iadd x35.X x35.W)) (imin s27.2.1 x35.X))),(vI s27.2.2.2.2)]) (v:=vU) (by kernel_rfl) (by kernel_rfl) (by kernel_rfl) (by kernel_rfl) (by kernel_rfl) ?_
 refine evd_end (by kernel_rfl) ?_
 refine evo_run 2 (by kernel_rfl) ?_
 refine zO fun τ hτ=>?_
 refine zE hτ ⟨[(2,.ptr 500000 0),(3,.ptr 500001 0),(6,vI (imin s27.2.1 x35.X)),(7,vI (imin s27.2.2.1 x35.Y)),(12,.sl (List.map c_Rect l21)),(13,vI (l21.length : Int)),(14,vI s27.1)],[(500000,.box [(vI 0),(vI 0),(vI 0),(vI 0)]),(500001,.box [(vI s27.2.1),(vI s27.2.2.1),(vI (isub (imax (iadd s27.2.1 s27.2.2.2.1) (iadd x35.X x35.W)) (imin s27.2.1 x35.X))),(vI (isub (imax (iadd s27.2.2.1 s27.2.2.2.2) (iadd x35.Y x35.H)) (imin s27.2.2.1 x35.Y)))])]⟩ ?_
 refine zD ?_
 refine z6 6 fun τ hτ=>?_
 refine bl_normal ?_
 refine zE hτ ⟨[(2,.ptr 500000 0),(3,.ptr 500001 0),(12,.sl (List.map c_Rect l21)),(13,vI (l21.length : Int)),(14,vI s27.1)],[(500000,.box [(vI 0),(vI 0),(vI 0),(vI 0)]),(500001,.box [(vI (imin s27.2.1 x35.X)),(vI (imin s27.2.2.1 x35.Y)),(vI (isub (imax (iadd s27.2.1 s27.2.2.2.1) (iadd x35.X x35.W)) (imin s27.2.1 x35.X))),(vI (isub (imax (iadd s27.2.2.1 s27.2.2.2.2) (iadd x35.Y x35.H)) (imin s27.2.2.1 x35.Y)))])]⟩ ?_
 refine zD ?_
 refine z6 2 fun τ hτ=>?_
 obtain rfl:=Option.some.inj h
 exact zH hτ
 replace h:=iteF hb h
 refine zL 0 fun τ hτ=>?_
 refine th_exit ?_
 obtain rfl:=Option.some.inj h
 exact zF hτ
 intro x
 rfl
 intro τ hτ
 refine zQ ?_
 refine zE hτ ⟨[(2,.ptr 500000 0),(3,.ptr 500001 0)],[(500000,.box [(vI 0),(vI 0),(vI 0),(vI 0)]),(500001,.box [(vI x36.1),(vI x36.2.1),(vI x36.2.2.1),(vI x36.2.2.2)])]⟩ ?_
 refine z8 2 ⟨[(2,.ptr 500000 0)],[(500000,.box [(vI x36.1),(vI x36.2.1),(vI x36.2.2.1),(vI x36.2.2.2)])]⟩ fun τ hτ=>?_
 obtain rfl:=Option.some.inj h
 exact rk_ret hτ [(2,.ptr 0 0)] (subR_prep [] [(500000,0)] (by kernel_rfl) rfl rfl (by kernel_rfl)) (by kernel_rfl)
theorem W.flat_settled_1_ok {r0 : Rect} {a_0 : Int} {a_1 : Int} {a_2 : Int} {a_3 : Int} {r : Rect} (h : flat_settled_1 r0 a_0 a_1 a_2 a_3 = some r) : PC G.P 149 [(.agg (c_Rect r0)), (.vptr [(vI a_0), (vI a_1), (vI a_2), (vI a_3)] 0)] [] (.agg (c_Rect r)) [(0, .box [(vI (isub r0.X a_0)), (vI (isub r0.Y a_1)), (vI r0.W), (vI r0.H)])] := by
 refine zU G Tryz.func149 ?_
 refine zK ⟨[(0,.agg (c_Rect r0)),(1,.vptr [(vI a_0),(vI a_1),(vI a_2),(vI a_3)] 0)],[]⟩ ?_
 refine z3 2 ⟨[(1,.vptr [(vI a_0),(vI a_1),(vI a_2),(vI a_3)] 0),(2,.ptr 2 0),(3,.ptr 3 0)],[(2,.box (c_Rect r0)),(3,.box [(vI 0),(vI 0),(vI 0),(vI 0)])]⟩ ?_
 refine zB ?_
 refine sem_drawN [(11,[2])] [] [] [(7,[2]),(8,[2]),(9,[2])] [] 12 (by kernel_rfl) (by kernel_rfl) (by kernel_rfl) ?_
 refine evd_run 11 (by kernel_rfl) ?_
 refine evd_set (g:=2) (ob:=.box [(vI (isub r0.X a_0)),(vI r0.Y),(vI r0.W),(vI r0.H)]) (v:=vU) (by kernel_rfl) (by kernel_rfl) (by kernel_rfl) (by kernel_rfl) (by kernel_rfl) ?_
 refine evd_end (by kernel_rfl) ?_
 refine evo_run 2 (by kernel_rfl) ?_
 refine zO fun τ hτ=>?_
 refine zE hτ ⟨[(2,.ptr 2 0),(3,.ptr 3 0)],[(2,.box [(vI (isub r0.X a_0)),(vI (isub r0.Y a_1)),(vI r0.W),(vI r0.H)]),(3,.box [(vI 0),(vI 0),(vI 0),(vI 0)])]⟩ ?_
 refine z8 2 ⟨[(3,.ptr 3 0)],[(3,.box [(vI (isub r0.X a_0)),(vI (isub r0.Y a_1)),(vI r0.W),(vI r0.H)])]⟩ fun τ hτ=>?_
 obtain rfl:=Option.some.inj h
 exact rk_ret hτ [(3,.ptr 0 0)] (subR_prep [] [(3,0)] (by kernel_rfl) rfl rfl (by kernel_rfl)) (by kernel_rfl)
theorem W.flat_mapped_1'_ok {l : (List Rect)} {a_0_0_0 : Int} {a_0_0_1 : Int} {a_0_0_2 : Int} {a_0_0_3 : Int} {r : (List Rect)} (h : flat_mapped_1' l a_0_0_0 a_0_0_1 a_0_0_2 a_0_0_3 = some r) : PC G.P 163 [(.sl (List.map c_Rect l)), (.vptr [(.fn 149 [(.vptr [(vI a_0_0_0), (vI a_0_0_1), (vI a_0_0_2), (vI a_0_0_3)] 0)])] 0)] [] (.row (.top 0) 86) [(0, .row 86 [] (List.map c_Rect r))] := by
 refine zU G Tryz.func163 ?_
 refine zK ⟨[(0,.sl (List.map c_Rect l)),(1,.vptr [(.fn 149 [(.vptr [(vI a_0_0_0),(vI a_0_0_1),(vI a_0_0_2),(vI a_0_0_3)] 0)])] 0)],[]⟩ ?_
 refine z3 1 ⟨[(0,.sl (List.map c_Rect l)),(1,.vptr [(.fn 149 [(.vptr [(vI a_0_0_0),(vI a_0_0_1),(vI a_0_0_2),(vI a_0_0_3)] 0)])] 0)],[]⟩ ?_
 refine z3 1 ⟨[(0,.sl (List.map c_Rect l)),(1,.vptr [(.fn 149 [(.vptr [(vI a_0_0_0),(vI a_0_0_1),(vI a_0_0_2),(vI a_0_0_3)] 0)])] 0),(4,.row (.top 4) 86)],[(4,.row 86 [] (List.map c_Rect []))]⟩ ?_
 refine zB ?_
 refine z7 ?_
 refine zA 1 ?_
 refine evs_op (st_len (c:=c_Rect) (l:=l) (x:=(.sl (List.map c_Rect l))) (by kernel_rfl) (by kernel_rfl)) ?_
 refine z1 1 ⟨[(1,.vptr [(.fn 149 [(.vptr [(vI a_0_0_0),(vI a_0_0_1),(vI a_0_0_2),(vI a_0_0_3)] 0)])] 0),(4,.row (.top 4) 86),(7,.sl (List.map c_Rect l)),(8,vI (l.length : Int)),(9,vI 0)],[(4,.row 86 [] (List.map c_Rect []))]⟩ ?_
 refine zC ?_
 obtain ⟨x78,hx78,h⟩:=bindS h
 refine sem_loopS (fun (s53 : Int × (List Rect))=>⟨[(1,.vptr [(.fn 149 [(.vptr [(vI a_0_0_0),(vI a_0_0_1),(vI a_0_0_2),(vI a_0_0_3)] 0)])] 0),(4,.row (.top 500000) 86),(7,.sl (List.map c_Rect l)),(8,vI (l.length : Int)),(9,vI s53.1)],[(500000,.row 86 [] (List.map c_Rect s53.2))]⟩) (fun (x78 : (List Rect))=>(.exit 0,⟨[(4,.row (.top 500000) 86)],[(500000,.row 86 [] (List.map c_Rect x78))]⟩)) (flat_mapped_1'_l1 l a_0_0_0 a_0_0_1 a_0_0_2 a_0_0_3) (0,[]) x78 (by kernel_rfl) (subR_prep [] [(4,500000)] (by kernel_rfl) rfl rfl (by kernel_rfl)) hx78 ?_ ?_ ?_
 intro s53 r h
 refine z3 1 ⟨[(1,.vptr [(.fn 149 [(.vptr [(vI a_0_0_0),(vI a_0_0_1),(vI a_0_0_2),(vI a_0_0_3)] 0)])] 0),(4,.row (.top 500000) 86),(7,.sl (List.map c_Rect l)),(8,vI (l.length : Int)),(9,vI s53.1),(10,vB (decide (s53.1 < (l.length : Int))))],[(500000,.row 86 [] (List.map c_Rect s53.2))]⟩ ?_
 refine zB ?_
 refine zI (decide (s53.1 < (l.length : Int))) (fun hb=>?_) fun hb=>?_
 replace h:=iteT hb h
 refine z4 ⟨[(1,.vptr [(.fn 149 [(.vptr [(vI a_0_0_0),(vI a_0_0_1),(vI a_0_0_2),(vI a_0_0_3)] 0)])] 0),(4,.row (.top 500000) 86),(7,.sl (List.map c_Rect l)),(8,vI (l.length : Int)),(9,vI s53.1)],[(500000,.row 86 [] (List.map c_Rect s53.2))]⟩ ?_
 refine zB ?_
 refine zC ?_
 refine z7 ?_
 obtain ⟨x73,hx73,h⟩:=bindS h
 refine evs_op (st_idx (c:=c_Rect) (l:=l) (i:=s53.1) (kd:=.i64) (sz:=4) (by kernel_rfl) hx73 rfl) ?_
 refine z1 3 ⟨[(1,.vptr [(.fn 149 [(.vptr [(vI a_0_0_0),(vI a_0_0_1),(vI a_0_0_2),(vI a_0_0_3)] 0)])] 0),(4,.row (.top 500000) 86),(6,.ptr 6 0),(7,.sl (List.map c_Rect l)),(8,vI (l.length : Int)),(9,vI s53.1)],[(6,.box (c_Rect x73)),(500000,.row 86 [] (List.map c_Rect s53.2))]⟩ ?_
 refine zD ?_
 refine zA 3 ?_
 obtain ⟨r76,hr76,h⟩:=bindS h
 refine evs_callS [] [(0,700150)] [] (by kernel_rfl) (W.flat_settled_1_ok hr76) (by kernel_rfl) (by kernel_rfl) (.inl rfl) ?_
 refine zA 1 ?_
 obtain ⟨l77,hl77,h⟩:=bindS h
 refine evs_op (st_app (c:=c_Rect) (l:=s53.2) (l2:=[r76]) (x:=(.sl (List.map c_Rect [r76]))) (g:=500000) (e:=86) (sz:=4) (d:=18) (by kernel_rfl) (by kernel_rfl) (by kernel_rfl) (by kernel_rfl) (fun _=>rfl) rfl hl77) ?_
 refine z6 1 fun τ hτ=>?_
 refine bl_normal ?_
 refine zE hτ ⟨[(1,.vptr [(.fn 149 [(.vptr [(vI a_0_0_0),(vI a_0_0_1),(vI a_0_0_2),(vI a_0_0_3)] 0)])] 0),(4,.row (.top 500000) 86),(7,.sl (List.map c_Rect l)),(8,vI (l.length : Int)),(9,vI s53.1)],[(500000,.row 86 [] (List.map c_Rect l77))]⟩ ?_
 refine zD ?_
 refine z6 2 fun τ hτ=>?_
 obtain rfl:=Option.some.inj h
 exact zH hτ
 replace h:=iteF hb h
 refine zL 0 fun τ hτ=>?_
 refine th_exit ?_
 obtain rfl:=Option.some.inj h
 exact zF hτ
 intro x
 rfl
 intro τ hτ
 refine zQ ?_
 refine zE hτ ⟨[(4,.row (.top 500000) 86)],[(500000,.row 86 [] (List.map c_Rect x78))]⟩ ?_
 refine z8 2 ⟨[(3,.row (.top 500000) 86)],[(500000,.row 86 [] (List.map c_Rect x78))]⟩ fun τ hτ=>?_
 obtain rfl:=Option.some.inj h
 exact rk_ret hτ [(3,.row (.top 0) 86)] (subR_prep [] [(500000,0)] (by kernel_rfl) rfl rfl (by kernel_rfl)) (by kernel_rfl)
theorem W.flat_settled_2_ok {s0 : Segment} {a_0 : Int} {a_1 : Int} {a_2 : Int} {a_3 : Int} {r : Segment} (h : flat_settled_2 s0 a_0 a_1 a_2 a_3 = some r) : PC G.P 150 [(.agg (c_Segment s0)), (.vptr [(vI a_0), (vI a_1), (vI a_2), (vI a_3)] 0)] [] (.agg (c_Segment r)) [(0, .box [(vI (isub s0.X1 a_0)), (vI (isub s0.Y1 a_1)), (vI (isub s0.X2 a_0)), (vI (isub s0.Y2 a_1))])] := by
 refine zU G Tryz.func150 ?_
 refine zK ⟨[(0,.agg (c_Segment s0)),(1,.vptr [(vI a_0),(vI a_1),(vI a_2),(vI a_3)] 0)],[]⟩ ?_
 refine z3 2 ⟨[(1,.vptr [(vI a_0),(vI a_1),(vI a_2),(vI a_3)] 0),(2,.ptr 2 0),(3,.ptr 3 0)],[(2,.box (c_Segment s0)),(3,.box [(vI 0),(vI 0),(vI 0),(vI 0)])]⟩ ?_
 refine z8 22 ⟨[(3,.ptr 3 0)],[(3,.box [(vI (isub s0.X1 a_0)),(vI (isub s0.Y1 a_1)),(vI (isub s0.X2 a_0)),(vI (isub s0.Y2 a_1))])]⟩ fun τ hτ=>?_
 obtain rfl:=Option.some.inj h
 exact rk_ret hτ [(3,.ptr 0 0)] (subR_prep [] [(3,0)] (by kernel_rfl) rfl rfl (by kernel_rfl)) (by kernel_rfl)
theorem W.flat_mapped__flat_settled_1__flat_settled_2_ok {f : Flat} {rect_0_0 : Int} {rect_0_1 : Int} {rect_0_2 : Int} {rect_0_3 : Int} {line_0_0 : Int} {line_0_1 : Int} {line_0_2 : Int} {line_0_3 : Int} {r : Flat} (h : flat_mapped__flat_settled_1__flat_settled_2 f rect_0_0 rect_0_1 rect_0_2 rect_0_3 line_0_0 line_0_1 line_0_2 line_0_3 = some r) : PC G.P 145 [(.agg (c_Flat f)), (.fn 149 [(.vptr [(vI rect_0_0), (vI rect_0_1), (vI rect_0_2), (vI rect_0_3)] 0)]), (.fn 150 [(.vptr [(vI line_0_0), (vI line_0_1), (vI line_0_2), (vI line_0_3)] 0)])] [] (.agg [(.row (.top 1) 86), (.row (.top 2) 86), (.row (.top 3) 86), (.row (.top 4) 162)]) [(0, .box [(.row (.top 1) 86), (.row (.top 2) 86), (.row (.top 3) 86), (.row (.top 4) 162)]), (1, .row 86 [] (List.map c_Rect r.Rects)), (2, .row 86 [] (List.map c_Rect r.Cuts)), (3, .row 86 [] (List.map c_Rect r.Forms)), (4, .row 162 [] (List.map c_BendLine r.Bends))] := by
 refine zU G Tryz.func145 ?_
 refine zK ⟨[(0,.agg (c_Flat f)),(1,.fn 149 [(.vptr [(vI rect_0_0),(vI rect_0_1),(vI rect_0_2),(vI rect_0_3)] 0)]),(2,.fn 150 [(.vptr [(vI line_0_0),(vI line_0_1),(vI line_0_2),(vI line_0_3)] 0)])],[]⟩ ?_
 refine z3 3 ⟨[(2,.fn 150 [(.vptr [(vI line_0_0),(vI line_0_1),(vI line_0_2),(vI line_0_3)] 0)]),(3,.ptr 3 0),(4,.ptr 4 0),(6,.ptr 6 0)],[(3,.box (c_Flat f)),(4,.box [(.fn 149 [(.vptr [(vI rect_0_0),(vI rect_0_1),(vI rect_0_2),(vI rect_0_3)] 0)])]),(6,.box [.nl,.nl,.nl,.nl])]⟩ ?_
 refine z3 2 ⟨[(2,.fn 150 [(.vptr [(vI line_0_0),(vI line_0_1),(vI line_0_2),(vI line_0_3)] 0)]),(3,.ptr 3 0),(6,.ptr 6 0),(7,.fn 163 [(.ptr 4 0)])],[(3,.box (c_Flat f)),(4,.box [(.fn 149 [(.vptr [(vI rect_0_0),(vI rect_0_1),(vI rect_0_2),(vI rect_0_3)] 0)])]),(6,.box [.nl,.nl,.nl,.nl])]⟩ ?_
 refine zB ?_
 refine sem_draw [(3,[700150]),(7,[700350]),(11,[700550]),(13,[8])] [(3,[700150]),(7,[700350]),(11,[700550]),(13,[8])] [(3,[4]),(7,[4]),(11,[4])] [(0,[8]),(1,[8]),(2,[8]),(3,[8]),(4,[700150,8]),(5,[700150,8]),(6,[700150,8]),(7,[8]),(8,[700150,700350,8]),(9,[700150,700350,8]),(10,[700150,700350,8]),(11,[8]),(12,[8]),(13,[700150,700350,700550])] [(0,[700150,700350,700550,8]),(1,[700150,700350,700550,8]),(2,[700150,700350,700550,8]),(3,[700350,700550,8]),(4,[700150,700350,700550,8]),(5,[700150,700350,700550,8]),(6,[700150,700350,700550,8]),(7,[700550,8]),(8,[700150,700350,700550,8]),(9,[700150,700350,700550,8]),(10,[700150,700350,700550,8]),(11,[8]),(12,[8]),(13,[700150,700350,700550])] 14 (by kernel_rfl) (by kernel_rfl) [700150,700350,700550,8] (by kernel_rfl) (by kernel_rfl) ?_
 refine evd_run 3 (by kernel_rfl) ?_
 obtain ⟨r7,hr7,h⟩:=bindS h
 refine evd_callS [(0,700150)] [4] (by kernel_rfl) (by kernel_rfl) (W.flat_mapped_1'_ok hr7) (by kernel_rfl) (.inr ⟨rfl,fun _ _=>ind_cons (ind_row fun _=>rfl) (fun _ _=>ind_nil)⟩) (by kernel_rfl) (by kernel_rfl) ?_
 refine evd_run 3 (by kernel_rfl) ?_
 obtain ⟨r8,hr8,h⟩:=bindS h
 refine evd_callS [(0,700350)] [4] (by kernel_rfl) (by kernel_rfl) (W.flat_mapped_1'_ok hr8) (by kernel_rfl) (.inr ⟨rfl,fun _ _=>ind_cons (ind_row fun _=>rfl) (fun _ _=>ind_nil)⟩) (by kernel_rfl) (by kernel_rfl) ?_
 refine evd_run 3 (by kernel_rfl) ?_
 obtain ⟨r9,hr9,h⟩:=bindS h
 refine evd_callS [(0,700550)] [4] (by kernel_rfl) (by kernel_rfl) (W.flat_mapped_1'_ok hr9) (by kernel_rfl) (.inr ⟨rfl,fun _ _=>ind_cons (ind_row fun _=>rfl) (fun _ _=>ind_nil)⟩) (by kernel_rfl) (by kernel_rfl) ?_
 refine evd_run 1 (by kernel_rfl) ?_
 refine evd_new (g:=8) (ob:=.box [.nl,.nl,.nl,.nl]) (v:=(.ptr 8 0)) (by kernel_rfl) (by kernel_rfl) (by kernel_rfl) (by kernel_rfl) (by kernel_rfl) (by kernel_rfl) ?_
 refine evd_end (by kernel_rfl) ?_
 refine evo_run 1 (by kernel_rfl) ?_
 refine zO fun τ hτ=>?_
 refine zE hτ ⟨[(2,.fn 150 [(.vptr [(vI line_0_0),(vI line_0_1),(vI line_0_2),(vI line_0_3)] 0)]),(3,.ptr 3 0),(6,.ptr 6 0),(8,.ptr 8 0)],[(3,.box (c_Flat f)),(6,.box [.nl,.nl,.nl,.nl]),(8,.box [(.row (.top 700150) 86),(.row (.top 700350) 86),(.row (.top 700550) 86),.nl]),(700150,.row 86 [] (List.map c_Rect r7)),(700350,.row 86 [] (List.map c_Rect r8)),(700550,.row 86 [] (List.map c_Rect r9))]⟩ ?_
 refine zB ?_
 refine z7 ?_
 refine zA 2 ?_
 refine evs_op (st_len (c:=c_BendLine) (l:=f.Bends) (x:=(.sl (List.map c_BendLine f.Bends))) (by kernel_rfl) (by kernel_rfl)) ?_
 refine z1 1 ⟨[(2,.fn 150 [(.vptr [(vI line_0_0),(vI line_0_1),(vI line_0_2),(vI line_0_3)] 0)]),(6,.ptr 6 0),(8,.ptr 8 0),(26,.sl (List.map c_BendLine f.Bends)),(27,vI (f.Bends.length : Int)),(28,vI 0)],[(6,.box [.nl,.nl,.nl,.nl]),(8,.box [(.row (.top 700150) 86),(.row (.top 700350) 86),(.row (.top 700550) 86),.nl]),(700150,.row 86 [] (List.map c_Rect r7)),(700350,.row 86 [] (List.map c_Rect r8)),(700550,.row 86 [] (List.map c_Rect r9))]⟩ ?_
 refine zC ?_
 obtain ⟨x87,hx87,h⟩:=bindS h
 refine sem_loopS (fun (s62 : Int × (List BendLine))=>⟨[(2,.fn 150 [(.vptr [(vI line_0_0),(vI line_0_1),(vI line_0_2),(vI line_0_3)] 0)]),(6,.ptr 500000 0),(8,.ptr 500001 0),(26,.sl (List.map c_BendLine f.Bends)),(27,vI (f.Bends.length : Int)),(28,vI s62.1)],[(500000,.box [.nl,.nl,.nl,.nl]),(500001,.box [(.row (.top 500002) 86),(.row (.top 500003) 86),(.row (.top 500004) 86),(.row (.top 500005) 162)]),(500002,.row 86 [] (List.map c_Rect r7)),(500003,.row 86 [] (List.map c_Rect r8)),(500004,.row 86 [] (List.map c_Rect r9)),(500005,.row 162 [] (List.map c_BendLine s62.2))]⟩) (fun (x87 : (List BendLine))=>(.exit 0,⟨[(6,.ptr 500000 0),(8,.ptr 500001 0)],[(500000,.box [.nl,.nl,.nl,.nl]),(500001,.box [(.row (.top 500002) 86),(.row (.top 500003) 86),(.row (.top 500004) 86),(.row (.top 500005) 162)]),(500002,.row 86 [] (List.map c_Rect r7)),(500003,.row 86 [] (List.map c_Rect r8)),(500004,.row 86 [] (List.map c_Rect r9)),(500005,.row 162 [] (List.map c_BendLine x87))]⟩)) (flat_mapped__flat_settled_1__flat_settled_2_l1 f line_0_0 line_0_1 line_0_2 line_0_3) (0,[]) x87 (by kernel_rfl) (subR_prep [.row (.box 8 3) 800000 162 []] [(6,500000),(8,500001),(700150,500002),(700350,500003),(700550,500004),(800000,500005)] (by kernel_rfl) rfl rfl (by kernel_rfl)) hx87 ?_ ?_ ?_
 intro s62 r h
 refine z3 1 ⟨[(2,.fn 150 [(.vptr [(vI line_0_0),(vI line_0_1),(vI line_0_2),(vI line_0_3)] 0)]),(6,.ptr 500000 0),(8,.ptr 500001 0),(26,.sl (List.map c_BendLine f.Bends)),(27,vI (f.Bends.length : Int)),(28,vI s62.1),(29,vB (decide (s62.1 < (f.Bends.length : Int))))],[(500000,.box [.nl,.nl,.nl,.nl]),(500001,.box [(.row (.top 500002) 86),(.row (.top 500003) 86),(.row (.top 500004) 86),(.row (.top 500005) 162)]),(500002,.row 86 [] (List.map c_Rect r7)),(500003,.row 86 [] (List.map c_Rect r8)),(500004,.row 86 [] (List.map c_Rect r9)),(500005,.row 162 [] (List.map c_BendLine s62.2))]⟩ ?_
 refine zB ?_
 refine zI (decide (s62.1 < (f.Bends.length : Int))) (fun hb=>?_) fun hb=>?_
 replace h:=iteT hb h
 refine z4 ⟨[(2,.fn 150 [(.vptr [(vI line_0_0),(vI line_0_1),(vI line_0_2),(vI line_0_3)] 0)]),(6,.ptr 500000 0),(8,.ptr 500001 0),(26,.sl (List.map c_BendLine f.Bends)),(27,vI (f.Bends.length : Int)),(28,vI s62.1)],[(500000,.box [.nl,.nl,.nl,.nl]),(500001,.box [(.row (.top 500002) 86),(.row (.top 500003) 86),(.row (.top 500004) 86),(.row (.top 500005) 162)]),(500002,.row 86 [] (List.map c_Rect r7)),(500003,.row 86 [] (List.map c_Rect r8)),(500004,.row 86 [] (List.map c_Rect r9)),(500005,.row 162 [] (List.map c_BendLine s62.2))]⟩ ?_
 refine zB ?_
 refine zC ?_
 refine z7 ?_
 obtain ⟨x82,hx82,h⟩:=bindS h
 refine evs_op (st_idx (c:=c_BendLine) (l:=f.Bends) (i:=s62.1) (kd:=.i64) (sz:=8) (by kernel_rfl) hx82 rfl) ?_
 refine z1 3 ⟨[(2,.fn 150 [(.vptr [(vI line_0_0),(vI line_0_1),(vI line_0_2),(vI line_0_3)] 0)]),(6,.ptr 500000 0),(8,.ptr 500001 0),(10,.ptr 10 0),(26,.sl (List.map c_BendLine f.Bends)),(27,vI (f.Bends.length : Int)),(28,vI s62.1)],[(10,.box (c_BendLine x82)),(500000,.box [.nl,.nl,.nl,.nl]),(500001,.box [(.row (.top 500002) 86),(.row (.top 500003) 86),(.row (.top 500004) 86),(.row (.top 500005) 162)]),(500002,.row 86 [] (List.map c_Rect r7)),(500003,.row 86 [] (List.map c_Rect r8)),(500004,.row 86 [] (List.map c_Rect r9)),(500005,.row 162 [] (List.map c_BendLine s62.2))]⟩ ?_
 refine z7 ?_
 refine zA 3 ?_
 obtain ⟨r84,hr84,h⟩:=bindS h
 refine evs_callS [] [(0,700150)] [] (by kernel_rfl) (W.flat_settled_2_ok hr84) (by kernel_rfl) (by kernel_rfl) (.inl rfl) ?_
 refine z1 2 ⟨[(2,.fn 150 [(.vptr [(vI line_0_0),(vI line_0_1),(vI line_0_2),(vI line_0_3)] 0)]),(6,.ptr 500000 0),(8,.ptr 500001 0),(10,.ptr 10 0),(26,.sl (List.map c_BendLine f.Bends)),(27,vI (f.Bends.length : Int)),(28,vI s62.1)],[(10,.box [(vI x82.Flange),(vI x82.Parent),(vI r84.X1),(vI r84.Y1),(vI r84.X2),(vI r84.Y2),(vI x82.Angle),(vI x82.Deduct)]),(500000,.box [.nl,.nl,.nl,.nl]),(500001,.box [(.row (.top 500002) 86),(.row (.top 500003) 86),(.row (.top 500004) 86),(.row (.top 500005) 162)]),(500002,.row 86 [] (List.map c_Rect r7)),(500003,.row 86 [] (List.map c_Rect r8)),(500004,.row 86 [] (List.map c_Rect r9)),(500005,.row 162 [] (List.map c_BendLine s62.2))]⟩ ?_
 refine zD ?_
 refine zA 4 ?_
 obtain ⟨l86,hl86,h⟩:=bindS h
 refine evs_op (st_app (c:=c_BendLine) (l:=s62.2) (l2:=[(BendLine.mk x82.Flange x82.Parent r84 x82.Angle x82.Deduct)]) (x:=(.sl (List.map c_BendLine [(BendLine.mk x82.Flange x82.Parent r84 x82.Angle x82.Deduct)]))) (g:=500005) (e:=162) (sz:=8) (d:=41) (by kernel_rfl) (by kernel_rfl) (by kernel_rfl) (by kernel_rfl) (fun _=>rfl) rfl hl86) ?_
 refine z6 2 fun τ hτ=>?_
 refine bl_normal ?_
 refine zE hτ ⟨[(2,.fn 150 [(.vptr [(vI line_0_0),(vI line_0_1),(vI line_0_2),(vI line_0_3)] 0)]),(6,.ptr 500000 0),(8,.ptr 500001 0),(26,.sl (List.map c_BendLine f.Bends)),(27,vI (f.Bends.length : Int)),(28,vI s62.1)],[(500000,.box [.nl,.nl,.nl,.nl]),(500001,.box [(.row (.top 500002) 86),(.row (.top 500003) 86),(.row (.top 500004) 86),(.row (.top 500005) 162)]),(500002,.row 86 [] (List.map c_Rect r7)),(500003,.row 86 [] (List.map c_Rect r8)),(500004,.row 86 [] (List.map c_Rect r9)),(500005,.row 162 [] (List.map c_BendLine l86))]⟩ ?_
 refine zD ?_
 refine z6 2 fun τ hτ=>?_
 obtain rfl:=Option.some.inj h
 exact zH hτ
 replace h:=iteF hb h
 refine zL 0 fun τ hτ=>?_
 refine th_exit ?_
 obtain rfl:=Option.some.inj h
 exact zF hτ
 intro x
 rfl
 intro τ hτ
 refine zQ ?_
 refine zE hτ ⟨[(6,.ptr 500000 0),(8,.ptr 500001 0)],[(500000,.box [.nl,.nl,.nl,.nl]),(500001,.box [(.row (.top 500002) 86),(.row (.top 500003) 86),(.row (.top 500004) 86),(.row (.top 500005) 162)]),(500002,.row 86 [] (List.map c_Rect r7)),(500003,.row 86 [] (List.map c_Rect r8)),(500004,.row 86 [] (List.map c_Rect r9)),(500005,.row 162 [] (List.map c_BendLine x87))]⟩ ?_
 refine z8 2 ⟨[(6,.ptr 500000 0)],[(500000,.box [(.row (.top 500002) 86),(.row (.top 500003) 86),(.row (.top 500004) 86),(.row (.top 500005) 162)]),(500002,.row 86 [] (List.map c_Rect r7)),(500003,.row 86 [] (List.map c_Rect r8)),(500004,.row 86 [] (List.map c_Rect r9)),(500005,.row 162 [] (List.map c_BendLine x87))]⟩ fun τ hτ=>?_
 obtain rfl:=Option.some.inj h
 exact rk_ret hτ [(6,.ptr 0 0)] (subR_prep [] [(500000,0),(500002,1),(500003,2),(500004,3),(500005,4)] (by kernel_rfl) rfl rfl (by kernel_rfl)) (by kernel_rfl)
theorem W.flat_settled_ok {f : Flat} {r : Flat × Int} (h : flat_settled f = some r) : PC G.P 128 [(.agg (c_Flat f))] [] (.tup [(.agg [(.row (.top 1) 86), (.row (.top 2) 86), (.row (.top 3) 86), (.row (.top 4) 162)]), (vI r.2)]) [(0, .box [(.row (.top 1) 86), (.row (.top 2) 86), (.row (.top 3) 86), (.row (.top 4) 162)]), (1, .row 86 [] (List.map c_Rect r.1.Rects)), (2, .row 86 [] (List.map c_Rect r.1.Cuts)), (3, .row 86 [] (List.map c_Rect r.1.Forms)), (4, .row 162 [] (List.map c_BendLine r.1.Bends))] := by
 refine zU G Tryz.func128 ?_
 refine zK ⟨[(0,.agg (c_Flat f))],[]⟩ ?_
 refine z3 3 ⟨[(1,.ptr 1 0),(2,.ptr 2 0)],[(1,.box (c_Flat f)),(2,.box [.nl,.nl,.nl,.nl])]⟩ ?_
 refine z7 ?_
 refine zA 2 ?_
 obtain ⟨r2,hr2,h⟩:=bindS h
 refine evs_callS [] [(0,700100)] [] (by kernel_rfl) (W.flat_bounds_ok hr2) (by kernel_rfl) (by kernel_rfl) (.inl rfl) ?_
 refine z1 2 ⟨[(1,.ptr 1 0),(2,.ptr 2 0),(4,.ptr 4 0)],[(1,.box (c_Flat f)),(2,.box [.nl,.nl,.nl,.nl]),(4,.box (c_Rect r2.1))]⟩ ?_
 refine z7 ?_
 refine zA 3 ?_
 obtain ⟨r4,hr4,h⟩:=bindS h
 refine evs_callS [] [(0,700150),(1,700151),(2,700152),(3,700153),(4,700154)] [4] (by kernel_rfl) (W.flat_mapped__flat_settled_1__flat_settled_2_ok hr4) (by kernel_rfl) (by kernel_rfl) (.inr ⟨rfl,fun _ _=>ind_cons rfl (fun _ _=>ind_cons (ind_row fun _=>rfl) (fun _ _=>ind_cons (ind_row fun _=>rfl) (fun _ _=>ind_cons (ind_row fun _=>rfl) (fun _ _=>ind_cons (ind_row fun _=>rfl) (fun _ _=>ind_nil)))))⟩) ?_
 refine z1 2 ⟨[(2,.ptr 2 0),(5,.ptr 5 0)],[(2,.box [.nl,.nl,.nl,.nl]),(5,.box [(.row (.top 700151) 86),(.row (.top 700152) 86),(.row (.top 700153) 86),(.row (.top 700154) 162)]),(700151,.row 86 [] (List.map c_Rect r4.Rects)),(700152,.row 86 [] (List.map c_Rect r4.Cuts)),(700153,.row 86 [] (List.map c_Rect r4.Forms)),(700154,.row 162 [] (List.map c_BendLine r4.Bends))]⟩ ?_
 refine zB ?_
 refine z7 ?_
 refine zA 1 ?_
 obtain ⟨r8,hr8,h⟩:=bindS h
 refine evs_callP [700151,700152,700153,700154] (by kernel_rfl) (W.flat_check_ok hr8) (by kernel_rfl) (.inr rfl) (by kernel_rfl) ?_
 refine z1 1 ⟨[(2,.ptr 2 0),(5,.ptr 5 0),(15,vB (r8 != 0))],[(2,.box [.nl,.nl,.nl,.nl]),(5,.box [(.row (.top 700151) 86),(.row (.top 700152) 86),(.row (.top 700153) 86),(.row (.top 700154) 162)]),(700151,.row 86 [] (List.map c_Rect r4.Rects)),(700152,.row 86 [] (List.map c_Rect r4.Cuts)),(700153,.row 86 [] (List.map c_Rect r4.Forms)),(700154,.row 162 [] (List.map c_BendLine r4.Bends))]⟩ ?_
 refine zI (r8 != 0) (fun hb=>?_) fun hb=>?_
 replace h:=iteT hb h
 refine z8 3 ⟨[(2,.ptr 2 0),(3,vI 4)],[(2,.box [.nl,.nl,.nl,.nl])]⟩ fun τ hτ=>?_
 refine th_ret ?_
 obtain rfl:=Option.some.inj h
 exact rk_ret hτ [(2,.ptr 0 0),(3,vI 4)] (subR_prep [.row (.box 2 0) 800000 86 [],.row (.box 2 1) 800001 86 [],.row (.box 2 2) 800002 86 [],.row (.box 2 3) 800003 162 []] [(2,0),(800000,1),(800001,2),(800002,3),(800003,4)] (by kernel_rfl) rfl rfl (by kernel_rfl)) (by kernel_rfl)
 replace h:=iteF hb h
 refine z4 ⟨[(2,.ptr 2 0),(5,.ptr 5 0)],[(2,.box [.nl,.nl,.nl,.nl]),(5,.box [(.row (.top 700151) 86),(.row (.top 700152) 86),(.row (.top 700153) 86),(.row (.top 700154) 162)]),(700151,.row 86 [] (List.map c_Rect r4.Rects)),(700152,.row 86 [] (List.map c_Rect r4.Cuts)),(700153,.row 86 [] (List.map c_Rect r4.Forms)),(700154,.row 162 [] (List.map c_BendLine r4.Bends))]⟩ ?_
 refine z8 3 ⟨[(2,.ptr 2 0),(3,vI 0)],[(2,.box [(.row (.top 700151) 86),(.row (.top 700152) 86),(.row (.top 700153) 86),(.row (.top 700154) 162)]),(700151,.row 86 [] (List.map c_Rect r4.Rects)),(700152,.row 86 [] (List.map c_Rect r4.Cuts)),(700153,.row 86 [] (List.map c_Rect r4.Forms)),(700154,.row 162 [] (List.map c_BendLine r4.Bends))]⟩ fun τ hτ=>?_
 obtain rfl:=Option.some.inj h
 exact rk_ret hτ [(2,.ptr 0 0),(3,vI 0)] (subR_prep [] [(2,0),(700151,1),(700152,2),(700153,3),(700154,4)] (by kernel_rfl) rfl rfl (by kernel_rfl)) (by kernel_rfl)
theorem W.flat_Quarter_ok {f : Flat} {turns : Int} {r : Flat × Int} (h : flat_Quarter f turns = some r) : PC G.P 99 [(.agg (c_Flat f)), (vI turns)] [] (.tup [(.agg [(.row (.top 1) 86), (.row (.top 2) 86), (.row (.top 3) 86), (.row (.top 4) 162)]), (vI r.2)]) [(0, .box [(.row (.top 1) 86), (.row (.top 2) 86), (.row (.top 3) 86), (.row (.top 4) 162)]), (1, .row 86 [] (List.map c_Rect r.1.Rects)), (2, .row 86 [] (List.map c_Rect r.1.Cuts)), (3, .row 86 [] (List.map c_Rect r.1.Forms)), (4, .row 162 [] (List.map c_BendLine r.1.Bends))] := by
 refine zU G Tryz.func99 ?_
 refine zK ⟨[(0,.agg (c_Flat f)),(1,vI turns)],[]⟩ ?_
 refine z3 3 ⟨[(1,vI turns),(2,.ptr 2 0),(4,.ptr 4 0)],[(2,.box (c_Flat f)),(4,.box [.nl,.nl,.nl,.nl])]⟩ ?_
 refine zB ?_
 refine z7 ?_
 refine zA 1 ?_
 obtain ⟨r5,hr5,h⟩:=bindS h
 refine evs_callP [] (by kernel_rfl) (W.flat_check_ok hr5) (by kernel_rfl) (.inl rfl) (by kernel_rfl) ?_
 refine z1 1 ⟨[(1,vI turns),(2,.ptr 2 0),(4,.ptr 4 0),(6,vI r5)],[(2,.box (c_Flat f)),(4,.box [.nl,.nl,.nl,.nl])]⟩ ?_
 refine zB ?_
 obtain ⟨j6,hj6,h⟩:=bindS h
 refine zT ⟨[(1,vI turns),(2,.ptr 500000 0),(4,.ptr 500001 0),(22,vB j6)],[(500000,.box (c_Flat f)),(500001,.box [.nl,.nl,.nl,.nl])]⟩ ?_ fun τ hτ=>?_
 replace h:=hj6
 refine zA 3 ?_
 refine zS (r5 != 0) (fun b0=>⟨[(1,vI turns),(2,.ptr 2 0),(4,.ptr 4 0),(15,vB b0)],[(2,.box (c_Flat f)),(4,.box [.nl,.nl,.nl,.nl])]⟩) (fun hb=>?_) fun hb=>?_
 replace h:=iteT hb h
 refine z6 7 fun τ hτ=>?_
 obtain rfl:=Option.some.inj h
 exact leafC hτ (subR_prep [] [(2,500000),(4,500001)] (by kernel_rfl) rfl rfl (by kernel_rfl))
 replace h:=iteF hb h
 refine zA 4 ?_
 refine zS (decide (turns < 0)) (fun b0=>⟨[(1,vI turns),(2,.ptr 2 0),(4,.ptr 4 0),(19,vB b0)],[(2,.box (c_Flat f)),(4,.box [.nl,.nl,.nl,.nl])]⟩) (fun hb=>?_) fun hb=>?_
 replace h:=iteT hb h
 refine z6 3 fun τ hτ=>?_
 obtain rfl:=Option.some.inj h
 exact leafC hτ (subR_prep [] [(2,500000),(4,500001)] (by kernel_rfl) rfl rfl (by kernel_rfl))
 replace h:=iteF hb h
 refine z6 3 fun τ hτ=>?_
 obtain rfl:=Option.some.inj h
 exact leafC hτ (subR_prep [] [(2,500000),(4,500001)] (by kernel_rfl) rfl rfl (by kernel_rfl))
 refine zE hτ ⟨[(1,vI turns),(2,.ptr 500000 0),(4,.ptr 500001 0),(22,vB j6)],[(500000,.box (c_Flat f)),(500001,.box [.nl,.nl,.nl,.nl])]⟩ ?_
 refine zI j6 (fun hb=>?_) fun hb=>?_
 replace h:=iteT hb h
 refine z8 3 ⟨[(4,.ptr 500001 0),(5,vI 1)],[(500001,.box [.nl,.nl,.nl,.nl])]⟩ fun τ hτ=>?_
 refine th_ret ?_
 obtain rfl:=Option.some.inj h
 exact rk_ret hτ [(4,.ptr 0 0),(5,vI 1)] (subR_prep [.row (.box 500001 0) 800000 86 [],.row (.box 500001 1) 800001 86 [],.row (.box 500001 2) 800002 86 [],.row (.box 500001 3) 800003 162 []] [(500001,0),(800000,1),(800001,2),(800002,3),(800003,4)] (by kernel_rfl) rfl rfl (by kernel_rfl)) (by kernel_rfl)
 replace h:=iteF hb h
 refine z4 ⟨[(1,vI turns),(2,.ptr 500000 0),(4,.ptr 500001 0)],[(500000,.box (c_Flat f)),(500001,.box [.nl,.nl,.nl,.nl])]⟩ ?_
 refine z3 3 ⟨[(1,vI turns),(2,.ptr 500000 0),(4,.ptr 500001 0),(7,.ptr 7 0)],[(7,.box (c_Flat f)),(500000,.box (c_Flat f)),(500001,.box [.nl,.nl,.nl,.nl])]⟩ ?_
 refine zB ?_
 refine z3 2 ⟨[(1,vI turns),(2,.ptr 500000 0),(4,.ptr 500001 0),(7,.ptr 7 0),(25,vI turns),(26,vI 0)],[(7,.box (c_Flat f)),(500000,.box (c_Flat f)),(500001,.box [.nl,.nl,.nl,.nl])]⟩ ?_
 refine zC ?_
 obtain ⟨x36,hx36,h⟩:=bindS h
 refine sem_loopS (fun (s27 : Int × (List Rect) × (List Rect) × (List Rect) × (List BendLine))=>⟨[(1,vI turns),(2,.ptr 500000 0),(4,.ptr 500001 0),(7,.ptr 500002 0),(25,vI turns),(26,vI s27.1)],[(500000,.box (c_Flat f)),(500001,.box [.nl,.nl,.nl,.nl]),(500002,.box [(.sl (List.map c_Rect s27.2.1)),(.sl (List.map c_Rect s27.2.2.1)),(.sl (List.map c_Rect s27.2.2.2.1)),(.sl (List.map c_BendLine s27.2.2.2.2))])]⟩) (fun (x36 : (List Rect) × (List Rect) × (List Rect) × (List BendLine))=>(.exit 0,⟨[(1,vI turns),(2,.ptr 500000 0),(4,.ptr 500001 0),(7,.ptr 500002 0)],[(500000,.box (c_Flat f)),(500001,.box [.nl,.nl,.nl,.nl]),(500002,.box [(.sl (List.map c_Rect x36.1)),(.sl (List.map c_Rect x36.2.1)),(.sl (List.map c_Rect x36.2.2.1)),(.sl (List.map c_BendLine x36.2.2.2))])]⟩)) (flat_Quarter_l1 turns) (0,f.Rects,f.Cuts,f.Forms,f.Bends) x36 (by kernel_rfl) (subR_prep [] [(7,500002),(500000,500000),(500001,500001)] (by kernel_rfl) rfl rfl (by kernel_rfl)) hx36 ?_ ?_ ?_
 intro s27 r h
 refine z3 1 ⟨[(1,vI turns),(2,.ptr 500000 0),(4,.ptr 500001 0),(7,.ptr 500002 0),(25,vI turns),(26,vI s27.1),(27,vB (decide (s27.1 < turns)))],[(500000,.box (c_Flat f)),(500001,.box [.nl,.nl,.nl,.nl]),(500002,.box [(.sl (List.map c_Rect s27.2.1)),(.sl (List.map c_Rect s27.2.2.1)),(.sl (List.map c_Rect s27.2.2.2.1)),(.sl (List.map c_BendLine s27.2.2.2.2))])]⟩ ?_
 refine zB ?_
 refine zI (decide (s27.1 < turns)) (fun hb=>?_) fun hb=>?_
 replace h:=iteT hb h
 refine z4 ⟨[(1,vI turns),(2,.ptr 500000 0),(4,.ptr 500001 0),(7,.ptr 500002 0),(25,vI turns),(26,vI s27.1)],[(500000,.box (c_Flat f)),(500001,.box [.nl,.nl,.nl,.nl]),(500002,.box [(.sl (List.map c_Rect s27.2.1)),(.sl (List.map c_Rect s27.2.2.1)),(.sl (List.map c_Rect s27.2.2.2.1)),(.sl (List.map c_BendLine s27.2.2.2.2))])]⟩ ?_
 refine zB ?_
 refine zC ?_
 refine zD ?_
 refine zA 1 ?_
 obtain ⟨r35,hr35,h⟩:=bindS h
 refine evs_callS [] [(0,700050),(1,700051),(2,700052),(3,700053),(4,700054)] [] (by kernel_rfl) (W.flat_quarter_ok hr35) (by kernel_rfl) (by kernel_rfl) (.inl rfl) ?_
 refine z6 1 fun τ hτ=>?_
 refine bl_normal ?_
 refine zE hτ ⟨[(1,vI turns),(2,.ptr 500000 0),(4,.ptr 500001 0),(7,.ptr 500002 0),(25,vI turns),(26,vI s27.1)],[(500000,.box (c_Flat f)),(500001,.box [.nl,.nl,.nl,.nl]),(500002,.box [(.row (.top 700051) 86),(.row (.top 700052) 86),(.row (.top 700053) 86),(.row (.top 700054) 162)]),(700051,.row 86 [] (List.map c_Rect r35.Rects)),(700052,.row 86 [] (List.map c_Rect r35.Cuts)),(700053,.row 86 [] (List.map c_Rect r35.Forms)),(700054,.row 162 [] (List.map c_BendLine r35.Bends))]⟩ ?_
 refine zD ?_
 refine z6 2 fun τ hτ=>?_
 obtain rfl:=Option.some.inj h
 exact lk_nextS hτ (subR_prep [.frz 700051,.frz 700052,.frz 700053,.frz 700054] [(500000,500000),(500001,500001),(500002,500002)] (by kernel_rfl) rfl rfl (by kernel_rfl))
 replace h:=iteF hb h
 refine zL 0 fun τ hτ=>?_
 refine th_exit ?_
 obtain rfl:=Option.some.inj h
 exact zF hτ
 intro x
 rfl
 intro τ hτ
 refine zQ ?_
 refine zE hτ ⟨[(1,vI turns),(2,.ptr 500000 0),(4,.ptr 500001 0),(7,.ptr 500002 0)],[(500000,.box (c_Flat f)),(500001,.box [.nl,.nl,.nl,.nl]),(500002,.box [(.sl (List.map c_Rect x36.1)),(.sl (List.map c_Rect x36.2.1)),(.sl (List.map c_Rect x36.2.2.1)),(.sl (List.map c_BendLine x36.2.2.2))])]⟩ ?_
 refine zB ?_
 refine z7 ?_
 refine zA 2 ?_
 refine evs_op (st_len (c:=c_BendLine) (l:=f.Bends) (x:=(.sl (List.map c_BendLine f.Bends))) (by kernel_rfl) (by kernel_rfl)) ?_
 refine z1 1 ⟨[(1,vI turns),(4,.ptr 500001 0),(7,.ptr 500002 0),(32,.sl (List.map c_BendLine f.Bends)),(33,vI (f.Bends.length : Int)),(34,vI 0)],[(500001,.box [.nl,.nl,.nl,.nl]),(500002,.box [(.sl (List.map c_Rect x36.1)),(.sl (List.map c_Rect x36.2.1)),(.sl (List.map c_Rect x36.2.2.1)),(.sl (List.map c_BendLine x36.2.2.2))])]⟩ ?_
 refine zC ?_
 obtain ⟨x40,hx40,h⟩:=bindS h
 refine sem_loopS (fun (s39 : Unit)=>⟨[(1,vI turns),(4,.ptr 500000 0),(7,.ptr 500001 0),(32,.sl (List.map c_BendLine f.Bends)),(33,vI (f.Bends.length : Int)),(34,vI 0)],[(500000,.box [.nl,.nl,.nl,.nl]),(500001,.box [(.sl (List.map c_Rect x36.1)),(.sl (List.map c_Rect x36.2.1)),(.sl (List.map c_Rect x36.2.2.1)),(.sl (List.map c_BendLine x36.2.2.2))])]⟩) (fun (x40 : Unit)=>(.exit 2,⟨[(4,.ptr 500000 0),(7,.ptr 500001 0)],[(500000,.box [.nl,.nl,.nl,.nl]),(500001,.box [(.sl (List.map c_Rect x36.1)),(.sl (List.map c_Rect x36.2.1)),(.sl (List.map c_Rect x36.2.2.1)),(.sl (List.map c_BendLine x36.2.2.2))])]⟩)) (flat_Quarter_l2 f) () x40 (by kernel_rfl) (subR_prep [] [(500001,500000),(500002,500001)] (by kernel_rfl) rfl rfl (by kernel_rfl)) hx40 ?_ ?_ ?_
 intro s39 r h
 refine z3 1 ⟨[(1,vI turns),(4,.ptr 500000 0),(7,.ptr 500001 0),(32,.sl (List.map c_BendLine f.Bends)),(33,vI (f.Bends.length : Int)),(34,vI 0),(35,vB (decide (0 < (f.Bends.length : Int))))],[(500000,.box [.nl,.nl,.nl,.nl]),(500001,.box [(.sl (List.map c_Rect x36.1)),(.sl (List.map c_Rect x36.2.1)),(.sl (List.map c_Rect x36.2.2.1)),(.sl (List.map c_BendLine x36.2.2.2))])]⟩ ?_
 refine zB ?_
 refine zI (decide (0 < (f.Bends.length : Int))) (fun hb=>?_) fun hb=>?_
 replace h:=iteT hb h
 exact nomatch h
 replace h:=iteF hb h
 refine zL 2 fun τ hτ=>?_
 refine th_exit ?_
 obtain rfl:=Option.some.inj h
 exact zF hτ
 intro x
 rfl
 intro τ hτ
 refine zQ ?_
 refine zE hτ ⟨[(4,.ptr 500000 0),(7,.ptr 500001 0)],[(500000,.box [.nl,.nl,.nl,.nl]),(500001,.box [(.sl (List.map c_Rect x36.1)),(.sl (List.map c_Rect x36.2.1)),(.sl (List.map c_Rect x36.2.2.1)),(.sl (List.map c_BendLine x36.2.2.2))])]⟩ ?_
 refine z7 ?_
 refine zA 1 ?_
 obtain ⟨r42,hr42,h⟩:=bindS h
 refine evs_callS [] [(0,700050),(1,700051),(2,700052),(3,700053),(4,700054)] [] (by kernel_rfl) (W.flat_settled_ok hr42) (by kernel_rfl) (by kernel_rfl) (.inl rfl) ?_
 refine z1 4 ⟨[(4,.ptr 500000 0),(5,vI r42.2)],[(500000,.box [(.row (.top 700051) 86),(.row (.top 700052) 86),(.row (.top 700053) 86),(.row (.top 700054) 162)]),(700051,.row 86 [] (List.map c_Rect r42.1.Rects)),(700052,.row 86 [] (List.map c_Rect r42.1.Cuts)),(700053,.row 86 [] (List.map c_Rect r42.1.Forms)),(700054,.row 162 [] (List.map c_BendLine r42.1.Bends))]⟩ ?_
 refine zN fun τ hτ=>?_
 obtain rfl:=Option.some.inj h
 exact rk_ret hτ [(4,.ptr 0 0),(5,vI r42.2)] (subR_prep [] [(500000,0),(700051,1),(700052,2),(700053,3),(700054,4)] (by kernel_rfl) rfl rfl (by kernel_rfl)) (by kernel_rfl)
theorem W.nest_moved_ok {l : (List Rect)} {x1 : Int} {y : Int} {r : (List Rect)} (h : nest_moved l x1 y = some r) : PC G.P 87 [(.sl (List.map c_Rect l)), (vI x1), (vI y)] [] (.row (.top 0) 86) [(0, .row 86 [] (List.map c_Rect r))] := by
 refine zU G Tryz.func87 ?_
 refine zK ⟨[(0,.sl (List.map c_Rect l)),(1,vI x1),(2,vI y)],[]⟩ ?_
 refine z3 1 ⟨[(0,.sl (List.map c_Rect l)),(1,vI x1),(2,vI y)],[]⟩ ?_
 refine z7 ?_
 refine zA 1 ?_
 refine evs_op (st_len (c:=c_Rect) (l:=l) (x:=(.sl (List.map c_Rect l))) (by kernel_rfl) (by kernel_rfl)) ?_
 obtain ⟨l2,hl2,h⟩:=bindS h
 refine evs_op (st_mk (c:=c_Rect) (z:=(Rect.mk 0 0 0 0)) (n:=(l.length : Int)) (e:=86) (d:=11) (zs:=[(vI 0),(vI 0),(vI 0),(vI 0)]) (k1:=.i64) (k2:=.i64) (by kernel_rfl) rfl hl2) ?_
 refine z1 1 ⟨[(0,.sl (List.map c_Rect l)),(1,vI x1),(2,vI y),(7,.row (.top 11) 86)],[(11,.row 86 [] (List.map c_Rect l2))]⟩ ?_
 refine z7 ?_
 refine zA 2 ?_
 refine evs_at (at_copy (c:=c_Rect) (l:=l2) (l2:=l) (d:=(.row (.top 11) 86)) (x:=(.sl (List.map c_Rect l))) (e:=86) (sz:=4) (g:=11) (lo:=0) (n:=l2.length) (by kernel_rfl) (by kernel_rfl) (by kernel_rfl) (Nat.le_of_eq (Nat.zero_add _)) (by kernel_rfl) (by kernel_rfl) (fun _=>rfl)) ?_
 refine zP fun τ hτ=>?_
 refine zE hτ ⟨[(1,vI x1),(2,vI y),(7,.row (.top 11) 86)],[(11,.row 86 [] (List.map c_Rect (cpy l2 (0) (List.take (min l.length (l2.length)) l))))]⟩ ?_
 refine zB ?_
 refine z7 ?_
 refine zA 1 ?_
 refine evs_op (st_len (c:=c_Rect) (l:=(cpy l2 (0) (List.take (min l.length (l2.length)) l))) (x:=(.row (.top 11) 86)) (by kernel_rfl) (by kernel_rfl)) ?_
 refine z1 1 ⟨[(1,vI x1),(2,vI y),(7,.row (.top 11) 86),(16,vI ((cpy l2 (0) (List.take (min l.length (l2.length)) l)).length : Int)),(17,vI 0)],[(11,.row 86 [] (List.map c_Rect (cpy l2 (0) (List.take (min l.length (l2.length)) l))))]⟩ ?_
 refine zC ?_
 obtain ⟨x104,hx104,h⟩:=bindS h
 refine sem_loopS (fun (s71 : Int × (List Rect))=>⟨[(1,vI x1),(2,vI y),(7,.row (.top 500000) 86),(16,vI ((cpy l2 (0) (List.take (min l.length (l2.length)) l)).length : Int)),(17,vI s71.1)],[(500000,.row 86 [] (List.map c_Rect s71.2))]⟩) (fun (x104 : (List Rect))=>(.exit 0,⟨[(7,.row (.top 500000) 86)],[(500000,.row 86 [] (List.map c_Rect x104))]⟩)) (nest_moved_l1 l x1 y l2) (0,cpy l2 (0) (List.take (min l.length (l2.length)) l)) x104 (by kernel_rfl) (subR_prep [] [(11,500000)] (by kernel_rfl) rfl rfl (by kernel_rfl)) hx104 ?_ ?_ ?_
 intro s71 r h
 refine z3 1 ⟨[(1,vI x1),(2,vI y),(7,.row (.top 500000) 86),(16,vI ((cpy l2 (0) (List.take (min l.length (l2.length)) l)).length : Int)),(17,vI s71.1),(18,vB (decide (s71.1 < ((cpy l2 (0) (List.take (min l.length (l2.length)) l)).length : Int))))],[(500000,.row 86 [] (List.map c_Rect s71.2))]⟩ ?_
 refine zB ?_
 refine zI (decide (s71.1 < ((cpy l2 (0) (List.take (min l.length (l2.length)) l)).length : Int))) (fun hb=>?_) fun hb=>?_
 replace h:=iteT hb h
 refine z4 ⟨[(1,vI x1),(2,vI y),(7,.row (.top 500000) 86),(16,vI ((cpy l2 (0) (List.take (min l.length (l2.length)) l)).length : Int)),(17,vI s71.1)],[(500000,.row 86 [] (List.map c_Rect s71.2))]⟩ ?_
 refine zB ?_
 refine zC ?_
 refine z3 2 ⟨[(1,vI x1),(2,vI y),(7,.row (.top 500000) 86),(8,vI s71.1),(16,vI ((cpy l2 (0) (List.take (min l.length (l2.length)) l)).length : Int)),(17,vI s71.1)],[(500000,.row 86 [] (List.map c_Rect s71.2))]⟩ ?_
 refine z7 ?_
 refine zA 2 ?_
 obtain ⟨x98,hx98,h⟩:=bindS h
 refine evs_op (st_idxO (c:=c_Rect) (l:=s71.2) (i:=s71.1) (kd:=.i64) (kk:=(.top 500000)) (e:=86) (sz:=4) (by kernel_rfl) (by kernel_rfl) hx98 rfl) ?_
 refine zA 1 ?_
 refine evs_op (st_ldO (c:=c_Rect) (l:=s71.2) (i:=(Int.toNat s71.1)) (v:=(vI x98.X)) (agg:=false) (sz:=1) (kk:=(.top 500000)) (e:=86) (off:=0) (J:=[]) (by kernel_rfl) (by kernel_rfl) (by kernel_rfl) ((idxS hx98).2) (by kernel_rfl)) ?_
 refine zA 2 ?_
 obtain ⟨x99,hx99,h⟩:=bindS h
 refine evs_op (st_idxO (c:=c_Rect) (l:=s71.2) (i:=s71.1) (kd:=.i64) (kk:=(.top 500000)) (e:=86) (sz:=4) (by kernel_rfl) (by kernel_rfl) hx99 rfl) ?_
 refine zA 1 ?_
 refine evs_op (st_stO (c:=c_Rect) (l:=s71.2) (i:=(Int.toNat s71.1)) (x:=x99) (x':=(Rect.mk (iadd x98.X x1) x99.Y x99.W x99.H)) (v:=(vI (iadd x98.X x1))) (agg:=false) (sz:=1) (kk:=(.top 500000)) (e:=86) (off:=0) (J:=[]) (o:=.row 86 [] (List.map c_Rect (List.set s71.2 (Int.toNat s71.1) (Rect.mk (iadd x98.X x1) x99.Y x99.W x99.H)))) (by kernel_rfl) (by kernel_rfl) (by kernel_rfl) ((idxS hx99).2) (by kernel_rfl) (by kernel_rfl) (by kernel_rfl)) ?_
 refine zP fun τ hτ=>?_
 refine zE hτ ⟨[(1,vI x1),(2,vI y),(7,.row (.top 500000) 86),(8,vI s71.1),(16,vI ((cpy l2 (0) (List.take (min l.length (l2.length)) l)).length : Int)),(17,vI s71.1)],[(500000,.row 86 [] (List.map c_Rect (List.set s71.2 (Int.toNat s71.1) (Rect.mk (iadd x98.X x1) x99.Y x99.W x99.H))))]⟩ ?_
 refine zD ?_
 refine zA 2 ?_
 obtain ⟨x102,hx102,h⟩:=bindS h
 refine evs_op (st_idxO (c:=c_Rect) (l:=(List.set s71.2 (Int.toNat s71.1) (Rect.mk (iadd x98.X x1) x99.Y x99.W x99.H))) (i:=s71.1) (kd:=.i64) (kk:=(.top 500000)) (e:=86) (sz:=4) (by kernel_rfl) (by kernel_rfl) hx102 rfl) ?_
 refine zA 1 ?_
 refine evs_op (st_ldO (c:=c_Rect) (l:=(List.set s71.2 (Int.toNat s71.1) (Rect.mk (iadd x98.X x1) x99.Y x99.W x99.H))) (i:=(Int.toNat s71.1)) (v:=(vI x102.Y)) (agg:=false) (sz:=1) (kk:=(.top 500000)) (e:=86) (off:=1) (J:=[]) (by kernel_rfl) (by kernel_rfl) (by kernel_rfl) ((idxS hx102).2) (by kernel_rfl)) ?_
 refine zA 2 ?_
 obtain ⟨x103,hx103,h⟩:=bindS h
 refine evs_op (st_idxO (c:=c_Rect) (l:=(List.set s71.2 (Int.toNat s71.1) (Rect.mk (iadd x98.X x1) x99.Y x99.W x99.H))) (i:=s71.1) (kd:=.i64) (kk:=(.top 500000)) (e:=86) (sz:=4) (by kernel_rfl) (by kernel_rfl) hx103 rfl) ?_
 refine zA 1 ?_
 refine evs_op (st_stO (c:=c_Rect) (l:=(List.set s71.2 (Int.toNat s71.1) (Rect.mk (iadd x98.X x1) x99.Y x99.W x99.H))) (i:=(Int.toNat s71.1)) (x:=x103) (x':=(Rect.mk x103.X (iadd x102.Y y) x103.W x103.H)) (v:=(vI (iadd x102.Y y))) (agg:=false) (sz:=1) (kk:=(.top 500000)) (e:=86) (off:=1) (J:=[]) (o:=.row 86 [] (List.map c_Rect (List.set (List.set s71.2 (Int.toNat s71.1) (Rect.mk (iadd x98.X x1) x99.Y x99.W x99.H)) (Int.toNat s71.1) (Rect.mk x103.X (iadd x102.Y y) x103.W x103.H)))) (by kernel_rfl) (by kernel_rfl) (by kernel_rfl) ((idxS hx103).2) (by kernel_rfl) (by kernel_rfl) (by kernel_rfl)) ?_
 refine zP fun τ hτ=>?_
 refine bl_normal ?_
 refine zE hτ ⟨[(1,vI x1),(2,vI y),(7,.row (.top 500000) 86),(16,vI ((cpy l2 (0) (List.take (min l.length (l2.length)) l)).length : Int)),(17,vI s71.1)],[(500000,.row 86 [] (List.map c_Rect (List.set (List.set s71.2 (Int.toNat s71.1) (Rect.mk (iadd x98.X x1) x99.Y x99.W x99.H)) (Int.toNat s71.1) (Rect.mk x103.X (iadd x102.Y y) x103.W x103.H))))]⟩ ?_
 refine zD ?_
 refine z6 2 fun τ hτ=>?_
 obtain rfl:=Option.some.inj h
 exact zH hτ
 replace h:=iteF hb h
 refine zL 0 fun τ hτ=>?_
 refine th_exit ?_
 obtain rfl:=Option.some.inj h
 exact zF hτ
 intro x
 rfl
 intro τ hτ
 refine zQ ?_
 refine zE hτ ⟨[(7,.row (.top 500000) 86)],[(500000,.row 86 [] (List.map c_Rect x104))]⟩ ?_
 refine z8 2 ⟨[(6,.row (.top 500000) 86)],[(500000,.row 86 [] (List.map c_Rect x104))]⟩ fun τ hτ=>?_
 obtain rfl:=Option.some.inj h
 exact rk_ret hτ [(6,.row (.top 0) 86)] (subR_prep [] [(500000,0)] (by kernel_rfl) rfl rfl (by kernel_rfl)) (by kernel_rfl)
theorem W.nest_put_ok {x0 : Piece} {at1 : Placement} {r : Piece × Int × ByteArray × ByteArray × Int × Int} (h : nest_put x0 at1 = some r) : PC G.P 68 [(.agg (c_Piece x0)), (.agg (c_Placement at1))] [] (.tup [(.agg [(vS r.1.Name), (vS r.1.Material), (vI r.1.Gauge), (vI r.1.Grain), (.row (.top 1) 86), (.row (.top 2) 86), (.row (.top 3) 86)]), (vI r.2.1)]) [(0, .box [(vS r.2.2.1), (vS r.2.2.2.1), (vI r.2.2.2.2.1), (vI r.2.2.2.2.2), (.row (.top 1) 86), (.row (.top 2) 86), (.row (.top 3) 86)]), (1, .row 86 [] (List.map c_Rect r.1.Rects)), (2, .row 86 [] (List.map c_Rect r.1.Cuts)), (3, .row 86 [] (List.map c_Rect r.1.Forms))] := by
 refine zU G Tryz.func68 ?_
 refine zK ⟨[(0,.agg (c_Piece x0)),(1,.agg (c_Placement at1))],[]⟩ ?_
 refine z3 4 ⟨[(2,.ptr 2 0),(3,.ptr 3 0),(4,.ptr 4 0)],[(2,.box (c_Piece x0)),(3,.box (c_Placement at1)),(4,.box [(vS ByteArray.empty),(vS ByteArray.empty),(vI 0),(vI 0),.nl,.nl,.nl])]⟩ ?_
 refine z7 ?_
 refine zA 9 ?_
 obtain ⟨r2,hr2,h⟩:=bindS h
 refine evs_callS [] [(0,700450),(1,700451),(2,700452),(3,700453),(4,700454)] [] (by kernel_rfl) (W.flat_Quarter_ok hr2) (by kernel_rfl) (by kernel_rfl) (.inl rfl) ?_
 refine z1 6 ⟨[(2,.ptr 2 0),(3,.ptr 3 0),(4,.ptr 4 0),(6,.ptr 6 0),(7,vI r2.2)],[(2,.box (c_Piece x0)),(3,.box (c_Placement at1)),(4,.box [(vS ByteArray.empty),(vS ByteArray.empty),(vI 0),(vI 0),.nl,.nl,.nl]),(6,.box [(.row (.top 700451) 86),(.row (.top 700452) 86),(.row (.top 700453) 86),(.row (.top 700454) 162)]),(700451,.row 86 [] (List.map c_Rect r2.1.Rects)),(700452,.row 86 [] (List.map c_Rect r2.1.Cuts)),(700453,.row 86 [] (List.map c_Rect r2.1.Forms)),(700454,.row 162 [] (List.map c_BendLine r2.1.Bends))]⟩ ?_
 refine zB ?_
 refine z3 2 ⟨[(2,.ptr 2 0),(3,.ptr 3 0),(4,.ptr 4 0),(6,.ptr 6 0),(23,vB (r2.2 != 0))],[(2,.box (c_Piece x0)),(3,.box (c_Placement at1)),(4,.box [(vS ByteArray.empty),(vS ByteArray.empty),(vI 0),(vI 0),.nl,.nl,.nl]),(6,.box [(.row (.top 700451) 86),(.row (.top 700452) 86),(.row (.top 700453) 86),(.row (.top 700454) 162)]),(700451,.row 86 [] (List.map c_Rect r2.1.Rects)),(700452,.row 86 [] (List.map c_Rect r2.1.Cuts)),(700453,.row 86 [] (List.map c_Rect r2.1.Forms)),(700454,.row 162 [] (List.map c_BendLine r2.1.Bends))]⟩ ?_
 refine zI (r2.2 != 0) (fun hb=>?_) fun hb=>?_
 replace h:=iteT hb h
 refine z8 3 ⟨[(4,.ptr 4 0),(5,vI 4)],[(4,.box [(vS ByteArray.empty),(vS ByteArray.empty),(vI 0),(vI 0),.nl,.nl,.nl])]⟩ fun τ hτ=>?_
 refine th_ret ?_
 obtain rfl:=Option.some.inj h
 exact rk_ret hτ [(4,.ptr 0 0),(5,vI 4)] (subR_prep [.row (.box 4 4) 800000 86 [],.row (.box 4 5) 800001 86 [],.row (.box 4 6) 800002 86 []] [(4,0),(800000,1),(800001,2),(800002,3)] (by kernel_rfl) rfl rfl (by kernel_rfl)) (by kernel_rfl)
 replace h:=iteF hb h
 refine z4 ⟨[(2,.ptr 2 0),(3,.ptr 3 0),(4,.ptr 4 0),(6,.ptr 6 0)],[(2,.box (c_Piece x0)),(3,.box (c_Placement at1)),(4,.box [(vS ByteArray.empty),(vS ByteArray.empty),(vI 0),(vI 0),.nl,.nl,.nl]),(6,.box [(.row (.top 700451) 86),(.row (.top 700452) 86),(.row (.top 700453) 86),(.row (.top 700454) 162)]),(700451,.row 86 [] (List.map c_Rect r2.1.Rects)),(700452,.row 86 [] (List.map c_Rect r2.1.Cuts)),(700453,.row 86 [] (List.map c_Rect r2.1.Forms)),(700454,.row 162 [] (List.map c_BendLine r2.1.Bends))]⟩ ?_
 refine z3 3 ⟨[(3,.ptr 3 0),(4,.ptr 4 0),(6,.ptr 6 0),(8,.ptr 8 0)],[(3,.box (c_Placement at1)),(4,.box [(vS ByteArray.empty),(vS ByteArray.empty),(vI 0),(vI 0),.nl,.nl,.nl]),(6,.box [(.row (.top 700451) 86),(.row (.top 700452) 86),(.row (.top 700453) 86),(.row (.top 700454) 162)]),(8,.box (c_Piece x0)),(700451,.row 86 [] (List.map c_Rect r2.1.Rects)),(700452,.row 86 [] (List.map c_Rect r2.1.Cuts)),(700453,.row 86 [] (List.map c_Rect r2.1.Forms)),(700454,.row 162 [] (List.map c_BendLine r2.1.Bends))]⟩ ?_
 refine zB ?_
 refine sem_draw [(6,[700300]),(13,[700650]),(20,[701000])] [(6,[700300]),(13,[700650]),(20,[701000])] [(6,[700451]),(13,[700452]),(20,[700453])] [(7,[700300]),(8,[700300]),(9,[700300]),(10,[700300]),(11,[700300]),(12,[700300]),(14,[700300,700650]),(15,[700300,700650]),(16,[700300,700650]),(17,[700300,700650]),(18,[700300,700650]),(19,[700300,700650]),(21,[700650,701000])] [(0,[700300,700650,701000]),(1,[700300,700650,701000]),(2,[700300,700650,701000]),(3,[700300,700650,701000]),(4,[700300,700650,701000]),(5,[700300,700650,701000]),(6,[700650,701000]),(7,[700300,700650,701000]),(8,[700300,700650,701000]),(9,[700300,700650,701000]),(10,[700300,700650,701000]),(11,[700300,700650,701000]),(12,[700300,700650,701000]),(13,[701000]),(14,[700300,700650,701000]),(15,[700300,700650,701000]),(16,[700300,700650,701000]),(17,[700300,700650,701000]),(18,[700300,700650,701000]),(19,[700300,700650,701000]),(21,[700650,701000])] 22 (by kernel_rfl) (by kernel_rfl) [700300,700650,701000] (by kernel_rfl) (by kernel_rfl) ?_
 refine evd_run 6 (by kernel_rfl) ?_
 obtain ⟨r9,hr9,h⟩:=bindS h
 refine evd_callS [(0,700300)] [700451] (by kernel_rfl) (by kernel_rfl) (W.nest_moved_ok hr9) (by kernel_rfl) (.inr ⟨rfl,fun _ _=>ind_cons (ind_row fun _=>rfl) (fun _ _=>ind_nil)⟩) (by kernel_rfl) (by kernel_rfl) ?_
 refine evd_run 6 (by kernel_rfl) ?_
 obtain ⟨r10,hr10,h⟩:=bindS h
 refine evd_callS [(0,700650)] [700452] (by kernel_rfl) (by kernel_rfl) (W.nest_moved_ok hr10) (by kernel_rfl) (.inr ⟨rfl,fun _ _=>ind_cons (ind_row fun _=>rfl) (fun _ _=>ind_nil)⟩) (by kernel_rfl) (by kernel_rfl) ?_
 refine evd_run 6 (by kernel_rfl) ?_
 obtain ⟨r11,hr11,h⟩:=bindS h
 refine evd_callS [(0,701000)] [700453] (by kernel_rfl) (by kernel_rfl) (W.nest_moved_ok hr11) (by kernel_rfl) (.inr ⟨rfl,fun _ _=>ind_cons (ind_row fun _=>rfl) (fun _ _=>ind_nil)⟩) (by kernel_rfl) (by kernel_rfl) ?_
 refine evd_run 1 (by kernel_rfl) ?_
 refine evd_end (by kernel_rfl) ?_
 refine evo_run 5 (by kernel_rfl) ?_
 refine zO fun τ hτ=>?_
 refine zE hτ ⟨[(4,.ptr 4 0),(8,.ptr 8 0)],[(4,.box [(vS ByteArray.empty),(vS ByteArray.empty),(vI 0),(vI 0),.nl,.nl,.nl]),(8,.box [(vS x0.Name),(vS x0.Material),(vI x0.Gauge),(vI x0.Grain),(.row (.top 700300) 86),(.row (.top 700650) 86),(.row (.top 701000) 86)]),(700300,.row 86 [] (List.map c_Rect r9)),(700650,.row 86 [] (List.map c_Rect r10)),(701000,.row 86 [] (List.map c_Rect r11))]⟩ ?_
 refine zB ?_
 refine zB ?_
 obtain ⟨j22,hj22,h⟩:=bindS h
 refine zT ⟨[(4,.ptr 500000 0),(8,.ptr 500001 0),(65,vB j22)],[(500000,.box [(vS ByteArray.empty),(vS ByteArray.empty),(vI 0),(vI 0),.nl,.nl,.nl]),(500001,.box [(vS x0.Name),(vS x0.Material),(vI x0.Gauge),(vI x0.Grain),(.row (.top 500002) 86),(.row (.top 500003) 86),(.row (.top 500004) 86)]),(500002,.row 86 [] (List.map c_Rect r9)),(500003,.row 86 [] (List.map c_Rect r10)),(500004,.row 86 [] (List.map c_Rect r11))]⟩ ?_ fun τ hτ=>?_
 replace h:=hj22
 refine zA 2 ?_
 obtain ⟨r23,hr23,h⟩:=bindS h
 refine evs_callP [700300] (by kernel_rfl) (W.nest_valid_ok hr23) (by kernel_rfl) (.inr rfl) (by kernel_rfl) ?_
 refine zA 2 ?_
 refine zS r23 (fun b0=>⟨[(4,.ptr 4 0),(8,.ptr 8 0),(54,vB (!b0))],[(4,.box [(vS ByteArray.empty),(vS ByteArray.empty),(vI 0),(vI 0),.nl,.nl,.nl]),(8,.box [(vS x0.Name),(vS x0.Material),(vI x0.Gauge),(vI x0.Grain),(.row (.top 700300) 86),(.row (.top 700650) 86),(.row (.top 701000) 86)]),(700300,.row 86 [] (List.map c_Rect r9)),(700650,.row 86 [] (List.map c_Rect r10)),(701000,.row 86 [] (List.map c_Rect r11))]⟩) (fun hb=>?_) fun hb=>?_
 replace h:=iteT hb h
 refine zA 2 ?_
 obtain ⟨r24,hr24,h⟩:=bindS h
 refine evs_callP [700650] (by kernel_rfl) (W.nest_valid_ok hr24) (by kernel_rfl) (.inr rfl) (by kernel_rfl) ?_
 refine zA 3 ?_
 refine zS r24 (fun b0=>⟨[(4,.ptr 4 0),(8,.ptr 8 0),(60,vB (!b0))],[(4,.box [(vS ByteArray.empty),(vS ByteArray.empty),(vI 0),(vI 0),.nl,.nl,.nl]),(8,.box [(vS x0.Name),(vS x0.Material),(vI x0.Gauge),(vI x0.Grain),(.row (.top 700300) 86),(.row (.top 700650) 86),(.row (.top 701000) 86)]),(700300,.row 86 [] (List.map c_Rect r9)),(700650,.row 86 [] (List.map c_Rect r10)),(701000,.row 86 [] (List.map c_Rect r11))]⟩) (fun hb=>?_) fun hb=>?_
 replace h:=iteT hb h
 refine zA 2 ?_
 obtain ⟨r25,hr25,h⟩:=bindS h
 refine evs_callP [701000] (by kernel_rfl) (W.nest_valid_ok hr25) (by kernel_rfl) (.inr rfl) (by kernel_rfl) ?_
 refine z6 2 fun τ hτ=>?_
 obtain rfl:=Option.some.inj h
 exact leafC hτ (subR_prep [] [(4,500000),(8,500001),(700300,500002),(700650,500003),(701000,500004)] (by kernel_rfl) rfl rfl (by kernel_rfl))
 replace h:=iteF hb h
 refine z6 5 fun τ hτ=>?_
 obtain rfl:=Option.some.inj h
 exact leafC hτ (subR_prep [] [(4,500000),(8,500001),(700300,500002),(700650,500003),(701000,500004)] (by kernel_rfl) rfl rfl (by kernel_rfl))
 replace h:=iteF hb h
 refine z6 11 fun τ hτ=>?_
 obtain rfl:=Option.some.inj h
 exact leafC hτ (subR_prep [] [(4,500000),(8,500001),(700300,500002),(700650,500003),(701000,500004)] (by kernel_rfl) rfl rfl (by kernel_rfl))
 refine zE hτ ⟨[(4,.ptr 500000 0),(8,.ptr 500001 0),(65,vB j22)],[(500000,.box [(vS ByteArray.empty),(vS ByteArray.empty),(vI 0),(vI 0),.nl,.nl,.nl]),(500001,.box [(vS x0.Name),(vS x0.Material),(vI x0.Gauge),(vI x0.Grain),(.row (.top 500002) 86),(.row (.top 500003) 86),(.row (.top 500004) 86)]),(500002,.row 86 [] (List.map c_Rect r9)),(500003,.row 86 [] (List.map c_Rect r10)),(500004,.row 86 [] (List.map c_Rect r11))]⟩ ?_
 refine zI j22 (fun hb=>?_) fun hb=>?_
 replace h:=iteT hb h
 refine z8 3 ⟨[(4,.ptr 500000 0),(5,vI 4)],[(500000,.box [(vS ByteArray.empty),(vS ByteArray.empty),(vI 0),(vI 0),.nl,.nl,.nl])]⟩ fun τ hτ=>?_
 refine th_ret ?_
 obtain rfl:=Option.some.inj h
 exact rk_ret hτ [(4,.ptr 0 0),(5,vI 4)] (subR_prep [.row (.box 500000 4) 800000 86 [],.row (.box 500000 5) 800001 86 [],.row (.box 500000 6) 800002 86 []] [(500000,0),(800000,1),(800001,2),(800002,3)] (by kernel_rfl) rfl rfl (by kernel_rfl)) (by kernel_rfl)
 replace h:=iteF hb h
 refine z4 ⟨[(4,.ptr 500000 0),(8,.ptr 500001 0)],[(500000,.box [(vS ByteArray.empty),(vS ByteArray.empty),(vI 0),(vI 0),.nl,.nl,.nl]),(500001,.box [(vS x0.Name),(vS x0.Material),(vI x0.Gauge),(vI x0.Grain),(.row (.top 500002) 86),(.row (.top 500003) 86),(.row (.top 500004) 86)]),(500002,.row 86 [] (List.map c_Rect r9)),(500003,.row 86 [] (List.map c_Rect r10)),(500004,.row 86 [] (List.map c_Rect r11))]⟩ ?_
 refine z8 3 ⟨[(4,.ptr 500000 0),(5,vI 0)],[(500000,.box [(vS x0.Name),(vS x0.Material),(vI x0.Gauge),(vI x0.Grain),(.row (.top 500002) 86),(.row (.top 500003) 86),(.row (.top 500004) 86)]),(500002,.row 86 [] (List.map c_Rect r9)),(500003,.row 86 [] (List.map c_Rect r10)),(500004,.row 86 [] (List.map c_Rect r11))]⟩ fun τ hτ=>?_
 obtain rfl:=Option.some.inj h
 exact rk_ret hτ [(4,.ptr 0 0),(5,vI 0)] (subR_prep [] [(500000,0),(500002,1),(500003,2),(500004,3)] (by kernel_rfl) rfl rfl (by kernel_rfl)) (by kernel_rfl)
theorem W.nest_Put_ok {x0 : Piece} {at1 : Placement} {r : Piece × Int × ByteArray × ByteArray × Int × Int} (h : nest_Put x0 at1 = some r) : PC G.P 28 [(.agg (c_Piece x0)), (.agg (c_Placement at1))] [] (.tup [(.agg [(vS r.1.Name), (vS r.1.Material), (vI r.1.Gauge), (vI r.1.Grain), (.row (.top 1) 86), (.row (.top 2) 86), (.row (.top 3) 86)]), (vI r.2.1)]) [(0, .box [(vS r.2.2.1), (vS r.2.2.2.1), (vI r.2.2.2.2.1), (vI r.2.2.2.2.2), (.row (.top 1) 86), (.row (.top 2) 86), (.row (.top 3) 86)]), (1, .row 86 [] (List.map c_Rect r.1.Rects)), (2, .row 86 [] (List.map c_Rect r.1.Cuts)), (3, .row 86 [] (List.map c_Rect r.1.Forms))] := by
 refine zU G Tryz.func28 ?_
 refine zK ⟨[(0,.agg (c_Piece x0)),(1,.agg (c_Placement at1))],[]⟩ ?_
 refine z3 4 ⟨[(2,.ptr 2 0),(3,.ptr 3 0),(4,.ptr 4 0)],[(2,.box (c_Piece x0)),(3,.box (c_Placement at1)),(4,.box [(vS ByteArray.empty),(vS ByteArray.empty),(vI 0),(vI 0),.nl,.nl,.nl])]⟩ ?_
 refine zB ?_
 refine z7 ?_
 refine zA 1 ?_
 obtain ⟨r4,hr4,h⟩:=bindS h
 refine evs_callP [] (by kernel_rfl) (W.nest_ValidatePiece_ok hr4) (by kernel_rfl) (.inl rfl) (by kernel_rfl) ?_
 refine z1 1 ⟨[(2,.ptr 2 0),(3,.ptr 3 0),(4,.ptr 4 0),(6,vI r4)],[(2,.box (c_Piece x0)),(3,.box (c_Placement at1)),(4,.box [(vS ByteArray.empty),(vS ByteArray.empty),(vI 0),(vI 0),.nl,.nl,.nl])]⟩ ?_
 refine z3 2 ⟨[(2,.ptr 2 0),(3,.ptr 3 0),(4,.ptr 4 0),(6,vI r4),(10,vB (r4 != 0))],[(2,.box (c_Piece x0)),(3,.box (c_Placement at1)),(4,.box [(vS ByteArray.empty),(vS ByteArray.empty),(vI 0),(vI 0),.nl,.nl,.nl])]⟩ ?_
 refine zI (r4 != 0) (fun hb=>?_) fun hb=>?_
 replace h:=iteT hb h
 refine z8 4 ⟨[(4,.ptr 4 0),(5,vI r4)],[(4,.box [(vS ByteArray.empty),(vS ByteArray.empty),(vI 0),(vI 0),.nl,.nl,.nl])]⟩ fun τ hτ=>?_
 refine th_ret ?_
 obtain rfl:=Option.some.inj h
 exact rk_ret hτ [(4,.ptr 0 0),(5,vI r4)] (subR_prep [.row (.box 4 4) 800000 86 [],.row (.box 4 5) 800001 86 [],.row (.box 4 6) 800002 86 []] [(4,0),(800000,1),(800001,2),(800002,3)] (by kernel_rfl) rfl rfl (by kernel_rfl)) (by kernel_rfl)
 replace h:=iteF hb h
 refine z4 ⟨[(2,.ptr 2 0),(3,.ptr 3 0),(4,.ptr 4 0)],[(2,.box (c_Piece x0)),(3,.box (c_Placement at1)),(4,.box [(vS ByteArray.empty),(vS ByteArray.empty),(vI 0),(vI 0),.nl,.nl,.nl])]⟩ ?_
 refine zB ?_
 refine z7 ?_
 refine zA 2 ?_
 obtain ⟨r8,hr8,h⟩:=bindS h
 refine evs_callP [] (by kernel_rfl) (W.nest_from_ok hr8) (by kernel_rfl) (.inl rfl) (by kernel_rfl) ?_
 refine z1 1 ⟨[(2,.ptr 2 0),(3,.ptr 3 0),(4,.ptr 4 0),(16,vB (!r8))],[(2,.box (c_Piece x0)),(3,.box (c_Placement at1)),(4,.box [(vS ByteArray.empty),(vS ByteArray.empty),(vI 0),(vI 0),.nl,.nl,.nl])]⟩ ?_
 refine zI (!r8) (fun hb=>?_) fun hb=>?_
 replace h:=iteT hb h
 refine z8 3 ⟨[(4,.ptr 4 0),(5,vI 1)],[(4,.box [(vS ByteArray.empty),(vS ByteArray.empty),(vI 0),(vI 0),.nl,.nl,.nl])]⟩ fun τ hτ=>?_
 refine th_ret ?_
 obtain rfl:=Option.some.inj h
 exact rk_ret hτ [(4,.ptr 0 0),(5,vI 1)] (subR_prep [.row (.box 4 4) 800000 86 [],.row (.box 4 5) 800001 86 [],.row (.box 4 6) 800002 86 []] [(4,0),(800000,1),(800001,2),(800002,3)] (by kernel_rfl) rfl rfl (by kernel_rfl)) (by kernel_rfl)
 replace h:=iteF hb h
 refine z4 ⟨[(2,.ptr 2 0),(3,.ptr 3 0),(4,.ptr 4 0)],[(2,.box (c_Piece x0)),(3,.box (c_Placement at1)),(4,.box [(vS ByteArray.empty),(vS ByteArray.empty),(vI 0),(vI 0),.nl,.nl,.nl])]⟩ ?_
 refine zB ?_
 refine zB ?_
 obtain ⟨j16,hj16,h⟩:=bindS h
 refine zT ⟨[(2,.ptr 500000 0),(3,.ptr 500001 0),(4,.ptr 500002 0),(27,vB j16)],[(500000,.box (c_Piece x0)),(500001,.box (c_Placement at1)),(500002,.box [(vS ByteArray.empty),(vS ByteArray.empty),(vI 0),(vI 0),.nl,.nl,.nl])]⟩ ?_ fun τ hτ=>?_
 replace h:=hj16
 refine zA 2 ?_
 obtain ⟨r17,hr17,h⟩:=bindS h
 refine evs_callP [] (by kernel_rfl) (W.nest_from_ok hr17) (by kernel_rfl) (.inl rfl) (by kernel_rfl) ?_
 refine zA 2 ?_
 refine zS r17 (fun b0=>⟨[(2,.ptr 2 0),(3,.ptr 3 0),(4,.ptr 4 0),(22,vB (!b0))],[(2,.box (c_Piece x0)),(3,.box (c_Placement at1)),(4,.box [(vS ByteArray.empty),(vS ByteArray.empty),(vI 0),(vI 0),.nl,.nl,.nl])]⟩) (fun hb=>?_) fun hb=>?_
 replace h:=iteT hb h
 refine zA 2 ?_
 obtain ⟨r18,hr18,h⟩:=bindS h
 refine evs_callP [] (by kernel_rfl) (W.nest_from_ok hr18) (by kernel_rfl) (.inl rfl) (by kernel_rfl) ?_
 refine z6 2 fun τ hτ=>?_
 obtain rfl:=Option.some.inj h
 exact leafC hτ (subR_prep [] [(2,500000),(3,500001),(4,500002)] (by kernel_rfl) rfl rfl (by kernel_rfl))
 replace h:=iteF hb h
 refine z6 5 fun τ hτ=>?_
 obtain rfl:=Option.some.inj h
 exact leafC hτ (subR_prep [] [(2,500000),(3,500001),(4,500002)] (by kernel_rfl) rfl rfl (by kernel_rfl))
 refine zE hτ ⟨[(2,.ptr 500000 0),(3,.ptr 500001 0),(4,.ptr 500002 0),(27,vB j16)],[(500000,.box (c_Piece x0)),(500001,.box (c_Placement at1)),(500002,.box [(vS ByteArray.empty),(vS ByteArray.empty),(vI 0),(vI 0),.nl,.nl,.nl])]⟩ ?_
 refine zI j16 (fun hb=>?_) fun hb=>?_
 replace h:=iteT hb h
 refine z8 3 ⟨[(4,.ptr 500002 0),(5,vI 4)],[(500002,.box [(vS ByteArray.empty),(vS ByteArray.empty),(vI 0),(vI 0),.nl,.nl,.nl])]⟩ fun τ hτ=>?_
 refine th_ret ?_
 obtain rfl:=Option.some.inj h
 exact rk_ret hτ [(4,.ptr 0 0),(5,vI 4)] (subR_prep [.row (.box 500002 4) 800000 86 [],.row (.box 500002 5) 800001 86 [],.row (.box 500002 6) 800002 86 []] [(500002,0),(800000,1),(800001,2),(800002,3)] (by kernel_rfl) rfl rfl (by kernel_rfl)) (by kernel_rfl)
 replace h:=iteF hb h
 refine z4 ⟨[(2,.ptr 500000 0),(3,.ptr 500001 0),(4,.ptr 500002 0)],[(500000,.box (c_Piece x0)),(500001,.box (c_Placement at1)),(500002,.box [(vS ByteArray.empty),(vS ByteArray.empty),(vI 0),(vI 0),.nl,.nl,.nl])]⟩ ?_
 refine z7 ?_
 refine zA 2 ?_
 obtain ⟨r20,hr20,h⟩:=bindS h
 refine evs_callS [] [(0,700100),(1,700101),(2,700102),(3,700103)] [] (by kernel_rfl) (W.nest_put_ok hr20) (by kernel_rfl) (by kernel_rfl) (.inl rfl) ?_
 refine z1 4 ⟨[(4,.ptr 500002 0),(5,vI r20.2.1)],[(500002,.box [(vS r20.1.Name),(vS r20.1.Material),(vI r20.1.Gauge),(vI r20.1.Grain),(.row (.top 700101) 86),(.row (.top 700102) 86),(.row (.top 700103) 86)]),(700101,.row 86 [] (List.map c_Rect r20.1.Rects)),(700102,.row 86 [] (List.map c_Rect r20.1.Cuts)),(700103,.row 86 [] (List.map c_Rect r20.1.Forms))]⟩ ?_
 refine zN fun τ hτ=>?_
 obtain rfl:=Option.some.inj h
 exact rk_ret hτ [(4,.ptr 0 0),(5,vI r20.2.1)] (subR_prep [] [(500002,0),(700101,1),(700102,2),(700103,3)] (by kernel_rfl) rfl rfl (by kernel_rfl)) (by kernel_rfl)
theorem W.sheetmetalref06_Shift_ok {l : (List Rect)} {x1 : Int} {y : Int} {r : (List Rect)} (h : sheetmetalref06_Shift l x1 y = some r) : PC G.P 104 [(.sl (List.map c_Rect l)), (vI x1), (vI y)] [] (.row (.top 0) 86) [(0, .row 86 [] (List.map c_Rect r))] := by
 refine zU G Tryz.func104 ?_
 refine zK ⟨[(0,.sl (List.map c_Rect l)),(1,vI x1),(2,vI y)],[]⟩ ?_
 refine z3 1 ⟨[(0,.sl (List.map c_Rect l)),(1,vI x1),(2,vI y)],[]⟩ ?_
 refine z3 1 ⟨[(0,.sl (List.map c_Rect l)),(1,vI x1),(2,vI y),(7,.row (.top 7) 86)],[(7,.row 86 [] (List.map c_Rect []))]⟩ ?_
 refine z3 1 ⟨[(0,.sl (List.map c_Rect l)),(1,vI x1),(2,vI y),(7,.row (.top 7) 86),(8,vI 2147483648)],[(7,.row 86 [] (List.map c_Rect []))]⟩ ?_
 refine zB ?_
 refine z3 1 ⟨[(0,.sl (List.map c_Rect l)),(1,vI x1),(2,vI y),(7,.row (.top 7) 86),(8,vI 2147483648),(9,vI 0)],[(7,.row 86 [] (List.map c_Rect []))]⟩ ?_
 refine zC ?_
 obtain ⟨x90,hx90,h⟩:=bindS h
 refine sem_loopS (fun (s61 : Int × (List Rect))=>⟨[(0,.sl (List.map c_Rect l)),(1,vI x1),(2,vI y),(7,.row (.top 500000) 86),(8,vI 2147483648),(9,vI s61.1)],[(500000,.row 86 [] (List.map c_Rect s61.2))]⟩) (fun (x90 : (List Rect))=>(.exit 0,⟨[(7,.row (.top 500000) 86)],[(500000,.row 86 [] (List.map c_Rect x90))]⟩)) (sheetmetalref06_Shift_l2 l x1 y) (0,[]) x90 (by kernel_rfl) (subR_prep [] [(7,500000)] (by kernel_rfl) rfl rfl (by kernel_rfl)) hx90 ?_ ?_ ?_
 intro s61 r h
 refine zB ?_
 refine z7 ?_
 refine zA 2 ?_
 refine evs_op (st_len (c:=c_Rect) (l:=l) (x:=(.sl (List.map c_Rect l))) (by kernel_rfl) (by kernel_rfl)) ?_
 refine z1 1 ⟨[(0,.sl (List.map c_Rect l)),(1,vI x1),(2,vI y),(7,.row (.top 500000) 86),(8,vI 2147483648),(9,vI s61.1),(14,vB (decide (s61.1 < (l.length : Int))))],[(500000,.row 86 [] (List.map c_Rect s61.2))]⟩ ?_
 refine zI (decide (s61.1 < (l.length : Int))) (fun hb=>?_) fun hb=>?_
 replace h:=iteT hb h
 refine z4 ⟨[(0,.sl (List.map c_Rect l)),(1,vI x1),(2,vI y),(7,.row (.top 500000) 86),(8,vI 2147483648),(9,vI s61.1)],[(500000,.row 86 [] (List.map c_Rect s61.2))]⟩ ?_
 refine zB ?_
 refine zC ?_
 refine z7 ?_
 refine zA 2 ?_
 obtain ⟨x84,hx84,h⟩:=bindS h
 refine evs_op (st_idx (c:=c_Rect) (l:=l) (i:=s61.1) (kd:=.i64) (sz:=4) (by kernel_rfl) hx84 rfl) ?_
 refine z1 3 ⟨[(0,.sl (List.map c_Rect l)),(1,vI x1),(2,vI y),(7,.row (.top 500000) 86),(8,vI 2147483648),(9,vI s61.1),(10,.ptr 10 0)],[(10,.box (c_Rect x84)),(500000,.row 86 [] (List.map c_Rect s61.2))]⟩ ?_
 refine sem_seqJ (fun (j86 : Int × Int)=>⟨[(0,.sl (List.map c_Rect l)),(1,vI x1),(2,vI y),(7,.row (.top 500000) 86),(8,vI 2147483648),(9,vI s61.1),(10,.ptr 500001 0)],[(500000,.row 86 [] (List.map c_Rect s61.2)),(500001,.box [(vI j86.1),(vI j86.2),(vI x84.W),(vI x84.H)])]⟩) (sheetmetalref06_Shift_k1 s61 x84) r (by kernel_rfl) (fun j86 h=>?_) ?_
 refine zD ?_
 refine zA 3 ?_
 obtain ⟨l88,hl88,h⟩:=bindS h
 refine evs_op (st_app (c:=c_Rect) (l:=s61.2) (l2:=[(Rect.mk j86.1 j86.2 x84.W x84.H)]) (x:=(.sl (List.map c_Rect [(Rect.mk j86.1 j86.2 x84.W x84.H)]))) (g:=500000) (e:=86) (sz:=4) (d:=58) (by kernel_rfl) (by kernel_rfl) (by kernel_rfl) (by kernel_rfl) (fun _=>rfl) rfl hl88) ?_
 refine z6 1 fun τ hτ=>?_
 refine bl_normal ?_
 refine zE hτ ⟨[(0,.sl (List.map c_Rect l)),(1,vI x1),(2,vI y),(7,.row (.top 500000) 86),(8,vI 2147483648),(9,vI s61.1)],[(500000,.row 86 [] (List.map c_Rect l88))]⟩ ?_
 refine zD ?_
 refine z6 3 fun τ hτ=>?_
 obtain rfl:=Option.some.inj h
 exact zH hτ
 refine zB ?_
 obtain ⟨j89,hj89,h⟩:=bindS h
 refine zT ⟨[(0,.sl (List.map c_Rect l)),(1,vI x1),(2,vI y),(7,.row (.top 500000) 86),(8,vI 2147483648),(9,vI s61.1),(10,.ptr 500001 0),(44,vB j89)],[(500000,.row 86 [] (List.map c_Rect s61.2)),(500001,.box (c_Rect x84))]⟩ ?_ fun τ hτ=>?_
 replace h:=hj89
 refine zA 6 ?_
 refine zS (decide (x84.X > (-2147483648))) (fun b0=>⟨[(0,.sl (List.map c_Rect l)),(1,vI x1),(2,vI y),(7,.row (.top 500000) 86),(8,vI 2147483648),(9,vI s61.1),(10,.ptr 10 0),(26,vB b0)],[(10,.box (c_Rect x84)),(500000,.row 86 [] (List.map c_Rect s61.2))]⟩) (fun hb=>?_) fun hb=>?_
 replace h:=iteT hb h
 refine zA 6 ?_
 refine zS (decide (x84.X < 2147483648)) (fun b0=>⟨[(0,.sl (List.map c_Rect l)),(1,vI x1),(2,vI y),(7,.row (.top 500000) 86),(8,vI 2147483648),(9,vI s61.1),(10,.ptr 10 0),(32,vB b0)],[(10,.box (c_Rect x84)),(500000,.row 86 [] (List.map c_Rect s61.2))]⟩) (fun hb=>?_) fun hb=>?_
 replace h:=iteT hb h
 refine zA 7 ?_
 refine zS (decide (x84.Y > (-2147483648))) (fun b0=>⟨[(0,.sl (List.map c_Rect l)),(1,vI x1),(2,vI y),(7,.row (.top 500000) 86),(8,vI 2147483648),(9,vI s61.1),(10,.ptr 10 0),(39,vB b0)],[(10,.box (c_Rect x84)),(500000,.row 86 [] (List.map c_Rect s61.2))]⟩) (fun hb=>?_) fun hb=>?_
 replace h:=iteT hb h
 refine z6 5 fun τ hτ=>?_
 obtain rfl:=Option.some.inj h
 exact leafC hτ (subR_prep [] [(10,500001),(500000,500000)] (by kernel_rfl) rfl rfl (by kernel_rfl))
 replace h:=iteF hb h
 refine z6 5 fun τ hτ=>?_
 obtain rfl:=Option.some.inj h
 exact leafC hτ (subR_prep [] [(10,500001),(500000,500000)] (by kernel_rfl) rfl rfl (by kernel_rfl))
 replace h:=iteF hb h
 refine z6 12 fun τ hτ=>?_
 obtain rfl:=Option.some.inj h
 exact leafC hτ (subR_prep [] [(10,500001),(500000,500000)] (by kernel_rfl) rfl rfl (by kernel_rfl))
 replace h:=iteF hb h
 refine z6 18 fun τ hτ=>?_
 obtain rfl:=Option.some.inj h
 exact leafC hτ (subR_prep [] [(10,500001),(500000,500000)] (by kernel_rfl) rfl rfl (by kernel_rfl))
 refine zE hτ ⟨[(0,.sl (List.map c_Rect l)),(1,vI x1),(2,vI y),(7,.row (.top 500000) 86),(8,vI 2147483648),(9,vI s61.1),(10,.ptr 500001 0),(44,vB j89)],[(500000,.row 86 [] (List.map c_Rect s61.2)),(500001,.box (c_Rect x84))]⟩ ?_
 refine zI j89 (fun hb=>?_) fun hb=>?_
 replace h:=iteT hb h
 refine z3 6 ⟨[(0,.sl (List.map c_Rect l)),(1,vI x1),(2,vI y),(7,.row (.top 500000) 86),(8,vI 2147483648),(9,vI s61.1),(10,.ptr 500001 0)],[(500000,.row 86 [] (List.map c_Rect s61.2)),(500001,.box [(vI (iadd x84.X x1)),(vI x84.Y),(vI x84.W),(vI x84.H)])]⟩ ?_
 refine zD ?_
 refine z6 6 fun τ hτ=>?_
 exact jk_normal ((iadd x84.X x1),(iadd x84.Y y)) h hτ (here (by kernel_rfl))
 replace h:=iteF hb h
 refine zM fun τ hτ=>?_
 exact jk_normal (x84.X,x84.Y) h hτ (here (by kernel_rfl))
 replace h:=iteF hb h
 refine zL 0 fun τ hτ=>?_
 refine th_exit ?_
 obtain rfl:=Option.some.inj h
 exact zF hτ
 intro x
 rfl
 intro τ hτ
 refine zQ ?_
 refine zE hτ ⟨[(7,.row (.top 500000) 86)],[(500000,.row 86 [] (List.map c_Rect x90))]⟩ ?_
 refine z8 2 ⟨[(6,.row (.top 500000) 86)],[(500000,.row 86 [] (List.map c_Rect x90))]⟩ fun τ hτ=>?_
 obtain rfl:=Option.some.inj h
 exact rk_ret hτ [(6,.row (.top 0) 86)] (subR_prep [] [(500000,0)] (by kernel_rfl) rfl rfl (by kernel_rfl)) (by kernel_rfl)
theorem W.sheetmetalref06_Move_ok {x0 : Piece} {dx : Int} {dy : Int} {r : Piece} (h : sheetmetalref06_Move x0 dx dy = some r) : PC G.P 74 [(.agg (c_Piece x0)), (vI dx), (vI dy)] [] (.agg [(vS r.Name), (vS r.Material), (vI r.Gauge), (vI r.Grain), (.row (.top 1) 86), (.row (.top 2) 86), (.row (.top 3) 86)]) [(0, .box [(vS x0.Name), (vS x0.Material), (vI x0.Gauge), (vI x0.Grain), (.row (.top 1) 86), (.row (.top 2) 86), (.row (.top 3) 86)]), (1, .row 86 [] (List.map c_Rect r.Rects)), (2, .row 86 [] (List.map c_Rect r.Cuts)), (3, .row 86 [] (List.map c_Rect r.Forms))] := by
 refine zU G Tryz.func74 ?_
 refine zK ⟨[(0,.agg (c_Piece x0)),(1,vI dx),(2,vI dy)],[]⟩ ?_
 refine z3 2 ⟨[(1,vI dx),(2,vI dy),(3,.ptr 3 0),(6,.ptr 6 0)],[(3,.box (c_Piece x0)),(6,.box [(vS ByteArray.empty),(vS ByteArray.empty),(vI 0),(vI 0),.nl,.nl,.nl])]⟩ ?_
 refine z7 ?_
 refine zA 4 ?_
 obtain ⟨r2,hr2,h⟩:=bindS h
 refine evs_callS [] [(0,700200)] [] (by kernel_rfl) (W.sheetmetalref06_Shift_ok hr2) (by kernel_rfl) (by kernel_rfl) (.inl rfl) ?_
 refine z1 2 ⟨[(1,vI dx),(2,vI dy),(3,.ptr 3 0),(6,.ptr 6 0)],[(3,.box [(vS x0.Name),(vS x0.Material),(vI x0.Gauge),(vI x0.Grain),(.row (.top 700200) 86),(.sl (List.map c_Rect x0.Cuts)),(.sl (List.map c_Rect x0.Forms))]),(6,.box [(vS ByteArray.empty),(vS ByteArray.empty),(vI 0),(vI 0),.nl,.nl,.nl]),(700200,.row 86 [] (List.map c_Rect r2))]⟩ ?_
 refine z7 ?_
 refine zA 4 ?_
 obtain ⟨r4,hr4,h⟩:=bindS h
 refine evs_callS [] [(0,700201)] [] (by kernel_rfl) (W.sheetmetalref06_Shift_ok hr4) (by kernel_rfl) (by kernel_rfl) (.inl rfl) ?_
 refine z1 2 ⟨[(1,vI dx),(2,vI dy),(3,.ptr 3 0),(6,.ptr 6 0)],[(3,.box [(vS x0.Name),(vS x0.Material),(vI x0.Gauge),(vI x0.Grain),(.row (.top 700200) 86),(.row (.top 700201) 86),(.sl (List.map c_Rect x0.Forms))]),(6,.box [(vS ByteArray.empty),(vS ByteArray.empty),(vI 0),(vI 0),.nl,.nl,.nl]),(700200,.row 86 [] (List.map c_Rect r2)),(700201,.row 86 [] (List.map c_Rect r4))]⟩ ?_
 refine z7 ?_
 refine zA 4 ?_
 obtain ⟨r6,hr6,h⟩:=bindS h
 refine evs_callS [] [(0,700202)] [] (by kernel_rfl) (W.sheetmetalref06_Shift_ok hr6) (by kernel_rfl) (by kernel_rfl) (.inl rfl) ?_
 refine z1 2 ⟨[(3,.ptr 3 0),(6,.ptr 6 0)],[(3,.box [(vS x0.Name),(vS x0.Material),(vI x0.Gauge),(vI x0.Grain),(.row (.top 700200) 86),(.row (.top 700201) 86),(.row (.top 700202) 86)]),(6,.box [(vS ByteArray.empty),(vS ByteArray.empty),(vI 0),(vI 0),.nl,.nl,.nl]),(700200,.row 86 [] (List.map c_Rect r2)),(700201,.row 86 [] (List.map c_Rect r4)),(700202,.row 86 [] (List.map c_Rect r6))]⟩ ?_
 refine z8 2 ⟨[(6,.ptr 6 0)],[(6,.box [(vS x0.Name),(vS x0.Material),(vI x0.Gauge),(vI x0.Grain),(.row (.top 700200) 86),(.row (.top 700201) 86),(.row (.top 700202) 86)]),(700200,.row 86 [] (List.map c_Rect r2)),(700201,.row 86 [] (List.map c_Rect r4)),(700202,.row 86 [] (List.map c_Rect r6))]⟩ fun τ hτ=>?_
 obtain rfl:=Option.some.inj h
 exact rk_ret hτ [(6,.ptr 0 0)] (subR_prep [] [(6,0),(700200,1),(700201,2),(700202,3)] (by kernel_rfl) rfl rfl (by kernel_rfl)) (by kernel_rfl)
theorem W.sheetmetalref06_quarter_ok {l : (List Rect)} {r : (List Rect)} (h : sheetmetalref06_quarter l = some r) : PC G.P 105 [(.sl (List.map c_Rect l))] [] (.row (.top 0) 86) [(0, .row 86 [] (List.map c_Rect r))] := by
 refine zU G Tryz.func105 ?_
 refine zK ⟨[(0,.sl (List.map c_Rect l))],[]⟩ ?_
 refine z3 1 ⟨[(0,.sl (List.map c_Rect l))],[]⟩ ?_
 refine z3 1 ⟨[(0,.sl (List.map c_Rect l)),(3,.row (.top 3) 86)],[(3,.row 86 [] (List.map c_Rect []))]⟩ ?_
 refine zB ?_
 refine z3 1 ⟨[(0,.sl (List.map c_Rect l)),(3,.row (.top 3) 86),(4,vI 0)],[(3,.row 86 [] (List.map c_Rect []))]⟩ ?_
 refine zC ?_
 obtain ⟨x54,hx54,h⟩:=bindS h
 refine sem_loopS (fun (s37 : Int × (List Rect))=>⟨[(0,.sl (List.map c_Rect l)),(3,.row (.top 500000) 86),(4,vI s37.1)],[(500000,.row 86 [] (List.map c_Rect s37.2))]⟩) (fun (x54 : (List Rect))=>(.exit 0,⟨[(3,.row (.top 500000) 86)],[(500000,.row 86 [] (List.map c_Rect x54))]⟩)) (sheetmetalref06_quarter_l1 l) (0,[]) x54 (by kernel_rfl) (subR_prep [] [(3,500000)] (by kernel_rfl) rfl rfl (by kernel_rfl)) hx54 ?_ ?_ ?_
 intro s37 r h
 refine zB ?_
 refine z7 ?_
 refine zA 2 ?_
 refine evs_op (st_len (c:=c_Rect) (l:=l) (x:=(.sl (List.map c_Rect l))) (by kernel_rfl) (by kernel_rfl)) ?_
 refine z1 1 ⟨[(0,.sl (List.map c_Rect l)),(3,.row (.top 500000) 86),(4,vI s37.1),(9,vB (decide (s37.1 < (l.length : Int))))],[(500000,.row 86 [] (List.map c_Rect s37.2))]⟩ ?_
 refine zI (decide (s37.1 < (l.length : Int))) (fun hb=>?_) fun hb=>?_
 replace h:=iteT hb h
 refine z4 ⟨[(0,.sl (List.map c_Rect l)),(3,.row (.top 500000) 86),(4,vI s37.1)],[(500000,.row 86 [] (List.map c_Rect s37.2))]⟩ ?_
 refine zB ?_
 refine zC ?_
 refine z7 ?_
 refine zA 2 ?_
 obtain ⟨x51,hx51,h⟩:=bindS h
 refine evs_op (st_idx (c:=c_Rect) (l:=l) (i:=s37.1) (kd:=.i64) (sz:=4) (by kernel_rfl) hx51 rfl) ?_
 refine z1 3 ⟨[(0,.sl (List.map c_Rect l)),(3,.row (.top 500000) 86),(4,vI s37.1),(5,.ptr 5 0)],[(5,.box (c_Rect x51)),(500000,.row 86 [] (List.map c_Rect s37.2))]⟩ ?_
 refine zD ?_
 refine zA 15 ?_
 obtain ⟨l53,hl53,h⟩:=bindS h
 refine evs_op (st_app (c:=c_Rect) (l:=s37.2) (l2:=[(Rect.mk (ineg (iadd x51.Y x51.H)) x51.X x51.H x51.W)]) (x:=(.sl (List.map c_Rect [(Rect.mk (ineg (iadd x51.Y x51.H)) x51.X x51.H x51.W)]))) (g:=500000) (e:=86) (sz:=4) (d:=31) (by kernel_rfl) (by kernel_rfl) (by kernel_rfl) (by kernel_rfl) (fun _=>rfl) rfl hl53) ?_
 refine z6 1 fun τ hτ=>?_
 refine bl_normal ?_
 refine zE hτ ⟨[(0,.sl (List.map c_Rect l)),(3,.row (.top 500000) 86),(4,vI s37.1)],[(500000,.row 86 [] (List.map c_Rect l53))]⟩ ?_
 refine zD ?_
 refine z6 3 fun τ hτ=>?_
 obtain rfl:=Option.some.inj h
 exact zH hτ
 replace h:=iteF hb h
 refine zL 0 fun τ hτ=>?_
 refine th_exit ?_
 obtain rfl:=Option.some.inj h
 exact zF hτ
 intro x
 rfl
 intro τ hτ
 refine zQ ?_
 refine zE hτ ⟨[(3,.row (.top 500000) 86)],[(500000,.row 86 [] (List.map c_Rect x54))]⟩ ?_
 refine z8 2 ⟨[(2,.row (.top 500000) 86)],[(500000,.row 86 [] (List.map c_Rect x54))]⟩ fun τ hτ=>?_
 obtain rfl:=Option.some.inj h
 exact rk_ret hτ [(2,.row (.top 0) 86)] (subR_prep [] [(500000,0)] (by kernel_rfl) rfl rfl (by kernel_rfl)) (by kernel_rfl)
theorem W.sheetmetalref06_Turned_ok {x0 : Piece} {turn : Int} {r : Piece × ByteArray × ByteArray × Int × Int} (h : sheetmetalref06_Turned x0 turn = some r) : PC G.P 75 [(.agg (c_Piece x0)), (vI turn)] [] (.agg [(vS r.1.Name), (vS r.1.Material), (vI r.1.Gauge), (vI r.1.Grain), (.row (.top 1) 86), (.row (.top 2) 86), (.row (.top 3) 86)]) [(0, .box [(vS r.2.1), (vS r.2.2.1), (vI r.2.2.2.1), (vI r.2.2.2.2), (.row (.top 1) 86), (.row (.top 2) 86), (.row (.top 3) 86)]), (1, .row 86 [] (List.map c_Rect r.1.Rects)), (2, .row 86 [] (List.map c_Rect r.1.Cuts)), (3, .row 86 [] (List.map c_Rect r.1.Forms))] := by
 refine zU G Tryz.func75 ?_
 refine zK ⟨[(0,.agg (c_Piece x0)),(1,vI turn)],[]⟩ ?_
 refine z3 2 ⟨[(1,vI turn),(2,.ptr 2 0),(4,.ptr 4 0)],[(2,.box (c_Piece x0)),(4,.box [(vS ByteArray.empty),(vS ByteArray.empty),(vI 0),(vI 0),.nl,.nl,.nl])]⟩ ?_
 refine z7 ?_
 refine zA 1 ?_
 obtain ⟨r2,hr2,h⟩:=bindS h
 refine evs_callS [] [(0,700050),(1,700051),(2,700052),(3,700053)] [] (by kernel_rfl) (W.sheetmetalref06_Move_ok hr2) (by kernel_rfl) (by kernel_rfl) (.inl rfl) ?_
 refine z1 1 ⟨[(1,vI turn),(2,.ptr 2 0),(4,.ptr 4 0)],[(2,.box [(vS r2.Name),(vS r2.Material),(vI r2.Gauge),(vI r2.Grain),(.row (.top 700051) 86),(.row (.top 700052) 86),(.row (.top 700053) 86)]),(4,.box [(vS ByteArray.empty),(vS ByteArray.empty),(vI 0),(vI 0),.nl,.nl,.nl]),(700051,.row 86 [] (List.map c_Rect r2.Rects)),(700052,.row 86 [] (List.map c_Rect r2.Cuts)),(700053,.row 86 [] (List.map c_Rect r2.Forms))]⟩ ?_
 refine zB ?_
 refine z3 1 ⟨[(1,vI turn),(2,.ptr 2 0),(4,.ptr 4 0),(5,vI 0)],[(2,.box [(vS r2.Name),(vS r2.Material),(vI r2.Gauge),(vI r2.Grain),(.row (.top 700051) 86),(.row (.top 700052) 86),(.row (.top 700053) 86)]),(4,.box [(vS ByteArray.empty),(vS ByteArray.empty),(vI 0),(vI 0),.nl,.nl,.nl]),(700051,.row 86 [] (List.map c_Rect r2.Rects)),(700052,.row 86 [] (List.map c_Rect r2.Cuts)),(700053,.row 86 [] (List.map c_Rect r2.Forms))]⟩ ?_
 refine zC ?_
 obtain ⟨x80,hx80,h⟩:=bindS h
 refine sem_loopS (fun (s55 : Int × (List Rect) × (List Rect) × (List Rect))=>⟨[(1,vI turn),(2,.ptr 500000 0),(4,.ptr 500004 0),(5,vI s55.1)],[(500000,.box [(vS r2.Name),(vS r2.Material),(vI r2.Gauge),(vI r2.Grain),(.row (.top 500001) 86),(.row (.top 500002) 86),(.row (.top 500003) 86)]),(500001,.row 86 [] (List.map c_Rect s55.2.1)),(500002,.row 86 [] (List.map c_Rect s55.2.2.1)),(500003,.row 86 [] (List.map c_Rect s55.2.2.2)),(500004,.box [(vS ByteArray.empty),(vS ByteArray.empty),(vI 0),(vI 0),.nl,.nl,.nl])]⟩) (fun (x80 : (List Rect) × (List Rect) × (List Rect))=>(.exit 0,⟨[(2,.ptr 500000 0),(4,.ptr 500004 0)],[(500000,.box [(vS r2.Name),(vS r2.Material),(vI r2.Gauge),(vI r2.Grain),(.row (.top 500001) 86),(.row (.top 500002) 86),(.row (.top 500003) 86)]),(500001,.row 86 [] (List.map c_Rect x80.1)),(500002,.row 86 [] (List.map c_Rect x80.2.1)),(500003,.row 86 [] (List.map c_Rect x80.2.2)),(500004,.box [(vS ByteArray.empty),(vS ByteArray.empty),(vI 0),(vI 0),.nl,.nl,.nl])]⟩)) (sheetmetalref06_Turned_l1 turn) (0,r2.Rects,r2.Cuts,r2.Forms) x80 (by kernel_rfl) (subR_prep [] [(2,500000),(4,500004),(700051,500001),(700052,500002),(700053,500003)] (by kernel_rfl) rfl rfl (by kernel_rfl)) hx80 ?_ ?_ ?_
 intro s55 r h
 refine zB ?_
 refine z3 3 ⟨[(1,vI turn),(2,.ptr 500000 0),(4,.ptr 500004 0),(5,vI s55.1),(12,vB (decide (s55.1 < turn)))],[(500000,.box [(vS r2.Name),(vS r2.Material),(vI r2.Gauge),(vI r2.Grain),(.row (.top 500001) 86),(.row (.top 500002) 86),(.row (.top 500003) 86)]),(500001,.row 86 [] (List.map c_Rect s55.2.1)),(500002,.row 86 [] (List.map c_Rect s55.2.2.1)),(500003,.row 86 [] (List.map c_Rect s55.2.2.2)),(500004,.box [(vS ByteArray.empty),(vS ByteArray.empty),(vI 0),(vI 0),.nl,.nl,.nl])]⟩ ?_
 refine zI (decide (s55.1 < turn)) (fun hb=>?_) fun hb=>?_
 replace h:=iteT hb h
 refine z4 ⟨[(1,vI turn),(2,.ptr 500000 0),(4,.ptr 500004 0),(5,vI s55.1)],[(500000,.box [(vS r2.Name),(vS r2.Material),(vI r2.Gauge),(vI r2.Grain),(.row (.top 500001) 86),(.row (.top 500002) 86),(.row (.top 500003) 86)]),(500001,.row 86 [] (List.map c_Rect s55.2.1)),(500002,.row 86 [] (List.map c_Rect s55.2.2.1)),(500003,.row 86 [] (List.map c_Rect s55.2.2.2)),(500004,.box [(vS ByteArray.empty),(vS ByteArray.empty),(vI 0),(vI 0),.nl,.nl,.nl])]⟩ ?_
 refine zB ?_
 refine zC ?_
 refine z7 ?_
 refine zA 2 ?_
 obtain ⟨r75,hr75,h⟩:=bindS h
 refine evs_callS [] [(0,700100)] [500001] (by kernel_rfl) (W.sheetmetalref06_quarter_ok hr75) (by kernel_rfl) (by kernel_rfl) (.inr ⟨rfl,fun _ _=>ind_cons (ind_row fun _=>rfl) (fun _ _=>ind_nil)⟩) ?_
 refine z1 2 ⟨[(1,vI turn),(2,.ptr 500000 0),(4,.ptr 500004 0),(5,vI s55.1)],[(500000,.box [(vS r2.Name),(vS r2.Material),(vI r2.Gauge),(vI r2.Grain),(.row (.top 700100) 86),(.row (.top 500002) 86),(.row (.top 500003) 86)]),(500002,.row 86 [] (List.map c_Rect s55.2.2.1)),(500003,.row 86 [] (List.map c_Rect s55.2.2.2)),(500004,.box [(vS ByteArray.empty),(vS ByteArray.empty),(vI 0),(vI 0),.nl,.nl,.nl]),(700100,.row 86 [] (List.map c_Rect r75))]⟩ ?_
 refine z7 ?_
 refine zA 2 ?_
 obtain ⟨r77,hr77,h⟩:=bindS h
 refine evs_callS [] [(0,700101)] [500002] (by kernel_rfl) (W.sheetmetalref06_quarter_ok hr77) (by kernel_rfl) (by kernel_rfl) (.inr ⟨rfl,fun _ _=>ind_cons (ind_row fun _=>rfl) (fun _ _=>ind_nil)⟩) ?_
 refine z1 2 ⟨[(1,vI turn),(2,.ptr 500000 0),(4,.ptr 500004 0),(5,vI s55.1)],[(500000,.box [(vS r2.Name),(vS r2.Material),(vI r2.Gauge),(vI r2.Grain),(.row (.top 700100) 86),(.row (.top 700101) 86),(.row (.top 500003) 86)]),(500003,.row 86 [] (List.map c_Rect s55.2.2.2)),(500004,.box [(vS ByteArray.empty),(vS ByteArray.empty),(vI 0),(vI 0),.nl,.nl,.nl]),(700100,.row 86 [] (List.map c_Rect r75)),(700101,.row 86 [] (List.map c_Rect r77))]⟩ ?_
 refine zD ?_
 refine zA 2 ?_
 obtain ⟨r79,hr79,h⟩:=bindS h
 refine evs_callS [] [(0,700102)] [500003] (by kernel_rfl) (W.sheetmetalref06_quarter_ok hr79) (by kernel_rfl) (by kernel_rfl) (.inr ⟨rfl,fun _ _=>ind_cons (ind_row fun _=>rfl) (fun _ _=>ind_nil)⟩) ?_
 refine z6 2 fun τ hτ=>?_
 refine bl_normal ?_
 refine zE hτ ⟨[(1,vI turn),(2,.ptr 500000 0),(4,.ptr 500004 0),(5,vI s55.1)],[(500000,.box [(vS r2.Name),(vS r2.Material),(vI r2.Gauge),(vI r2.Grain),(.row (.top 700100) 86),(.row (.top 700101) 86),(.row (.top 700102) 86)]),(500004,.box [(vS ByteArray.empty),(vS ByteArray.empty),(vI 0),(vI 0),.nl,.nl,.nl]),(700100,.row 86 [] (List.map c_Rect r75)),(700101,.row 86 [] (List.map c_Rect r77)),(700102,.row 86 [] (List.map c_Rect r79))]⟩ ?_
 refine zD ?_
 refine z6 3 fun τ hτ=>?_
 obtain rfl:=Option.some.inj h
 exact lk_nextS hτ (subR_prep [] [(500000,500000),(500004,500004),(700100,500001),(700101,500002),(700102,500003)] (by kernel_rfl) rfl rfl (by kernel_rfl))
 replace h:=iteF hb h
 refine zL 0 fun τ hτ=>?_
 refine th_exit ?_
 obtain rfl:=Option.some.inj h
 exact zF hτ
 intro x
 rfl
 intro τ hτ
 refine zQ ?_
 refine zE hτ ⟨[(2,.ptr 500000 0),(4,.ptr 500004 0)],[(500000,.box [(vS r2.Name),(vS r2.Material),(vI r2.Gauge),(vI r2.Grain),(.row (.top 500001) 86),(.row (.top 500002) 86),(.row (.top 500003) 86)]),(500001,.row 86 [] (List.map c_Rect x80.1)),(500002,.row 86 [] (List.map c_Rect x80.2.1)),(500003,.row 86 [] (List.map c_Rect x80.2.2)),(500004,.box [(vS ByteArray.empty),(vS ByteArray.empty),(vI 0),(vI 0),.nl,.nl,.nl])]⟩ ?_
 refine z7 ?_
 refine zA 2 ?_
 obtain ⟨r82,hr82,h⟩:=bindS h
 refine evs_callP [500001] (by kernel_rfl) (W.sheetmetalref06_least_ok hr82) (by kernel_rfl) (.inr rfl) (by kernel_rfl) ?_
 refine z1 5 ⟨[(2,.ptr 500000 0),(4,.ptr 500004 0),(6,vI r82.1),(7,vI r82.2)],[(500000,.box [(vS r2.Name),(vS r2.Material),(vI r2.Gauge),(vI r2.Grain),(.row (.top 500001) 86),(.row (.top 500002) 86),(.row (.top 500003) 86)]),(500001,.row 86 [] (List.map c_Rect x80.1)),(500002,.row 86 [] (List.map c_Rect x80.2.1)),(500003,.row 86 [] (List.map c_Rect x80.2.2)),(500004,.box [(vS ByteArray.empty),(vS ByteArray.empty),(vI 0),(vI 0),.nl,.nl,.nl])]⟩ ?_
 refine z7 ?_
 refine zA 5 ?_
 obtain ⟨r84,hr84,h⟩:=bindS h
 refine evs_callS [] [(0,700250),(1,700251),(2,700252),(3,700253)] [500001,500002,500003] (by kernel_rfl) (W.sheetmetalref06_Move_ok hr84) (by kernel_rfl) (by kernel_rfl) (.inr ⟨rfl,fun _ _=>ind_cons rfl (fun _ _=>ind_cons (ind_row fun _=>rfl) (fun _ _=>ind_cons (ind_row fun _=>rfl) (fun _ _=>ind_cons (ind_row fun _=>rfl) (fun _ _=>ind_nil))))⟩) ?_
 refine z1 1 ⟨[(4,.ptr 500004 0)],[(500004,.box [(vS r84.Name),(vS r84.Material),(vI r84.Gauge),(vI r84.Grain),(.row (.top 700251) 86),(.row (.top 700252) 86),(.row (.top 700253) 86)]),(700251,.row 86 [] (List.map c_Rect r84.Rects)),(700252,.row 86 [] (List.map c_Rect r84.Cuts)),(700253,.row 86 [] (List.map c_Rect r84.Forms))]⟩ ?_
 refine zN fun τ hτ=>?_
 obtain rfl:=Option.some.inj h
 exact rk_ret hτ [(4,.ptr 0 0)] (subR_prep [] [(500004,0),(700251,1),(700252,2),(700253,3)] (by kernel_rfl) rfl rfl (by kernel_rfl)) (by kernel_rfl)
theorem W.sheetmetalref06_Put_ok {x0 : Piece} {at1 : Placement} {r : Piece × Int × ByteArray × ByteArray × Int × Int} (h : sheetmetalref06_Put x0 at1 = some r) : PC G.P 29 [(.agg (c_Piece x0)), (.agg (c_Placement at1))] [] (.tup [(.agg [(vS r.1.Name), (vS r.1.Material), (vI r.1.Gauge), (vI r.1.Grain), (.row (.top 1) 86), (.row (.top 2) 86), (.row (.top 3) 86)]), (vI r.2.1)]) [(0, .box [(vS r.2.2.1), (vS r.2.2.2.1), (vI r.2.2.2.2.1), (vI r.2.2.2.2.2), (.row (.top 1) 86), (.row (.top 2) 86), (.row (.top 3) 86)]), (1, .row 86 [] (List.map c_Rect r.1.Rects)), (2, .row 86 [] (List.map c_Rect r.1.Cuts)), (3, .row 86 [] (List.map c_Rect r.1.Forms))] := by
 refine zU G Tryz.func29 ?_
 refine zK ⟨[(0,.agg (c_Piece x0)),(1,.agg (c_Placement at1))],[]⟩ ?_
 refine z3 4 ⟨[(2,.ptr 2 0),(3,.ptr 3 0),(4,.ptr 4 0)],[(2,.box (c_Piece x0)),(3,.box (c_Placement at1)),(4,.box [(vS ByteArray.empty),(vS ByteArray.empty),(vI 0),(vI 0),.nl,.nl,.nl])]⟩ ?_
 refine z7 ?_
 refine zA 1 ?_
 obtain ⟨r2,hr2,h⟩:=bindS h
 refine evs_callP [] (by kernel_rfl) (W.sheetmetalref06_ValidatePiece_ok hr2) (by kernel_rfl) (.inl rfl) (by kernel_rfl) ?_
 refine z1 1 ⟨[(2,.ptr 2 0),(3,.ptr 3 0),(4,.ptr 4 0),(6,vI r2)],[(2,.box (c_Piece x0)),(3,.box (c_Placement at1)),(4,.box [(vS ByteArray.empty),(vS ByteArray.empty),(vI 0),(vI 0),.nl,.nl,.nl])]⟩ ?_
 refine zB ?_
 refine z3 2 ⟨[(2,.ptr 2 0),(3,.ptr 3 0),(4,.ptr 4 0),(6,vI r2),(11,vB (r2 != 0))],[(2,.box (c_Piece x0)),(3,.box (c_Placement at1)),(4,.box [(vS ByteArray.empty),(vS ByteArray.empty),(vI 0),(vI 0),.nl,.nl,.nl])]⟩ ?_
 refine zI (r2 != 0) (fun hb=>?_) fun hb=>?_
 replace h:=iteT hb h
 refine z8 4 ⟨[(4,.ptr 4 0),(5,vI r2)],[(4,.box [(vS ByteArray.empty),(vS ByteArray.empty),(vI 0),(vI 0),.nl,.nl,.nl])]⟩ fun τ hτ=>?_
 refine th_ret ?_
 obtain rfl:=Option.some.inj h
 exact rk_ret hτ [(4,.ptr 0 0),(5,vI r2)] (subR_prep [.row (.box 4 4) 800000 86 [],.row (.box 4 5) 800001 86 [],.row (.box 4 6) 800002 86 []] [(4,0),(800000,1),(800001,2),(800002,3)] (by kernel_rfl) rfl rfl (by kernel_rfl)) (by kernel_rfl)
 replace h:=iteF hb h
 refine z4 ⟨[(2,.ptr 2 0),(3,.ptr 3 0),(4,.ptr 4 0)],[(2,.box (c_Piece x0)),(3,.box (c_Placement at1)),(4,.box [(vS ByteArray.empty),(vS ByteArray.empty),(vI 0),(vI 0),.nl,.nl,.nl])]⟩ ?_
 refine zB ?_
 refine zB ?_
 obtain ⟨j4,hj4,h⟩:=bindS h
 refine zT ⟨[(2,.ptr 500000 0),(3,.ptr 500001 0),(4,.ptr 500002 0),(21,vB j4)],[(500000,.box (c_Piece x0)),(500001,.box (c_Placement at1)),(500002,.box [(vS ByteArray.empty),(vS ByteArray.empty),(vI 0),(vI 0),.nl,.nl,.nl])]⟩ ?_ fun τ hτ=>?_
 replace h:=hj4
 refine zA 4 ?_
 refine zS (decide (at1.Turn < 0)) (fun b0=>⟨[(2,.ptr 2 0),(3,.ptr 3 0),(4,.ptr 4 0),(17,vB b0)],[(2,.box (c_Piece x0)),(3,.box (c_Placement at1)),(4,.box [(vS ByteArray.empty),(vS ByteArray.empty),(vI 0),(vI 0),.nl,.nl,.nl])]⟩) (fun hb=>?_) fun hb=>?_
 replace h:=iteT hb h
 refine z6 4 fun τ hτ=>?_
 obtain rfl:=Option.some.inj h
 exact leafC hτ (subR_prep [] [(2,500000),(3,500001),(4,500002)] (by kernel_rfl) rfl rfl (by kernel_rfl))
 replace h:=iteF hb h
 refine z6 4 fun τ hτ=>?_
 obtain rfl:=Option.some.inj h
 exact leafC hτ (subR_prep [] [(2,500000),(3,500001),(4,500002)] (by kernel_rfl) rfl rfl (by kernel_rfl))
 refine zE hτ ⟨[(2,.ptr 500000 0),(3,.ptr 500001 0),(4,.ptr 500002 0),(21,vB j4)],[(500000,.box (c_Piece x0)),(500001,.box (c_Placement at1)),(500002,.box [(vS ByteArray.empty),(vS ByteArray.empty),(vI 0),(vI 0),.nl,.nl,.nl])]⟩ ?_
 refine zI j4 (fun hb=>?_) fun hb=>?_
 replace h:=iteT hb h
 refine z8 3 ⟨[(4,.ptr 500002 0),(5,vI 1)],[(500002,.box [(vS ByteArray.empty),(vS ByteArray.empty),(vI 0),(vI 0),.nl,.nl,.nl])]⟩ fun τ hτ=>?_
 refine th_ret ?_
 obtain rfl:=Option.some.inj h
 exact rk_ret hτ [(4,.ptr 0 0),(5,vI 1)] (subR_prep [.row (.box 500002 4) 800000 86 [],.row (.box 500002 5) 800001 86 [],.row (.box 500002 6) 800002 86 []] [(500002,0),(800000,1),(800001,2),(800002,3)] (by kernel_rfl) rfl rfl (by kernel_rfl)) (by kernel_rfl)
 replace h:=iteF hb h
 refine z4 ⟨[(2,.ptr 500000 0),(3,.ptr 500001 0),(4,.ptr 500002 0)],[(500000,.box (c_Piece x0)),(500001,.box (c_Placement at1)),(500002,.box [(vS ByteArray.empty),(vS ByteArray.empty),(vI 0),(vI 0),.nl,.nl,.nl])]⟩ ?_
 refine zB ?_
 refine zB ?_
 obtain ⟨j12,hj12,h⟩:=bindS h
 refine zT ⟨[(2,.ptr 500000 0),(3,.ptr 500001 0),(4,.ptr 500002 0),(32,vB j12)],[(500000,.box (c_Piece x0)),(500001,.box (c_Placement at1)),(500002,.box [(vS ByteArray.empty),(vS ByteArray.empty),(vI 0),(vI 0),.nl,.nl,.nl])]⟩ ?_ fun τ hτ=>?_
 replace h:=hj12
 refine zA 2 ?_
 obtain ⟨r13,hr13,h⟩:=bindS h
 refine evs_callP [] (by kernel_rfl) (W.sheetmetalref06_near_ok hr13) (by kernel_rfl) (.inl rfl) (by kernel_rfl) ?_
 refine zA 2 ?_
 refine zS r13 (fun b0=>⟨[(2,.ptr 500000 0),(3,.ptr 500001 0),(4,.ptr 500002 0),(27,vB (!b0))],[(500000,.box (c_Piece x0)),(500001,.box (c_Placement at1)),(500002,.box [(vS ByteArray.empty),(vS ByteArray.empty),(vI 0),(vI 0),.nl,.nl,.nl])]⟩) (fun hb=>?_) fun hb=>?_
 replace h:=iteT hb h
 refine zA 2 ?_
 obtain ⟨r14,hr14,h⟩:=bindS h
 refine evs_callP [] (by kernel_rfl) (W.sheetmetalref06_near_ok hr14) (by kernel_rfl) (.inl rfl) (by kernel_rfl) ?_
 refine z6 2 fun τ hτ=>?_
 obtain rfl:=Option.some.inj h
 exact zG hτ
 replace h:=iteF hb h
 refine z6 5 fun τ hτ=>?_
 obtain rfl:=Option.some.inj h
 exact zG hτ
 refine zE hτ ⟨[(2,.ptr 500000 0),(3,.ptr 500001 0),(4,.ptr 500002 0),(32,vB j12)],[(500000,.box (c_Piece x0)),(500001,.box (c_Placement at1)),(500002,.box [(vS ByteArray.empty),(vS ByteArray.empty),(vI 0),(vI 0),.nl,.nl,.nl])]⟩ ?_
 refine zI j12 (fun hb=>?_) fun hb=>?_
 replace h:=iteT hb h
 refine z8 3 ⟨[(4,.ptr 500002 0),(5,vI 4)],[(500002,.box [(vS ByteArray.empty),(vS ByteArray.empty),(vI 0),(vI 0),.nl,.nl,.nl])]⟩ fun τ hτ=>?_
 refine th_ret ?_
 obtain rfl:=Option.some.inj h
 exact rk_ret hτ [(4,.ptr 0 0),(5,vI 4)] (subR_prep [.row (.box 500002 4) 800000 86 [],.row (.box 500002 5) 800001 86 [],.row (.box 500002 6) 800002 86 []] [(500002,0),(800000,1),(800001,2),(800002,3)] (by kernel_rfl) rfl rfl (by kernel_rfl)) (by kernel_rfl)
 replace h:=iteF hb h
 refine z4 ⟨[(2,.ptr 500000 0),(3,.ptr 500001 0),(4,.ptr 500002 0)],[(500000,.box (c_Piece x0)),(500001,.box (c_Placement at1)),(500002,.box [(vS ByteArray.empty),(vS ByteArray.empty),(vI 0),(vI 0),.nl,.nl,.nl])]⟩ ?_
 refine zB ?_
 refine sem_draw [(3,[700150,700151,700152,700153]),(8,[700400,700401,700402,700403]),(9,[7])] [(3,[700150,700151,700152,700153]),(8,[700400,700401,700402,700403]),(9,[7])] [(8,[700151,700152,700153])] [(0,[7]),(1,[7]),(2,[7]),(3,[7]),(4,[700150,700151,700152,700153,7]),(5,[700150,700151,700152,700153,7]),(6,[700150,700151,700152,700153,7]),(7,[700150,700151,700152,700153,7]),(8,[7]),(9,[700150,700151,700152,700153,700400,700401,700402,700403])] [(0,[700150,700151,700152,700153,700400,700401,700402,700403,7]),(1,[700150,700151,700152,700153,700400,700401,700402,700403,7]),(2,[700150,700151,700152,700153,700400,700401,700402,700403,7]),(3,[700400,700401,700402,700403,7]),(4,[700150,700151,700152,700153,700400,700401,700402,700403,7]),(5,[700150,700151,700152,700153,700400,700401,700402,700403,7]),(6,[700150,700151,700152,700153,700400,700401,700402,700403,7]),(7,[700150,700151,700152,700153,700400,700401,700402,700403,7]),(8,[7]),(9,[700150,700151,700152,700153,700400,700401,700402,700403])] 10 (by kernel_rfl) (by kernel_rfl) [700150,700151,700152,700153,700400,700401,700402,700403,7] (by kernel_rfl) (by kernel_rfl) ?_
 refine evd_run 3 (by kernel_rfl) ?_
 obtain ⟨r19,hr19,h⟩:=bindS h
 refine evd_callS [(0,700150),(1,700151),(2,700152),(3,700153)] [] (by kernel_rfl) (by kernel_rfl) (W.sheetmetalref06_Turned_ok hr19) (by kernel_rfl) (.inl rfl) (by kernel_rfl) (by kernel_rfl) ?_
 refine evd_run 4 (by kernel_rfl) ?_
 obtain ⟨r20,hr20,h⟩:=bindS h
 refine evd_callS [(0,700400),(1,700401),(2,700402),(3,700403)] [700151,700152,700153] (by kernel_rfl) (by kernel_rfl) (W.sheetmetalref06_Move_ok hr20) (by kernel_rfl) (.inr ⟨rfl,fun _ _=>ind_cons rfl (fun _ _=>ind_cons (ind_row fun _=>rfl) (fun _ _=>ind_cons (ind_row fun _=>rfl) (fun _ _=>ind_cons (ind_row fun _=>rfl) (fun _ _=>ind_nil))))⟩) (by kernel_rfl) (by kernel_rfl) ?_
 refine evd_new (g:=7) (ob:=.box [(vS ByteArray.empty),(vS ByteArray.empty),(vI 0),(vI 0),.nl,.nl,.nl]) (v:=(.ptr 7 0)) (by kernel_rfl) (by kernel_rfl) (by kernel_rfl) (by kernel_rfl) (by kernel_rfl) (by kernel_rfl) ?_
 refine evd_end (by kernel_rfl) ?_
 refine evo_run 1 (by kernel_rfl) ?_
 refine zO fun τ hτ=>?_
 refine zE hτ ⟨[(4,.ptr 500002 0),(7,.ptr 7 0)],[(7,.box [(vS r20.Name),(vS r20.Material),(vI r20.Gauge),(vI r20.Grain),(.row (.top 700401) 86),(.row (.top 700402) 86),(.row (.top 700403) 86)]),(500002,.box [(vS ByteArray.empty),(vS ByteArray.empty),(vI 0),(vI 0),.nl,.nl,.nl]),(700401,.row 86 [] (List.map c_Rect r20.Rects)),(700402,.row 86 [] (List.map c_Rect r20.Cuts)),(700403,.row 86 [] (List.map c_Rect r20.Forms))]⟩ ?_
 refine zB ?_
 refine zB ?_
 obtain ⟨j31,hj31,h⟩:=bindS h
 refine zT ⟨[(4,.ptr 500000 0),(7,.ptr 500001 0),(58,vB j31)],[(500000,.box [(vS ByteArray.empty),(vS ByteArray.empty),(vI 0),(vI 0),.nl,.nl,.nl]),(500001,.box [(vS r20.Name),(vS r20.Material),(vI r20.Gauge),(vI r20.Grain),(.row (.top 500002) 86),(.row (.top 500003) 86),(.row (.top 500004) 86)]),(500002,.row 86 [] (List.map c_Rect r20.Rects)),(500003,.row 86 [] (List.map c_Rect r20.Cuts)),(500004,.row 86 [] (List.map c_Rect r20.Forms))]⟩ ?_ fun τ hτ=>?_
 replace h:=hj31
 refine zA 2 ?_
 obtain ⟨r32,hr32,h⟩:=bindS h
 refine evs_callP [700401] (by kernel_rfl) (W.sheetmetalref06_Rights_ok hr32) (by kernel_rfl) (.inr rfl) (by kernel_rfl) ?_
 refine zA 2 ?_
 refine zS r32 (fun b0=>⟨[(4,.ptr 500002 0),(7,.ptr 7 0),(47,vB (!b0))],[(7,.box [(vS r20.Name),(vS r20.Material),(vI r20.Gauge),(vI r20.Grain),(.row (.top 700401) 86),(.row (.top 700402) 86),(.row (.top 700403) 86)]),(500002,.box [(vS ByteArray.empty),(vS ByteArray.empty),(vI 0),(vI 0),.nl,.nl,.nl]),(700401,.row 86 [] (List.map c_Rect r20.Rects)),(700402,.row 86 [] (List.map c_Rect r20.Cuts)),(700403,.row 86 [] (List.map c_Rect r20.Forms))]⟩) (fun hb=>?_) fun hb=>?_
 replace h:=iteT hb h
 refine zA 2 ?_
 obtain ⟨r33,hr33,h⟩:=bindS h
 refine evs_callP [700402] (by kernel_rfl) (W.sheetmetalref06_Rights_ok hr33) (by kernel_rfl) (.inr rfl) (by kernel_rfl) ?_
 refine zA 3 ?_
 refine zS r33 (fun b0=>⟨[(4,.ptr 500002 0),(7,.ptr 7 0),(53,vB (!b0))],[(7,.box [(vS r20.Name),(vS r20.Material),(vI r20.Gauge),(vI r20.Grain),(.row (.top 700401) 86),(.row (.top 700402) 86),(.row (.top 700403) 86)]),(500002,.box [(vS ByteArray.empty),(vS ByteArray.empty),(vI 0),(vI 0),.nl,.nl,.nl]),(700401,.row 86 [] (List.map c_Rect r20.Rects)),(700402,.row 86 [] (List.map c_Rect r20.Cuts)),(700403,.row 86 [] (List.map c_Rect r20.Forms))]⟩) (fun hb=>?_) fun hb=>?_
 replace h:=iteT hb h
 refine zA 2 ?_
 obtain ⟨r34,hr34,h⟩:=bindS h
 refine evs_callP [700403] (by kernel_rfl) (W.sheetmetalref06_Rights_ok hr34) (by kernel_rfl) (.inr rfl) (by kernel_rfl) ?_
 refine z6 2 fun τ hτ=>?_
 obtain rfl:=Option.some.inj h
 exact leafC hτ (subR_prep [] [(7,500001),(500002,500000),(700401,500002),(700402,500003),(700403,500004)] (by kernel_rfl) rfl rfl (by kernel_rfl))
 replace h:=iteF hb h
 refine z6 5 fun τ hτ=>?_
 obtain rfl:=Option.some.inj h
 exact leafC hτ (subR_prep [] [(7,500001),(500002,500000),(700401,500002),(700402,500003),(700403,500004)] (by kernel_rfl) rfl rfl (by kernel_rfl))
 replace h:=iteF hb h
 refine z6 11 fun τ hτ=>?_
 obtain rfl:=Option.some.inj h
 exact leafC hτ (subR_prep [] [(7,500001),(500002,500000),(700401,500002),(700402,500003),(700403,500004)] (by kernel_rfl) rfl rfl (by kernel_rfl))
 refine zE hτ ⟨[(4,.ptr 500000 0),(7,.ptr 500001 0),(58,vB j31)],[(500000,.box [(vS ByteArray.empty),(vS ByteArray.empty),(vI 0),(vI 0),.nl,.nl,.nl]),(500001,.box [(vS r20.Name),(vS r20.Material),(vI r20.Gauge),(vI r20.Grain),(.row (.top 500002) 86),(.row (.top 500003) 86),(.row (.top 500004) 86)]),(500002,.row 86 [] (List.map c_Rect r20.Rects)),(500003,.row 86 [] (List.map c_Rect r20.Cuts)),(500004,.row 86 [] (List.map c_Rect r20.Forms))]⟩ ?_
 refine zI j31 (fun hb=>?_) fun hb=>?_
 replace h:=iteT hb h
 refine z8 3 ⟨[(4,.ptr 500000 0),(5,vI 4)],[(500000,.box [(vS ByteArray.empty),(vS ByteArray.empty),(vI 0),(vI 0),.nl,.nl,.nl])]⟩ fun τ hτ=>?_
 refine th_ret ?_
 obtain rfl:=Option.some.inj h
 exact rk_ret hτ [(4,.ptr 0 0),(5,vI 4)] (subR_prep [.row (.box 500000 4) 800000 86 [],.row (.box 500000 5) 800001 86 [],.row (.box 500000 6) 800002 86 []] [(500000,0),(800000,1),(800001,2),(800002,3)] (by kernel_rfl) rfl rfl (by kernel_rfl)) (by kernel_rfl)
 replace h:=iteF hb h
 refine z4 ⟨[(4,.ptr 500000 0),(7,.ptr 500001 0)],[(500000,.box [(vS ByteArray.empty),(vS ByteArray.empty),(vI 0),(vI 0),.nl,.nl,.nl]),(500001,.box [(vS r20.Name),(vS r20.Material),(vI r20.Gauge),(vI r20.Grain),(.row (.top 500002) 86),(.row (.top 500003) 86),(.row (.top 500004) 86)]),(500002,.row 86 [] (List.map c_Rect r20.Rects)),(500003,.row 86 [] (List.map c_Rect r20.Cuts)),(500004,.row 86 [] (List.map c_Rect r20.Forms))]⟩ ?_
 refine z8 3 ⟨[(4,.ptr 500000 0),(5,vI 0)],[(500000,.box [(vS r20.Name),(vS r20.Material),(vI r20.Gauge),(vI r20.Grain),(.row (.top 500002) 86),(.row (.top 500003) 86),(.row (.top 500004) 86)]),(500002,.row 86 [] (List.map c_Rect r20.Rects)),(500003,.row 86 [] (List.map c_Rect r20.Cuts)),(500004,.row 86 [] (List.map c_Rect r20.Forms))]⟩ fun τ hτ=>?_
 obtain rfl:=Option.some.inj h
 exact rk_ret hτ [(4,.ptr 0 0),(5,vI 0)] (subR_prep [] [(500000,0),(500002,1),(500003,2),(500004,3)] (by kernel_rfl) rfl rfl (by kernel_rfl)) (by kernel_rfl)
theorem W.sheetmetalref06_SameRects_ok {a : (List Rect)} {b : (List Rect)} {r : Bool} (h : sheetmetalref06_SameRects a b = some r) : PC G.P 76 [(.sl (List.map c_Rect a)), (.sl (List.map c_Rect b))] [] (vB r) [] := by
 refine zU G Tryz.func76 ?_
 refine zK ⟨[(0,.sl (List.map c_Rect a)),(1,.sl (List.map c_Rect b))],[]⟩ ?_
 refine z3 1 ⟨[(0,.sl (List.map c_Rect a)),(1,.sl (List.map c_Rect b))],[]⟩ ?_
 refine zB ?_
 refine z7 ?_
 refine zA 1 ?_
 refine evs_op (st_len (c:=c_Rect) (l:=a) (x:=(.sl (List.map c_Rect a))) (by kernel_rfl) (by kernel_rfl)) ?_
 refine zA 1 ?_
 refine evs_op (st_len (c:=c_Rect) (l:=b) (x:=(.sl (List.map c_Rect b))) (by kernel_rfl) (by kernel_rfl)) ?_
 refine z1 1 ⟨[(0,.sl (List.map c_Rect a)),(1,.sl (List.map c_Rect b)),(10,vB ((a.length : Int) != (b.length : Int)))],[]⟩ ?_
 refine zI ((a.length : Int) != (b.length : Int)) (fun hb=>?_) fun hb=>?_
 replace h:=iteT hb h
 refine z8 1 ⟨[(4,vB false)],[]⟩ fun τ hτ=>?_
 refine th_ret ?_
 obtain rfl:=Option.some.inj h
 exact zV hτ [(4,vB false)]
 replace h:=iteF hb h
 refine z4 ⟨[(0,.sl (List.map c_Rect a)),(1,.sl (List.map c_Rect b))],[]⟩ ?_
 refine zB ?_
 refine z3 1 ⟨[(0,.sl (List.map c_Rect a)),(1,.sl (List.map c_Rect b)),(5,vI 0)],[]⟩ ?_
 refine zC ?_
 obtain ⟨x80,hx80,h⟩:=bindS h
 refine sem_loopS (fun (s55 : Int)=>⟨[(0,.sl (List.map c_Rect a)),(1,.sl (List.map c_Rect b)),(5,vI s55)],[]⟩) (fun (x80 : Unit ⊕ Unit)=>match x80 with | .inl j81=>(.ret,⟨[(4,vB false)],[]⟩) | .inr j82=>(.exit 0,⟨[],[]⟩)) (sheetmetalref06_SameRects_l1 a b) 0 x80 (by kernel_rfl) (here (by kernel_rfl)) hx80 ?_ ?_ ?_
 intro s55 r h
 refine zB ?_
 refine z7 ?_
 refine zA 2 ?_
 refine evs_op (st_len (c:=c_Rect) (l:=a) (x:=(.sl (List.map c_Rect a))) (by kernel_rfl) (by kernel_rfl)) ?_
 refine z1 1 ⟨[(0,.sl (List.map c_Rect a)),(1,.sl (List.map c_Rect b)),(5,vI s55),(14,vB (decide (s55 < (a.length : Int))))],[]⟩ ?_
 refine zI (decide (s55 < (a.length : Int))) (fun hb=>?_) fun hb=>?_
 replace h:=iteT hb h
 refine z4 ⟨[(0,.sl (List.map c_Rect a)),(1,.sl (List.map c_Rect b)),(5,vI s55)],[]⟩ ?_
 refine zB ?_
 refine zC ?_
 refine zB ?_
 refine sem_drawN [] [] [] [] [] 8 (by kernel_rfl) (by kernel_rfl) (by kernel_rfl) ?_
 refine evd_run 2 (by kernel_rfl) ?_
 obtain ⟨x78,hx78,h⟩:=bindS h
 refine evd_val (by kernel_rfl) (st_idx (c:=c_Rect) (l:=a) (i:=s55) (kd:=.i64) (sz:=4) (by kernel_rfl) hx78 rfl) (by kernel_rfl) (by kernel_rfl) ?_
 refine evd_run 3 (by kernel_rfl) ?_
 obtain ⟨x79,hx79,h⟩:=bindS h
 refine evd_val (by kernel_rfl) (st_idx (c:=c_Rect) (l:=b) (i:=s55) (kd:=.i64) (sz:=4) (by kernel_rfl) hx79 rfl) (by kernel_rfl) (by kernel_rfl) ?_
 refine evd_run 1 (by kernel_rfl) ?_
 refine evd_end (by kernel_rfl) ?_
 refine evo_run 1 (by kernel_rfl) ?_
 refine zO fun τ hτ=>?_
 refine zE hτ ⟨[(0,.sl (List.map c_Rect a)),(1,.sl (List.map c_Rect b)),(5,vI s55),(25,vB (!((x78.X == x79.X) && ((x78.Y == x79.Y) && ((x78.W == x79.W) && ((x78.H == x79.H) && true))))))],[]⟩ ?_
 refine zI (!((x78.X == x79.X) && ((x78.Y == x79.Y) && ((x78.W == x79.W) && ((x78.H == x79.H) && true))))) (fun hb=>?_) fun hb=>?_
 replace h:=iteT hb h
 refine z8 1 ⟨[(4,vB false)],[]⟩ fun τ hτ=>?_
 refine bl_ret ?_
 refine th_ret ?_
 obtain rfl:=Option.some.inj h
 exact zF hτ
 replace h:=iteF hb h
 refine zM fun τ hτ=>?_
 refine bl_normal ?_
 refine zE hτ ⟨[(0,.sl (List.map c_Rect a)),(1,.sl (List.map c_Rect b)),(5,vI s55)],[]⟩ ?_
 refine zD ?_
 refine z6 3 fun τ hτ=>?_
 obtain rfl:=Option.some.inj h
 exact zH hτ
 replace h:=iteF hb h
 refine zL 0 fun τ hτ=>?_
 refine th_exit ?_
 obtain rfl:=Option.some.inj h
 exact zF hτ
 intro x
 rcases x with _ | _ <;> rfl
 intro τ hτ
 rcases x80 with j81 | j82
 refine bl_ret ?_
 refine th_ret ?_
 obtain rfl:=Option.some.inj h
 exact zV hτ [(4,vB false)]
 refine zQ ?_
 refine zE hτ ⟨[],[]⟩ ?_
 refine z8 1 ⟨[(4,vB true)],[]⟩ fun τ hτ=>?_
 obtain rfl:=Option.some.inj h
 exact zV hτ [(4,vB true)]
theorem W.sheetmetalref06_SamePiece_ok {a : Piece} {b : Piece} {r : Bool} (h : sheetmetalref06_SamePiece a b = some r) : PC G.P 30 [(.agg (c_Piece a)), (.agg (c_Piece b))] [] (vB r) [] := by
 refine zU G Tryz.func30 ?_
 refine zK ⟨[(0,.agg (c_Piece a)),(1,.agg (c_Piece b))],[]⟩ ?_
 refine z3 3 ⟨[(2,.ptr 2 0),(3,.ptr 3 0)],[(2,.box (c_Piece a)),(3,.box (c_Piece b))]⟩ ?_
 refine zB ?_
 obtain ⟨j4,hj4,h⟩:=bindS h
 refine zT ⟨[(4,vB j4)],[]⟩ ?_ fun τ hτ=>?_
 replace h:=hj4
 refine zA 6 ?_
 refine zS (a.Name.toList == b.Name.toList) (fun b0=>⟨[(2,.ptr 2 0),(3,.ptr 3 0),(10,vB b0)],[(2,.box (c_Piece a)),(3,.box (c_Piece b))]⟩) (fun hb=>?_) fun hb=>?_
 replace h:=iteT hb h
 refine zA 7 ?_
 refine zS (a.Material.toList == b.Material.toList) (fun b0=>⟨[(2,.ptr 2 0),(3,.ptr 3 0),(17,vB b0)],[(2,.box (c_Piece a)),(3,.box (c_Piece b))]⟩) (fun hb=>?_) fun hb=>?_
 replace h:=iteT hb h
 refine zA 7 ?_
 refine zS (a.Gauge == b.Gauge) (fun b0=>⟨[(2,.ptr 2 0),(3,.ptr 3 0),(24,vB b0)],[(2,.box (c_Piece a)),(3,.box (c_Piece b))]⟩) (fun hb=>?_) fun hb=>?_
 replace h:=iteT hb h
 refine zA 7 ?_
 refine zS (a.Grain == b.Grain) (fun b0=>⟨[(2,.ptr 2 0),(3,.ptr 3 0),(31,vB b0)],[(2,.box (c_Piece a)),(3,.box (c_Piece b))]⟩) (fun hb=>?_) fun hb=>?_
 replace h:=iteT hb h
 refine zA 4 ?_
 obtain ⟨r5,hr5,h⟩:=bindS h
 refine evs_callP [] (by kernel_rfl) (W.sheetmetalref06_SameRects_ok hr5) (by kernel_rfl) (.inl rfl) (by kernel_rfl) ?_
 refine zA 2 ?_
 refine zS r5 (fun b0=>⟨[(2,.ptr 2 0),(3,.ptr 3 0),(38,vB b0)],[(2,.box (c_Piece a)),(3,.box (c_Piece b))]⟩) (fun hb=>?_) fun hb=>?_
 replace h:=iteT hb h
 refine zA 4 ?_
 obtain ⟨r6,hr6,h⟩:=bindS h
 refine evs_callP [] (by kernel_rfl) (W.sheetmetalref06_SameRects_ok hr6) (by kernel_rfl) (.inl rfl) (by kernel_rfl) ?_
 refine zA 2 ?_
 refine zS r6 (fun b0=>⟨[(2,.ptr 2 0),(3,.ptr 3 0),(45,vB b0)],[(2,.box (c_Piece a)),(3,.box (c_Piece b))]⟩) (fun hb=>?_) fun hb=>?_
 replace h:=iteT hb h
 refine zA 4 ?_
 obtain ⟨r7,hr7,h⟩:=bindS h
 refine evs_callP [] (by kernel_rfl) (W.sheetmetalref06_SameRects_ok hr7) (by kernel_rfl) (.inl rfl) (by kernel_rfl) ?_
 refine z6 2 fun τ hτ=>?_
 obtain rfl:=Option.some.inj h
 exact zG hτ
 replace h:=iteF hb h
 refine z6 7 fun τ hτ=>?_
 obtain rfl:=Option.some.inj h
 exact zG hτ
 replace h:=iteF hb h
 refine z6 14 fun τ hτ=>?_
 obtain rfl:=Option.some.inj h
 exact zG hτ
 replace h:=iteF hb h
 refine z6 21 fun τ hτ=>?_
 obtain rfl:=Option.some.inj h
 exact zG hτ
 replace h:=iteF hb h
 refine z6 28 fun τ hτ=>?_
 obtain rfl:=Option.some.inj h
 exact zG hτ
 replace h:=iteF hb h
 refine z6 35 fun τ hτ=>?_
 obtain rfl:=Option.some.inj h
 exact zG hτ
 replace h:=iteF hb h
 refine z6 42 fun τ hτ=>?_
 obtain rfl:=Option.some.inj h
 exact zG hτ
 refine zE hτ ⟨[(4,vB j4)],[]⟩ ?_
 refine zN fun τ hτ=>?_
 obtain rfl:=Option.some.inj h
 exact zV hτ [(4,vB j4)]
theorem W.sheetmetallaw06_NestPuts_ok {x0 : Piece} {at1 : Placement} {r : Bool} (h : sheetmetallaw06_NestPuts x0 at1 = some r) : PC G.P 7 [(.agg (c_Piece x0)), (.agg (c_Placement at1))] [] (vB r) [] := by
 refine zU G Tryz.func7 ?_
 refine zK ⟨[(0,.agg (c_Piece x0)),(1,.agg (c_Placement at1))],[]⟩ ?_
 refine z3 3 ⟨[(2,.ptr 2 0),(3,.ptr 3 0)],[(2,.box (c_Piece x0)),(3,.box (c_Placement at1))]⟩ ?_
 refine z7 ?_
 refine zA 2 ?_
 obtain ⟨r2,hr2,h⟩:=bindS h
 refine evs_callS [] [(0,700100),(1,700101),(2,700102),(3,700103)] [] (by kernel_rfl) (W.nest_Put_ok hr2) (by kernel_rfl) (by kernel_rfl) (.inl rfl) ?_
 refine z1 6 ⟨[(2,.ptr 2 0),(3,.ptr 3 0),(5,.ptr 5 0),(6,vI r2.2.1)],[(2,.box (c_Piece x0)),(3,.box (c_Placement at1)),(5,.box [(vS r2.1.Name),(vS r2.1.Material),(vI r2.1.Gauge),(vI r2.1.Grain),(.row (.top 700101) 86),(.row (.top 700102) 86),(.row (.top 700103) 86)]),(700101,.row 86 [] (List.map c_Rect r2.1.Rects)),(700102,.row 86 [] (List.map c_Rect r2.1.Cuts)),(700103,.row 86 [] (List.map c_Rect r2.1.Forms))]⟩ ?_
 refine z7 ?_
 refine zA 2 ?_
 obtain ⟨r4,hr4,h⟩:=bindS h
 refine evs_callS [] [(0,700100),(1,700104),(2,700105),(3,700106)] [] (by kernel_rfl) (W.sheetmetalref06_Put_ok hr4) (by kernel_rfl) (by kernel_rfl) (.inl rfl) ?_
 refine z1 6 ⟨[(5,.ptr 5 0),(6,vI r2.2.1),(7,.ptr 7 0),(8,vI r4.2.1)],[(5,.box [(vS r2.1.Name),(vS r2.1.Material),(vI r2.1.Gauge),(vI r2.1.Grain),(.row (.top 700101) 86),(.row (.top 700102) 86),(.row (.top 700103) 86)]),(7,.box [(vS r4.1.Name),(vS r4.1.Material),(vI r4.1.Gauge),(vI r4.1.Grain),(.row (.top 700104) 86),(.row (.top 700105) 86),(.row (.top 700106) 86)]),(700101,.row 86 [] (List.map c_Rect r2.1.Rects)),(700102,.row 86 [] (List.map c_Rect r2.1.Cuts)),(700103,.row 86 [] (List.map c_Rect r2.1.Forms)),(700104,.row 86 [] (List.map c_Rect r4.1.Rects)),(700105,.row 86 [] (List.map c_Rect r4.1.Cuts)),(700106,.row 86 [] (List.map c_Rect r4.1.Forms))]⟩ ?_
 refine zB ?_
 obtain ⟨j7,hj7,h⟩:=bindS h
 refine zT ⟨[(4,vB j7)],[]⟩ ?_ fun τ hτ=>?_
 replace h:=hj7
 refine zA 4 ?_
 refine zS (r2.2.1 == r4.2.1) (fun b0=>⟨[(5,.ptr 5 0),(7,.ptr 7 0),(24,vB b0)],[(5,.box [(vS r2.1.Name),(vS r2.1.Material),(vI r2.1.Gauge),(vI r2.1.Grain),(.row (.top 700101) 86),(.row (.top 700102) 86),(.row (.top 700103) 86)]),(7,.box [(vS r4.1.Name),(vS r4.1.Material),(vI r4.1.Gauge),(vI r4.1.Grain),(.row (.top 700104) 86),(.row (.top 700105) 86),(.row (.top 700106) 86)]),(700101,.row 86 [] (List.map c_Rect r2.1.Rects)),(700102,.row 86 [] (List.map c_Rect r2.1.Cuts)),(700103,.row 86 [] (List.map c_Rect r2.1.Forms)),(700104,.row 86 [] (List.map c_Rect r4.1.Rects)),(700105,.row 86 [] (List.map c_Rect r4.1.Cuts)),(700106,.row 86 [] (List.map c_Rect r4.1.Forms))]⟩) (fun hb=>?_) fun hb=>?_
 replace h:=iteT hb h
 refine zA 2 ?_
 obtain ⟨r8,hr8,h⟩:=bindS h
 refine evs_callP [700101,700102,700103,700104,700105,700106] (by kernel_rfl) (W.sheetmetalref06_SamePiece_ok hr8) (by kernel_rfl) (.inr rfl) (by kernel_rfl) ?_
 refine zA 2 ?_
 refine zS r8 (fun b0=>⟨[(29,vB b0)],[]⟩) (fun hb=>?_) fun hb=>?_
 replace h:=iteT hb h
 obtain ⟨r9,hr9,h⟩:=bindS h
 refine evs_callP [] (by kernel_rfl) (W.sheetmetallaw06_known_k_ok hr9) (by kernel_rfl) (.inl rfl) (by kernel_rfl) ?_
 refine z6 2 fun τ hτ=>?_
 obtain rfl:=Option.some.inj h
 exact zG hτ
 replace h:=iteF hb h
 refine z6 3 fun τ hτ=>?_
 obtain rfl:=Option.some.inj h
 exact zG hτ
 replace h:=iteF hb h
 refine z6 8 fun τ hτ=>?_
 obtain rfl:=Option.some.inj h
 exact zG hτ
 refine zE hτ ⟨[(4,vB j7)],[]⟩ ?_
 refine zN fun τ hτ=>?_
 obtain rfl:=Option.some.inj h
 exact zV hτ [(4,vB j7)]
end Go.Proofs.YtonmponhpfpokaaGreatR
