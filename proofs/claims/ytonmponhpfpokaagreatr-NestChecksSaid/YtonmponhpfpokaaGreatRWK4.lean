/- Each Go function does what its model says; written by a program out of the translation. -/
import Derived.Test.YtonmponhpfpokaaGreatRWK3
import Derived.Test.YtonmponhpfpokaaGreatRNeMK
set_option linter.unusedVariables false
set_option linter.unusedSimpArgs false
set_option linter.unusedSectionVars false
namespace Go.Proofs.YtonmponhpfpokaaGreatR
open Go Go.VI Go.SM Go.Proofs
set_option maxRecDepth 100000
set_option maxHeartbeats 4000000
theorem W.sheetmetalref06_well_ok {l : (List Rect)} {s1 : Sheet} {set2 : Settings} {r : Bool} (h : sheetmetalref06_well l s1 set2 = some r) : PC G.P 106 [(.sl (List.map c_Rect l)),(.agg (c_Sheet s1)),(.agg (c_Settings set2))] [] (vB r) []:=by
 refine zU G Tryz.func106 (zK ⟨[(0,s_Rect l),(1,.agg (c_Sheet s1)),(2,.agg (c_Settings set2))],[]⟩ (z3 3 ⟨[(0,s_Rect l),(4,.ptr 4 0),(5,.ptr 5 0)],[(4,.box (c_Sheet s1)),(5,.box (c_Settings set2))]⟩ ?_))
 refine z3 19 ⟨[(0,s_Rect l),(4,.ptr 4 0),(7,.ptr 7 0)],[(4,.box (c_Sheet s1)),(7,.box [(vI set2.Margin),(vI set2.Margin),(vI (isub s1.Width (imul 2 set2.Margin))),(vI (isub s1.Height (imul 2 set2.Margin)))])]⟩ (zB (z3 1 ⟨[(0,s_Rect l),(4,.ptr 4 0),(7,.ptr 7 0),(8,vI 0)],[(4,.box (c_Sheet s1)),(7,.box [(vI set2.Margin),(vI set2.Margin),(vI (isub s1.Width (imul 2 set2.Margin))),(vI (isub s1.Height (imul 2 set2.Margin)))])]⟩ ?_))
 refine zC ?_
 obtain ⟨x236,hx236,h⟩:=bindS h
 refine sem_loopS (fun (s159 : Int)=>⟨[(0,s_Rect l),(4,.ptr 500000 0),(7,.ptr 500001 0),(8,vI s159)],[(500000,.box (c_Sheet s1)),(500001,.box [(vI set2.Margin),(vI set2.Margin),(vI (isub s1.Width (imul 2 set2.Margin))),(vI (isub s1.Height (imul 2 set2.Margin)))])]⟩) (fun (x236 : Unit ⊕ Unit)=>match x236 with | .inl j237=>(.ret,⟨[(6,vB false)],[]⟩) | .inr j238=>(.exit 0,⟨[],[]⟩)) (sheetmetalref06_well_l1 l s1 set2) 0 x236 (by kernel_rfl) (subR_prep [] [(4,500000),(7,500001)] (by kernel_rfl) rfl rfl (by kernel_rfl)) hx236 ?_ ?_ ?_
 intro s159 r h
 refine zB (z7 (zA 2 ?_))
 refine evs_op (st_len (c:=c_Rect) (l:=l) (x:=(s_Rect l)) (by kernel_rfl) (by kernel_rfl)) (z1 1 ⟨[(0,s_Rect l),(4,.ptr 500000 0),(7,.ptr 500001 0),(8,vI s159),(29,vB (decide (s159 < (l.length : Int))))],[(500000,.box (c_Sheet s1)),(500001,.box [(vI set2.Margin),(vI set2.Margin),(vI (isub s1.Width (imul 2 set2.Margin))),(vI (isub s1.Height (imul 2 set2.Margin)))])]⟩ (zI (decide (s159 < (l.length : Int))) (fun hb=>?_) fun hb=>?_))
 replace h:=iteT hb h
 refine z4 ⟨[(0,s_Rect l),(4,.ptr 500000 0),(7,.ptr 500001 0),(8,vI s159)],[(500000,.box (c_Sheet s1)),(500001,.box [(vI set2.Margin),(vI set2.Margin),(vI (isub s1.Width (imul 2 set2.Margin))),(vI (isub s1.Height (imul 2 set2.Margin)))])]⟩ (zB (zC ?_))
 refine zB ?_
 obtain ⟨j229,hj229,h⟩:=bindS h
 refine sem_drawP ⟨[(0,s_Rect l),(4,.ptr 500000 0),(7,.ptr 500001 0),(8,vI s159),(56,vB j229)],[(500000,.box (c_Sheet s1)),(500001,.box [(vI set2.Margin),(vI set2.Margin),(vI (isub s1.Width (imul 2 set2.Margin))),(vI (isub s1.Height (imul 2 set2.Margin)))])]⟩ [] [] [] [] [] 23 (by kernel_rfl) (by kernel_rfl) (by kernel_rfl) ?_ fun τ hτ=>?_
 replace h:=hj229
 refine evd_run 2 (by kernel_rfl) ?_
 obtain ⟨x230,hx230,h⟩:=bindS h
 refine evd_val (by kernel_rfl) (st_idx (c:=c_Rect) (l:=l) (i:=s159) (kd:=.i64) (sz:=4) (by kernel_rfl) hx230 rfl) (by kernel_rfl) (by kernel_rfl) (evd_run 2 (by kernel_rfl) ?_)
 obtain ⟨r231,hr231,h⟩:=bindS h
 refine evd_callS [] [] (by kernel_rfl) (by kernel_rfl) (W.sheetmetalref06_Within_ok hr231) (by kernel_rfl) (.inl rfl) (by kernel_rfl) (by kernel_rfl) (evd_run 2 (by kernel_rfl) (evd_split r231 (fun b0=>⟨[(39,vB (!b0)),(38,vB (!b0)),(37,vB b0),(36,.agg [(vI set2.Margin),(vI set2.Margin),(vI (isub s1.Width (imul 2 set2.Margin))),(vI (isub s1.Height (imul 2 set2.Margin)))]),(35,.agg (c_Rect x230)),(34,.vptr (c_Rect x230) 0),(33,vI s159),(32,s_Rect l),(0,s_Rect l),(4,.ptr 500000 0),(7,.ptr 500001 0),(8,vI s159)],[(500000,.box (c_Sheet s1)),(500001,.box [(vI set2.Margin),(vI set2.Margin),(vI (isub s1.Width (imul 2 set2.Margin))),(vI (isub s1.Height (imul 2 set2.Margin)))])]⟩) (by kernel_rfl) (fun hb=>?_) fun hb=>?_))
 replace h:=iteT hb h
 refine evd_run 2 (by kernel_rfl) ?_
 obtain ⟨x232,hx232,h⟩:=bindS h
 refine evd_val (by kernel_rfl) (st_idx (c:=c_Rect) (l:=l) (i:=s159) (kd:=.i64) (sz:=4) (by kernel_rfl) hx232 rfl) (by kernel_rfl) (by kernel_rfl) (evd_run 3 (by kernel_rfl) ?_)
 obtain ⟨r233,hr233,h⟩:=bindS h
 refine evd_callS [] [] (by kernel_rfl) (by kernel_rfl) (W.sheetmetalref06_Meets_ok hr233) (by kernel_rfl) (.inl rfl) (by kernel_rfl) (by kernel_rfl) (evd_run 2 (by kernel_rfl) (evd_split r233 (fun b0=>⟨[(48,vB b0),(47,vB b0),(46,vB b0),(45,s_Rect s1.Clamps),(44,.ptr 500000 6),(43,.agg (c_Rect x232)),(42,.vptr (c_Rect x232) 0),(41,vI s159),(40,s_Rect l),(39,vB false),(38,vB false),(37,vB true),(36,.agg [(vI set2.Margin),(vI set2.Margin),(vI (isub s1.Width (imul 2 set2.Margin))),(vI (isub s1.Height (imul 2 set2.Margin)))]),(35,.agg (c_Rect x230)),(34,.vptr (c_Rect x230) 0),(33,vI s159),(32,s_Rect l),(0,s_Rect l),(4,.ptr 500000 0),(7,.ptr 500001 0),(8,vI s159)],[(500000,.box (c_Sheet s1)),(500001,.box [(vI set2.Margin),(vI set2.Margin),(vI (isub s1.Width (imul 2 set2.Margin))),(vI (isub s1.Height (imul 2 set2.Margin)))])]⟩) (by kernel_rfl) (fun hb=>?_) fun hb=>?_))
 replace h:=iteT hb h
 refine evd_run 6 (by kernel_rfl) (evd_end (by kernel_rfl) (evo_run 2 (by kernel_rfl) ?_))
 refine zO fun τ hτ=>?_
 obtain rfl:=osi h
 exact zG hτ
 replace h:=iteF hb h
 refine evd_run 2 (by kernel_rfl) ?_
 obtain ⟨x234,hx234,h⟩:=bindS h
 refine evd_val (by kernel_rfl) (st_idx (c:=c_Rect) (l:=l) (i:=s159) (kd:=.i64) (sz:=4) (by kernel_rfl) hx234 rfl) (by kernel_rfl) (by kernel_rfl) (evd_run 3 (by kernel_rfl) (evd_end (by kernel_rfl) ?_))
 obtain ⟨r235,hr235,h⟩:=bindS h
 refine evo_callP [] (by kernel_rfl) (W.sheetmetalref06_Meets_ok hr235) (by kernel_rfl) (.inl rfl) (by kernel_rfl) (evo_run 1 (by kernel_rfl) (zO fun τ hτ=>?_))
 obtain rfl:=osi h
 exact zG hτ
 replace h:=iteF hb h
 refine evd_run 15 (by kernel_rfl) (evd_end (by kernel_rfl) (evo_run 2 (by kernel_rfl) ?_))
 refine zO fun τ hτ=>?_
 obtain rfl:=osi h
 exact zG hτ
 refine zE hτ ⟨[(0,s_Rect l),(4,.ptr 500000 0),(7,.ptr 500001 0),(8,vI s159),(56,vB j229)],[(500000,.box (c_Sheet s1)),(500001,.box [(vI set2.Margin),(vI set2.Margin),(vI (isub s1.Width (imul 2 set2.Margin))),(vI (isub s1.Height (imul 2 set2.Margin)))])]⟩ (zI j229 (fun hb=>?_) fun hb=>?_)
 replace h:=iteT hb h
 refine z8 1 ⟨[(6,vB false)],[]⟩ fun τ hτ=>?_
 refine bl_ret (th_ret ?_)
 obtain rfl:=osi h
 exact zF hτ
 replace h:=iteF hb h
 refine zM fun τ hτ=>?_
 refine bl_normal (zE hτ ⟨[(0,s_Rect l),(4,.ptr 500000 0),(7,.ptr 500001 0),(8,vI s159)],[(500000,.box (c_Sheet s1)),(500001,.box [(vI set2.Margin),(vI set2.Margin),(vI (isub s1.Width (imul 2 set2.Margin))),(vI (isub s1.Height (imul 2 set2.Margin)))])]⟩ (zD ?_))
 refine z6 3 fun τ hτ=>?_
 obtain rfl:=osi h
 exact zH hτ
 replace h:=iteF hb h
 refine zL 0 fun τ hτ=>?_
 refine th_exit ?_
 obtain rfl:=osi h
 exact zF hτ
 intro x
 rcases x with _ | _ <;> rfl
 intro τ hτ
 rcases x236 with j237 | j238
 refine bl_ret (th_ret ?_)
 obtain rfl:=osi h
 exact zV hτ [(6,vB false)]
 refine zQ (zE hτ ⟨[],[]⟩ (z8 1 ⟨[(6,vB true)],[]⟩ fun τ hτ=>?_))
 obtain rfl:=osi h
 exact zV hτ [(6,vB true)]
theorem W.sheetmetalref06_one_ok {sheets : (List Sheet)} {pieces : (List Piece)} {set2 : Settings} {l : (List Placement)} {at4 : Placement} {r : Int} (h : sheetmetalref06_one sheets pieces set2 l at4 = some r) : PC G.P 80 [(.sl (List.map c_Sheet sheets)),(.sl (List.map c_Piece pieces)),(.agg (c_Settings set2)),(.sl (List.map c_Placement l)),(.agg (c_Placement at4))] [] (vI r) []:=by
 refine zU G Tryz.func80 (zK ⟨[(0,s_Sheet sheets),(1,s_Piece pieces),(2,.agg (c_Settings set2)),(3,s_Placement l),(4,.agg (c_Placement at4))],[]⟩ (z3 3 ⟨[(0,s_Sheet sheets),(1,s_Piece pieces),(3,s_Placement l),(7,.ptr 7 0),(9,.ptr 9 0)],[(7,.box (c_Settings set2)),(9,.box (c_Placement at4))]⟩ ?_))
 refine zB (zB ?_)
 obtain ⟨j2,hj2,h⟩:=bindS h
 refine zT ⟨[(0,s_Sheet sheets),(1,s_Piece pieces),(3,s_Placement l),(7,.ptr 500000 0),(9,.ptr 500001 0),(39,vB j2)],[(500000,.box (c_Settings set2)),(500001,.box (c_Placement at4))]⟩ ?_ fun τ hτ=>?_
 replace h:=hj2
 refine zA 4 (zS (decide (at4.Piece < 0)) (fun b0=>⟨[(0,s_Sheet sheets),(1,s_Piece pieces),(3,s_Placement l),(7,.ptr 7 0),(9,.ptr 9 0),(21,vB b0)],[(7,.box (c_Settings set2)),(9,.box (c_Placement at4))]⟩) (fun hb=>?_) fun hb=>?_)
 replace h:=iteT hb h
 refine z6 18 fun τ hτ=>?_
 obtain rfl:=osi h
 exact leafC hτ (subR_prep [] [(7,500000),(9,500001)] (by kernel_rfl) rfl rfl (by kernel_rfl))
 replace h:=iteF hb h
 refine zA 3 (evs_op (st_len (c:=c_Piece) (l:=pieces) (x:=(s_Piece pieces)) (by kernel_rfl) (by kernel_rfl)) (zA 3 ?_))
 refine zS (decide (at4.Piece ≥ (pieces.length : Int))) (fun b0=>⟨[(0,s_Sheet sheets),(1,s_Piece pieces),(3,s_Placement l),(7,.ptr 7 0),(9,.ptr 9 0),(28,vB b0)],[(7,.box (c_Settings set2)),(9,.box (c_Placement at4))]⟩) (fun hb=>?_) fun hb=>?_
 replace h:=iteT hb h
 refine z6 11 fun τ hτ=>?_
 obtain rfl:=osi h
 exact leafC hτ (subR_prep [] [(7,500000),(9,500001)] (by kernel_rfl) rfl rfl (by kernel_rfl))
 replace h:=iteF hb h
 refine zA 5 (zS (decide (at4.Sheet < 0)) (fun b0=>⟨[(0,s_Sheet sheets),(1,s_Piece pieces),(3,s_Placement l),(7,.ptr 7 0),(9,.ptr 9 0),(33,vB b0)],[(7,.box (c_Settings set2)),(9,.box (c_Placement at4))]⟩) (fun hb=>?_) fun hb=>?_)
 replace h:=iteT hb h
 refine z6 6 fun τ hτ=>?_
 obtain rfl:=osi h
 exact leafC hτ (subR_prep [] [(7,500000),(9,500001)] (by kernel_rfl) rfl rfl (by kernel_rfl))
 replace h:=iteF hb h
 refine zA 3 (evs_op (st_len (c:=c_Sheet) (l:=sheets) (x:=(s_Sheet sheets)) (by kernel_rfl) (by kernel_rfl)) (z6 2 fun τ hτ=>?_))
 obtain rfl:=osi h
 exact leafC hτ (subR_prep [] [(7,500000),(9,500001)] (by kernel_rfl) rfl rfl (by kernel_rfl))
 refine zE hτ ⟨[(0,s_Sheet sheets),(1,s_Piece pieces),(3,s_Placement l),(7,.ptr 500000 0),(9,.ptr 500001 0),(39,vB j2)],[(500000,.box (c_Settings set2)),(500001,.box (c_Placement at4))]⟩ (zI j2 (fun hb=>?_) fun hb=>?_)
 replace h:=iteT hb h
 refine z8 1 ⟨[(10,vI 1)],[]⟩ fun τ hτ=>?_
 refine th_ret ?_
 obtain rfl:=osi h
 exact zV hτ [(10,vI 1)]
 replace h:=iteF hb h
 refine z4 ⟨[(0,s_Sheet sheets),(1,s_Piece pieces),(3,s_Placement l),(7,.ptr 500000 0),(9,.ptr 500001 0)],[(500000,.box (c_Settings set2)),(500001,.box (c_Placement at4))]⟩ (zB (sem_draw [(6,[700300,700301,700302,700303]),(10,[11]),(11,[11])] [(6,[700300,700301,700302,700303]),(10,[11])] [] [(0,[11]),(1,[11]),(2,[11]),(3,[11]),(4,[11]),(5,[11]),(6,[11]),(7,[11]),(8,[11]),(9,[11]),(10,[700300,700301,700302,700303])] [(0,[700300,700301,700302,700303,11]),(1,[700300,700301,700302,700303,11]),(2,[700300,700301,700302,700303,11]),(3,[700300,700301,700302,700303,11]),(4,[700300,700301,700302,700303,11]),(5,[700300,700301,700302,700303,11]),(6,[11]),(7,[11]),(8,[11]),(9,[11]),(10,[700300,700301,700302,700303])] 12 (by kernel_rfl) (by kernel_rfl) [700300,700301,700302,700303,11] (by kernel_rfl) (by kernel_rfl) ?_))
 refine evd_run 3 (by kernel_rfl) ?_
 obtain ⟨x7,hx7,h⟩:=bindS h
 refine evd_val (by kernel_rfl) (st_idx (c:=c_Piece) (l:=pieces) (i:=at4.Piece) (kd:=.i64) (sz:=7) (by kernel_rfl) hx7 rfl) (by kernel_rfl) (by kernel_rfl) (evd_run 2 (by kernel_rfl) ?_)
 obtain ⟨r8,hr8,h⟩:=bindS h
 refine evd_callS [(0,700300),(1,700301),(2,700302),(3,700303)] [] (by kernel_rfl) (by kernel_rfl) (W.sheetmetalref06_Put_ok hr8) (by kernel_rfl) (.inl rfl) (by kernel_rfl) (by kernel_rfl) (evd_run 3 (by kernel_rfl) (evd_new (g:=11) (ob:=.box [(vS ByteArray.empty),(vS ByteArray.empty),(vI 0),(vI 0),.nl,.nl,.nl]) (v:=(.ptr 11 0)) (by kernel_rfl) (by kernel_rfl) (by kernel_rfl) (by kernel_rfl) (by kernel_rfl) (by kernel_rfl) ?_))
 refine evd_set (g:=11) (ob:=.box [(vS r8.1.Name),(vS r8.1.Material),(vI r8.1.Gauge),(vI r8.1.Grain),(ro 700301 86),(ro 700302 86),(ro 700303 86)]) (v:=vU) (by kernel_rfl) (by kernel_rfl) (by kernel_rfl) (by kernel_rfl) (by kernel_rfl) (evd_end (by kernel_rfl) (evo_run 1 (by kernel_rfl) ?_))
 refine zO fun τ hτ=>?_
 refine zE hτ ⟨[(0,s_Sheet sheets),(1,s_Piece pieces),(3,s_Placement l),(7,.ptr 500000 0),(9,.ptr 500001 0),(11,.ptr 11 0),(12,vI r8.2.1)],[(11,.box [(vS r8.1.Name),(vS r8.1.Material),(vI r8.1.Gauge),(vI r8.1.Grain),(ro 700301 86),(ro 700302 86),(ro 700303 86)]),(500000,.box (c_Settings set2)),(500001,.box (c_Placement at4)),(700301,w_Rect 86 r8.1.Rects),(700302,w_Rect 86 r8.1.Cuts),(700303,w_Rect 86 r8.1.Forms)]⟩ (zB (z3 2 ⟨[(0,s_Sheet sheets),(1,s_Piece pieces),(3,s_Placement l),(7,.ptr 500000 0),(9,.ptr 500001 0),(11,.ptr 11 0),(51,vB (r8.2.1 != 0))],[(11,.box [(vS r8.1.Name),(vS r8.1.Material),(vI r8.1.Gauge),(vI r8.1.Grain),(ro 700301 86),(ro 700302 86),(ro 700303 86)]),(500000,.box (c_Settings set2)),(500001,.box (c_Placement at4)),(700301,w_Rect 86 r8.1.Rects),(700302,w_Rect 86 r8.1.Cuts),(700303,w_Rect 86 r8.1.Forms)]⟩ ?_))
 refine zI (r8.2.1 != 0) (fun hb=>?_) fun hb=>?_
 replace h:=iteT hb h
 refine z8 1 ⟨[(10,vI 1)],[]⟩ fun τ hτ=>?_
 refine th_ret ?_
 obtain rfl:=osi h
 exact zV hτ [(10,vI 1)]
 replace h:=iteF hb h
 refine z4 ⟨[(0,s_Sheet sheets),(1,s_Piece pieces),(3,s_Placement l),(7,.ptr 500000 0),(9,.ptr 500001 0),(11,.ptr 11 0)],[(11,.box [(vS r8.1.Name),(vS r8.1.Material),(vI r8.1.Gauge),(vI r8.1.Grain),(ro 700301 86),(ro 700302 86),(ro 700303 86)]),(500000,.box (c_Settings set2)),(500001,.box (c_Placement at4)),(700301,w_Rect 86 r8.1.Rects),(700302,w_Rect 86 r8.1.Cuts),(700303,w_Rect 86 r8.1.Forms)]⟩ (zB (z3 1 ⟨[(0,s_Sheet sheets),(1,s_Piece pieces),(3,s_Placement l),(7,.ptr 500000 0),(9,.ptr 500001 0),(11,.ptr 11 0),(13,vI 0)],[(11,.box [(vS r8.1.Name),(vS r8.1.Material),(vI r8.1.Gauge),(vI r8.1.Grain),(ro 700301 86),(ro 700302 86),(ro 700303 86)]),(500000,.box (c_Settings set2)),(500001,.box (c_Placement at4)),(700301,w_Rect 86 r8.1.Rects),(700302,w_Rect 86 r8.1.Cuts),(700303,w_Rect 86 r8.1.Forms)]⟩ ?_))
 refine zC ?_
 obtain ⟨x52,hx52,h⟩:=bindS h
 refine sem_loopS (fun (s39 : Int)=>⟨[(0,s_Sheet sheets),(1,s_Piece pieces),(3,s_Placement l),(7,.ptr 500000 0),(9,.ptr 500001 0),(11,.ptr 500002 0),(13,vI s39)],[(500000,.box (c_Settings set2)),(500001,.box (c_Placement at4)),(500002,.box [(vS r8.1.Name),(vS r8.1.Material),(vI r8.1.Gauge),(vI r8.1.Grain),(ro 500003 86),(ro 500004 86),(ro 500005 86)]),(500003,w_Rect 86 r8.1.Rects),(500004,w_Rect 86 r8.1.Cuts),(500005,w_Rect 86 r8.1.Forms)]⟩) (fun (x52 : Unit ⊕ Unit)=>match x52 with | .inl j53=>(.ret,⟨[(10,vI 12)],[]⟩) | .inr j54=>(.exit 0,⟨[(0,s_Sheet sheets),(1,s_Piece pieces),(3,s_Placement l),(7,.ptr 500000 0),(9,.ptr 500001 0),(11,.ptr 500002 0)],[(500000,.box (c_Settings set2)),(500001,.box (c_Placement at4)),(500002,.box [(vS r8.1.Name),(vS r8.1.Material),(vI r8.1.Gauge),(vI r8.1.Grain),(ro 500003 86),(ro 500004 86),(ro 500005 86)]),(500003,w_Rect 86 r8.1.Rects),(500004,w_Rect 86 r8.1.Cuts),(500005,w_Rect 86 r8.1.Forms)]⟩)) (sheetmetalref06_one_l1 l at4) 0 x52 (by kernel_rfl) (subR_prep [] [(11,500002),(500000,500000),(500001,500001),(700301,500003),(700302,500004),(700303,500005)] (by kernel_rfl) rfl rfl (by kernel_rfl)) hx52 ?_ ?_ ?_
 intro s39 r h
 refine zB (z7 (zA 2 ?_))
 refine evs_op (st_len (c:=c_Placement) (l:=l) (x:=(s_Placement l)) (by kernel_rfl) (by kernel_rfl)) (z1 1 ⟨[(0,s_Sheet sheets),(1,s_Piece pieces),(3,s_Placement l),(7,.ptr 500000 0),(9,.ptr 500001 0),(11,.ptr 500002 0),(13,vI s39),(55,vB (decide (s39 < (l.length : Int))))],[(500000,.box (c_Settings set2)),(500001,.box (c_Placement at4)),(500002,.box [(vS r8.1.Name),(vS r8.1.Material),(vI r8.1.Gauge),(vI r8.1.Grain),(ro 500003 86),(ro 500004 86),(ro 500005 86)]),(500003,w_Rect 86 r8.1.Rects),(500004,w_Rect 86 r8.1.Cuts),(500005,w_Rect 86 r8.1.Forms)]⟩ (zI (decide (s39 < (l.length : Int))) (fun hb=>?_) fun hb=>?_))
 replace h:=iteT hb h
 refine z4 ⟨[(0,s_Sheet sheets),(1,s_Piece pieces),(3,s_Placement l),(7,.ptr 500000 0),(9,.ptr 500001 0),(11,.ptr 500002 0),(13,vI s39)],[(500000,.box (c_Settings set2)),(500001,.box (c_Placement at4)),(500002,.box [(vS r8.1.Name),(vS r8.1.Material),(vI r8.1.Gauge),(vI r8.1.Grain),(ro 500003 86),(ro 500004 86),(ro 500005 86)]),(500003,w_Rect 86 r8.1.Rects),(500004,w_Rect 86 r8.1.Cuts),(500005,w_Rect 86 r8.1.Forms)]⟩ (zB (zC ?_))
 refine zB (sem_drawN [] [] [] [] [] 7 (by kernel_rfl) (by kernel_rfl) (by kernel_rfl) (evd_run 2 (by kernel_rfl) ?_))
 obtain ⟨x51,hx51,h⟩:=bindS h
 refine evd_val (by kernel_rfl) (st_idx (c:=c_Placement) (l:=l) (i:=s39) (kd:=.i64) (sz:=5) (by kernel_rfl) hx51 rfl) (by kernel_rfl) (by kernel_rfl) (evd_run 4 (by kernel_rfl) (evd_end (by kernel_rfl) ?_))
 refine evo_run 1 (by kernel_rfl) (zO fun τ hτ=>?_)
 refine zE hτ ⟨[(0,s_Sheet sheets),(1,s_Piece pieces),(3,s_Placement l),(7,.ptr 500000 0),(9,.ptr 500001 0),(11,.ptr 500002 0),(13,vI s39),(65,vB (x51.Piece == at4.Piece))],[(500000,.box (c_Settings set2)),(500001,.box (c_Placement at4)),(500002,.box [(vS r8.1.Name),(vS r8.1.Material),(vI r8.1.Gauge),(vI r8.1.Grain),(ro 500003 86),(ro 500004 86),(ro 500005 86)]),(500003,w_Rect 86 r8.1.Rects),(500004,w_Rect 86 r8.1.Cuts),(500005,w_Rect 86 r8.1.Forms)]⟩ (zI (x51.Piece == at4.Piece) (fun hb=>?_) fun hb=>?_)
 replace h:=iteT hb h
 refine z8 1 ⟨[(10,vI 12)],[]⟩ fun τ hτ=>?_
 refine bl_ret (th_ret ?_)
 obtain rfl:=osi h
 exact zF hτ
 replace h:=iteF hb h
 refine zM fun τ hτ=>?_
 refine bl_normal (zE hτ ⟨[(0,s_Sheet sheets),(1,s_Piece pieces),(3,s_Placement l),(7,.ptr 500000 0),(9,.ptr 500001 0),(11,.ptr 500002 0),(13,vI s39)],[(500000,.box (c_Settings set2)),(500001,.box (c_Placement at4)),(500002,.box [(vS r8.1.Name),(vS r8.1.Material),(vI r8.1.Gauge),(vI r8.1.Grain),(ro 500003 86),(ro 500004 86),(ro 500005 86)]),(500003,w_Rect 86 r8.1.Rects),(500004,w_Rect 86 r8.1.Cuts),(500005,w_Rect 86 r8.1.Forms)]⟩ (zD ?_))
 refine z6 3 fun τ hτ=>?_
 obtain rfl:=osi h
 exact zH hτ
 replace h:=iteF hb h
 refine zL 0 fun τ hτ=>?_
 refine th_exit ?_
 obtain rfl:=osi h
 exact zF hτ
 intro x
 rcases x with _ | _ <;> rfl
 intro τ hτ
 rcases x52 with j53 | j54
 refine bl_ret (th_ret ?_)
 obtain rfl:=osi h
 exact zV hτ [(10,vI 12)]
 refine zQ (zE hτ ⟨[(0,s_Sheet sheets),(1,s_Piece pieces),(3,s_Placement l),(7,.ptr 500000 0),(9,.ptr 500001 0),(11,.ptr 500002 0)],[(500000,.box (c_Settings set2)),(500001,.box (c_Placement at4)),(500002,.box [(vS r8.1.Name),(vS r8.1.Material),(vI r8.1.Gauge),(vI r8.1.Grain),(ro 500003 86),(ro 500004 86),(ro 500005 86)]),(500003,w_Rect 86 r8.1.Rects),(500004,w_Rect 86 r8.1.Cuts),(500005,w_Rect 86 r8.1.Forms)]⟩ (z7 ?_))
 refine zA 3 ?_
 obtain ⟨x56,hx56,h⟩:=bindS h
 refine evs_op (st_idx (c:=c_Sheet) (l:=sheets) (i:=at4.Sheet) (kd:=.i64) (sz:=8) (by kernel_rfl) hx56 rfl) (z1 3 ⟨[(1,s_Piece pieces),(3,s_Placement l),(7,.ptr 500000 0),(9,.ptr 500001 0),(11,.ptr 500002 0),(14,.ptr 14 0)],[(14,.box (c_Sheet x56)),(500000,.box (c_Settings set2)),(500001,.box (c_Placement at4)),(500002,.box [(vS r8.1.Name),(vS r8.1.Material),(vI r8.1.Gauge),(vI r8.1.Grain),(ro 500003 86),(ro 500004 86),(ro 500005 86)]),(500003,w_Rect 86 r8.1.Rects),(500004,w_Rect 86 r8.1.Cuts),(500005,w_Rect 86 r8.1.Forms)]⟩ (zB ?_))
 refine zB ?_
 obtain ⟨j64,hj64,h⟩:=bindS h
 refine zT ⟨[(1,s_Piece pieces),(3,s_Placement l),(7,.ptr 500000 0),(9,.ptr 500001 0),(11,.ptr 500002 0),(84,vB j64)],[(500000,.box (c_Settings set2)),(500001,.box (c_Placement at4)),(500002,.box [(vS r8.1.Name),(vS r8.1.Material),(vI r8.1.Gauge),(vI r8.1.Grain),(ro 500003 86),(ro 500004 86),(ro 500005 86)]),(500003,w_Rect 86 r8.1.Rects),(500004,w_Rect 86 r8.1.Cuts),(500005,w_Rect 86 r8.1.Forms)]⟩ ?_ fun τ hτ=>?_
 replace h:=hj64
 refine zA 4 ?_
 obtain ⟨r65,hr65,h⟩:=bindS h
 refine evs_callP [500003,500004,500005] (by kernel_rfl) (W.sheetmetalref06_Allowed_ok hr65) (by kernel_rfl) (.inr rfl) (by kernel_rfl) (zA 2 (zS r65 (fun b0=>⟨[(1,s_Piece pieces),(3,s_Placement l),(7,.ptr 500000 0),(9,.ptr 500001 0),(11,.ptr 500002 0),(14,.ptr 14 0),(77,vB (!b0))],[(14,.box (c_Sheet x56)),(500000,.box (c_Settings set2)),(500001,.box (c_Placement at4)),(500002,.box [(vS r8.1.Name),(vS r8.1.Material),(vI r8.1.Gauge),(vI r8.1.Grain),(ro 500003 86),(ro 500004 86),(ro 500005 86)]),(500003,w_Rect 86 r8.1.Rects),(500004,w_Rect 86 r8.1.Cuts),(500005,w_Rect 86 r8.1.Forms)]⟩) (fun hb=>?_) fun hb=>?_))
 replace h:=iteT hb h
 refine zA 4 ?_
 obtain ⟨r66,hr66,h⟩:=bindS h
 refine evs_callP [500003] (by kernel_rfl) (W.sheetmetalref06_well_ok hr66) (by kernel_rfl) (.inr rfl) (by kernel_rfl) (z6 2 fun τ hτ=>?_)
 obtain rfl:=osi h
 exact zG hτ
 replace h:=iteF hb h
 refine z6 7 fun τ hτ=>?_
 obtain rfl:=osi h
 exact zG hτ
 refine zE hτ ⟨[(1,s_Piece pieces),(3,s_Placement l),(7,.ptr 500000 0),(9,.ptr 500001 0),(11,.ptr 500002 0),(84,vB j64)],[(500000,.box (c_Settings set2)),(500001,.box (c_Placement at4)),(500002,.box [(vS r8.1.Name),(vS r8.1.Material),(vI r8.1.Gauge),(vI r8.1.Grain),(ro 500003 86),(ro 500004 86),(ro 500005 86)]),(500003,w_Rect 86 r8.1.Rects),(500004,w_Rect 86 r8.1.Cuts),(500005,w_Rect 86 r8.1.Forms)]⟩ (zI j64 (fun hb=>?_) fun hb=>?_)
 replace h:=iteT hb h
 refine z8 1 ⟨[(10,vI 13)],[]⟩ fun τ hτ=>?_
 refine th_ret ?_
 obtain rfl:=osi h
 exact zV hτ [(10,vI 13)]
 replace h:=iteF hb h
 refine z4 ⟨[(1,s_Piece pieces),(3,s_Placement l),(7,.ptr 500000 0),(9,.ptr 500001 0),(11,.ptr 500002 0)],[(500000,.box (c_Settings set2)),(500001,.box (c_Placement at4)),(500002,.box [(vS r8.1.Name),(vS r8.1.Material),(vI r8.1.Gauge),(vI r8.1.Grain),(ro 500003 86),(ro 500004 86),(ro 500005 86)]),(500003,w_Rect 86 r8.1.Rects),(500004,w_Rect 86 r8.1.Cuts),(500005,w_Rect 86 r8.1.Forms)]⟩ (zB (z3 1 ⟨[(1,s_Piece pieces),(3,s_Placement l),(7,.ptr 500000 0),(9,.ptr 500001 0),(11,.ptr 500002 0),(15,vI 0)],[(500000,.box (c_Settings set2)),(500001,.box (c_Placement at4)),(500002,.box [(vS r8.1.Name),(vS r8.1.Material),(vI r8.1.Gauge),(vI r8.1.Grain),(ro 500003 86),(ro 500004 86),(ro 500005 86)]),(500003,w_Rect 86 r8.1.Rects),(500004,w_Rect 86 r8.1.Cuts),(500005,w_Rect 86 r8.1.Forms)]⟩ ?_))
 refine zC ?_
 obtain ⟨x302,hx302,h⟩:=bindS h
 refine sem_loopS (fun (s225 : Int)=>⟨[(1,s_Piece pieces),(3,s_Placement l),(7,.ptr 500000 0),(9,.ptr 500001 0),(11,.ptr 500002 0),(15,vI s225)],[(500000,.box (c_Settings set2)),(500001,.box (c_Placement at4)),(500002,.box [(vS r8.1.Name),(vS r8.1.Material),(vI r8.1.Gauge),(vI r8.1.Grain),(ro 500003 86),(ro 500004 86),(ro 500005 86)]),(500003,w_Rect 86 r8.1.Rects),(500004,w_Rect 86 r8.1.Cuts),(500005,w_Rect 86 r8.1.Forms)]⟩) (fun (x302 : Unit ⊕ Unit)=>match x302 with | .inl j303=>(.ret,⟨[(10,vI 7)],[]⟩) | .inr j304=>(.exit 2,⟨[],[]⟩)) (sheetmetalref06_one_l2 pieces set2 l at4 r8) 0 x302 (by kernel_rfl) (here (by kernel_rfl)) hx302 ?_ ?_ ?_
 intro s225 r h
 refine zB (z7 (zA 2 ?_))
 refine evs_op (st_len (c:=c_Placement) (l:=l) (x:=(s_Placement l)) (by kernel_rfl) (by kernel_rfl)) (z1 1 ⟨[(1,s_Piece pieces),(3,s_Placement l),(7,.ptr 500000 0),(9,.ptr 500001 0),(11,.ptr 500002 0),(15,vI s225),(88,vB (decide (s225 < (l.length : Int))))],[(500000,.box (c_Settings set2)),(500001,.box (c_Placement at4)),(500002,.box [(vS r8.1.Name),(vS r8.1.Material),(vI r8.1.Gauge),(vI r8.1.Grain),(ro 500003 86),(ro 500004 86),(ro 500005 86)]),(500003,w_Rect 86 r8.1.Rects),(500004,w_Rect 86 r8.1.Cuts),(500005,w_Rect 86 r8.1.Forms)]⟩ (zI (decide (s225 < (l.length : Int))) (fun hb=>?_) fun hb=>?_))
 replace h:=iteT hb h
 refine z4 ⟨[(1,s_Piece pieces),(3,s_Placement l),(7,.ptr 500000 0),(9,.ptr 500001 0),(11,.ptr 500002 0),(15,vI s225)],[(500000,.box (c_Settings set2)),(500001,.box (c_Placement at4)),(500002,.box [(vS r8.1.Name),(vS r8.1.Material),(vI r8.1.Gauge),(vI r8.1.Grain),(ro 500003 86),(ro 500004 86),(ro 500005 86)]),(500003,w_Rect 86 r8.1.Rects),(500004,w_Rect 86 r8.1.Cuts),(500005,w_Rect 86 r8.1.Forms)]⟩ (zB (zC ?_))
 refine zB (sem_draw [(12,[700600,700601,700602,700603]),(16,[16]),(17,[16])] [(12,[700600,700601,700602,700603]),(16,[16])] [] [(0,[16]),(1,[16]),(2,[16]),(3,[16]),(4,[16]),(5,[16]),(6,[16]),(7,[16]),(8,[16]),(9,[16]),(10,[16]),(11,[16]),(12,[16]),(13,[16]),(14,[16]),(15,[16]),(16,[700600,700601,700602,700603])] [(0,[700600,700601,700602,700603,16]),(1,[700600,700601,700602,700603,16]),(2,[700600,700601,700602,700603,16]),(3,[700600,700601,700602,700603,16]),(4,[700600,700601,700602,700603,16]),(5,[700600,700601,700602,700603,16]),(6,[700600,700601,700602,700603,16]),(7,[700600,700601,700602,700603,16]),(8,[700600,700601,700602,700603,16]),(9,[700600,700601,700602,700603,16]),(10,[700600,700601,700602,700603,16]),(11,[700600,700601,700602,700603,16]),(12,[16]),(13,[16]),(14,[16]),(15,[16]),(16,[700600,700601,700602,700603])] 18 (by kernel_rfl) (by kernel_rfl) [700600,700601,700602,700603,16] (by kernel_rfl) (by kernel_rfl) (evd_run 3 (by kernel_rfl) ?_))
 obtain ⟨x291,hx291,h⟩:=bindS h
 refine evd_val (by kernel_rfl) (st_idx (c:=c_Placement) (l:=l) (i:=s225) (kd:=.i64) (sz:=5) (by kernel_rfl) hx291 rfl) (by kernel_rfl) (by kernel_rfl) (evd_run 2 (by kernel_rfl) ?_)
 obtain ⟨x292,hx292,h⟩:=bindS h
 refine evd_val (by kernel_rfl) (st_idx (c:=c_Piece) (l:=pieces) (i:=x291.Piece) (kd:=.i64) (sz:=7) (by kernel_rfl) hx292 rfl) (by kernel_rfl) (by kernel_rfl) (evd_run 3 (by kernel_rfl) ?_)
 obtain ⟨x293,hx293,h⟩:=bindS h
 refine evd_val (by kernel_rfl) (st_idx (c:=c_Placement) (l:=l) (i:=s225) (kd:=.i64) (sz:=5) (by kernel_rfl) hx293 rfl) (by kernel_rfl) (by kernel_rfl) (evd_run 1 (by kernel_rfl) ?_)
 obtain ⟨r294,hr294,h⟩:=bindS h
 refine evd_callS [(0,700600),(1,700601),(2,700602),(3,700603)] [] (by kernel_rfl) (by kernel_rfl) (W.sheetmetalref06_Put_ok hr294) (by kernel_rfl) (.inl rfl) (by kernel_rfl) (by kernel_rfl) (evd_run 3 (by kernel_rfl) (evd_new (g:=16) (ob:=.box [(vS ByteArray.empty),(vS ByteArray.empty),(vI 0),(vI 0),.nl,.nl,.nl]) (v:=(.ptr 16 0)) (by kernel_rfl) (by kernel_rfl) (by kernel_rfl) (by kernel_rfl) (by kernel_rfl) (by kernel_rfl) ?_))
 refine evd_set (g:=16) (ob:=.box [(vS r294.1.Name),(vS r294.1.Material),(vI r294.1.Gauge),(vI r294.1.Grain),(ro 700601 86),(ro 700602 86),(ro 700603 86)]) (v:=vU) (by kernel_rfl) (by kernel_rfl) (by kernel_rfl) (by kernel_rfl) (by kernel_rfl) (evd_end (by kernel_rfl) (evo_run 1 (by kernel_rfl) ?_))
 refine zO fun τ hτ=>?_
 refine zE hτ ⟨[(1,s_Piece pieces),(3,s_Placement l),(7,.ptr 500000 0),(9,.ptr 500001 0),(11,.ptr 500002 0),(15,vI s225),(16,.ptr 16 0)],[(16,.box [(vS r294.1.Name),(vS r294.1.Material),(vI r294.1.Gauge),(vI r294.1.Grain),(ro 700601 86),(ro 700602 86),(ro 700603 86)]),(500000,.box (c_Settings set2)),(500001,.box (c_Placement at4)),(500002,.box [(vS r8.1.Name),(vS r8.1.Material),(vI r8.1.Gauge),(vI r8.1.Grain),(ro 500003 86),(ro 500004 86),(ro 500005 86)]),(500003,w_Rect 86 r8.1.Rects),(500004,w_Rect 86 r8.1.Cuts),(500005,w_Rect 86 r8.1.Forms),(700601,w_Rect 86 r294.1.Rects),(700602,w_Rect 86 r294.1.Cuts),(700603,w_Rect 86 r294.1.Forms)]⟩ (zB ?_)
 obtain ⟨j299,hj299,h⟩:=bindS h
 refine sem_drawP ⟨[(1,s_Piece pieces),(3,s_Placement l),(7,.ptr 500000 0),(9,.ptr 500001 0),(11,.ptr 500002 0),(15,vI s225),(123,vB j299)],[(500000,.box (c_Settings set2)),(500001,.box (c_Placement at4)),(500002,.box [(vS r8.1.Name),(vS r8.1.Material),(vI r8.1.Gauge),(vI r8.1.Grain),(ro 500003 86),(ro 500004 86),(ro 500005 86)]),(500003,w_Rect 86 r8.1.Rects),(500004,w_Rect 86 r8.1.Cuts),(500005,w_Rect 86 r8.1.Forms)]⟩ [] [] [] [] [] 14 (by kernel_rfl) (by kernel_rfl) (by kernel_rfl) ?_ fun τ hτ=>?_
 replace h:=hj299
 refine evd_run 2 (by kernel_rfl) ?_
 obtain ⟨x300,hx300,h⟩:=bindS h
 refine evd_val (by kernel_rfl) (st_idx (c:=c_Placement) (l:=l) (i:=s225) (kd:=.i64) (sz:=5) (by kernel_rfl) hx300 rfl) (by kernel_rfl) (by kernel_rfl) (evd_run 6 (by kernel_rfl) (evd_split (x300.Sheet == at4.Sheet) (fun b0=>⟨[(115,vB b0),(114,vB b0),(113,vI at4.Sheet),(112,.ptr 500001 1),(111,vI x300.Sheet),(110,.vptr (c_Placement x300) 1),(109,.vptr (c_Placement x300) 0),(108,vI s225),(107,s_Placement l),(1,s_Piece pieces),(3,s_Placement l),(7,.ptr 500000 0),(9,.ptr 500001 0),(11,.ptr 500002 0),(15,vI s225),(16,.ptr 16 0)],[(16,.box [(vS r294.1.Name),(vS r294.1.Material),(vI r294.1.Gauge),(vI r294.1.Grain),(ro 700601 86),(ro 700602 86),(ro 700603 86)]),(500000,.box (c_Settings set2)),(500001,.box (c_Placement at4)),(500002,.box [(vS r8.1.Name),(vS r8.1.Material),(vI r8.1.Gauge),(vI r8.1.Grain),(ro 500003 86),(ro 500004 86),(ro 500005 86)]),(500003,w_Rect 86 r8.1.Rects),(500004,w_Rect 86 r8.1.Cuts),(500005,w_Rect 86 r8.1.Forms),(700601,w_Rect 86 r294.1.Rects),(700602,w_Rect 86 r294.1.Cuts),(700603,w_Rect 86 r294.1.Forms)]⟩) (by kernel_rfl) (fun hb=>?_) fun hb=>?_))
 replace h:=iteT hb h
 refine evd_run 5 (by kernel_rfl) (evd_end (by kernel_rfl) ?_)
 obtain ⟨r301,hr301,h⟩:=bindS h
 refine evo_callP [500003,700601] (by kernel_rfl) (W.sheetmetalref06_Clear_ok hr301) (by kernel_rfl) (.inr rfl) (by kernel_rfl) (evo_run 2 (by kernel_rfl) (zO fun τ hτ=>?_))
 obtain rfl:=osi h
 exact zG hτ
 replace h:=iteF hb h
 refine evd_run 5 (by kernel_rfl) (evd_end (by kernel_rfl) (evo_run 3 (by kernel_rfl) ?_))
 refine zO fun τ hτ=>?_
 obtain rfl:=osi h
 exact zG hτ
 refine zE hτ ⟨[(1,s_Piece pieces),(3,s_Placement l),(7,.ptr 500000 0),(9,.ptr 500001 0),(11,.ptr 500002 0),(15,vI s225),(123,vB j299)],[(500000,.box (c_Settings set2)),(500001,.box (c_Placement at4)),(500002,.box [(vS r8.1.Name),(vS r8.1.Material),(vI r8.1.Gauge),(vI r8.1.Grain),(ro 500003 86),(ro 500004 86),(ro 500005 86)]),(500003,w_Rect 86 r8.1.Rects),(500004,w_Rect 86 r8.1.Cuts),(500005,w_Rect 86 r8.1.Forms)]⟩ (zI j299 (fun hb=>?_) fun hb=>?_)
 replace h:=iteT hb h
 refine z8 1 ⟨[(10,vI 7)],[]⟩ fun τ hτ=>?_
 refine bl_ret (th_ret ?_)
 obtain rfl:=osi h
 exact zF hτ
 replace h:=iteF hb h
 refine zM fun τ hτ=>?_
 refine bl_normal (zE hτ ⟨[(1,s_Piece pieces),(3,s_Placement l),(7,.ptr 500000 0),(9,.ptr 500001 0),(11,.ptr 500002 0),(15,vI s225)],[(500000,.box (c_Settings set2)),(500001,.box (c_Placement at4)),(500002,.box [(vS r8.1.Name),(vS r8.1.Material),(vI r8.1.Gauge),(vI r8.1.Grain),(ro 500003 86),(ro 500004 86),(ro 500005 86)]),(500003,w_Rect 86 r8.1.Rects),(500004,w_Rect 86 r8.1.Cuts),(500005,w_Rect 86 r8.1.Forms)]⟩ (zD ?_))
 refine z6 3 fun τ hτ=>?_
 obtain rfl:=osi h
 exact zH hτ
 replace h:=iteF hb h
 refine zL 2 fun τ hτ=>?_
 refine th_exit ?_
 obtain rfl:=osi h
 exact zF hτ
 intro x
 rcases x with _ | _ <;> rfl
 intro τ hτ
 rcases x302 with j303 | j304
 refine bl_ret (th_ret ?_)
 obtain rfl:=osi h
 exact zV hτ [(10,vI 7)]
 refine zQ (zE hτ ⟨[],[]⟩ (z8 1 ⟨[(10,vI 0)],[]⟩ fun τ hτ=>?_))
 obtain rfl:=osi h
 exact zV hτ [(10,vI 0)]
theorem W.sheetmetalref06_Check_ok {sheets : (List Sheet)} {pieces : (List Piece)} {set2 : Settings} {l : (List Placement)} {r : Int × Int} (h : sheetmetalref06_Check sheets pieces set2 l = some r) : PC G.P 33 [(.sl (List.map c_Sheet sheets)),(.sl (List.map c_Piece pieces)),(.agg (c_Settings set2)),(.sl (List.map c_Placement l))] [] (.tup [(vI r.1),(vI r.2)]) []:=by
 refine zU G Tryz.func33 (zK ⟨[(0,s_Sheet sheets),(1,s_Piece pieces),(2,.agg (c_Settings set2)),(3,s_Placement l)],[]⟩ (z3 3 ⟨[(0,s_Sheet sheets),(1,s_Piece pieces),(3,s_Placement l),(6,.ptr 6 0)],[(6,.box (c_Settings set2))]⟩ ?_))
 refine z7 (zA 2 ?_)
 obtain ⟨r2,hr2,h⟩:=bindS h
 refine evs_callP [] (by kernel_rfl) (W.sheetmetalref06_given_ok hr2) (by kernel_rfl) (.inl rfl) (by kernel_rfl) (z1 1 ⟨[(0,s_Sheet sheets),(1,s_Piece pieces),(3,s_Placement l),(6,.ptr 6 0),(10,vI r2)],[(6,.box (c_Settings set2))]⟩ (zB ?_))
 refine z3 2 ⟨[(0,s_Sheet sheets),(1,s_Piece pieces),(3,s_Placement l),(6,.ptr 6 0),(10,vI r2),(16,vB (r2 != 0))],[(6,.box (c_Settings set2))]⟩ (zI (r2 != 0) (fun hb=>?_) fun hb=>?_)
 replace h:=iteT hb h
 refine z8 3 ⟨[(8,vI 0),(9,vI r2)],[]⟩ fun τ hτ=>?_
 refine th_ret ?_
 obtain rfl:=osi h
 exact zV hτ [(8,vI 0),(9,vI r2)]
 replace h:=iteF hb h
 refine z4 ⟨[(0,s_Sheet sheets),(1,s_Piece pieces),(3,s_Placement l),(6,.ptr 6 0)],[(6,.box (c_Settings set2))]⟩ (zB (z7 ?_))
 refine zA 1 ?_
 obtain ⟨r6,hr6,h⟩:=bindS h
 refine evs_callP [] (by kernel_rfl) (W.sheetmetalref06_ValidSettings_ok hr6) (by kernel_rfl) (.inl rfl) (by kernel_rfl) (z1 1 ⟨[(0,s_Sheet sheets),(1,s_Piece pieces),(3,s_Placement l),(6,.ptr 6 0),(20,vB (!r6))],[(6,.box (c_Settings set2))]⟩ (zI (!r6) (fun hb=>?_) fun hb=>?_))
 replace h:=iteT hb h
 refine z8 2 ⟨[(8,vI 0),(9,vI 1)],[]⟩ fun τ hτ=>?_
 refine th_ret ?_
 obtain rfl:=osi h
 exact zV hτ [(8,vI 0),(9,vI 1)]
 replace h:=iteF hb h
 refine z4 ⟨[(0,s_Sheet sheets),(1,s_Piece pieces),(3,s_Placement l),(6,.ptr 6 0)],[(6,.box (c_Settings set2))]⟩ (zB (z3 1 ⟨[(0,s_Sheet sheets),(1,s_Piece pieces),(3,s_Placement l),(6,.ptr 6 0),(11,vI 0)],[(6,.box (c_Settings set2))]⟩ ?_))
 refine zC ?_
 obtain ⟨x122,hx122,h⟩:=bindS h
 refine sem_loopS (fun (s85 : Int)=>⟨[(0,s_Sheet sheets),(1,s_Piece pieces),(3,s_Placement l),(6,.ptr 500000 0),(11,vI s85)],[(500000,.box (c_Settings set2))]⟩) (fun (x122 : (Int × Int) ⊕ Unit)=>match x122 with | .inl j123=>(.ret,⟨[(8,vI j123.1),(9,vI j123.2)],[]⟩) | .inr j124=>(.exit 0,⟨[],[]⟩)) (sheetmetalref06_Check_l1 sheets pieces set2 l) 0 x122 (by kernel_rfl) (subR_prep [] [(6,500000)] (by kernel_rfl) rfl rfl (by kernel_rfl)) hx122 ?_ ?_ ?_
 intro s85 r h
 refine zB (z7 (zA 2 ?_))
 refine evs_op (st_len (c:=c_Placement) (l:=l) (x:=(s_Placement l)) (by kernel_rfl) (by kernel_rfl)) (z1 1 ⟨[(0,s_Sheet sheets),(1,s_Piece pieces),(3,s_Placement l),(6,.ptr 500000 0),(11,vI s85),(24,vB (decide (s85 < (l.length : Int))))],[(500000,.box (c_Settings set2))]⟩ (zI (decide (s85 < (l.length : Int))) (fun hb=>?_) fun hb=>?_))
 replace h:=iteT hb h
 refine z4 ⟨[(0,s_Sheet sheets),(1,s_Piece pieces),(3,s_Placement l),(6,.ptr 500000 0),(11,vI s85)],[(500000,.box (c_Settings set2))]⟩ (zB (zC ?_))
 refine zB (sem_drawN [] [] [] [] [] 10 (by kernel_rfl) (by kernel_rfl) (by kernel_rfl) (evd_run 5 (by kernel_rfl) ?_))
 obtain ⟨l119,hl119,h⟩:=bindS h
 refine evd_val (by kernel_rfl) (st_slH (c:=c_Placement) (l:=l) (sz:=5) (hi:=s85) (k2:=.i64) (by kernel_rfl) hl119) (by kernel_rfl) (by kernel_rfl) (evd_run 2 (by kernel_rfl) ?_)
 obtain ⟨x120,hx120,h⟩:=bindS h
 refine evd_val (by kernel_rfl) (st_idx (c:=c_Placement) (l:=l) (i:=s85) (kd:=.i64) (sz:=5) (by kernel_rfl) hx120 rfl) (by kernel_rfl) (by kernel_rfl) (evd_run 1 (by kernel_rfl) (evd_end (by kernel_rfl) ?_))
 obtain ⟨r121,hr121,h⟩:=bindS h
 refine evo_callP [] (by kernel_rfl) (W.sheetmetalref06_one_ok hr121) (by kernel_rfl) (.inl rfl) (by kernel_rfl) (evo_run 1 (by kernel_rfl) (zO fun τ hτ=>?_))
 refine zE hτ ⟨[(0,s_Sheet sheets),(1,s_Piece pieces),(3,s_Placement l),(6,.ptr 500000 0),(10,vI r121),(11,vI s85)],[(500000,.box (c_Settings set2))]⟩ (z3 2 ⟨[(0,s_Sheet sheets),(1,s_Piece pieces),(3,s_Placement l),(6,.ptr 500000 0),(10,vI r121),(11,vI s85),(39,vB (r121 != 0))],[(500000,.box (c_Settings set2))]⟩ (zI (r121 != 0) (fun hb=>?_) fun hb=>?_))
 replace h:=iteT hb h
 refine z8 4 ⟨[(8,vI s85),(9,vI r121)],[]⟩ fun τ hτ=>?_
 refine bl_ret (th_ret ?_)
 obtain rfl:=osi h
 exact zF hτ
 replace h:=iteF hb h
 refine zM fun τ hτ=>?_
 refine bl_normal (zE hτ ⟨[(0,s_Sheet sheets),(1,s_Piece pieces),(3,s_Placement l),(6,.ptr 500000 0),(11,vI s85)],[(500000,.box (c_Settings set2))]⟩ (zD ?_))
 refine z6 3 fun τ hτ=>?_
 obtain rfl:=osi h
 exact zH hτ
 replace h:=iteF hb h
 refine zL 0 fun τ hτ=>?_
 refine th_exit ?_
 obtain rfl:=osi h
 exact zF hτ
 intro x
 rcases x with _ | _ <;> rfl
 intro τ hτ
 rcases x122 with j123 | j124
 refine bl_ret (th_ret ?_)
 obtain rfl:=osi h
 exact zV hτ [(8,vI j123.1),(9,vI j123.2)]
 refine zQ (zE hτ ⟨[],[]⟩ (z8 2 ⟨[(8,vI 0),(9,vI 0)],[]⟩ fun τ hτ=>?_))
 obtain rfl:=osi h
 exact zV hτ [(8,vI 0),(9,vI 0)]
theorem W.sheetmetallaw06_NestChecks_ok {j0 : sheetmetallaw06_Job} {l : (List Placement)} {r : Bool} (h : sheetmetallaw06_NestChecks j0 l = some r) : PC G.P 10 [(.agg (c_sheetmetallaw06_Job j0)),(.sl (List.map c_Placement l))] [] (vB r) []:=by
 refine zU G Tryz.func10 (zK ⟨[(0,.agg (c_sheetmetallaw06_Job j0)),(1,s_Placement l)],[]⟩ (z3 2 ⟨[(1,s_Placement l),(2,.ptr 2 0)],[(2,.box (c_sheetmetallaw06_Job j0))]⟩ ?_))
 refine zB (z7 (zA 1 ?_))
 refine evs_op (st_len (c:=c_Placement) (l:=l) (x:=(s_Placement l)) (by kernel_rfl) (by kernel_rfl)) (z1 1 ⟨[(1,s_Placement l),(2,.ptr 2 0),(11,vB (decide ((l.length : Int) > 40)))],[(2,.box (c_sheetmetallaw06_Job j0))]⟩ (zI (decide ((l.length : Int) > 40)) (fun hb=>?_) fun hb=>?_))
 replace h:=iteT hb h
 refine z7 ?_
 obtain ⟨r4,hr4,h⟩:=bindS h
 refine evs_callP [] (by kernel_rfl) (W.sheetmetallaw06_known_k_ok hr4) (by kernel_rfl) (.inl rfl) (by kernel_rfl) (z1 1 ⟨[(4,vB r4)],[]⟩ (zN fun τ hτ=>?_))
 refine th_ret ?_
 obtain rfl:=osi h
 exact zV hτ [(4,vB r4)]
 replace h:=iteF hb h
 refine z4 ⟨[(1,s_Placement l),(2,.ptr 2 0)],[(2,.box (c_sheetmetallaw06_Job j0))]⟩ (z7 (zA 7 ?_))
 obtain ⟨r6,hr6,h⟩:=bindS h
 refine evs_callP [] (by kernel_rfl) (W.nest_Check_ok hr6) (by kernel_rfl) (.inl rfl) (by kernel_rfl) (z1 5 ⟨[(1,s_Placement l),(2,.ptr 2 0),(5,vI r6.1),(6,vI r6.2)],[(2,.box (c_sheetmetallaw06_Job j0))]⟩ (z7 ?_))
 refine zA 7 ?_
 obtain ⟨r8,hr8,h⟩:=bindS h
 refine evs_callP [] (by kernel_rfl) (W.sheetmetalref06_Check_ok hr8) (by kernel_rfl) (.inl rfl) (by kernel_rfl) (z1 5 ⟨[(5,vI r6.1),(6,vI r6.2),(7,vI r8.1),(8,vI r8.2)],[]⟩ (zB ?_))
 obtain ⟨j10,hj10,h⟩:=bindS h
 refine zT ⟨[(4,vB j10)],[]⟩ ?_ fun τ hτ=>?_
 replace h:=hj10
 refine zA 4 (zS (r6.1 == r8.1) (fun b0=>⟨[(6,vI r6.2),(8,vI r8.2),(38,vB b0)],[]⟩) (fun hb=>?_) fun hb=>?_)
 replace h:=iteT hb h
 refine zA 5 (zS (r6.2 == r8.2) (fun b0=>⟨[(43,vB b0)],[]⟩) (fun hb=>?_) fun hb=>?_)
 replace h:=iteT hb h
 obtain ⟨r11,hr11,h⟩:=bindS h
 refine evs_callP [] (by kernel_rfl) (W.sheetmetallaw06_known_k_ok hr11) (by kernel_rfl) (.inl rfl) (by kernel_rfl) (z6 2 fun τ hτ=>?_)
 obtain rfl:=osi h
 exact zG hτ
 replace h:=iteF hb h
 refine z6 3 fun τ hτ=>?_
 obtain rfl:=osi h
 exact zG hτ
 replace h:=iteF hb h
 refine z6 8 fun τ hτ=>?_
 obtain rfl:=osi h
 exact zG hτ
 refine zE hτ ⟨[(4,vB j10)],[]⟩ (zN fun τ hτ=>?_)
 obtain rfl:=osi h
 exact zV hτ [(4,vB j10)]
end Go.Proofs.YtonmponhpfpokaaGreatR
