/- Each Go function does what its model says; written by a program out of the translation. -/
import Derived.Test.YtgfjbgoehhnaeaaGreatWG1
import Derived.Test.YtgfjbgoehhnaeaaGreatCzMG
set_option linter.unusedVariables false
set_option linter.unusedSimpArgs false
set_option linter.unusedSectionVars false
namespace Go.Proofs.YtgfjbgoehhnaeaaGreat
open Go Go.VI Go.SM Go.Proofs
set_option maxRecDepth 100000
set_option maxHeartbeats 4000000
theorem W.cut_State_clone_kG_ok {st r} (h : cut_State_clone_kG st=some r) : PC G.P 117 [(.agg (c_cut_State st))] [] (.agg [(.row (.top 1) 4),(.row (.top 2) 36),(.row (.top 3) 4),(.row (.top 4) 3),(.row (.top 5) 4)]) [(0,.box [(.row (.top 1) 4),(.row (.top 2) 36),(.row (.top 3) 4),(.row (.top 4) 3),(.row (.top 5) 4)]),(1,.row 4 [] (List.map cB r.Cut)),(2,.row 36 [(0,4)] (List.map (cS cB) r.Holes)),(3,.row 4 [] (List.map cB r.Done)),(4,.row 3 [] (List.map cI r.Joints)),(5,.row 4 [] (List.map cB r.Fallen))]:=by
 refine zU G Tryz.func117 (yK [0] [] (y3 2 [1,2] [1,2] (zB (sem_draw [(2,[700100]),(5,[700250]),(8,[700400]),(11,[700550]),(13,[3])] [(2,[700100]),(5,[700250]),(8,[700400]),(11,[700550]),(13,[3])] [] [(0,[3]),(1,[3]),(2,[3]),(3,[700100,3]),(4,[700100,3]),(5,[3]),(6,[700100,700250,3]),(7,[700100,700250,3]),(8,[3]),(9,[700100,700250,700400,3]),(10,[700100,700250,700400,3]),(11,[3]),(12,[3]),(13,[700100,700250,700400,700550])] [(0,[700100,700250,700400,700550,3]),(1,[700100,700250,700400,700550,3]),(2,[700250,700400,700550,3]),(3,[700100,700250,700400,700550,3]),(4,[700100,700250,700400,700550,3]),(5,[700400,700550,3]),(6,[700100,700250,700400,700550,3]),(7,[700100,700250,700400,700550,3]),(8,[700550,3]),(9,[700100,700250,700400,700550,3]),(10,[700100,700250,700400,700550,3]),(11,[3]),(12,[3]),(13,[700100,700250,700400,700550])] 14 (by kernel_rfl) (by kernel_rfl) [700100,700250,700400,700550,3] (by kernel_rfl) (by kernel_rfl) (dN 2 ?_)))))
 obtain ⟨r9,hr9,h⟩:=bindS h
 refine dC [(0,700100)] (W.slices_Clone_Lbool_bool''_ok hr9) (dN 2 ?_)
 obtain ⟨r10,hr10,h⟩:=bindS h
 refine dC [(0,700250)] (W.slices_Clone_Lbool_bool''_ok hr10) (dN 2 ?_)
 obtain ⟨r11,hr11,h⟩:=bindS h
 refine dC [(0,700400)] (W.slices_Clone_Lint_int''_ok hr11) (dN 2 ?_)
 obtain ⟨r12,hr12,h⟩:=bindS h
 refine dC [(0,700550)] (W.slices_Clone_Lbool_bool''_ok hr12) (dN 1 (evd_new (g:=3) (ob:=.box [.nl,.nl,.nl,.nl,.nl]) (v:=(.ptr 3 0)) (by kernel_rfl) (by kernel_rfl) (by kernel_rfl) (by kernel_rfl) (by kernel_rfl) (by kernel_rfl) (dE (oN 1 (zO fun τ hτ=>?_)))))
 refine yE hτ [1,2,3] [1,2,3,700100,700250,700400,700550] (zB (z7 (zA 2 (qL (cS cB) st.Holes (y1 1 [2,3,20,21,22] [2,3,700100,700250,700400,700550] (zC ?_))))))
 obtain ⟨x114,hx114,h⟩:=bindS h
 refine ql hx114 (fun s81=>⟨[(2,.ptr 500000 0),(3,.ptr 500001 0),(20,.sl (List.map (cS cB) st.Holes)),(21,vI (st.Holes.length : Int)),(22,vI s81.1)],[(500000,.box [.nl,.nl,.nl,.nl,.nl]),(500001,.box [(ro 500002 4),(ro 500003 36),(ro 500004 4),(ro 500005 3),(ro 500006 4)]),(500002,wB 4 r9),(500003,.row 36 [(0,4)] (List.map (cS cB) s81.2)),(500004,wB 4 r10),(500005,wI 3 r11),(500006,wB 4 r12)]⟩) (fun x114=>(.exit 0,⟨[(2,.ptr 500000 0),(3,.ptr 500001 0)],[(500000,.box [.nl,.nl,.nl,.nl,.nl]),(500001,.box [(ro 500002 4),(ro 500003 36),(ro 500004 4),(ro 500005 3),(ro 500006 4)]),(500002,wB 4 r9),(500003,.row 36 [(0,4)] (List.map (cS cB) x114)),(500004,wB 4 r10),(500005,wI 3 r11),(500006,wB 4 r12)]⟩)) (sp [.row (.box 3 1) 800000 36 [(0,4)]] [(2,500000),(3,500001),(700100,500002),(700250,500004),(700400,500005),(700550,500006),(800000,500003)]) (fun s81 r h=>?_) fun τ hτ=>?_
 refine y3 1 [2,3,20,21,22,23] [500000,500001,500002,500003,500004,500005,500006] (zB (qc h (fun h=>?_) fun h=>?_))
 refine y4 [2,3,20,21,22] [500000,500001,500002,500003,500004,500005,500006] (zB (zC (z7 ?_)))
 obtain ⟨x107,hx107,h⟩:=bindS h
 refine qX (cS cB) hx107 (y1 2 [2,3,5,20,21,22] [500000,500001,500002,500003,500004,500005,500006] (sem_draw [(3,[700150]),(4,[700150,30])] [(3,[700150]),(4,[30])] [] [(0,[700150,30]),(1,[700150,30])] [(0,[700150,30]),(1,[700150,30]),(2,[700150,30]),(3,[30])] 5 (by kernel_rfl) (by kernel_rfl) [700150,30] (by kernel_rfl) (by kernel_rfl) (dN 3 ?_)))
 obtain ⟨r112,hr112,h⟩:=bindS h
 refine dC [(0,700150)] (W.slices_Clone_Lbool_bool''_ok hr112) (evd_buildJ (c:=(cS cB)) (c2:=cB) (e:=36) (e':=4) (d:=700150) (T:=30) (l:=r112) (x:=r112) (by kernel_rfl) (by kernel_rfl) (by kernel_rfl) (by kernel_rfl) rfl (by kernel_rfl) (by kernel_rfl) (by kernel_rfl) (by kernel_rfl) (dE ?_))
 obtain ⟨l113,hl113,h⟩:=bindS h
 refine evo_at (at_appJ (c:=(cS cB)) (l:=s81.2) (l2:=[r112]) (g:=500003) (T:=30) (e:=36) (J:=[(0,4)]) (sz:=1) (d:=31) (by kernel_rfl) (by kernel_rfl) (by kernel_rfl) (by kernel_rfl) hl113) (oN 2 (zO fun τ hτ=>?_))
 refine bl_normal (yE hτ [2,3,20,21,22] [500000,500001,500002,500003,500004,500005,500006] (zD (z6 2 fun τ hτ=>?_)))
 cases h
 exact zH hτ
 refine zL 0 fun τ hτ=>?_
 refine th_exit ?_
 cases h
 exact zF hτ
 refine zQ (yE hτ [2,3] [500000,500001,500002,500003,500004,500005,500006] (z8 2 ⟨[(2,.ptr 500000 0)],[(500000,.box [(ro 500002 4),(ro 500003 36),(ro 500004 4),(ro 500005 3),(ro 500006 4)]),(500002,wB 4 r9),(500003,.row 36 [(0,4)] (List.map (cS cB) x114)),(500004,wB 4 r10),(500005,wI 3 r11),(500006,wB 4 r12)]⟩ fun τ hτ=>?_))
 obtain rfl:=osi h
 exact qW hτ [(2,.ptr 0 0)] (sp [] [(500000,0),(500002,1),(500003,2),(500004,3),(500005,4),(500006,5)])
theorem W.cut_do_kG_ok {l all st x3 r} (h : cut_do_kG l all st x3=some r) : PC G.P 54 [(.agg (c_LayoutT l)),(.sl (List.map c_EdgeT all)),(.agg (c_cut_State st)),(.agg [(vI x3.Piece),(vI x3.Hole),(vI x3.Joints),(vI x3.Lead.X),(vI x3.Lead.Y)])] [] (.tup [(.agg [(.row (.top 1) 4),(.row (.top 2) 36),(.row (.top 3) 4),(.row (.top 4) 3),(.row (.top 5) 4)]),(vI r.2)]) [(0,.box [(.row (.top 1) 4),(.row (.top 2) 36),(.row (.top 3) 4),(.row (.top 4) 3),(.row (.top 5) 4)]),(1,.row 4 [] (List.map cB r.1.Cut)),(2,.row 36 [(0,4)] (List.map (cS cB) r.1.Holes)),(3,.row 4 [] (List.map cB r.1.Done)),(4,.row 3 [] (List.map cI r.1.Joints)),(5,.row 4 [] (List.map cB r.1.Fallen))]:=by
 refine zU G Tryz.func54 (yK [0,1,2,3] [] (y3 5 [1,4,6,7,8] [4,6,7,8] (zB (zC (z7 (zA 3 ?_))))))
 refine qL c_EdgeT all ?_
 obtain ⟨r15,hr15,h⟩:=bindS h
 refine qP (W.cut_State_fits_kG_ok hr15) (zA 2 (zS r15 (fun b0=>⟨[(1,s_EdgeT all),(4,.ptr 4 0),(6,.ptr 6 0),(7,.ptr 7 0),(8,.ptr 8 0),(21,vB (!b0))],[(4,.box (c_LayoutT l)),(6,.box (c_cut_State st)),(7,.box [(vI x3.Piece),(vI x3.Hole),(vI x3.Joints),(vI x3.Lead.X),(vI x3.Lead.Y)]),(8,.box [.nl,.nl,.nl,.nl,.nl])]⟩) (fun hb=>?_) fun hb=>?_))
 replace h:=iteT hb h
 refine zA 5 (qB h [1,4,6,7,8,26] [4,6,7,8] [26] (fun h=>?_) fun h=>?_)
 exact nomatch h
 refine zA 4 (qL c_Piece l.Pieces (y1 3 [1,4,6,7,8,14] [4,6,7,8] (qc h (fun h=>?_) fun h=>?_)))
 exact nomatch h
 refine zB (qM 14 (dN 4 (evd_split (decide (x3.Hole < (-1))) (fun b0=>⟨[(39,vB b0),(38,vB b0),(37,vI x3.Hole),(36,.ptr 7 1),(1,s_EdgeT all),(4,.ptr 4 0),(6,.ptr 6 0),(7,.ptr 7 0),(8,.ptr 8 0),(14,vB (decide (x3.Piece ≥ (l.Pieces.length : Int))))],[(4,.box (c_LayoutT l)),(6,.box (c_cut_State st)),(7,.box [(vI x3.Piece),(vI x3.Hole),(vI x3.Joints),(vI x3.Lead.X),(vI x3.Lead.Y)]),(8,.box [.nl,.nl,.nl,.nl,.nl])]⟩) (by kernel_rfl) (fun hb=>?_) fun hb=>?_)))
 replace h:=iteT hb h
 exact nomatch h
 replace h:=iteF hb h
 refine dN 6 ?_
 obtain ⟨x18,hx18,h⟩:=bindS h
 refine dX c_Piece hx18 (dN 2 (dL c_Rect x18.Cuts (dE (oN 3 (oB h [1,4,6,7,8,52] [4,6,7,8] [52] (fun h=>?_) fun h=>?_)))))
 exact nomatch h
 refine oN 5 (oB h [1,4,6,7,8,57] [4,6,7,8] [57] (fun h=>?_) fun h=>?_)
 exact nomatch h
 refine oN 5 (oB h [1,4,6,7,8,62] [4,6,7,8] [62] (fun h=>?_) fun h=>?_)
 exact nomatch h
 refine oN 4 (oB h [1,4,6,7,8,62,66] [4,6,7,8] [66] (fun h=>?_) fun h=>?_)
 exact nomatch h
 refine oN 6 (zO fun τ hτ=>?_)
 refine yE hτ [1,4,6,7,8,35] [4,6,7,8] (sem_condF (by kernel_rfl) (by kernel_rfl) (z7 (zA 3 ?_)))
 obtain ⟨r20,hr20,h⟩:=bindS h
 refine qP (W.cut_State_order_kG_ok hr20) (y1 2 [1,4,6,7,8,73] [4,6,7,8] (qc h (fun h=>?_) fun h=>?_))
 exact nomatch h
 refine z7 (zA 4 (qB h [1,4,6,7,8,84] [4,6,7,8] [84] (fun h=>?_) fun h=>?_))
 refine zA 5 (qB h [1,4,6,7,8,89] [4,6,7,8] [89] (fun h=>?_) fun h=>?_)
 refine zA 4 ?_
 obtain ⟨x23,hx23,h⟩:=bindS h
 refine qX c_Piece hx23 (zA 1 ?_)
 obtain ⟨r24,hr24,h⟩:=bindS h
 refine qP (W.cut_Small_kG_ok hr24) (y1 2 [1,4,6,7,8,80] [4,6,7,8] (qc h (fun h=>?_) fun h=>?_))
 exact nomatch h
 refine z7 (zA 4 ?_)
 obtain ⟨r26,hr26,h⟩:=bindS h
 refine qP (W.cut_State_lead_kG_ok hr26) (y1 2 [1,4,6,7,8,99] [4,6,7,8] (qc h (fun h=>?_) fun h=>?_))
 exact nomatch h
 refine zM fun τ hτ=>?_
 refine bl_normal (yE hτ [1,4,6,7,8] [4,6,7,8] (z7 (zA 1 ?_)))
 obtain ⟨r28,hr28,h⟩:=bindS h
 refine qC [] [(0,700050),(1,700051),(2,700052),(3,700053),(4,700054),(5,700055)] (W.cut_State_clone_kG_ok hr28) (y1 2 [1,4,7,8,10] [4,7,8,10,700051,700052,700053,700054,700055] (zB (y3 3 [1,4,7,8,10,111] [4,7,8,10,700051,700052,700053,700054,700055] (qc h (fun h=>?_) fun h=>?_))))
 exact nomatch h
 refine zB (qN [(11,[700053])] [] [] [(4,[700053]),(5,[700053]),(6,[700053]),(7,[700053]),(8,[700053]),(9,[700053])] [] 12 (dN 10 ?_))
 obtain ⟨x81,hx81,h⟩:=bindS h
 refine dI cB hx81 (dS cB true hx81 (dE ?_))
 obtain ⟨x82,hx82,h⟩:=bindS h
 refine oI cI hx82 (oS cI x3.Joints hx82 (zO fun τ hτ=>?_))
 refine yE hτ [1,4,7,8,10] [4,7,8,10,700051,700052,700053,700054,700055] (z7 (zA 1 (qL c_EdgeT all (y1 1 [1,4,7,8,10,133,134,135] [4,7,8,10,700051,700052,700053,700054,700055] (zC ?_)))))
 obtain ⟨x124,hx124,h⟩:=bindS h
 refine ql hx124 (fun s97=>⟨[(1,s_EdgeT all),(4,.ptr 500000 0),(7,.ptr 500001 0),(8,.ptr 500002 0),(10,.ptr 500003 0),(133,s_EdgeT all),(134,vI (all.length : Int)),(135,vI s97.1)],[(500000,.box (c_LayoutT l)),(500001,.box [(vI x3.Piece),(vI x3.Hole),(vI x3.Joints),(vI x3.Lead.X),(vI x3.Lead.Y)]),(500002,.box [.nl,.nl,.nl,.nl,.nl]),(500003,.box [(ro 500004 4),(ro 500005 36),(ro 500006 4),(ro 500007 3),(ro 500008 4)]),(500004,wB 4 s97.2),(500005,.row 36 [(0,4)] (List.map (cS cB) r28.Holes)),(500006,wB 4 (List.set r28.Done (Int.toNat x3.Piece) true)),(500007,wI 3 (List.set r28.Joints (Int.toNat x3.Piece) x3.Joints)),(500008,wB 4 r28.Fallen)]⟩) (fun x124=>(.exit 1,⟨[(1,s_EdgeT all),(4,.ptr 500000 0),(8,.ptr 500001 0),(10,.ptr 500002 0)],[(500000,.box (c_LayoutT l)),(500001,.box [.nl,.nl,.nl,.nl,.nl]),(500002,.box [(ro 500003 4),(ro 500004 36),(ro 500005 4),(ro 500006 3),(ro 500007 4)]),(500003,wB 4 x124),(500004,.row 36 [(0,4)] (List.map (cS cB) r28.Holes)),(500005,wB 4 (List.set r28.Done (Int.toNat x3.Piece) true)),(500006,wI 3 (List.set r28.Joints (Int.toNat x3.Piece) x3.Joints)),(500007,wB 4 r28.Fallen)]⟩)) (sp [] [(4,500000),(7,500001),(8,500002),(10,500003),(700051,500004),(700052,500005),(700053,500006),(700054,500007),(700055,500008)]) (fun s97 r h=>?_) fun τ hτ=>?_
 refine y3 1 [1,4,7,8,10,133,134,135,136] [500000,500001,500002,500003,500004,500005,500006,500007,500008] (zB (qc h (fun h=>?_) fun h=>?_))
 refine y4 [1,4,7,8,10,133,134,135] [500000,500001,500002,500003,500004,500005,500006,500007,500008] (sem_seqJ (fun (j117 : (List Bool))=>⟨[(1,s_EdgeT all),(4,.ptr 500000 0),(7,.ptr 500001 0),(8,.ptr 500002 0),(10,.ptr 500003 0),(133,s_EdgeT all),(134,vI (all.length : Int)),(135,vI s97.1)],[(500000,.box (c_LayoutT l)),(500001,.box [(vI x3.Piece),(vI x3.Hole),(vI x3.Joints),(vI x3.Lead.X),(vI x3.Lead.Y)]),(500002,.box [.nl,.nl,.nl,.nl,.nl]),(500003,.box [(ro 500004 4),(ro 500005 36),(ro 500006 4),(ro 500007 3),(ro 500008 4)]),(500004,wB 4 j117),(500005,.row 36 [(0,4)] (List.map (cS cB) r28.Holes)),(500006,wB 4 (List.set r28.Done (Int.toNat x3.Piece) true)),(500007,wI 3 (List.set r28.Joints (Int.toNat x3.Piece) x3.Joints)),(500008,wB 4 r28.Fallen)]⟩) (cut_do_kG_k1 s97) r (by kernel_rfl) (fun j117 h=>?_) ?_)
 refine zD (z6 2 fun τ hτ=>?_)
 cases h
 exact zH hτ
 refine zC (z7 (zA 1 ?_))
 obtain ⟨x119,hx119,h⟩:=bindS h
 refine qX c_EdgeT hx119 (y1 4 [1,4,7,8,10,11,12,133,134,135] [12,500000,500001,500002,500003,500004,500005,500006,500007,500008] (z7 (zA 3 ?_)))
 obtain ⟨r121,hr121,h⟩:=bindS h
 refine qP (W.cut_of_kG_ok hr121) (zP fun τ hτ=>?_)
 refine yE hτ [1,4,7,8,10,11,133,134,135,143] [500000,500001,500002,500003,500004,500005,500006,500007,500008] (qc h (fun h=>?_) fun h=>?_)
 refine zD (zA 3 ?_)
 obtain ⟨x123,hx123,h⟩:=bindS h
 refine qI cB hx123 (qS cB true hx123 (zP fun τ hτ=>?_))
 exact bl_normal (jk_normal (List.set s97.2 (Int.toNat s97.1) true) h hτ (here (by kernel_rfl)))
 refine zM fun τ hτ=>?_
 exact bl_normal (jk_normal s97.2 h hτ (here (by kernel_rfl)))
 refine zL 1 fun τ hτ=>?_
 refine th_exit ?_
 cases h
 exact lk_outS hτ rfl (sp [] [(500000,500000),(500002,500001),(500003,500002),(500004,500003),(500005,500004),(500006,500005),(500007,500006),(500008,500007)])
 refine zQ (yE hτ [1,4,8,10] [500000,500001,500002,500003,500004,500005,500006,500007] (zB (z7 (zA 2 (qL c_Piece l.Pieces (y1 1 [1,8,10,151,152] [500001,500002,500003,500004,500005,500006,500007] ?_))))))
 refine zC ?_
 obtain ⟨x244,hx244,h⟩:=bindS h
 refine ql hx244 (fun s205=>⟨[(1,s_EdgeT all),(8,.ptr 500000 0),(10,.ptr 500001 0),(151,vI (l.Pieces.length : Int)),(152,vI s205.1)],[(500000,.box [.nl,.nl,.nl,.nl,.nl]),(500001,.box [(ro 500002 4),(ro 500003 36),(ro 500004 4),(ro 500005 3),(ro 500006 4)]),(500002,wB 4 x124),(500003,.row 36 [(0,4)] (List.map (cS cB) r28.Holes)),(500004,wB 4 (List.set r28.Done (Int.toNat x3.Piece) true)),(500005,wI 3 (List.set r28.Joints (Int.toNat x3.Piece) x3.Joints)),(500006,wB 4 s205.2)]⟩) (fun x244=>(.exit 3,⟨[(8,.ptr 500000 0),(10,.ptr 500001 0)],[(500000,.box [.nl,.nl,.nl,.nl,.nl]),(500001,.box [(ro 500002 4),(ro 500003 36),(ro 500004 4),(ro 500005 3),(ro 500006 4)]),(500002,wB 4 x124),(500003,.row 36 [(0,4)] (List.map (cS cB) r28.Holes)),(500004,wB 4 (List.set r28.Done (Int.toNat x3.Piece) true)),(500005,wI 3 (List.set r28.Joints (Int.toNat x3.Piece) x3.Joints)),(500006,wB 4 x244)]⟩)) (sp [] [(500001,500000),(500002,500001),(500003,500002),(500004,500003),(500005,500004),(500006,500005),(500007,500006)]) (fun s205 r h=>?_) fun τ hτ=>?_
 refine y3 1 [1,8,10,151,152,153] [500000,500001,500002,500003,500004,500005,500006] (zB (qc h (fun h=>?_) fun h=>?_))
 refine y4 [1,8,10,151,152] [500000,500001,500002,500003,500004,500005,500006] (sem_seqJ (fun (j234 : (List Bool))=>⟨[(1,s_EdgeT all),(8,.ptr 500000 0),(10,.ptr 500001 0),(151,vI (l.Pieces.length : Int)),(152,vI s205.1)],[(500000,.box [.nl,.nl,.nl,.nl,.nl]),(500001,.box [(ro 500002 4),(ro 500003 36),(ro 500004 4),(ro 500005 3),(ro 500006 4)]),(500002,wB 4 x124),(500003,.row 36 [(0,4)] (List.map (cS cB) r28.Holes)),(500004,wB 4 (List.set r28.Done (Int.toNat x3.Piece) true)),(500005,wI 3 (List.set r28.Joints (Int.toNat x3.Piece) x3.Joints)),(500006,wB 4 j234)]⟩) (cut_do_kG_k3 s205) r (by kernel_rfl) (fun j234 h=>?_) ?_)
 refine zD (z6 2 fun τ hτ=>?_)
 cases h
 exact zH hτ
 refine zC (y3 2 [1,8,10,13,151,152] [500000,500001,500002,500003,500004,500005,500006] (zB ?_))
 obtain ⟨j238,hj238,h⟩:=bindS h
 refine zT ⟨[(1,s_EdgeT all),(8,.ptr 500000 0),(10,.ptr 500001 0),(13,vI s205.1),(151,vI (l.Pieces.length : Int)),(152,vI s205.1),(174,vB j238)],[(500000,.box [.nl,.nl,.nl,.nl,.nl]),(500001,.box [(ro 500002 4),(ro 500003 36),(ro 500004 4),(ro 500005 3),(ro 500006 4)]),(500002,wB 4 x124),(500003,.row 36 [(0,4)] (List.map (cS cB) r28.Holes)),(500004,wB 4 (List.set r28.Done (Int.toNat x3.Piece) true)),(500005,wI 3 (List.set r28.Joints (Int.toNat x3.Piece) x3.Joints)),(500006,wB 4 s205.2)]⟩ ?_ fun τ hτ=>?_
 replace h:=hj238
 refine zA 3 ?_
 obtain ⟨r239,hr239,h⟩:=bindS h
 refine qV [500002,500003,500004,500005,500006] (W.cut_State_free_kG_ok hr239) (zA 1 (qB h [1,8,10,13,151,152,159] [500000,500001,500002,500003,500004,500005,500006] [159] (fun h=>?_) fun h=>?_))
 refine zA 3 ?_
 obtain ⟨x240,hx240,h⟩:=bindS h
 refine qI cB hx240 (qR cB hx240 (zA 1 (qB h [1,8,10,13,151,152,159,165] [500000,500001,500002,500003,500004,500005,500006] [165] (fun h=>?_) fun h=>?_)))
 refine zA 3 ?_
 obtain ⟨x241,hx241,h⟩:=bindS h
 refine qI cI hx241 (qR cI hx241 (z6 4 fun τ hτ=>?_))
 cases h
 exact zG hτ
 refine z6 9 fun τ hτ=>?_
 cases h
 exact zG hτ
 refine z6 15 fun τ hτ=>?_
 cases h
 exact zG hτ
 refine yE hτ [1,8,10,13,151,152,174] [500000,500001,500002,500003,500004,500005,500006] (qc h (fun h=>?_) fun h=>?_)
 refine zD (zA 3 ?_)
 obtain ⟨x243,hx243,h⟩:=bindS h
 refine qI cB hx243 (qS cB true hx243 (zP fun τ hτ=>?_))
 exact bl_normal (jk_normal (List.set s205.2 (Int.toNat s205.1) true) h hτ (here (by kernel_rfl)))
 refine zM fun τ hτ=>?_
 exact bl_normal (jk_normal s205.2 h hτ (here (by kernel_rfl)))
 refine zL 3 fun τ hτ=>?_
 refine th_exit ?_
 cases h
 exact zF hτ
 refine zQ (yE hτ [8,10] [500000,500001,500002,500003,500004,500005,500006] (z8 3 ⟨[(8,.ptr 500000 0),(9,vI 0)],[(500000,.box [(ro 500002 4),(ro 500003 36),(ro 500004 4),(ro 500005 3),(ro 500006 4)]),(500002,wB 4 x124),(500003,.row 36 [(0,4)] (List.map (cS cB) r28.Holes)),(500004,wB 4 (List.set r28.Done (Int.toNat x3.Piece) true)),(500005,wI 3 (List.set r28.Joints (Int.toNat x3.Piece) x3.Joints)),(500006,wB 4 x244)]⟩ fun τ hτ=>?_))
 obtain rfl:=osi h
 exact qW hτ [(8,.ptr 0 0),(9,vI 0)] (sp [] [(500000,0),(500002,1),(500003,2),(500004,3),(500005,4),(500006,5)])
 exact nomatch h
 exact nomatch h
 replace h:=iteF hb h
 exact nomatch h
theorem W.cut_Falls_1_kG'_ok {st h0_0 h2 r} (h : cut_Falls_1_kG' st h0_0 h2=some r) : PC G.P 62 [(.agg (c_cut_State st)),(.ptr 1000000 0),(.ptr 1000001 0)] [(1000000,.box [(.sl (List.map cB h0_0))]),(1000001,.box [(.row (.top 300002) 38)]),(300002,.row 38 [] (List.map (cS cI) h2))] (.tup []) [(0,.row 38 [] (List.map (cS cI) r)),(1000000,.box [(.sl (List.map cB st.Fallen))]),(1000001,.box [(.row (.top 0) 38)])]:=by
 refine zU G Tryz.func62 (yK [0,1,2] [300002,1000000,1000001] (y3 1 [1,2,3] [3,300002,1000000,1000001] (y3 1 [1,2,3,4] [3,4,300002,1000000,1000001] (zB (z7 (zA 2 ?_))))))
 refine qL cB st.Fallen (y1 1 [1,2,3,4,8,9,10] [3,4,300002,1000000,1000001] (zC ?_))
 obtain ⟨x96,hx96,h⟩:=bindS h
 refine ql hx96 (fun s65=>⟨[(1,.ptr 1000000 0),(2,.ptr 1000001 0),(3,.ptr 500001 0),(4,ro 500002 3),(8,sB st.Fallen),(9,vI (st.Fallen.length : Int)),(10,vI s65.1)],[(500000,.row 38 [] (List.map (cS cI) h2)),(500001,.box (c_cut_State st)),(500002,wI 3 s65.2),(1000000,.box [(sB h0_0)]),(1000001,.box [(ro 500000 38)])]⟩) (fun x96=>(.exit 0,⟨[(1,.ptr 1000000 0),(2,.ptr 1000001 0),(3,.ptr 500001 0),(4,ro 500002 3)],[(500000,.row 38 [] (List.map (cS cI) h2)),(500001,.box (c_cut_State st)),(500002,wI 3 x96),(1000000,.box [(sB h0_0)]),(1000001,.box [(ro 500000 38)])]⟩)) (sp [] [(3,500001),(4,500002),(300002,500000),(1000000,1000000),(1000001,1000001)]) (fun s65 r h=>?_) fun τ hτ=>?_
 refine y3 1 [1,2,3,4,8,9,10,11] [500000,500001,500002,1000000,1000001] (zB (qc h (fun h=>?_) fun h=>?_))
 refine y4 [1,2,3,4,8,9,10] [500000,500001,500002,1000000,1000001] (sem_seqJ (fun (j88 : (List Int))=>⟨[(1,.ptr 1000000 0),(2,.ptr 1000001 0),(3,.ptr 500001 0),(4,ro 500002 3),(8,sB st.Fallen),(9,vI (st.Fallen.length : Int)),(10,vI s65.1)],[(500000,.row 38 [] (List.map (cS cI) h2)),(500001,.box (c_cut_State st)),(500002,wI 3 j88),(1000000,.box [(sB h0_0)]),(1000001,.box [(ro 500000 38)])]⟩) (cut_Falls_1_kG'_k1 s65) r (by kernel_rfl) (fun j88 h=>?_) ?_)
 refine zD (z6 2 fun τ hτ=>?_)
 cases h
 exact zH hτ
 refine zC (z7 (zA 1 ?_))
 obtain ⟨x90,hx90,h⟩:=bindS h
 refine qX cB hx90 (y1 3 [1,2,3,4,5,6,8,9,10] [500000,500001,500002,1000000,1000001] (zB ?_))
 obtain ⟨j92,hj92,h⟩:=bindS h
 refine zT ⟨[(1,.ptr 1000000 0),(2,.ptr 1000001 0),(3,.ptr 500001 0),(4,ro 500002 3),(5,vI s65.1),(8,sB st.Fallen),(9,vI (st.Fallen.length : Int)),(10,vI s65.1),(22,vB j92)],[(500000,.row 38 [] (List.map (cS cI) h2)),(500001,.box (c_cut_State st)),(500002,wI 3 s65.2),(1000000,.box [(sB h0_0)]),(1000001,.box [(ro 500000 38)])]⟩ ?_ fun τ hτ=>?_
 replace h:=hj92
 refine zA 2 (qB h [1,2,3,4,5,8,9,10,16] [500000,500001,500002,1000000,1000001] [16] (fun h=>?_) fun h=>?_)
 refine zA 2 ?_
 obtain ⟨x93,hx93,h⟩:=bindS h
 refine qX cB hx93 (z6 3 fun τ hτ=>?_)
 cases h
 exact zG hτ
 refine z6 6 fun τ hτ=>?_
 cases h
 exact zG hτ
 refine yE hτ [1,2,3,4,5,8,9,10,22] [500000,500001,500002,1000000,1000001] (qc h (fun h=>?_) fun h=>?_)
 refine zD (zA 3 ?_)
 obtain ⟨l95,hl95,h⟩:=bindS h
 refine qA cI 1 hl95 (z6 1 fun τ hτ=>?_)
 exact bl_normal (jk_normal l95 h hτ (here (by kernel_rfl)))
 refine zM fun τ hτ=>?_
 exact bl_normal (jk_normal s65.2 h hτ (here (by kernel_rfl)))
 refine zL 0 fun τ hτ=>?_
 refine th_exit ?_
 cases h
 exact zF hτ
 refine zQ (yE hτ [1,2,3,4] [500000,500001,500002,1000000,1000001] (z7 (zA 2 (evs_prep [.frz 500002] (by kernel_rfl) (zA 1 ?_)))))
 obtain ⟨l98,hl98,h⟩:=bindS h
 refine qA (cS cI) 1 hl98 (y1 1 [1,3] [500000,500001,1000000,1000001] (zD (z6 3 fun τ hτ=>?_)))
 obtain rfl:=osi h
 exact rk_normal hτ [] (sp [] [(500000,0),(1000000,1000000),(1000001,1000001)]) (by kernel_rfl)
theorem W.cut_run__cut_Falls_1_kG_ok {l items h1 h3 r} (h : cut_run__cut_Falls_1_kG l items h1 h3=some r) : PC G.P 57 [(.agg (c_LayoutT l)),(.sl (List.map c_ItemT items)),(.fn 62 [(.ptr 1000000 0),(.ptr 1000002 0)])] [(1000000,.box [(.row (.top 300001) 4)]),(300001,.row 4 [] (List.map cB h1)),(1000002,.box [(.row (.top 300003) 38)]),(300003,.row 38 [] (List.map (cS cI) h3))] (.tup [(.agg (c_cut_State r.1)),(vI r.2.1),(vI r.2.2.1)]) [(0,.box [(.sl (List.map cB r.2.2.2.1)),(.sl (List.map (cS cB) r.2.2.2.2.1)),(.sl (List.map cB r.2.2.2.2.2.1)),(.sl (List.map cI r.2.2.2.2.2.2.1)),(.sl (List.map cB r.2.2.2.2.2.2.2.1))]),(1,.row 38 [] (List.map (cS cI) r.2.2.2.2.2.2.2.2.1)),(1000000,.box [(.sl (List.map cB r.2.2.2.2.2.2.2.2.2))]),(1000002,.box [(.row (.top 1) 38)])]:=by
 refine zU G Tryz.func57 (yK [0,1,2] [300001,300003,1000000,1000002] (y3 4 [1,2,3,6] [3,6,300001,300003,1000000,1000002] (z7 (zA 1 ?_))))
 obtain ⟨r2,hr2,h⟩:=bindS h
 refine qC [] [(0,700050)] (W.cut_Edges_ok hr2) (y1 5 [1,2,3,6,9,10] [3,6,300001,300003,700050,1000000,1000002] (zB (y3 2 [1,2,3,6,9,10,22] [3,6,300001,300003,700050,1000000,1000002] (qc h (fun h=>?_) fun h=>?_))))
 exact nomatch h
 refine y4 [1,2,3,6,9] [3,6,300001,300003,700050,1000000,1000002] (zB (z7 (zA 1 (qL c_ItemT items (y1 1 [1,2,3,6,9,27] [3,6,300001,300003,700050,1000000,1000002] (qc h (fun h=>?_) fun h=>?_))))))
 exact nomatch h
 refine y4 [1,2,3,6,9] [3,6,300001,300003,700050,1000000,1000002] (z7 (zA 2 (qL c_EdgeT r2.1 ?_)))
 obtain ⟨r4,hr4,h⟩:=bindS h
 refine qC [] [(0,700150),(1,700151),(2,700152),(3,700153),(4,700154),(5,700155)] (W.cut_start_kG_ok hr4) (y1 2 [1,2,3,6,9,11] [3,6,11,300001,300003,700050,700151,700152,700153,700154,700155,1000000,1000002] (zB (z7 (zA 1 (qL c_ItemT items (y1 1 [2,3,6,9,11,33,34,35] [3,6,11,300001,300003,700050,700151,700152,700153,700154,700155,1000000,1000002] ?_))))))
 refine zC ?_
 obtain ⟨x82,hx82,h⟩:=bindS h
 refine ql hx82 (fun s57=>⟨[(2,.fn 62 [(.ptr 1000000 0),(.ptr 1000002 0)]),(3,.ptr 500001 0),(6,.ptr 500002 0),(9,s_EdgeT r2.1),(11,.ptr 500003 0),(33,s_ItemT items),(34,vI (items.length : Int)),(35,vI s57.1)],[(500000,.row 38 [] (List.map (cS cI) s57.2.1)),(500001,.box (c_LayoutT l)),(500002,.box [.nl,.nl,.nl,.nl,.nl]),(500003,.box [(sB s57.2.2.1),(.sl (List.map (cS cB) s57.2.2.2.1)),(sB s57.2.2.2.2.1),(sI s57.2.2.2.2.2.1),(sB s57.2.2.2.2.2.2.1)]),(1000000,.box [(sB s57.2.2.2.2.2.2.2)]),(1000002,.box [(ro 500000 38)])]⟩) (fun x82=>(.exit 0,⟨[(6,.ptr 500000 0),(11,.ptr 500001 0)],[(500000,.box [.nl,.nl,.nl,.nl,.nl]),(500001,.box [(sB x82.1),(.sl (List.map (cS cB) x82.2.1)),(sB x82.2.2.1),(sI x82.2.2.2.1),(sB x82.2.2.2.2.1)]),(500002,.row 38 [] (List.map (cS cI) x82.2.2.2.2.2.1)),(1000000,.box [(sB x82.2.2.2.2.2.2)]),(1000002,.box [(ro 500002 38)])]⟩)) (sp [.frz 300001,.frz 700050,.frz 700151,.frz 700152,.frz 700153,.frz 700154,.frz 700155] [(3,500001),(6,500002),(11,500003),(300003,500000),(1000000,1000000),(1000002,1000002)]) (fun s57 r h=>?_) fun τ hτ=>?_
 refine y3 1 [2,3,6,9,11,33,34,35,36] [500000,500001,500002,500003,1000000,1000002] (zB (qc h (fun h=>?_) fun h=>?_))
 refine y4 [2,3,6,9,11,33,34,35] [500000,500001,500002,500003,1000000,1000002] (zB (zC (z7 (zA 1 ?_))))
 obtain ⟨x77,hx77,h⟩:=bindS h
 refine qX c_ItemT hx77 (y1 4 [2,3,6,9,11,12,13,33,34,35] [13,500000,500001,500002,500003,1000000,1000002] (z7 (zA 4 ?_)))
 obtain ⟨r79,hr79,h⟩:=bindS h
 refine qC [] [(0,700200),(1,700201),(2,700202),(3,700203),(4,700204),(5,700205)] (W.cut_do_kG_ok hr79) (evs_prep [.frz 700202] (by kernel_rfl) (y1 6 [2,3,6,9,11,12,14,15,33,34,35] [14,500000,500001,500002,500003,700201,700203,700204,700205,1000000,1000002] (zB (y3 2 [2,3,6,9,11,12,14,15,33,34,35,49] [14,500000,500001,500002,500003,700201,700203,700204,700205,1000000,1000002] (qc h (fun h=>?_) fun h=>?_)))))
 exact nomatch h
 refine y4 [2,3,6,9,11,14,33,34,35] [14,500000,500001,500002,500003,700201,700203,700204,700205,1000000,1000002] (y3 2 [2,3,6,9,11,33,34,35] [500000,500001,500002,500003,700201,700203,700204,700205,1000000,1000002] (zD (zA 2 (evs_prep [.frz 700201,.frz 700203,.frz 700204,.frz 700205] (by kernel_rfl) ?_))))
 obtain ⟨r81,hr81,h⟩:=bindS h
 refine qC [(1000000,1000000),(1000001,1000002),(300002,500000)] [(0,700100)] (W.cut_Falls_1_kG'_ok hr81) (zP fun τ hτ=>?_)
 refine bl_normal (yE hτ [2,3,6,9,11,33,34,35] [500001,500002,500003,700100,1000000,1000002] (zD (z6 2 fun τ hτ=>?_)))
 cases h
 exact lk_nextS hτ (sp [] [(500001,500001),(500002,500002),(500003,500003),(700100,500000),(1000000,1000000),(1000002,1000002)])
 refine zL 0 fun τ hτ=>?_
 refine th_exit ?_
 cases h
 exact lk_outS hτ rfl (sp [] [(500000,500002),(500002,500000),(500003,500001),(1000000,1000000),(1000002,1000002)])
 refine zQ (yE hτ [6,11] [500000,500001,500002,1000000,1000002] (z8 4 ⟨[(6,.ptr 500000 0),(7,vI 0),(8,vI 0)],[(500000,.box [(sB x82.1),(.sl (List.map (cS cB) x82.2.1)),(sB x82.2.2.1),(sI x82.2.2.2.1),(sB x82.2.2.2.2.1)]),(500002,.row 38 [] (List.map (cS cI) x82.2.2.2.2.2.1)),(1000000,.box [(sB x82.2.2.2.2.2.2)]),(1000002,.box [(ro 500002 38)])]⟩ fun τ hτ=>?_))
 obtain rfl:=osi h
 exact qW hτ [(6,.ptr 0 0),(7,vI 0),(8,vI 0)] (sp [] [(500000,0),(500002,1),(1000000,1000000),(1000002,1000002)])
theorem W.cut_Falls_kG_ok {l items r} (h : cut_Falls_kG l items=some r) : PC G.P 26 [(.agg (c_LayoutT l)),(.sl (List.map c_ItemT items))] [] (.tup [(.row (.top 0) 38),(vI r.2)]) [(0,.row 38 [] (List.map (cS cI) r.1))]:=by
 refine zU G Tryz.func26 (yK [0,1] [] (y3 3 [1,2] [2] (z7 (zA 1 (evs_prep [.row (.box 6 0) 800006 38 []] (by kernel_rfl) (zP fun τ hτ=>?_))))))
 refine yE hτ [1,2,6] [2,6,800006] (z7 (zA 2 (qL c_Piece l.Pieces ?_)))
 obtain ⟨l2,hl2,h⟩:=bindS h
 refine evs_op (st_mk (c:=cB) (z:=false) (n:=(l.Pieces.length : Int)) (e:=4) (d:=14) (zs:=[(vB false)]) (k1:=.i64) (k2:=.i64) (by kernel_rfl) rfl hl2) (zA 1 (evs_prep [.row (.box 7 0) 800007 4 []] (by kernel_rfl) (y1 1 [1,2,6,7] [2,6,7,14,800006] (z7 (zA 3 ?_)))))
 obtain ⟨r4,hr4,h⟩:=bindS h
 refine qC [(1000000,7),(300001,14),(1000002,6),(300003,800006)] [(0,700150),(1,700151)] (W.cut_run__cut_Falls_1_kG_ok hr4) (y1 8 [6,10] [6,700151] (zB (y3 2 [6,10,24] [6,700151] (qc h (fun h=>?_) fun h=>?_))))
 exact nomatch h
 refine y4 [6] [6,700151] (z8 3 ⟨[(4,ro 700151 38),(5,vI 0)],[(700151,.row 38 [] (List.map (cS cI) r4.2.2.2.2.2.2.2.2.1))]⟩ fun τ hτ=>?_)
 obtain rfl:=osi h
 exact qW hτ [(4,ro 0 38),(5,vI 0)] (sp [] [(700151,0)])
theorem W.sheetmetalref06_SameInts_kG_ok {a b r} (h : sheetmetalref06_SameInts_kG a b=some r) : PC G.P 30 [(.sl (List.map cI a)),(.sl (List.map cI b))] [] (vB r) []:=by
 refine zU G Tryz.func30 (yK [0,1] [] (y3 1 [0,1] [] (zB (z7 (zA 1 (qL cI a ?_))))))
 refine zA 1 (qL cI b (y1 1 [0,1,10] [] (qc h (fun h=>?_) fun h=>?_)))
 exact nomatch h
 refine y4 [0,1] [] (zB (y3 1 [0,1,5] [] (zC ?_)))
 obtain ⟨x78,hx78,h⟩:=bindS h
 refine ql hx78 (fun s53=>⟨[(0,sI a),(1,sI b),(5,vI s53)],[]⟩) (fun x78=>(.exit 0,⟨[],[]⟩)) qH (fun s53 r h=>?_) fun τ hτ=>?_
 refine zB (z7 (zA 2 (qL cI a (y1 1 [0,1,5,14] [] (qc h (fun h=>?_) fun h=>?_)))))
 refine y4 [0,1,5] [] (zB (zC (zB (qM 8 (dN 2 ?_)))))
 obtain ⟨x76,hx76,h⟩:=bindS h
 refine dX cI hx76 (dN 3 ?_)
 obtain ⟨x77,hx77,h⟩:=bindS h
 refine dX cI hx77 (dN 1 (dE (oN 1 (zO fun τ hτ=>?_))))
 refine yE hτ [0,1,5,25] [] (qc h (fun h=>?_) fun h=>?_)
 exact nomatch h
 refine zM fun τ hτ=>?_
 refine bl_normal (yE hτ [0,1,5] [] (zD (z6 3 fun τ hτ=>?_)))
 cases h
 exact zH hτ
 refine zL 0 fun τ hτ=>?_
 refine th_exit ?_
 cases h
 exact zF hτ
 refine zQ (yE hτ [] [] (z8 1 ⟨[(4,vB true)],[]⟩ fun τ hτ=>?_))
 obtain rfl:=osi h
 exact zV hτ [(4,vB true)]
theorem W.sheetmetallaw07_known_kG_ok {r} (h : sheetmetallaw07_known_kG=some r) : PC G.P 13 [] [] (vB r) []:=by
 refine zU G Tryz.func13 (yK [] [] (y3 1 [] [] (y3 1 [1] [] (y3 7 [1,2] [2] (y3 7 [1,2,3] [2,3] (y3 8 [1,2,3,4] [2,3,4] ?_))))))
 refine z7 (zA 3 (evs_at (at_buildS (es:=(List.map c_Piece [(Piece.mk (ByteArray.mk #[97]) (ByteArray.mk #[115,116,101,101,108]) 10 0 [(Rect.mk 0 0 14400 14400)] [] []),(Piece.mk (ByteArray.mk #[98]) (ByteArray.mk #[115,116,101,101,108]) 10 0 [(Rect.mk 14400 0 14400 14400)] [] [])])) (by kernel_rfl)) (y1 3 [1,5] [5] (z7 (zA 1 ?_)))))
 obtain ⟨r2,hr2,h⟩:=bindS h
 refine qC [] [(0,700050)] (W.cut_Edges_ok hr2) (y1 5 [1,5,6,7] [5,700050] (y3 7 [5,6,7,8] [5,700050] (z7 (zA 2 ?_))))
 obtain ⟨r4,hr4,h⟩:=bindS h
 refine qC [] [(0,700100)] (W.cut_Falls_kG_ok hr4) (y1 5 [6,7,9,10] [700050,700100] (z7 (zA 3 (qB h [6,9,10,51] [700050,700100] [51] (fun h=>?_) fun h=>?_))))
 refine zA 1 (qL c_EdgeT r2.1 (zA 3 (qB h [9,10,56] [700100] [56] (fun h=>?_) fun h=>?_)))
 refine zA 4 (qB h [9,60] [700100] [60] (fun h=>?_) fun h=>?_)
 refine zA 1 (qL (cS cI) r4.1 (zA 3 (qB h [9,65] [700100] [65] (fun h=>?_) fun h=>?_)))
 refine zA 1 ?_
 obtain ⟨x9,hx9,h⟩:=bindS h
 refine qI (cS cI) hx9 (qR (cS cI) hx9 (zA 1 ?_))
 obtain ⟨r10,hr10,h⟩:=bindS h
 refine qP (W.sheetmetalref06_SameInts_kG_ok hr10) (zA 2 (qB h [9,72] [700100] [72] (fun h=>?_) fun h=>?_))
 refine zA 1 ?_
 obtain ⟨x11,hx11,h⟩:=bindS h
 refine qI (cS cI) hx11 (qR (cS cI) hx11 (zA 1 ?_))
 obtain ⟨r12,hr12,h⟩:=bindS h
 refine qP (W.sheetmetalref06_SameInts_kG_ok hr12) (y1 2 [0] [] (zN fun τ hτ=>?_))
 obtain rfl:=osi h
 exact zV hτ [(0,vB r12)]
 exact nomatch h
 exact nomatch h
 exact nomatch h
 exact nomatch h
 exact nomatch h
theorem W.sheetmetallaw07_CutEdges_ok {l r} (h : sheetmetallaw07_CutEdges l=some r) : PC G.P 4 [(.agg (c_LayoutT l))] [] (vB r) []:=by
 refine zU G Tryz.func4 (yK [0] [] (y3 2 [1] [1] (z7 (zA 1 ?_))))
 obtain ⟨r2,hr2,h⟩:=bindS h
 refine qC [] [(0,700050)] (W.cut_Edges_ok hr2) (y1 5 [1,3,4] [1,700050] (z7 (zA 1 ?_)))
 obtain ⟨r4,hr4,h⟩:=bindS h
 refine qC [] [(0,700051)] (W.sheetmetalref07_Edges_ok hr4) (y1 5 [3,4,5,6] [700050,700051] (zB ?_))
 obtain ⟨j7,hj7,h⟩:=bindS h
 refine zT ⟨[(2,vB j7)],[]⟩ ?_ fun τ hτ=>?_
 replace h:=hj7
 refine zA 4 (qB h [3,5,20] [700050,700051] [20] (fun h=>?_) fun h=>?_)
 refine zA 2 ?_
 obtain ⟨r8,hr8,h⟩:=bindS h
 refine qV [700050,700051] (W.sheetmetalref07_SameEdges_ok hr8) (zA 2 (qB h [25] [] [25] (fun h=>?_) fun h=>?_))
 obtain ⟨r9,hr9,h⟩:=bindS h
 refine qP (W.sheetmetallaw07_known_kG_ok hr9) (z6 2 fun τ hτ=>?_)
 cases h
 exact zG hτ
 refine z6 3 fun τ hτ=>?_
 cases h
 exact zG hτ
 refine z6 8 fun τ hτ=>?_
 cases h
 exact zG hτ
 refine yE hτ [2] [] (zN fun τ hτ=>?_)
 obtain rfl:=osi h
 exact zV hτ [(2,vB j7)]
end Go.Proofs.YtgfjbgoehhnaeaaGreat
