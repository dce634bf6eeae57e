/- Each Go function does what its model says; written by a program out of the translation. -/
import Derived.Test.YtgfjbgoehhnaeaaGreatWD1
import Derived.Test.YtgfjbgoehhnaeaaGreatCzMD
set_option linter.unusedVariables false
set_option linter.unusedSimpArgs false
set_option linter.unusedSectionVars false
namespace Go.Proofs.YtgfjbgoehhnaeaaGreat
open Go Go.VI Go.SM Go.Proofs
set_option maxRecDepth 100000
set_option maxHeartbeats 4000000
theorem W.Su {st all x2 r} (h:yF st all x2=some r):PC G.P 115 [(.agg (bG st)),(.sl (List.map bF all)),(.agg (dO x2))] [] (vB r) []:=by
 refine zU G Tryz.func115 (yK [0,1,2] [] (y3 3 [1,3,5] [3,5] (zB (zC (z7 (zA 4 ?_))))))
 obtain ⟨x10,hx10,h⟩:=aA h
 refine qX cB hx10 (y1 2 [1,3,5,7] [3,5] (qc h (fun h=>?_) fun h=>?_))
 refine z8 1 ⟨[(6,vB false)],[]⟩ fun u k=>?_
 refine aT (aO ?_)
 obtain rfl:=osi h
 exact zV k [(6,vB false)]
 refine y3 4 [1,3,5,14] [3,5] (qc h (fun h=>?_) fun h=>?_)
 refine zB (qM 8 (dN 4 ?_))
 obtain ⟨x15,hx15,h⟩:=aA h
 refine dX (cS cB) hx15 (dN 3 (dE ?_))
 obtain ⟨x16,hx16,h⟩:=aA h
 refine oX cB hx16 (oN 3 (zO fun u k=>?_))
 refine yE k [6] [] (zN fun u k=>?_)
 refine aT (aO ?_)
 obtain rfl:=osi h
 exact zV k [(6,vB (!x16))]
 refine zM fun u k=>?_
 refine aH (yE k [1,3,5] [3,5] (zB ?_))
 obtain ⟨j21,hj21,h⟩:=aA h
 refine zT ⟨[(6,vB j21)],[]⟩ ?_ fun u k=>?_
 replace h:=hj21
 refine zA 4 ?_
 obtain ⟨x22,hx22,h⟩:=aA h
 refine qX cB hx22 (zA 3 (zS x22 (fun b0=>⟨[(1,bB all),(3,.ptr 3 0),(5,.ptr 5 0),(36,vB (!b0))],[(3,.box (bG st)),(5,.box (dO x2))]⟩) (fun hb=>?_) fun hb=>?_))
 replace h:=iK hb h
 refine z6 18 fun u k=>?_
 cases h
 exact zG k
 replace h:=iJ hb h
 refine zA 4 ?_
 obtain ⟨x23,hx23,h⟩:=aA h
 refine qX (cS cB) hx23 (zA 1 ?_)
 obtain ⟨r24,hr24,h⟩:=aA h
 refine qP (W.Dq hr24) (zA 3 (zS r24 (fun b0=>⟨[(1,bB all),(3,.ptr 3 0),(5,.ptr 5 0),(46,vB (!b0))],[(3,.box (bG st)),(5,.box (dO x2))]⟩) (fun hb=>?_) fun hb=>?_))
 replace h:=iK hb h
 refine z6 8 fun u k=>?_
 cases h
 exact zG k
 replace h:=iJ hb h
 refine zA 4 ?_
 obtain ⟨r25,hr25,h⟩:=aA h
 refine qP (W.Hz hr25) (z6 3 fun u k=>?_)
 cases h
 exact zG k
 refine yE k [6] [] (zN fun u k=>?_)
 obtain rfl:=osi h
 exact zV k [(6,vB j21)]
theorem W.EW {x0 r} (h:Ju x0=some r):PC G.P 65 [(.agg (aU x0))] [] (vB r) []:=by
 refine zU G Tryz.func65 (yK [0] [] (y3 2 [1] [1] (y3 1 [1,3] [1,3] (zB (z7 (zA 2 ?_))))))
 refine qL aB x0.Rects (y1 1 [3,9,10,11] [3] (zC ?_))
 obtain ⟨x60,hx60,h⟩:=aA h
 refine ql hx60 (fun s41=>⟨[(3,.ptr 500000 0),(9,aW x0.Rects),(10,vI (x0.Rects.length:Int)),(11,vI s41.1)],[(500000,.box [(vI s41.2.1),(vI s41.2.2.1),(vI s41.2.2.2.1),(vI s41.2.2.2.2)])]⟩) (fun x60=>(.exit 0,⟨[(3,.ptr 500000 0)],[(500000,.box [(vI x60.1),(vI x60.2.1),(vI x60.2.2.1),(vI x60.2.2.2)])]⟩)) (sp [] [(3,500000)]) (fun s41 r h=>?_) fun u k=>?_
 refine y3 1 [3,9,10,11,12] [500000] (zB (qc h (fun h=>?_) fun h=>?_))
 refine y4 [3,9,10,11] [500000] (bU (fun (j55:Int×Int×Int×Int)=>⟨[(3,.ptr 500000 0),(9,aW x0.Rects),(10,vI (x0.Rects.length:Int)),(11,vI s41.1)],[(500000,.box [(vI j55.1),(vI j55.2.1),(vI j55.2.2.1),(vI j55.2.2.2)])]⟩) (zJ s41) r (by kernel_rfl) (fun j55 h=>?_) ?_)
 refine zD (z6 2 fun u k=>?_)
 cases h
 exact zH k
 refine zC (z7 ?_)
 obtain ⟨x57,hx57,h⟩:=aA h
 refine qX aB hx57 (y1 3 [3,5,9,10,11] [5,500000] (zC (z7 (zA 1 ?_))))
 obtain ⟨r59,hr59,h⟩:=aA h
 refine qP (W.fQ hr59) (y1 2 [3,5,9,10,11,57] [5,500000] (qc h (fun h=>?_) fun h=>?_))
 refine zM fun u k=>?_
 exact aH (aH (aV (s41.2.1,s41.2.2.1,s41.2.2.2.1,s41.2.2.2.2) h k (here (by kernel_rfl))))
 refine y3 4 [3,5,9,10,11,61] [5,500000] (qc h (fun h=>?_) fun h=>?_)
 refine zD (z6 2 fun u k=>?_)
 exact aH (aH (aV (x57.X,x57.Y,x57.W,x57.H) h k (here (by kernel_rfl))))
 refine zB (qM 11 (dN 11 (dE (oN 1 (zO fun u k=>?_)))))
 refine yE k [3,5,6,7,9,10,11] [5,500000] (zB (qN [(27,[500000])] [] [] [(17,[500000]),(18,[500000]),(19,[500000]),(20,[500000]),(21,[500000]),(22,[500000]),(23,[500000]),(24,[500000]),(25,[500000])] [] 28 (dN 27 (NK (g:=500000) (ob:=.box [(vI s41.2.1),(vI s41.2.2.1),(vI (aJ (eU (aL s41.2.1 s41.2.2.2.1) (aL x57.X x57.W)) (mY s41.2.1 x57.X))),(vI s41.2.2.2.2)]) (v:=vU) (by kernel_rfl) (by kernel_rfl) (by kernel_rfl) (by kernel_rfl) (by kernel_rfl) (dE (oN 2 ?_))))))
 refine zO fun u k=>?_
 refine yE k [3,6,7,9,10,11] [500000] (zD (z6 6 fun u k=>?_))
 exact aH (aH (aV ((mY s41.2.1 x57.X),(mY s41.2.2.1 x57.Y),(aJ (eU (aL s41.2.1 s41.2.2.2.1) (aL x57.X x57.W)) (mY s41.2.1 x57.X)),(aJ (eU (aL s41.2.2.1 s41.2.2.2.2) (aL x57.Y x57.H)) (mY s41.2.2.1 x57.Y))) h k (here (by kernel_rfl))))
 refine zL 0 fun u k=>?_
 refine aQ ?_
 cases h
 exact zF k
 refine zQ (yE k [3] [500000] (z8 7 ⟨[(2,vB (decide ((mY x60.2.2.1 x60.2.2.2)<7200)))],[]⟩ fun u k=>?_))
 obtain rfl:=osi h
 exact zV k [(2,vB (decide ((mY x60.2.2.1 x60.2.2.2)<7200)))]
theorem W.Ui {r0 a_0 a_1 a_2 a_3 r} (h:Fq r0 a_0 a_1 a_2 a_3=some r):PC G.P 184 [(.agg (aB r0)),(.vptr [(vI a_0),(vI a_1),(vI a_2),(vI a_3)] 0)] [] (vB r) []:=by
 refine zU G Tryz.func184 (yK [0,1] [] (y3 2 [1,2] [2] (z7 (zA 2 ?_))))
 obtain ⟨r2,hr2,h⟩:=aA h
 refine qP (W.Gg hr2) (y1 1 [3] [] (zN fun u k=>?_))
 obtain rfl:=osi h
 exact zV k [(3,vB r2)]
theorem W.oF {s0 f_0_0 f_0_1 f_0_2 f_0_3 r} (h:dJ s0 f_0_0 f_0_1 f_0_2 f_0_3=some r):PC G.P 147 [(.sl (List.map aB s0)),(.fn 184 [(.vptr [(vI f_0_0),(vI f_0_1),(vI f_0_2),(vI f_0_3)] 0)])] [] (vI r) []:=by
 refine zU G Tryz.func147 (yK [0,1] [] (y3 1 [0,1] [] (zB (z7 (zA 1 (qL aB s0 ?_))))))
 refine y1 1 [0,1,7,8] [] (zC ?_)
 obtain ⟨x56,hx56,h⟩:=aA h
 refine ql hx56 (fun s39=>⟨[(0,aW s0),(1,.fn 184 [(.vptr [(vI f_0_0),(vI f_0_1),(vI f_0_2),(vI f_0_3)] 0)]),(7,vI (s0.length:Int)),(8,vI s39)],[]⟩) (fun x56=>match x56 with | .inl j57=>(.ret,⟨[(4,vI j57)],[]⟩) | .inr j58=>(.exit 0,⟨[],[]⟩)) qH (fun s39 r h=>?_) (fun u k=>?_) (hout:=(by intro x;rcases x with _ | _ <;> rfl))
 refine y3 1 [0,1,7,8,9] [] (zB (qc h (fun h=>?_) fun h=>?_))
 refine y4 [0,1,7,8] [] (zB (zC (y3 2 [0,1,5,7,8] [] (z7 (zA 3 ?_)))))
 obtain ⟨x54,hx54,h⟩:=aA h
 refine qX aB hx54 (zA 1 ?_)
 obtain ⟨r55,hr55,h⟩:=aA h
 refine qP (W.Ui hr55) (zP fun u k=>?_)
 refine yE k [0,1,5,7,8,16] [] (qc h (fun h=>?_) fun h=>?_)
 refine z8 2 ⟨[(4,vI s39)],[]⟩ fun u k=>?_
 refine aT (aO ?_)
 cases h
 exact zF k
 refine zM fun u k=>?_
 refine aH (yE k [0,1,7,8] [] (zD (z6 2 fun u k=>?_)))
 cases h
 exact zH k
 refine zL 0 fun u k=>?_
 refine aQ ?_
 cases h
 exact zF k
 rcases x56 with j57 | j58
 refine aT (aO ?_)
 obtain rfl:=osi h
 exact zV k [(4,vI j57)]
 refine zQ (yE k [] [] (z8 1 ⟨[(4,vI (-1))],[]⟩ fun u k=>?_))
 obtain rfl:=osi h
 exact zV k [(4,vI (-1))]
theorem W.nN {s0 f_0_0 f_0_1 f_0_2 f_0_3 r} (h:bJ s0 f_0_0 f_0_1 f_0_2 f_0_3=some r):PC G.P 92 [(.sl (List.map aB s0)),(.fn 184 [(.vptr [(vI f_0_0),(vI f_0_1),(vI f_0_2),(vI f_0_3)] 0)])] [] (vB r) []:=by
 refine zU G Tryz.func92 (yK [0,1] [] (y3 1 [0,1] [] (z7 (zA 2 ?_))))
 obtain ⟨r2,hr2,h⟩:=aA h
 refine qP (W.oF hr2) (y1 2 [4] [] (zN fun u k=>?_))
 obtain rfl:=osi h
 exact zV k [(4,vB (decide (r2 ≥ 0)))]
theorem W.Om {l s1 r} (h:mW l s1=some r):PC G.P 158 [(.sl (List.map aB l)),(.agg [(vI s1.X),(vI s1.Y)])] [] (vB r) []:=by
 refine zU G Tryz.func158 (yK [0,1] [] (y3 2 [0,3] [3] (zB (zB ?_))))
 obtain ⟨j2,hj2,h⟩:=aA h
 refine zT ⟨[(0,aW l),(3,.ptr 500000 0),(24,vB j2)],[(500000,.box [(vI s1.X),(vI s1.Y)])]⟩ ?_ fun u k=>?_
 replace h:=hj2
 refine zA 4 (qB h [0,3,10] [3] [10] (fun h=>?_) fun h=>?_)
 refine z6 14 fun u k=>?_
 cases h
 exact bH k (sp [] [(3,500000)])
 refine zA 5 (qB h [0,3,15] [3] [15] (fun h=>?_) fun h=>?_)
 refine z6 9 fun u k=>?_
 cases h
 exact bH k (sp [] [(3,500000)])
 refine zA 5 (qB h [0,3,20] [3] [20] (fun h=>?_) fun h=>?_)
 refine z6 4 fun u k=>?_
 cases h
 exact bH k (sp [] [(3,500000)])
 refine z6 4 fun u k=>?_
 cases h
 exact bH k (sp [] [(3,500000)])
 refine yE k [0,3,24] [500000] (qc h (fun h=>?_) fun h=>?_)
 refine z8 1 ⟨[(4,vB false)],[]⟩ fun u k=>?_
 refine aO ?_
 obtain rfl:=osi h
 exact zV k [(4,vB false)]
 refine y4 [0,3] [500000] (zB (z7 (zA 25 (qL aB [(Rect.mk (aJ s1.X 1) (aJ s1.Y 1) 1 1),(Rect.mk s1.X (aJ s1.Y 1) 1 1),(Rect.mk (aJ s1.X 1) s1.Y 1 1),(Rect.mk s1.X s1.Y 1 1)] (y1 1 [0,49,50,51] [] (zC ?_))))))
 obtain ⟨x58,hx58,h⟩:=aA h
 refine ql hx58 (fun s41=>⟨[(0,aW l),(49,aW [(Rect.mk (aJ s1.X 1) (aJ s1.Y 1) 1 1),(Rect.mk s1.X (aJ s1.Y 1) 1 1),(Rect.mk (aJ s1.X 1) s1.Y 1 1),(Rect.mk s1.X s1.Y 1 1)]),(50,vI ([(Rect.mk (aJ s1.X 1) (aJ s1.Y 1) 1 1),(Rect.mk s1.X (aJ s1.Y 1) 1 1),(Rect.mk (aJ s1.X 1) s1.Y 1 1),(Rect.mk s1.X s1.Y 1 1)].length:Int)),(51,vI s41)],[]⟩) (fun x58=>match x58 with | .inl j59=>(.ret,⟨[(4,vB false)],[]⟩) | .inr j60=>(.exit 0,⟨[],[]⟩)) qH (fun s41 r h=>?_) (fun u k=>?_) (hout:=(by intro x;rcases x with _ | _ <;> rfl))
 refine y3 1 [0,49,50,51,52] [] (zB (qc h (fun h=>?_) fun h=>?_))
 refine y4 [0,49,50,51] [] (zB (zC (z7 ?_)))
 obtain ⟨x55,hx55,h⟩:=aA h
 refine qX aB hx55 (y1 3 [0,6,49,50,51] [6] (z7 (zA 2 ?_)))
 obtain ⟨r57,hr57,h⟩:=aA h
 refine qV [6] (W.nN hr57) (y1 1 [0,49,50,51,58] [] (qc h (fun h=>?_) fun h=>?_))
 refine z8 1 ⟨[(4,vB false)],[]⟩ fun u k=>?_
 refine aT (aO ?_)
 cases h
 exact zF k
 refine zM fun u k=>?_
 refine aH (yE k [0,49,50,51] [] (zD (z6 2 fun u k=>?_)))
 cases h
 exact zH k
 refine zL 0 fun u k=>?_
 refine aQ ?_
 cases h
 exact zF k
 rcases x58 with j59 | j60
 refine aT (aO ?_)
 obtain rfl:=osi h
 exact zV k [(4,vB false)]
 refine zQ (yE k [] [] (z8 1 ⟨[(4,vB true)],[]⟩ fun u k=>?_))
 obtain rfl:=osi h
 exact zV k [(4,vB true)]
theorem W.KR {s0 l r} (h:EZ s0 l=some r):PC G.P 159 [(.agg [(vI s0.X),(vI s0.Y)]),(.agg (Bc l))] [] (vI r) []:=by
 refine zU G Tryz.func159 (yK [0,1] [] (y3 3 [2,3] [2,3] (z8 22 ⟨[(4,vI (eU (eU (eU (eU 0 (aJ l.X1 s0.X)) (aJ s0.X l.X2)) (aJ l.Y1 s0.Y)) (aJ s0.Y l.Y2)))],[]⟩ fun u k=>?_)))
 obtain rfl:=osi h
 exact zV k [(4,vI (eU (eU (eU (eU 0 (aJ l.X1 s0.X)) (aJ s0.X l.X2)) (aJ l.Y1 s0.Y)) (aJ s0.Y l.Y2)))]
theorem W.Uk {st l all x3 r} (h:wK st l all x3=some r):PC G.P 116 [(.agg (bG st)),(.agg (aR l)),(.sl (List.map bF all)),(.agg [(vI x3.Piece),(vI x3.Hole),(vI x3.Joints),(vI x3.Lead.X),(vI x3.Lead.Y)])] [] (vB r) []:=by
 refine zU G Tryz.func116 (yK [0,1,2,3] [] (y3 4 [2,4,5,7] [4,5,7] (y3 4 [2,4,5,7,9] [4,5,7,9] (zB (y3 3 [2,4,5,7,9,19] [4,5,7,9] (qc h (fun h=>?_) fun h=>?_))))))
 refine zB (sK [(11,[10])] [(11,[10])] [] [(0,[10]),(1,[10]),(2,[10]),(3,[10]),(4,[10]),(5,[10]),(6,[10]),(7,[10]),(8,[10]),(9,[10]),(10,[10])] [(0,[10]),(1,[10]),(2,[10]),(3,[10]),(4,[10]),(5,[10]),(6,[10]),(7,[10]),(8,[10]),(9,[10]),(10,[10])] 12 (by kernel_rfl) (by kernel_rfl) [10] (by kernel_rfl) (by kernel_rfl) (dN 4 ?_))
 obtain ⟨x12,hx12,h⟩:=aA h
 refine dX aU hx12 (dN 4 ?_)
 obtain ⟨x13,hx13,h⟩:=aA h
 refine dX aB hx13 (dN 1 (vW (g:=10) (ob:=.box [(vI 0),(vI 0),(vI 0),(vI 0)]) (v:=(.ptr 10 0)) (by kernel_rfl) (by kernel_rfl) (by kernel_rfl) (by kernel_rfl) (by kernel_rfl) (by kernel_rfl) (dE (oN 1 (zO fun u k=>?_)))))
 refine yE k [9,10] [9,10] (zB ?_)
 obtain ⟨j14,hj14,h⟩:=aA h
 refine zT ⟨[(8,vB j14)],[]⟩ ?_ fun u k=>?_
 replace h:=hj14
 refine zA 6 (qB h [9,10,36] [9,10] [36] (fun h=>?_) fun h=>?_)
 refine zA 10 (qB h [9,10,46] [9,10] [46] (fun h=>?_) fun h=>?_)
 refine zA 7 (qB h [9,10,53] [9,10] [53] (fun h=>?_) fun h=>?_)
 refine z6 10 fun u k=>?_
 cases h
 exact zG k
 refine z6 10 fun u k=>?_
 cases h
 exact zG k
 refine z6 17 fun u k=>?_
 cases h
 exact zG k
 refine z6 27 fun u k=>?_
 cases h
 exact zG k
 refine yE k [8] [] (zN fun u k=>?_)
 refine aO ?_
 obtain rfl:=osi h
 exact zV k [(8,vB j14)]
 refine y4 [2,4,5,7,9] [4,5,7,9] (zB (zB ?_))
 obtain ⟨j19,hj19,h⟩:=aA h
 refine zT ⟨[(2,bB all),(4,.ptr 500000 0),(5,.ptr 500001 0),(7,.ptr 500002 0),(9,.ptr 500003 0),(93,vB j19)],[(500000,.box (bG st)),(500001,.box (aR l)),(500002,.box [(vI x3.Piece),(vI x3.Hole),(vI x3.Joints),(vI x3.Lead.X),(vI x3.Lead.Y)]),(500003,.box [(vI x3.Lead.X),(vI x3.Lead.Y)])]⟩ ?_ fun u k=>?_
 replace h:=hj19
 refine zA 4 (qB h [2,4,5,7,9,66] [4,5,7,9] [66] (fun h=>?_) fun h=>?_)
 refine z6 27 fun u k=>?_
 cases h
 exact bH k (sp [] [(4,500000),(5,500001),(7,500002),(9,500003)])
 refine zA 8 (qB h [2,4,5,7,9,74] [4,5,7,9] [74] (fun h=>?_) fun h=>?_)
 refine z6 19 fun u k=>?_
 cases h
 exact bH k (sp [] [(4,500000),(5,500001),(7,500002),(9,500003)])
 refine zA 5 (qB h [2,4,5,7,9,79] [4,5,7,9] [79] (fun h=>?_) fun h=>?_)
 refine z6 14 fun u k=>?_
 cases h
 exact bH k (sp [] [(4,500000),(5,500001),(7,500002),(9,500003)])
 refine zA 8 (qB h [2,4,5,7,9,87] [4,5,7,9] [87] (fun h=>?_) fun h=>?_)
 refine z6 6 fun u k=>?_
 cases h
 exact bH k (sp [] [(4,500000),(5,500001),(7,500002),(9,500003)])
 refine zA 4 ?_
 obtain ⟨r20,hr20,h⟩:=aA h
 refine qP (W.Om hr20) (z6 1 fun u k=>?_)
 cases h
 exact bH k (sp [] [(4,500000),(5,500001),(7,500002),(9,500003)])
 refine yE k [2,4,5,7,9,93] [500000,500001,500002,500003] (qc h (fun h=>?_) fun h=>?_)
 refine z8 1 ⟨[(8,vB false)],[]⟩ fun u k=>?_
 refine aO ?_
 obtain rfl:=osi h
 exact zV k [(8,vB false)]
 refine y4 [2,4,5,7,9] [500000,500001,500002,500003] (zB (z7 (zA 2 (qL aU l.Pieces (y1 1 [2,4,7,9,95,96,97] [500000,500002,500003] (zC ?_))))))
 obtain ⟨x76,hx76,h⟩:=aA h
 refine ql hx76 (fun s59=>⟨[(2,bB all),(4,.ptr 500000 0),(7,.ptr 500001 0),(9,.ptr 500002 0),(95,cZ l.Pieces),(96,vI (l.Pieces.length:Int)),(97,vI s59)],[(500000,.box (bG st)),(500001,.box [(vI x3.Piece),(vI x3.Hole),(vI x3.Joints),(vI x3.Lead.X),(vI x3.Lead.Y)]),(500002,.box [(vI x3.Lead.X),(vI x3.Lead.Y)])]⟩) (fun x76=>match x76 with | .inl j77=>(.ret,⟨[(8,vB false)],[]⟩) | .inr j78=>(.exit 0,⟨[(2,bB all),(4,.ptr 500000 0),(7,.ptr 500001 0),(9,.ptr 500002 0)],[(500000,.box (bG st)),(500001,.box [(vI x3.Piece),(vI x3.Hole),(vI x3.Joints),(vI x3.Lead.X),(vI x3.Lead.Y)]),(500002,.box [(vI x3.Lead.X),(vI x3.Lead.Y)])]⟩)) (sp [] [(500000,500000),(500002,500001),(500003,500002)]) (fun s59 r h=>?_) (fun u k=>?_) (hout:=(by intro x;rcases x with _ | _ <;> rfl))
 refine y3 1 [2,4,7,9,95,96,97,98] [500000,500001,500002] (zB (qc h (fun h=>?_) fun h=>?_))
 refine y4 [2,4,7,9,95,96,97] [500000,500001,500002] (zB (zC (z7 ?_)))
 obtain ⟨x73,hx73,h⟩:=aA h
 refine qX aU hx73 (y1 3 [2,4,7,9,12,95,96,97] [12,500000,500001,500002] (z7 (zA 3 ?_)))
 obtain ⟨r75,hr75,h⟩:=aA h
 refine qP (W.Om hr75) (zP fun u k=>?_)
 refine yE k [2,4,7,9,95,96,97,104] [500000,500001,500002] (qc h (fun h=>?_) fun h=>?_)
 refine z8 1 ⟨[(8,vB false)],[]⟩ fun u k=>?_
 refine aT (aO ?_)
 cases h
 exact zF k
 refine zM fun u k=>?_
 refine aH (yE k [2,4,7,9,95,96,97] [500000,500001,500002] (zD (z6 2 fun u k=>?_)))
 cases h
 exact zH k
 refine zL 0 fun u k=>?_
 refine aQ ?_
 cases h
 exact zF k
 rcases x76 with j77 | j78
 refine aT (aO ?_)
 obtain rfl:=osi h
 exact zV k [(8,vB false)]
 refine zQ (yE k [2,4,7,9] [500000,500001,500002] (zB (z7 (zA 1 (qL bF all (y1 1 [4,7,9,106,107,108] [500000,500001,500002] ?_))))))
 refine zC ?_
 obtain ⟨x194,hx194,h⟩:=aA h
 refine ql hx194 (fun s157=>⟨[(4,.ptr 500000 0),(7,.ptr 500001 0),(9,.ptr 500002 0),(106,bB all),(107,vI (all.length:Int)),(108,vI s157)],[(500000,.box (bG st)),(500001,.box [(vI x3.Piece),(vI x3.Hole),(vI x3.Joints),(vI x3.Lead.X),(vI x3.Lead.Y)]),(500002,.box [(vI x3.Lead.X),(vI x3.Lead.Y)])]⟩) (fun x194=>match x194 with | .inl j195=>(.ret,⟨[(8,vB true)],[]⟩) | .inr j196=>(.exit 2,⟨[],[]⟩)) qH (fun s157 r h=>?_) (fun u k=>?_) (hout:=(by intro x;rcases x with _ | _ <;> rfl))
 refine y3 1 [4,7,9,106,107,108,109] [500000,500001,500002] (zB (qc h (fun h=>?_) fun h=>?_))
 refine y4 [4,7,9,106,107,108] [500000,500001,500002] (zB (zC (z7 (zA 1 ?_))))
 obtain ⟨x186,hx186,h⟩:=aA h
 refine qX bF hx186 (y1 4 [4,7,9,13,14,106,107,108] [14,500000,500001,500002] (zB ?_))
 obtain ⟨j190,hj190,h⟩:=aA h
 refine zT ⟨[(4,.ptr 500000 0),(7,.ptr 500001 0),(9,.ptr 500002 0),(106,bB all),(107,vI (all.length:Int)),(108,vI s157),(131,vB j190)],[(500000,.box (bG st)),(500001,.box [(vI x3.Piece),(vI x3.Hole),(vI x3.Joints),(vI x3.Lead.X),(vI x3.Lead.Y)]),(500002,.box [(vI x3.Lead.X),(vI x3.Lead.Y)])]⟩ ?_ fun u k=>?_
 replace h:=hj190
 refine zA 3 ?_
 obtain ⟨r191,hr191,h⟩:=aA h
 refine qP (W.Wh hr191) (zA 1 (qB h [4,7,9,13,14,106,107,108,117] [14,500000,500001,500002] [117] (fun h=>?_) fun h=>?_))
 refine zA 3 ?_
 obtain ⟨x192,hx192,h⟩:=aA h
 refine qX cB hx192 (zA 4 (zS x192 (fun b0=>⟨[(4,.ptr 500000 0),(7,.ptr 500001 0),(9,.ptr 500002 0),(14,.ptr 14 0),(106,bB all),(107,vI (all.length:Int)),(108,vI s157),(125,vB (!b0))],[(14,.box (bF x186)),(500000,.box (bG st)),(500001,.box [(vI x3.Piece),(vI x3.Hole),(vI x3.Joints),(vI x3.Lead.X),(vI x3.Lead.Y)]),(500002,.box [(vI x3.Lead.X),(vI x3.Lead.Y)])]⟩) (fun hb=>?_) fun hb=>?_))
 replace h:=iK hb h
 refine z6 6 fun u k=>?_
 cases h
 exact zG k
 replace h:=iJ hb h
 refine zA 3 ?_
 obtain ⟨r193,hr193,h⟩:=aA h
 refine qP (W.KR hr193) (z6 2 fun u k=>?_)
 cases h
 exact zG k
 refine z6 14 fun u k=>?_
 cases h
 exact zG k
 refine yE k [4,7,9,106,107,108,131] [500000,500001,500002] (qc h (fun h=>?_) fun h=>?_)
 refine z8 1 ⟨[(8,vB true)],[]⟩ fun u k=>?_
 refine aT (aO ?_)
 cases h
 exact zF k
 refine zM fun u k=>?_
 refine aH (yE k [4,7,9,106,107,108] [500000,500001,500002] (zD (z6 2 fun u k=>?_)))
 cases h
 exact zH k
 refine zL 2 fun u k=>?_
 refine aQ ?_
 cases h
 exact zF k
 rcases x194 with j195 | j196
 refine aT (aO ?_)
 obtain rfl:=osi h
 exact zV k [(8,vB true)]
 refine zQ (yE k [] [] (z8 1 ⟨[(8,vB false)],[]⟩ fun u k=>?_))
 obtain rfl:=osi h
 exact zV k [(8,vB false)]
theorem W.jF {s r} (h:iQ s=some r):PC G.P 160 [.sl (List.map cB s)] [] (.row (.top 0) 4) [(0,.row 4 [] (List.map cB r))]:=by
 replace h:app [] s=some r:=h
 refine zU G Tryz.func160 (y3 1 [0] [] (zB (z7 (zA 1 (Wj (es:=List.map cB s) (by kernel_rfl) (fun hn=>?_) ?_)))))
 obtain rfl:s=[]:=List.map_eq_nil_iff.1 hn
 obtain rfl:[]=r:=Option.some.inj ((qY (by simp [LIM])).symm.trans h)
 refine zP fun u k=>?_
 refine yE k [0,4] [] (Xa (by kernel_rfl) (by kernel_rfl) (z8 1 ⟨[(2,ro 2 4)],[(2,wB 4 [])]⟩ fun u k=>?_))
 exact aO (Qb k [(2,ro 0 4)] (Qy [(2,0)] rfl rfl (by kernel_rfl)) (by kernel_rfl))
 refine zP fun u k=>?_
 refine yE k [0,4] [] (Qw (by kernel_rfl) (by kernel_rfl) (y4 [0] [] (z7 (fF (Ov (es:=List.map cB []) (e:=4) (d:=5) (by kernel_rfl)) (zA 1 (iI (FW (c:=cB) (l:=[]) (l2:=s) (x:=sB s) (g:=5) (e:=4) (sz:=1) (d:=7) (by kernel_rfl) (by kernel_rfl) (by kernel_rfl) (by kernel_rfl) (fun _=>rfl) rfl h) ?_))))))
 refine y1 1 [2] [5] (zN fun u k=>?_)
 exact Qb k [(2,ro 0 4)] (Qy [(5,0)] rfl rfl (by kernel_rfl)) (by kernel_rfl)
theorem W.Ey {s r} (h:yA s=some r):PC G.P 161 [.sl (List.map cI s)] [] (.row (.top 0) 3) [(0,.row 3 [] (List.map cI r))]:=by
 replace h:app [] s=some r:=h
 refine zU G Tryz.func161 (y3 1 [0] [] (zB (z7 (zA 1 (Wj (es:=List.map cI s) (by kernel_rfl) (fun hn=>?_) ?_)))))
 obtain rfl:s=[]:=List.map_eq_nil_iff.1 hn
 obtain rfl:[]=r:=Option.some.inj ((qY (by simp [LIM])).symm.trans h)
 refine zP fun u k=>?_
 refine yE k [0,4] [] (Xa (by kernel_rfl) (by kernel_rfl) (z8 1 ⟨[(2,ro 2 3)],[(2,wI 3 [])]⟩ fun u k=>?_))
 exact aO (Qb k [(2,ro 0 3)] (Qy [(2,0)] rfl rfl (by kernel_rfl)) (by kernel_rfl))
 refine zP fun u k=>?_
 refine yE k [0,4] [] (Qw (by kernel_rfl) (by kernel_rfl) (y4 [0] [] (z7 (fF (Ov (es:=List.map cI []) (e:=3) (d:=5) (by kernel_rfl)) (zA 1 (iI (FW (c:=cI) (l:=[]) (l2:=s) (x:=sI s) (g:=5) (e:=3) (sz:=1) (d:=7) (by kernel_rfl) (by kernel_rfl) (by kernel_rfl) (by kernel_rfl) (fun _=>rfl) rfl h) ?_))))))
 refine y1 1 [2] [5] (zN fun u k=>?_)
 exact Qb k [(2,ro 0 3)] (Qy [(5,0)] rfl rfl (by kernel_rfl)) (by kernel_rfl)
theorem W.Sr {st r} (h:vG st=some r):PC G.P 117 [(.agg (bG st))] [] (.agg [(.row (.top 1) 4),(.row (.top 2) 36),(.row (.top 3) 4),(.row (.top 4) 3),(.row (.top 5) 4)]) [(0,.box [(.row (.top 1) 4),(.row (.top 2) 36),(.row (.top 3) 4),(.row (.top 4) 3),(.row (.top 5) 4)]),(1,.row 4 [] (List.map cB r.Cut)),(2,.row 36 [(0,4)] (List.map (cS cB) r.Holes)),(3,.row 4 [] (List.map cB r.Done)),(4,.row 3 [] (List.map cI r.Joints)),(5,.row 4 [] (List.map cB r.Fallen))]:=by
 refine zU G Tryz.func117 (yK [0] [] (y3 2 [1,2] [1,2] (zB (sK [(2,[700100]),(5,[700250]),(8,[700400]),(11,[700550]),(13,[3])] [(2,[700100]),(5,[700250]),(8,[700400]),(11,[700550]),(13,[3])] [] [(0,[3]),(1,[3]),(2,[3]),(3,[700100,3]),(4,[700100,3]),(5,[3]),(6,[700100,700250,3]),(7,[700100,700250,3]),(8,[3]),(9,[700100,700250,700400,3]),(10,[700100,700250,700400,3]),(11,[3]),(12,[3]),(13,[700100,700250,700400,700550])] [(0,[700100,700250,700400,700550,3]),(1,[700100,700250,700400,700550,3]),(2,[700250,700400,700550,3]),(3,[700100,700250,700400,700550,3]),(4,[700100,700250,700400,700550,3]),(5,[700400,700550,3]),(6,[700100,700250,700400,700550,3]),(7,[700100,700250,700400,700550,3]),(8,[700550,3]),(9,[700100,700250,700400,700550,3]),(10,[700100,700250,700400,700550,3]),(11,[3]),(12,[3]),(13,[700100,700250,700400,700550])] 14 (by kernel_rfl) (by kernel_rfl) [700100,700250,700400,700550,3] (by kernel_rfl) (by kernel_rfl) (dN 2 ?_)))))
 obtain ⟨r9,hr9,h⟩:=aA h
 refine dC [(0,700100)] (W.jF hr9) (dN 2 ?_)
 obtain ⟨r10,hr10,h⟩:=aA h
 refine dC [(0,700250)] (W.jF hr10) (dN 2 ?_)
 obtain ⟨r11,hr11,h⟩:=aA h
 refine dC [(0,700400)] (W.Ey hr11) (dN 2 ?_)
 obtain ⟨r12,hr12,h⟩:=aA h
 refine dC [(0,700550)] (W.jF hr12) (dN 1 (vW (g:=3) (ob:=.box [.nl,.nl,.nl,.nl,.nl]) (v:=(.ptr 3 0)) (by kernel_rfl) (by kernel_rfl) (by kernel_rfl) (by kernel_rfl) (by kernel_rfl) (by kernel_rfl) (dE (oN 1 (zO fun u k=>?_)))))
 refine yE k [1,2,3] [1,2,3,700100,700250,700400,700550] (zB (z7 (zA 2 (qL (cS cB) st.Holes (y1 1 [2,3,20,21,22] [2,3,700100,700250,700400,700550] (zC ?_))))))
 obtain ⟨x114,hx114,h⟩:=aA h
 refine ql hx114 (fun s81=>⟨[(2,.ptr 500000 0),(3,.ptr 500001 0),(20,.sl (List.map (cS cB) st.Holes)),(21,vI (st.Holes.length:Int)),(22,vI s81.1)],[(500000,.box [.nl,.nl,.nl,.nl,.nl]),(500001,.box [(ro 500002 4),(ro 500003 36),(ro 500004 4),(ro 500005 3),(ro 500006 4)]),(500002,wB 4 r9),(500003,.row 36 [(0,4)] (List.map (cS cB) s81.2)),(500004,wB 4 r10),(500005,wI 3 r11),(500006,wB 4 r12)]⟩) (fun x114=>(.exit 0,⟨[(2,.ptr 500000 0),(3,.ptr 500001 0)],[(500000,.box [.nl,.nl,.nl,.nl,.nl]),(500001,.box [(ro 500002 4),(ro 500003 36),(ro 500004 4),(ro 500005 3),(ro 500006 4)]),(500002,wB 4 r9),(500003,.row 36 [(0,4)] (List.map (cS cB) x114)),(500004,wB 4 r10),(500005,wI 3 r11),(500006,wB 4 r12)]⟩)) (sp [.row (.box 3 1) 800000 36 [(0,4)]] [(2,500000),(3,500001),(700100,500002),(700250,500004),(700400,500005),(700550,500006),(800000,500003)]) (fun s81 r h=>?_) fun u k=>?_
 refine y3 1 [2,3,20,21,22,23] [500000,500001,500002,500003,500004,500005,500006] (zB (qc h (fun h=>?_) fun h=>?_))
 refine y4 [2,3,20,21,22] [500000,500001,500002,500003,500004,500005,500006] (zB (zC (z7 ?_)))
 obtain ⟨x107,hx107,h⟩:=aA h
 refine qX (cS cB) hx107 (y1 2 [2,3,5,20,21,22] [500000,500001,500002,500003,500004,500005,500006] (sK [(3,[700150]),(4,[700150,30])] [(3,[700150]),(4,[30])] [] [(0,[700150,30]),(1,[700150,30])] [(0,[700150,30]),(1,[700150,30]),(2,[700150,30]),(3,[30])] 5 (by kernel_rfl) (by kernel_rfl) [700150,30] (by kernel_rfl) (by kernel_rfl) (dN 3 ?_)))
 obtain ⟨r112,hr112,h⟩:=aA h
 refine dC [(0,700150)] (W.jF hr112) (Zy (c:=(cS cB)) (c2:=cB) (e:=36) (e':=4) (d:=700150) (T:=30) (l:=r112) (x:=r112) (by kernel_rfl) (by kernel_rfl) (by kernel_rfl) (by kernel_rfl) rfl (by kernel_rfl) (by kernel_rfl) (by kernel_rfl) (by kernel_rfl) (dE ?_))
 obtain ⟨l113,hl113,h⟩:=aA h
 refine TR (NB (c:=(cS cB)) (l:=s81.2) (l2:=[r112]) (g:=500003) (T:=30) (e:=36) (J:=[(0,4)]) (sz:=1) (d:=31) (by kernel_rfl) (by kernel_rfl) (by kernel_rfl) (by kernel_rfl) hl113) (oN 2 (zO fun u k=>?_))
 refine aH (yE k [2,3,20,21,22] [500000,500001,500002,500003,500004,500005,500006] (zD (z6 2 fun u k=>?_)))
 cases h
 exact zH k
 refine zL 0 fun u k=>?_
 refine aQ ?_
 cases h
 exact zF k
 refine zQ (yE k [2,3] [500000,500001,500002,500003,500004,500005,500006] (z8 2 ⟨[(2,.ptr 500000 0)],[(500000,.box [(ro 500002 4),(ro 500003 36),(ro 500004 4),(ro 500005 3),(ro 500006 4)]),(500002,wB 4 r9),(500003,.row 36 [(0,4)] (List.map (cS cB) x114)),(500004,wB 4 r10),(500005,wI 3 r11),(500006,wB 4 r12)]⟩ fun u k=>?_))
 obtain rfl:=osi h
 exact qW k [(2,.ptr 0 0)] (sp [] [(500000,0),(500002,1),(500003,2),(500004,3),(500005,4),(500006,5)])
theorem W.DL {l all st x3 r} (h:Vz l all st x3=some r):PC G.P 54 [(.agg (aR l)),(.sl (List.map bF all)),(.agg (bG st)),(.agg (dO x3))] [] (.tup [(.agg [(.row (.top 1) 4),(.row (.top 2) 36),(.row (.top 3) 4),(.row (.top 4) 3),(.row (.top 5) 4)]),(vI r.2)]) [(0,.box [(.row (.top 1) 4),(.row (.top 2) 36),(.row (.top 3) 4),(.row (.top 4) 3),(.row (.top 5) 4)]),(1,.row 4 [] (List.map cB r.1.Cut)),(2,.row 36 [(0,4)] (List.map (cS cB) r.1.Holes)),(3,.row 4 [] (List.map cB r.1.Done)),(4,.row 3 [] (List.map cI r.1.Joints)),(5,.row 4 [] (List.map cB r.1.Fallen))]:=by
 refine zU G Tryz.func54 (yK [0,1,2,3] [] (y3 5 [1,4,6,7,8] [4,6,7,8] (zB (zC (zB ?_)))))
 obtain ⟨j18,hj18,h⟩:=aA h
 refine zT ⟨[(1,bB all),(4,.ptr 500000 0),(6,.ptr 500001 0),(7,.ptr 500002 0),(8,.ptr 500003 0),(14,vB j18)],[(500000,.box (aR l)),(500001,.box (bG st)),(500002,.box (dO x3)),(500003,.box [.nl,.nl,.nl,.nl,.nl])]⟩ ?_ fun u k=>?_
 replace h:=hj18
 refine zA 3 (qL bF all ?_)
 obtain ⟨r19,hr19,h⟩:=aA h
 refine qP (W.Uj hr19) (zA 2 (zS r19 (fun b0=>⟨[(1,bB all),(4,.ptr 4 0),(6,.ptr 6 0),(7,.ptr 7 0),(8,.ptr 8 0),(21,vB (!b0))],[(4,.box (aR l)),(6,.box (bG st)),(7,.box (dO x3)),(8,.box [.nl,.nl,.nl,.nl,.nl])]⟩) (fun hb=>?_) fun hb=>?_))
 replace h:=iK hb h
 refine zA 5 (qB h [1,4,6,7,8,26] [4,6,7,8] [26] (fun h=>?_) fun h=>?_)
 refine z6 8 fun u k=>?_
 cases h
 exact bH k (sp [] [(4,500000),(6,500001),(7,500002),(8,500003)])
 refine zA 4 (qL aU l.Pieces (z6 3 fun u k=>?_))
 cases h
 exact bH k (sp [] [(4,500000),(6,500001),(7,500002),(8,500003)])
 replace h:=iJ hb h
 refine z6 13 fun u k=>?_
 cases h
 exact bH k (sp [] [(4,500000),(6,500001),(7,500002),(8,500003)])
 refine yE k [1,4,6,7,8,14] [500000,500001,500002,500003] (qc h (fun h=>?_) fun h=>?_)
 refine z8 3 ⟨[(8,.ptr 500003 0),(9,vI 1)],[(500003,.box [.nl,.nl,.nl,.nl,.nl])]⟩ fun u k=>?_
 refine aT (aO ?_)
 obtain rfl:=osi h
 exact qW k [(8,.ptr 0 0),(9,vI 1)] (sp [.row (.box 500003 0) 800000 4 [],.row (.box 500003 1) 800001 36 [(0,4)],.row (.box 500003 2) 800002 4 [],.row (.box 500003 3) 800003 3 [],.row (.box 500003 4) 800004 4 []] [(500003,0),(800000,1),(800001,2),(800002,3),(800003,4),(800004,5)])
 refine zB ?_
 obtain ⟨j22,hj22,h⟩:=aA h
 refine gK ⟨[(1,bB all),(4,.ptr 500000 0),(6,.ptr 500001 0),(7,.ptr 500002 0),(8,.ptr 500003 0),(35,vB j22)],[(500000,.box (aR l)),(500001,.box (bG st)),(500002,.box (dO x3)),(500003,.box [.nl,.nl,.nl,.nl,.nl])]⟩ [] [] [] [] [] 14 (by kernel_rfl) (by kernel_rfl) (by kernel_rfl) ?_ fun u k=>?_
 replace h:=hj22
 refine dN 4 (bI (decide (x3.Hole<(-1))) (fun b0=>⟨[(39,vB b0),(38,vB b0),(37,vI x3.Hole),(36,.ptr 500002 1),(1,bB all),(4,.ptr 500000 0),(6,.ptr 500001 0),(7,.ptr 500002 0),(8,.ptr 500003 0),(14,vB j18)],[(500000,.box (aR l)),(500001,.box (bG st)),(500002,.box (dO x3)),(500003,.box [.nl,.nl,.nl,.nl,.nl])]⟩) (by kernel_rfl) (fun hb=>?_) fun hb=>?_)
 replace h:=iK hb h
 refine dN 10 (dE (oN 23 (zO fun u k=>?_)))
 cases h
 exact zG k
 replace h:=iJ hb h
 refine dN 6 ?_
 obtain ⟨x23,hx23,h⟩:=aA h
 refine dX aU hx23 (dN 2 (dL aB x23.Cuts (dE (oN 3 (oB h [1,4,6,7,8,52] [500000,500001,500002,500003] [52] (fun h=>?_) fun h=>?_)))))
 refine oN 20 (zO fun u k=>?_)
 cases h
 exact zG k
 refine oN 5 (oB h [1,4,6,7,8,57] [500000,500001,500002,500003] [57] (fun h=>?_) fun h=>?_)
 refine oN 15 (zO fun u k=>?_)
 cases h
 exact zG k
 refine oN 5 (oB h [1,4,6,7,8,62] [500000,500001,500002,500003] [62] (fun h=>?_) fun h=>?_)
 refine oN 10 (zO fun u k=>?_)
 cases h
 exact zG k
 refine oN 4 (oB h [1,4,6,7,8,62,66] [500000,500001,500002,500003] [66] (fun h=>?_) fun h=>?_)
 refine oN 6 (zO fun u k=>?_)
 cases h
 exact zG k
 refine oN 6 (zO fun u k=>?_)
 cases h
 exact zG k
 refine yE k [1,4,6,7,8,35] [500000,500001,500002,500003] (qc h (fun h=>?_) fun h=>?_)
 refine z8 3 ⟨[(8,.ptr 500003 0),(9,vI 1)],[(500003,.box [.nl,.nl,.nl,.nl,.nl])]⟩ fun u k=>?_
 refine aT (aO ?_)
 obtain rfl:=osi h
 exact qW k [(8,.ptr 0 0),(9,vI 1)] (sp [.row (.box 500003 0) 800000 4 [],.row (.box 500003 1) 800001 36 [(0,4)],.row (.box 500003 2) 800002 4 [],.row (.box 500003 3) 800003 3 [],.row (.box 500003 4) 800004 4 []] [(500003,0),(800000,1),(800001,2),(800002,3),(800003,4),(800004,5)])
 refine z7 (zA 3 ?_)
 obtain ⟨r25,hr25,h⟩:=aA h
 refine qP (W.Su hr25) (y1 2 [1,4,6,7,8,73] [500000,500001,500002,500003] (qc h (fun h=>?_) fun h=>?_))
 refine z8 3 ⟨[(8,.ptr 500003 0),(9,vI 12)],[(500003,.box [.nl,.nl,.nl,.nl,.nl])]⟩ fun u k=>?_
 refine aT (aO ?_)
 obtain rfl:=osi h
 exact qW k [(8,.ptr 0 0),(9,vI 12)] (sp [.row (.box 500003 0) 800000 4 [],.row (.box 500003 1) 800001 36 [(0,4)],.row (.box 500003 2) 800002 4 [],.row (.box 500003 3) 800003 3 [],.row (.box 500003 4) 800004 4 []] [(500003,0),(800000,1),(800001,2),(800002,3),(800003,4),(800004,5)])
 refine zB ?_
 obtain ⟨j28,hj28,h⟩:=aA h
 refine zT ⟨[(1,bB all),(4,.ptr 500000 0),(6,.ptr 500001 0),(7,.ptr 500002 0),(8,.ptr 500003 0),(80,vB j28)],[(500000,.box (aR l)),(500001,.box (bG st)),(500002,.box (dO x3)),(500003,.box [.nl,.nl,.nl,.nl,.nl])]⟩ ?_ fun u k=>?_
 replace h:=hj28
 refine zA 4 (qB h [1,4,6,7,8,84] [500000,500001,500002,500003] [84] (fun h=>?_) fun h=>?_)
 refine zA 5 (qB h [1,4,6,7,8,89] [500000,500001,500002,500003] [89] (fun h=>?_) fun h=>?_)
 refine zA 4 ?_
 obtain ⟨x29,hx29,h⟩:=aA h
 refine qX aU hx29 (zA 1 ?_)
 obtain ⟨r30,hr30,h⟩:=aA h
 refine qP (W.EW hr30) (z6 2 fun u k=>?_)
 cases h
 exact zG k
 refine z6 9 fun u k=>?_
 cases h
 exact zG k
 refine z6 14 fun u k=>?_
 cases h
 exact zG k
 refine yE k [1,4,6,7,8,80] [500000,500001,500002,500003] (qc h (fun h=>?_) fun h=>?_)
 refine z8 3 ⟨[(8,.ptr 500003 0),(9,vI 15)],[(500003,.box [.nl,.nl,.nl,.nl,.nl])]⟩ fun u k=>?_
 refine aT (aO ?_)
 obtain rfl:=osi h
 exact qW k [(8,.ptr 0 0),(9,vI 15)] (sp [.row (.box 500003 0) 800000 4 [],.row (.box 500003 1) 800001 36 [(0,4)],.row (.box 500003 2) 800002 4 [],.row (.box 500003 3) 800003 3 [],.row (.box 500003 4) 800004 4 []] [(500003,0),(800000,1),(800001,2),(800002,3),(800003,4),(800004,5)])
 refine z7 (zA 4 ?_)
 obtain ⟨r32,hr32,h⟩:=aA h
 refine qP (W.Uk hr32) (y1 2 [1,4,6,7,8,99] [500000,500001,500002,500003] (qc h (fun h=>?_) fun h=>?_))
 refine z8 3 ⟨[(8,.ptr 500003 0),(9,vI 14)],[(500003,.box [.nl,.nl,.nl,.nl,.nl])]⟩ fun u k=>?_
 refine aT (aO ?_)
 obtain rfl:=osi h
 exact qW k [(8,.ptr 0 0),(9,vI 14)] (sp [.row (.box 500003 0) 800000 4 [],.row (.box 500003 1) 800001 36 [(0,4)],.row (.box 500003 2) 800002 4 [],.row (.box 500003 3) 800003 3 [],.row (.box 500003 4) 800004 4 []] [(500003,0),(800000,1),(800001,2),(800002,3),(800003,4),(800004,5)])
 refine zM fun u k=>?_
 refine aH (yE k [1,4,6,7,8] [500000,500001,500002,500003] (z7 (zA 1 ?_)))
 obtain ⟨r34,hr34,h⟩:=aA h
 refine qC [] [(0,700050),(1,700051),(2,700052),(3,700053),(4,700054),(5,700055)] (W.Sr hr34) (y1 2 [1,4,7,8,10] [10,500000,500002,500003,700051,700052,700053,700054,700055] (bU (fun (j89:(List Bool)×(List (List Bool))×(List Bool)×(List Int))=>⟨[(1,bB all),(4,.ptr 500000 0),(8,.ptr 500001 0),(10,.ptr 500002 0)],[(500000,.box (aR l)),(500001,.box [.nl,.nl,.nl,.nl,.nl]),(500002,.box [(ro 500003 4),(ro 500004 36),(ro 500005 4),(ro 500006 3),(ro 500007 4)]),(500003,wB 4 j89.1),(500004,.row 36 [(0,4)] (List.map (cS cB) j89.2.1)),(500005,wB 4 j89.2.2.1),(500006,wI 3 j89.2.2.2),(500007,wB 4 r34.Fallen)]⟩) (Be l all r34) r (by kernel_rfl) (fun j89 h=>?_) ?_))
 refine zB (z7 (zA 2 (qL aU l.Pieces (y1 1 [1,8,10,151,152] [500001,500002,500003,500004,500005,500006,500007] (zC ?_)))))
 obtain ⟨x209,hx209,h⟩:=aA h
 refine ql hx209 (fun s170=>⟨[(1,bB all),(8,.ptr 500000 0),(10,.ptr 500001 0),(151,vI (l.Pieces.length:Int)),(152,vI s170.1)],[(500000,.box [.nl,.nl,.nl,.nl,.nl]),(500001,.box [(ro 500002 4),(ro 500003 36),(ro 500004 4),(ro 500005 3),(ro 500006 4)]),(500002,wB 4 j89.1),(500003,.row 36 [(0,4)] (List.map (cS cB) j89.2.1)),(500004,wB 4 j89.2.2.1),(500005,wI 3 j89.2.2.2),(500006,wB 4 s170.2)]⟩) (fun x209=>(.exit 3,⟨[(8,.ptr 500000 0),(10,.ptr 500001 0)],[(500000,.box [.nl,.nl,.nl,.nl,.nl]),(500001,.box [(ro 500002 4),(ro 500003 36),(ro 500004 4),(ro 500005 3),(ro 500006 4)]),(500002,wB 4 j89.1),(500003,.row 36 [(0,4)] (List.map (cS cB) j89.2.1)),(500004,wB 4 j89.2.2.1),(500005,wI 3 j89.2.2.2),(500006,wB 4 x209)]⟩)) (sp [] [(500001,500000),(500002,500001),(500003,500002),(500004,500003),(500005,500004),(500006,500005),(500007,500006)]) (fun s170 r h=>?_) fun u k=>?_
 refine y3 1 [1,8,10,151,152,153] [500000,500001,500002,500003,500004,500005,500006] (zB (qc h (fun h=>?_) fun h=>?_))
 refine y4 [1,8,10,151,152] [500000,500001,500002,500003,500004,500005,500006] (bU (fun (j199:(List Bool))=>⟨[(1,bB all),(8,.ptr 500000 0),(10,.ptr 500001 0),(151,vI (l.Pieces.length:Int)),(152,vI s170.1)],[(500000,.box [.nl,.nl,.nl,.nl,.nl]),(500001,.box [(ro 500002 4),(ro 500003 36),(ro 500004 4),(ro 500005 3),(ro 500006 4)]),(500002,wB 4 j89.1),(500003,.row 36 [(0,4)] (List.map (cS cB) j89.2.1)),(500004,wB 4 j89.2.2.1),(500005,wI 3 j89.2.2.2),(500006,wB 4 j199)]⟩) (Qk s170) r (by kernel_rfl) (fun j199 h=>?_) ?_)
 refine zD (z6 2 fun u k=>?_)
 cases h
 exact zH k
 refine zC (y3 2 [1,8,10,13,151,152] [500000,500001,500002,500003,500004,500005,500006] (zB ?_))
 obtain ⟨j203,hj203,h⟩:=aA h
 refine zT ⟨[(1,bB all),(8,.ptr 500000 0),(10,.ptr 500001 0),(13,vI s170.1),(151,vI (l.Pieces.length:Int)),(152,vI s170.1),(174,vB j203)],[(500000,.box [.nl,.nl,.nl,.nl,.nl]),(500001,.box [(ro 500002 4),(ro 500003 36),(ro 500004 4),(ro 500005 3),(ro 500006 4)]),(500002,wB 4 j89.1),(500003,.row 36 [(0,4)] (List.map (cS cB) j89.2.1)),(500004,wB 4 j89.2.2.1),(500005,wI 3 j89.2.2.2),(500006,wB 4 s170.2)]⟩ ?_ fun u k=>?_
 replace h:=hj203
 refine zA 3 ?_
 obtain ⟨r204,hr204,h⟩:=aA h
 refine qV [500002,500003,500004,500005,500006] (W.Hz hr204) (zA 1 (qB h [1,8,10,13,151,152,159] [500000,500001,500002,500003,500004,500005,500006] [159] (fun h=>?_) fun h=>?_))
 refine zA 3 ?_
 obtain ⟨x205,hx205,h⟩:=aA h
 refine qI cB hx205 (qR cB hx205 (zA 1 (qB h [1,8,10,13,151,152,159,165] [500000,500001,500002,500003,500004,500005,500006] [165] (fun h=>?_) fun h=>?_)))
 refine zA 3 ?_
 obtain ⟨x206,hx206,h⟩:=aA h
 refine qI cI hx206 (qR cI hx206 (z6 4 fun u k=>?_))
 cases h
 exact zG k
 refine z6 9 fun u k=>?_
 cases h
 exact zG k
 refine z6 15 fun u k=>?_
 cases h
 exact zG k
 refine yE k [1,8,10,13,151,152,174] [500000,500001,500002,500003,500004,500005,500006] (qc h (fun h=>?_) fun h=>?_)
 refine zD (zA 3 ?_)
 obtain ⟨x208,hx208,h⟩:=aA h
 refine qI cB hx208 (qS cB true hx208 (zP fun u k=>?_))
 exact aH (aV (List.set s170.2 (Int.toNat s170.1) true) h k (here (by kernel_rfl)))
 refine zM fun u k=>?_
 exact aH (aV s170.2 h k (here (by kernel_rfl)))
 refine zL 3 fun u k=>?_
 refine aQ ?_
 cases h
 exact zF k
 refine zQ (yE k [8,10] [500000,500001,500002,500003,500004,500005,500006] (z8 3 ⟨[(8,.ptr 500000 0),(9,vI 0)],[(500000,.box [(ro 500002 4),(ro 500003 36),(ro 500004 4),(ro 500005 3),(ro 500006 4)]),(500002,wB 4 j89.1),(500003,.row 36 [(0,4)] (List.map (cS cB) j89.2.1)),(500004,wB 4 j89.2.2.1),(500005,wI 3 j89.2.2.2),(500006,wB 4 x209)]⟩ fun u k=>?_))
 obtain rfl:=osi h
 exact qW k [(8,.ptr 0 0),(9,vI 0)] (sp [] [(500000,0),(500002,1),(500003,2),(500004,3),(500005,4),(500006,5)])
 refine y3 3 [1,4,7,8,10,111] [10,500000,500002,500003,700051,700052,700053,700054,700055] (qc h (fun h=>?_) fun h=>?_)
 refine qM 8 (dN 4 ?_)
 obtain ⟨x214,hx214,h⟩:=aA h
 refine dI (cS cB) hx214 (xG (by kernel_rfl) (Jo (c:=(cS cB)) (l:=r34.Holes) (i:=(Int.toNat x3.Piece)) (v:=(.row (.sub 700052 (Int.toNat x3.Piece) 0) 4)) (agg:=false) (sz:=1) (kk:=(.top 700052)) (e:=36) (off:=0) (J:=[(0,4)]) (by kernel_rfl) (by kernel_rfl) (by kernel_rfl) ((Ap hx214).2) (by kernel_rfl)) (by kernel_rfl) (by kernel_rfl) (dN 2 (dE ?_)))
 obtain ⟨x215,hx215,h⟩:=aA h
 refine Du (Vp (c:=cB) (l:=x214) (i:=x3.Hole) (kd:=.i64) (kk:=(.sub 700052 (Int.toNat x3.Piece) 0)) (e:=4) (sz:=1) (by kernel_rfl) (yV (g:=700052) (i:=(Int.toNat x3.Piece)) (j:=0) (c:=(cS cB)) (c2:=cB) (e:=36) (J:=[(0,4)]) (l:=r34.Holes) (x:=x214) (l2:=x214) (by kernel_rfl) rfl ((Ap hx214).2) rfl) hx215 rfl) (Du (Qe (c:=cB) (l:=x214) (i:=(Int.toNat x3.Hole)) (x:=x215) (x':=true) (v:=(vB true)) (agg:=false) (sz:=1) (kk:=(.sub 700052 (Int.toNat x3.Piece) 0)) (e:=4) (off:=0) (J:=[]) (o:=.row 36 [(0,4)] (List.map (cS cB) (List.set r34.Holes (Int.toNat x3.Piece) (List.set x214 (Int.toNat x3.Hole) true)))) (by kernel_rfl) (yV (g:=700052) (i:=(Int.toNat x3.Piece)) (j:=0) (c:=(cS cB)) (c2:=cB) (e:=36) (J:=[(0,4)]) (l:=r34.Holes) (x:=x214) (l2:=x214) (by kernel_rfl) rfl ((Ap hx214).2) rfl) (by kernel_rfl) ((Ap hx215).2) (by kernel_rfl) (by kernel_rfl) (Ny (g:=700052) (i:=(Int.toNat x3.Piece)) (j:=0) (c:=(cS cB)) (e:=36) (J:=[(0,4)]) (l:=r34.Holes) (x:=x214) (x':=(List.set x214 (Int.toNat x3.Hole) true)) (by kernel_rfl) ((Ap hx214).2) rfl)) (zO fun u k=>?_))
 exact aV (r34.Cut,(List.set r34.Holes (Int.toNat x3.Piece) (List.set x214 (Int.toNat x3.Hole) true)),r34.Done,r34.Joints) h k (sp [] [(10,500002),(500000,500000),(500003,500001),(700051,500003),(700052,500004),(700053,500005),(700054,500006),(700055,500007)])
 refine zB (qN [(11,[700053])] [] [] [(4,[700053]),(5,[700053]),(6,[700053]),(7,[700053]),(8,[700053]),(9,[700053])] [] 12 (dN 10 ?_))
 obtain ⟨x220,hx220,h⟩:=aA h
 refine dI cB hx220 (dS cB true hx220 (dE ?_))
 obtain ⟨x221,hx221,h⟩:=aA h
 refine oI cI hx221 (oS cI x3.Joints hx221 (zO fun u k=>?_))
 refine yE k [1,4,7,8,10] [10,500000,500002,500003,700051,700052,700053,700054,700055] (z7 (zA 1 (qL bF all (y1 1 [1,4,7,8,10,133,134,135] [10,500000,500002,500003,700051,700052,700053,700054,700055] (zC ?_)))))
 obtain ⟨x263,hx263,h⟩:=aA h
 refine ql hx263 (fun s236=>⟨[(1,bB all),(4,.ptr 500000 0),(7,.ptr 500001 0),(8,.ptr 500002 0),(10,.ptr 500003 0),(133,bB all),(134,vI (all.length:Int)),(135,vI s236.1)],[(500000,.box (aR l)),(500001,.box (dO x3)),(500002,.box [.nl,.nl,.nl,.nl,.nl]),(500003,.box [(ro 500004 4),(ro 500005 36),(ro 500006 4),(ro 500007 3),(ro 500008 4)]),(500004,wB 4 s236.2),(500005,.row 36 [(0,4)] (List.map (cS cB) r34.Holes)),(500006,wB 4 (List.set r34.Done (Int.toNat x3.Piece) true)),(500007,wI 3 (List.set r34.Joints (Int.toNat x3.Piece) x3.Joints)),(500008,wB 4 r34.Fallen)]⟩) (fun x263=>(.exit 1,⟨[(1,bB all),(4,.ptr 500000 0),(8,.ptr 500001 0),(10,.ptr 500002 0)],[(500000,.box (aR l)),(500001,.box [.nl,.nl,.nl,.nl,.nl]),(500002,.box [(ro 500003 4),(ro 500004 36),(ro 500005 4),(ro 500006 3),(ro 500007 4)]),(500003,wB 4 x263),(500004,.row 36 [(0,4)] (List.map (cS cB) r34.Holes)),(500005,wB 4 (List.set r34.Done (Int.toNat x3.Piece) true)),(500006,wI 3 (List.set r34.Joints (Int.toNat x3.Piece) x3.Joints)),(500007,wB 4 r34.Fallen)]⟩)) (sp [] [(10,500003),(500000,500000),(500002,500001),(500003,500002),(700051,500004),(700052,500005),(700053,500006),(700054,500007),(700055,500008)]) (fun s236 r h=>?_) fun u k=>?_
 refine y3 1 [1,4,7,8,10,133,134,135,136] [500000,500001,500002,500003,500004,500005,500006,500007,500008] (zB (qc h (fun h=>?_) fun h=>?_))
 refine y4 [1,4,7,8,10,133,134,135] [500000,500001,500002,500003,500004,500005,500006,500007,500008] (bU (fun (j256:(List Bool))=>⟨[(1,bB all),(4,.ptr 500000 0),(7,.ptr 500001 0),(8,.ptr 500002 0),(10,.ptr 500003 0),(133,bB all),(134,vI (all.length:Int)),(135,vI s236.1)],[(500000,.box (aR l)),(500001,.box (dO x3)),(500002,.box [.nl,.nl,.nl,.nl,.nl]),(500003,.box [(ro 500004 4),(ro 500005 36),(ro 500006 4),(ro 500007 3),(ro 500008 4)]),(500004,wB 4 j256),(500005,.row 36 [(0,4)] (List.map (cS cB) r34.Holes)),(500006,wB 4 (List.set r34.Done (Int.toNat x3.Piece) true)),(500007,wI 3 (List.set r34.Joints (Int.toNat x3.Piece) x3.Joints)),(500008,wB 4 r34.Fallen)]⟩) (Ql s236) r (by kernel_rfl) (fun j256 h=>?_) ?_)
 refine zD (z6 2 fun u k=>?_)
 cases h
 exact zH k
 refine zC (z7 (zA 1 ?_))
 obtain ⟨x258,hx258,h⟩:=aA h
 refine qX bF hx258 (y1 4 [1,4,7,8,10,11,12,133,134,135] [12,500000,500001,500002,500003,500004,500005,500006,500007,500008] (z7 (zA 3 ?_)))
 obtain ⟨r260,hr260,h⟩:=aA h
 refine qP (W.Wh hr260) (zP fun u k=>?_)
 refine yE k [1,4,7,8,10,11,133,134,135,143] [500000,500001,500002,500003,500004,500005,500006,500007,500008] (qc h (fun h=>?_) fun h=>?_)
 refine zD (zA 3 ?_)
 obtain ⟨x262,hx262,h⟩:=aA h
 refine qI cB hx262 (qS cB true hx262 (zP fun u k=>?_))
 exact aH (aV (List.set s236.2 (Int.toNat s236.1) true) h k (here (by kernel_rfl)))
 refine zM fun u k=>?_
 exact aH (aV s236.2 h k (here (by kernel_rfl)))
 refine zL 1 fun u k=>?_
 refine aQ ?_
 cases h
 exact xI k rfl (sp [] [(500000,500000),(500002,500001),(500003,500002),(500004,500003),(500005,500004),(500006,500005),(500007,500006),(500008,500007)])
 exact zQ (aV (x263,r34.Holes,(List.set r34.Done (Int.toNat x3.Piece) true),(List.set r34.Joints (Int.toNat x3.Piece) x3.Joints)) h k (here (by kernel_rfl)))
theorem W.PP {l st x2 r} (h:Zn l st x2=some r):PC G.P 20 [(.agg (aR l)),(.agg (bG st)),(.agg (dO x2))] [] (.tup [(.agg [(.row (.top 1) 4),(.sl (List.map (cS cB) r.1.Holes)),(.row (.top 2) 4),(.row (.top 3) 3),(.row (.top 4) 4)]),(vI r.2.1)]) [(0,.box [(.row (.top 1) 4),(.sl (List.map (cS cB) r.2.2)),(.row (.top 2) 4),(.row (.top 3) 3),(.row (.top 4) 4)]),(1,.row 4 [] (List.map cB r.1.Cut)),(2,.row 4 [] (List.map cB r.1.Done)),(3,.row 3 [] (List.map cI r.1.Joints)),(4,.row 4 [] (List.map cB r.1.Fallen))]:=by
 refine zU G Tryz.func20 (yK [0,1,2] [] (y3 5 [3,4,5,6] [3,4,5,6] (z7 (zA 1 ?_))))
 obtain ⟨r2,hr2,h⟩:=aA h
 refine qC [] [(0,700050)] (W.Eb hr2) (y1 5 [3,4,5,6,8,9] [3,4,5,6,700050] (zB (y3 2 [3,4,5,6,8,9,16] [3,4,5,6,700050] (qc h (fun h=>?_) fun h=>?_))))
 refine z8 4 ⟨[(6,.ptr 6 0),(7,vI r2.2)],[(6,.box [.nl,.nl,.nl,.nl,.nl])]⟩ fun u k=>?_
 refine aO ?_
 obtain rfl:=osi h
 exact qW k [(6,.ptr 0 0),(7,vI r2.2)] (sp [.row (.box 6 0) 800000 4 [],.row (.box 6 2) 800001 4 [],.row (.box 6 3) 800002 3 [],.row (.box 6 4) 800003 4 [],.soft (.box 6 1)] [(6,0),(800000,1),(800001,2),(800002,3),(800003,4)])
 refine y4 [3,4,5,6,8] [3,4,5,6,700050] (z7 (zA 4 (wQ [.frz 700050] (by kernel_rfl) ?_)))
 obtain ⟨r4,hr4,h⟩:=aA h
 refine qC [] [(0,700200),(1,700201),(2,700202),(3,700203),(4,700204),(5,700205)] (W.DL hr4) (wQ [.frz 700202] (by kernel_rfl) (y1 4 [6,7] [6,700201,700203,700204,700205] (zN fun u k=>?_)))
 obtain rfl:=osi h
 exact qW k [(6,.ptr 0 0),(7,vI r4.2)] (sp [] [(6,0),(700201,1),(700203,2),(700204,3),(700205,4)])
theorem W.Me {l st edges r} (h:eT l st edges=some r):PC G.P 119 [(.agg (aR l)),(.agg (aD st)),(vI edges)] [] (vB r) []:=by
 refine zU G Tryz.func119 (yK [0,1,2] [] (y3 3 [2,3,4] [3,4] (z7 (zA 2 (qL aU l.Pieces (y1 1 [2,3,4,7] [3,4] ?_))))))
 refine zB (zB ?_)
 obtain ⟨j2,hj2,h⟩:=aA h
 refine zT ⟨[(3,.ptr 500000 0),(4,.ptr 500001 0),(7,vI (l.Pieces.length:Int)),(44,vB j2)],[(500000,.box (aR l)),(500001,.box (aD st))]⟩ ?_ fun u k=>?_
 replace h:=hj2
 refine zA 2 (qL cB st.Cut (zA 3 (qB h [3,4,7,17] [3,4] [17] (fun h=>?_) fun h=>?_)))
 refine z6 27 fun u k=>?_
 cases h
 exact bH k (sp [] [(3,500000),(4,500001)])
 refine zA 2 (qL (cS cB) st.Holes (zA 4 (qB h [3,4,7,24] [3,4] [24] (fun h=>?_) fun h=>?_)))
 refine z6 20 fun u k=>?_
 cases h
 exact bH k (sp [] [(3,500000),(4,500001)])
 refine zA 2 (qL cB st.Done (zA 4 (qB h [3,4,7,31] [3,4] [31] (fun h=>?_) fun h=>?_)))
 refine z6 13 fun u k=>?_
 cases h
 exact bH k (sp [] [(3,500000),(4,500001)])
 refine zA 2 (qL cI st.Joints (zA 4 (qB h [3,4,7,38] [3,4] [38] (fun h=>?_) fun h=>?_)))
 refine z6 6 fun u k=>?_
 cases h
 exact bH k (sp [] [(3,500000),(4,500001)])
 refine zA 2 (qL cB st.Fallen (z6 3 fun u k=>?_))
 cases h
 exact bH k (sp [] [(3,500000),(4,500001)])
 refine yE k [3,4,7,44] [500000,500001] (qc h (fun h=>?_) fun h=>?_)
 refine z8 1 ⟨[(6,vB false)],[]⟩ fun u k=>?_
 refine aO ?_
 obtain rfl:=osi h
 exact zV k [(6,vB false)]
 refine y4 [3,4,7] [500000,500001] (zB (y3 1 [3,4,7,8] [500000,500001] (zC ?_)))
 obtain ⟨x82,hx82,h⟩:=aA h
 refine ql hx82 (fun s57=>⟨[(3,.ptr 500000 0),(4,.ptr 500001 0),(7,vI (l.Pieces.length:Int)),(8,vI s57)],[(500000,.box (aR l)),(500001,.box (aD st))]⟩) (fun x82=>match x82 with | .inl j83=>(.ret,⟨[(6,vB false)],[]⟩) | .inr j84=>(.exit 0,⟨[],[]⟩)) qH (fun s57 r h=>?_) (fun u k=>?_) (hout:=(by intro x;rcases x with _ | _ <;> rfl))
 refine zB (y3 3 [3,4,7,8,47] [500000,500001] (qc h (fun h=>?_) fun h=>?_))
 refine y4 [3,4,7,8] [500000,500001] (zB (zC (zB (qM 13 (dN 3 ?_)))))
 obtain ⟨x80,hx80,h⟩:=aA h
 refine dX (cS cB) hx80 (dN 1 (dL cB x80 (dN 3 ?_)))
 obtain ⟨x81,hx81,h⟩:=aA h
 refine dX aU hx81 (dN 2 (dL aB x81.Cuts (dE (oN 1 (zO fun u k=>?_)))))
 refine yE k [3,4,7,8,63] [500000,500001] (qc h (fun h=>?_) fun h=>?_)
 refine z8 1 ⟨[(6,vB false)],[]⟩ fun u k=>?_
 refine aT (aO ?_)
 cases h
 exact zF k
 refine zM fun u k=>?_
 refine aH (yE k [3,4,7,8] [500000,500001] (zD (z6 3 fun u k=>?_)))
 cases h
 exact zH k
 refine zL 0 fun u k=>?_
 refine aQ ?_
 cases h
 exact zF k
 rcases x82 with j83 | j84
 refine aT (aO ?_)
 obtain rfl:=osi h
 exact zV k [(6,vB false)]
 refine zQ (yE k [] [] (z8 1 ⟨[(6,vB true)],[]⟩ fun u k=>?_))
 obtain rfl:=osi h
 exact zV k [(6,vB true)]
theorem W.Ob {l r} (h:uF l=some r):PC G.P 61 [(.sl (List.map cB l))] [] (vB r) []:=by
 refine zU G Tryz.func61 (yK [0] [] (y3 1 [0] [] (zB (y3 1 [0,3] [] (zC ?_)))))
 obtain ⟨x32,hx32,h⟩:=aA h
 refine ql hx32 (fun s23=>⟨[(0,sB l),(3,vI s23)],[]⟩) (fun x32=>match x32 with | .inl j33=>(.ret,⟨[(2,vB false)],[]⟩) | .inr j34=>(.exit 0,⟨[],[]⟩)) qH (fun s23 r h=>?_) (fun u k=>?_) (hout:=(by intro x;rcases x with _ | _ <;> rfl))
 refine zB (z7 (zA 2 (qL cB l (y1 1 [0,3,7] [] (qc h (fun h=>?_) fun h=>?_)))))
 refine y4 [0,3] [] (zB (zC (z7 (zA 2 ?_))))
 obtain ⟨x31,hx31,h⟩:=aA h
 refine qX cB hx31 (y1 2 [0,3,14] [] (qc h (fun h=>?_) fun h=>?_))
 refine z8 1 ⟨[(2,vB false)],[]⟩ fun u k=>?_
 refine aT (aO ?_)
 cases h
 exact zF k
 refine zM fun u k=>?_
 refine aH (yE k [0,3] [] (zD (z6 3 fun u k=>?_)))
 cases h
 exact zH k
 refine zL 0 fun u k=>?_
 refine aQ ?_
 cases h
 exact zF k
 rcases x32 with j33 | j34
 refine aT (aO ?_)
 obtain rfl:=osi h
 exact zV k [(2,vB false)]
 refine zQ (yE k [] [] (z8 1 ⟨[(2,vB true)],[]⟩ fun u k=>?_))
 obtain rfl:=osi h
 exact zV k [(2,vB true)]
theorem W.xZ {l st piece r} (h:jK l st piece=some r):PC G.P 120 [(.sl (List.map bF l)),(.agg (aD st)),(vI piece)] [] (vB r) []:=by
 refine zU G Tryz.func120 (yK [0,1,2] [] (y3 2 [0,2,4] [4] (zB (y3 1 [0,2,4,7] [4] (zC ?_)))))
 obtain ⟨x116,hx116,h⟩:=aA h
 refine ql hx116 (fun s79=>⟨[(0,bB l),(2,vI piece),(4,.ptr 500000 0),(7,vI s79)],[(500000,.box (aD st))]⟩) (fun x116=>match x116 with | .inl j117=>(.ret,⟨[(6,vB false)],[]⟩) | .inr j118=>(.exit 0,⟨[],[]⟩)) (sp [] [(4,500000)]) (fun s79 r h=>?_) (fun u k=>?_) (hout:=(by intro x;rcases x with _ | _ <;> rfl))
 refine zB (z7 (zA 2 (qL bF l (y1 1 [0,2,4,7,11] [500000] (qc h (fun h=>?_) fun h=>?_)))))
 refine y4 [0,2,4,7] [500000] (zB (zC (zB ?_)))
 obtain ⟨j111,hj111,h⟩:=aA h
 refine zT ⟨[(0,bB l),(2,vI piece),(4,.ptr 500000 0),(7,vI s79),(37,vB j111)],[(500000,.box (aD st))]⟩ ?_ fun u k=>?_
 replace h:=hj111
 refine zA 2 ?_
 obtain ⟨x112,hx112,h⟩:=aA h
 refine qX bF hx112 (zA 5 (qB h [0,2,4,7,21] [500000] [21] (fun h=>?_) fun h=>?_))
 refine zA 12 ?_
 obtain ⟨x113,hx113,h⟩:=aA h
 refine qX cB hx113 (z6 3 fun u k=>?_)
 cases h
 exact zG k
 refine zA 2 ?_
 obtain ⟨x114,hx114,h⟩:=aA h
 refine qX bF hx114 (zA 6 (qB h [0,2,4,7,30] [500000] [30] (fun h=>?_) fun h=>?_))
 refine zA 3 ?_
 obtain ⟨x115,hx115,h⟩:=aA h
 refine qX cB hx115 (z6 3 fun u k=>?_)
 cases h
 exact zG k
 refine z6 7 fun u k=>?_
 cases h
 exact zG k
 refine yE k [0,2,4,7,37] [500000] (qc h (fun h=>?_) fun h=>?_)
 refine z8 1 ⟨[(6,vB false)],[]⟩ fun u k=>?_
 refine aT (aO ?_)
 cases h
 exact zF k
 refine zM fun u k=>?_
 refine aH (yE k [0,2,4,7] [500000] (zD (z6 3 fun u k=>?_)))
 cases h
 exact zH k
 refine zL 0 fun u k=>?_
 refine aQ ?_
 cases h
 exact zF k
 rcases x116 with j117 | j118
 refine aT (aO ?_)
 obtain rfl:=osi h
 exact zV k [(6,vB false)]
 refine zQ (yE k [] [] (z8 1 ⟨[(6,vB true)],[]⟩ fun u k=>?_))
 obtain rfl:=osi h
 exact zV k [(6,vB true)]
theorem W.Ji {x0 r} (h:mJ x0=some r):PC G.P 121 [(.agg (aU x0))] [] (vB r) []:=by
 refine zU G Tryz.func121 (yK [0] [] (y3 2 [1] [1] (y3 1 [1,3] [1] (y3 4 [1,3,4,5,6,7] [1] (zB (y3 1 [1,3,4,5,6,7,8] [1] ?_))))))
 refine zC ?_
 obtain ⟨x96,hx96,h⟩:=aA h
 refine ql hx96 (fun s65=>⟨[(1,.ptr 500000 0),(3,vB s65.1),(4,vI s65.2.1),(5,vI s65.2.2.1),(6,vI s65.2.2.2.1),(7,vI s65.2.2.2.2.1),(8,vI s65.2.2.2.2.2)],[(500000,.box (aU x0))]⟩) (fun x96=>(.exit 0,⟨[(3,vB x96.1),(4,vI x96.2.1),(5,vI x96.2.2.1),(6,vI x96.2.2.2.1),(7,vI x96.2.2.2.2)],[]⟩)) (sp [] [(1,500000)]) (fun s65 r h=>?_) fun u k=>?_
 refine zB (z7 (zA 3 (qL aB x0.Rects (y1 1 [1,3,4,5,6,7,8,14] [500000] (qc h (fun h=>?_) fun h=>?_)))))
 refine y4 [1,3,4,5,6,7,8] [500000] (bU (fun (j88:Bool×Int×Int×Int×Int)=>⟨[(1,.ptr 500000 0),(3,vB j88.1),(4,vI j88.2.1),(5,vI j88.2.2.1),(6,vI j88.2.2.2.1),(7,vI j88.2.2.2.2),(8,vI s65.2.2.2.2.2)],[(500000,.box (aU x0))]⟩) (nI s65) r (by kernel_rfl) (fun j88 h=>?_) ?_)
 refine zD (z6 3 fun u k=>?_)
 cases h
 exact zH k
 refine zC (z7 (zA 3 ?_))
 obtain ⟨x90,hx90,h⟩:=aA h
 refine qX aB hx90 (y1 3 [1,3,4,5,6,7,8,9] [9,500000] (zB (z7 (zA 1 ?_))))
 obtain ⟨r94,hr94,h⟩:=aA h
 refine qP (W.dF hr94) (y1 1 [1,3,4,5,6,7,8,9,24] [9,500000] (qc h (fun h=>?_) fun h=>?_))
 refine zL 1 fun u k=>?_
 exact aQ (zQ (aV (s65.1,s65.2.1,s65.2.2.1,s65.2.2.2.1,s65.2.2.2.2.1) h k (here (by kernel_rfl))))
 refine y4 [1,3,4,5,6,7,8,9] [9,500000] (bU (fun (j95:Bool×Int×Int×Int×Int)=>⟨[(1,.ptr 500000 0),(3,vB j95.1),(4,vI j95.2.1),(5,vI j95.2.2.1),(6,vI j95.2.2.2.1),(7,vI j95.2.2.2.2),(8,vI s65.2.2.2.2.2),(9,.ptr 500001 0)],[(500000,.box (aU x0)),(500001,.box (aB x90))]⟩) (nJ s65 x90) r (by kernel_rfl) (fun j95 h=>?_) ?_)
 refine y3 5 [1,3,4,5,6,7,8,9] [500000,500001] (y3 5 [1,3,4,5,6,7,8,9] [500000,500001] (y3 8 [1,3,4,5,6,7,8,9] [500000,500001] (zD (z6 8 fun u k=>?_))))
 exact aH (aV (j95.1,(mY j95.2.1 x90.X),(mY j95.2.2.1 x90.Y),(eU j95.2.2.2.1 (aL x90.X x90.W)),(eU j95.2.2.2.2 (aL x90.Y x90.H))) h k (here (by kernel_rfl)))
 refine y3 2 [1,3,4,5,6,7,8,9,26] [9,500000] (qc h (fun h=>?_) fun h=>?_)
 refine zB (qM 17 (dN 17 (dE (oN 1 (zO fun u k=>?_)))))
 refine yE k [1,4,5,6,7,8,9] [9,500000] (zD (z6 1 fun u k=>?_))
 exact aV (true,x90.X,x90.Y,(aL x90.X x90.W),(aL x90.Y x90.H)) h k (sp [] [(9,500001),(500000,500000)])
 refine zM fun u k=>?_
 exact aV (s65.1,s65.2.1,s65.2.2.1,s65.2.2.2.1,s65.2.2.2.2.1) h k (sp [] [(9,500001),(500000,500000)])
 refine zL 0 fun u k=>?_
 refine aQ ?_
 cases h
 exact zF k
 refine zQ (yE k [3,4,5,6,7] [] (zB ?_))
 obtain ⟨j97,hj97,h⟩:=aA h
 refine zT ⟨[(2,vB j97)],[]⟩ ?_ fun u k=>?_
 replace h:=hj97
 refine zA 3 (zS x96.1 (fun b0=>⟨[(4,vI x96.2.1),(5,vI x96.2.2.1),(6,vI x96.2.2.2.1),(7,vI x96.2.2.2.2),(65,vB (!b0))],[]⟩) (fun hb=>?_) fun hb=>?_)
 replace h:=iK hb h
 refine z6 10 fun u k=>?_
 cases h
 exact zG k
 replace h:=iJ hb h
 refine z6 10 fun u k=>?_
 cases h
 exact zG k
 refine yE k [2] [] (zN fun u k=>?_)
 obtain rfl:=osi h
 exact zV k [(2,vB j97)]
theorem W.lX {l x1 y r} (h:gB l x1 y=some r):PC G.P 185 [(.sl (List.map aB l)),(vI x1),(vI y)] [] (vB r) []:=by
 refine zU G Tryz.func185 (yK [0,1,2] [] (y3 1 [0,1,2] [] (zB (y3 1 [0,1,2,7] [] (zC ?_)))))
 obtain ⟨x56,hx56,h⟩:=aA h
 refine ql hx56 (fun s39=>⟨[(0,aW l),(1,vI x1),(2,vI y),(7,vI s39)],[]⟩) (fun x56=>match x56 with | .inl j57=>(.ret,⟨[(6,vB true)],[]⟩) | .inr j58=>(.exit 0,⟨[],[]⟩)) qH (fun s39 r h=>?_) (fun u k=>?_) (hout:=(by intro x;rcases x with _ | _ <;> rfl))
 refine zB (z7 (zA 2 (qL aB l (y1 1 [0,1,2,7,11] [] (qc h (fun h=>?_) fun h=>?_)))))
 refine y4 [0,1,2,7] [] (zB (zC (z7 (zA 5 ?_))))
 obtain ⟨x54,hx54,h⟩:=aA h
 refine qX aB hx54 (zA 1 ?_)
 obtain ⟨r55,hr55,h⟩:=aA h
 refine qP (W.qZ hr55) (zP fun u k=>?_)
 refine yE k [0,1,2,7,21] [] (qc h (fun h=>?_) fun h=>?_)
 refine z8 1 ⟨[(6,vB true)],[]⟩ fun u k=>?_
 refine aT (aO ?_)
 cases h
 exact zF k
 refine zM fun u k=>?_
 refine aH (yE k [0,1,2,7] [] (zD (z6 3 fun u k=>?_)))
 cases h
 exact zH k
 refine zL 0 fun u k=>?_
 refine aQ ?_
 cases h
 exact zF k
 rcases x56 with j57 | j58
 refine aT (aO ?_)
 obtain rfl:=osi h
 exact zV k [(6,vB true)]
 refine zQ (yE k [] [] (z8 1 ⟨[(6,vB false)],[]⟩ fun u k=>?_))
 obtain rfl:=osi h
 exact zV k [(6,vB false)]
theorem W.wF {l s1 r} (h:eY l s1=some r):PC G.P 162 [(.sl (List.map aB l)),(.agg [(vI s1.X),(vI s1.Y)])] [] (vB r) []:=by
 refine zU G Tryz.func162 (yK [0,1] [] (y3 2 [0,3] [3] (zB (zB ?_))))
 obtain ⟨j2,hj2,h⟩:=aA h
 refine zT ⟨[(0,aW l),(3,.ptr 500000 0),(22,vB j2)],[(500000,.box [(vI s1.X),(vI s1.Y)])]⟩ ?_ fun u k=>?_
 replace h:=hj2
 refine zA 4 (qB h [0,3,8] [3] [8] (fun h=>?_) fun h=>?_)
 refine z6 14 fun u k=>?_
 cases h
 exact bH k (sp [] [(3,500000)])
 refine zA 5 (qB h [0,3,13] [3] [13] (fun h=>?_) fun h=>?_)
 refine z6 9 fun u k=>?_
 cases h
 exact bH k (sp [] [(3,500000)])
 refine zA 5 (qB h [0,3,18] [3] [18] (fun h=>?_) fun h=>?_)
 refine z6 4 fun u k=>?_
 cases h
 exact bH k (sp [] [(3,500000)])
 refine z6 4 fun u k=>?_
 cases h
 exact bH k (sp [] [(3,500000)])
 refine yE k [0,3,22] [500000] (qc h (fun h=>?_) fun h=>?_)
 refine z8 1 ⟨[(4,vB false)],[]⟩ fun u k=>?_
 refine aO ?_
 obtain rfl:=osi h
 exact zV k [(4,vB false)]
 refine y4 [0,3] [500000] (zB ?_)
 obtain ⟨j7,hj7,h⟩:=aA h
 refine zT ⟨[(4,vB j7)],[]⟩ ?_ fun u k=>?_
 replace h:=hj7
 refine zA 5 ?_
 obtain ⟨r8,hr8,h⟩:=aA h
 refine qP (W.lX hr8) (zA 1 (qB h [0,3,29] [500000] [29] (fun h=>?_) fun h=>?_))
 refine zA 6 ?_
 obtain ⟨r9,hr9,h⟩:=aA h
 refine qP (W.lX hr9) (zA 2 (qB h [0,3,38] [500000] [38] (fun h=>?_) fun h=>?_))
 refine zA 6 ?_
 obtain ⟨r10,hr10,h⟩:=aA h
 refine qP (W.lX hr10) (zA 2 (qB h [0,3,47] [500000] [47] (fun h=>?_) fun h=>?_))
 refine zA 7 ?_
 obtain ⟨r11,hr11,h⟩:=aA h
 refine qP (W.lX hr11) (z6 2 fun u k=>?_)
 cases h
 exact zG k
 refine z6 10 fun u k=>?_
 cases h
 exact zG k
 refine z6 19 fun u k=>?_
 cases h
 exact zG k
 refine z6 28 fun u k=>?_
 cases h
 exact zG k
 refine yE k [4] [] (zN fun u k=>?_)
 obtain rfl:=osi h
 exact zV k [(4,vB j7)]
theorem W.yZ {s0 g r} (h:sQ s0 g=some r):PC G.P 163 [(.agg [(vI s0.X),(vI s0.Y)]),(.agg (Bc g))] [] (vI r) []:=by
 refine zU G Tryz.func163 (yK [0,1] [] (y3 3 [2,3] [2,3] (z8 22 ⟨[(4,vI (eU (eU (eU (eU 0 (aJ g.X1 s0.X)) (aJ s0.X g.X2)) (aJ g.Y1 s0.Y)) (aJ s0.Y g.Y2)))],[]⟩ fun u k=>?_)))
 obtain rfl:=osi h
 exact zV k [(4,vI (eU (eU (eU (eU 0 (aJ g.X1 s0.X)) (aJ s0.X g.X2)) (aJ g.Y1 s0.Y)) (aJ s0.Y g.Y2)))]
theorem W.Jk {l es st piece s4 r} (h:qK l es st piece s4=some r):PC G.P 122 [(.agg (aR l)),(.sl (List.map bF es)),(.agg (aD st)),(vI piece),(.agg [(vI s4.X),(vI s4.Y)])] [] (vB r) []:=by
 refine zU G Tryz.func122 (yK [0,1,2,3,4] [] (y3 4 [1,3,5,7,9] [5,7,9] (zB (zB ?_))))
 obtain ⟨j5,hj5,h⟩:=aA h
 refine zT ⟨[(1,bB es),(3,vI piece),(5,.ptr 500000 0),(7,.ptr 500001 0),(9,.ptr 500002 0),(43,vB j5)],[(500000,.box (aR l)),(500001,.box (aD st)),(500002,.box [(vI s4.X),(vI s4.Y)])]⟩ ?_ fun u k=>?_
 replace h:=hj5
 refine zA 4 (qB h [1,3,5,7,9,16] [5,7,9] [16] (fun h=>?_) fun h=>?_)
 refine z6 27 fun u k=>?_
 cases h
 exact bH k (sp [] [(5,500000),(7,500001),(9,500002)])
 refine zA 5 (qB h [1,3,5,7,9,21] [5,7,9] [21] (fun h=>?_) fun h=>?_)
 refine z6 22 fun u k=>?_
 cases h
 exact bH k (sp [] [(5,500000),(7,500001),(9,500002)])
 refine zA 8 (qB h [1,3,5,7,9,29] [5,7,9] [29] (fun h=>?_) fun h=>?_)
 refine z6 14 fun u k=>?_
 cases h
 exact bH k (sp [] [(5,500000),(7,500001),(9,500002)])
 refine zA 8 (qB h [1,3,5,7,9,37] [5,7,9] [37] (fun h=>?_) fun h=>?_)
 refine z6 6 fun u k=>?_
 cases h
 exact bH k (sp [] [(5,500000),(7,500001),(9,500002)])
 refine zA 4 ?_
 obtain ⟨r6,hr6,h⟩:=aA h
 refine qP (W.wF hr6) (z6 1 fun u k=>?_)
 cases h
 exact bH k (sp [] [(5,500000),(7,500001),(9,500002)])
 refine yE k [1,3,5,7,9,43] [500000,500001,500002] (qc h (fun h=>?_) fun h=>?_)
 refine z8 1 ⟨[(10,vB false)],[]⟩ fun u k=>?_
 refine aO ?_
 obtain rfl:=osi h
 exact zV k [(10,vB false)]
 refine y4 [1,3,5,7,9] [500000,500001,500002] (zB (y3 1 [1,3,5,7,9,11] [500000,500001,500002] (zC ?_)))
 obtain ⟨x86,hx86,h⟩:=aA h
 refine ql hx86 (fun s61=>⟨[(1,bB es),(3,vI piece),(5,.ptr 500000 0),(7,.ptr 500001 0),(9,.ptr 500002 0),(11,vI s61)],[(500000,.box (aR l)),(500001,.box (aD st)),(500002,.box [(vI s4.X),(vI s4.Y)])]⟩) (fun x86=>match x86 with | .inl j87=>(.ret,⟨[(10,vB false)],[]⟩) | .inr j88=>(.exit 0,⟨[(1,bB es),(3,vI piece),(7,.ptr 500000 0),(9,.ptr 500001 0)],[(500000,.box (aD st)),(500001,.box [(vI s4.X),(vI s4.Y)])]⟩)) qH (fun s61 r h=>?_) (fun u k=>?_) (hout:=(by intro x;rcases x with _ | _ <;> rfl))
 refine zB (z7 (zA 3 (qL aU l.Pieces (y1 1 [1,3,5,7,9,11,48] [500000,500001,500002] (qc h (fun h=>?_) fun h=>?_)))))
 refine y4 [1,3,5,7,9,11] [500000,500001,500002] (zB (zC (zB (qM 7 (dN 3 ?_)))))
 obtain ⟨x84,hx84,h⟩:=aA h
 refine dX aU hx84 (dN 3 (dE ?_))
 obtain ⟨r85,hr85,h⟩:=aA h
 refine oP (W.wF hr85) (zO fun u k=>?_)
 refine yE k [1,3,5,7,9,11,58] [500000,500001,500002] (qc h (fun h=>?_) fun h=>?_)
 refine z8 1 ⟨[(10,vB false)],[]⟩ fun u k=>?_
 refine aT (aO ?_)
 cases h
 exact zF k
 refine zM fun u k=>?_
 refine aH (yE k [1,3,5,7,9,11] [500000,500001,500002] (zD (z6 3 fun u k=>?_)))
 cases h
 exact zH k
 refine zL 0 fun u k=>?_
 refine aQ ?_
 cases h
 exact xI k rfl (sp [] [(500001,500000),(500002,500001)])
 rcases x86 with j87 | j88
 refine aT (aO ?_)
 obtain rfl:=osi h
 exact zV k [(10,vB false)]
 refine zQ (yE k [1,3,7,9] [500000,500001] (zB (y3 1 [1,3,7,9,12] [500000,500001] (zC ?_))))
 obtain ⟨x396,hx396,h⟩:=aA h
 refine ql hx396 (fun s295=>⟨[(1,bB es),(3,vI piece),(7,.ptr 500000 0),(9,.ptr 500001 0),(12,vI s295)],[(500000,.box (aD st)),(500001,.box [(vI s4.X),(vI s4.Y)])]⟩) (fun x396=>match x396 with | .inl j397=>(.ret,⟨[(10,vB true)],[]⟩) | .inr j398=>(.exit 2,⟨[],[]⟩)) qH (fun s295 r h=>?_) (fun u k=>?_) (hout:=(by intro x;rcases x with _ | _ <;> rfl))
 refine zB (z7 (zA 2 (qL bF es (y1 1 [1,3,7,9,12,62] [500000,500001] (qc h (fun h=>?_) fun h=>?_)))))
 refine y4 [1,3,7,9,12] [500000,500001] (zB (zC (zB ?_)))
 obtain ⟨j387,hj387,h⟩:=aA h
 refine gK ⟨[(1,bB es),(3,vI piece),(7,.ptr 500000 0),(9,.ptr 500001 0),(12,vI s295),(98,vB j387)],[(500000,.box (aD st)),(500001,.box [(vI s4.X),(vI s4.Y)])]⟩ [] [] [] [] [] 31 (by kernel_rfl) (by kernel_rfl) (by kernel_rfl) ?_ fun u k=>?_
 replace h:=hj387
 refine dN 2 ?_
 obtain ⟨x388,hx388,h⟩:=aA h
 refine dX bF hx388 (dN 5 (bI (x388.A==piece) (fun b0=>⟨[(72,vB b0),(71,vB b0),(70,vI piece),(69,vI x388.A),(68,.vptr (bF x388) 4),(67,.vptr (bF x388) 0),(66,vI s295),(65,bB es),(1,bB es),(3,vI piece),(7,.ptr 500000 0),(9,.ptr 500001 0),(12,vI s295)],[(500000,.box (aD st)),(500001,.box [(vI s4.X),(vI s4.Y)])]⟩) (by kernel_rfl) (fun hb=>?_) fun hb=>?_))
 replace h:=iK hb h
 refine dN 12 ?_
 obtain ⟨x389,hx389,h⟩:=aA h
 refine dX cB hx389 (dN 4 (bI x389 (fun b0=>⟨[(89,vB (!b0)),(88,vB (!b0)),(87,vB (!b0)),(86,vB b0),(85,.vptr [(vB b0)] 0),(84,vI s295),(83,sB st.Cut),(82,.ptr 500000 0),(81,vB true),(80,vB true),(79,vU),(78,vU),(77,vU),(76,vU),(75,vU),(74,vU),(73,vU),(72,vB true),(71,vB true),(70,vI piece),(69,vI x388.A),(68,.vptr (bF x388) 4),(67,.vptr (bF x388) 0),(66,vI s295),(65,bB es),(1,bB es),(3,vI piece),(7,.ptr 500000 0),(9,.ptr 500001 0),(12,vI s295)],[(500000,.box (aD st)),(500001,.box [(vI s4.X),(vI s4.Y)])]⟩) (by kernel_rfl) (fun hb=>?_) fun hb=>?_))
 replace h:=iK hb h
 refine dN 6 (dE (oN 3 (zO fun u k=>?_)))
 cases h
 exact zG k
 replace h:=iJ hb h
 refine dN 3 ?_
 obtain ⟨x390,hx390,h⟩:=aA h
 refine dX bF hx390 (dN 2 (dE ?_))
 obtain ⟨r391,hr391,h⟩:=aA h
 refine oP (W.yZ hr391) (oN 2 (zO fun u k=>?_))
 cases h
 exact zG k
 replace h:=iJ hb h
 refine dN 2 ?_
 obtain ⟨x392,hx392,h⟩:=aA h
 refine dX bF hx392 (dN 6 (bI (x392.B==piece) (fun b0=>⟨[(81,vB b0),(80,vB b0),(79,vB b0),(78,vI piece),(77,vI x392.B),(76,.vptr (bF x392) 5),(75,.vptr (bF x392) 0),(74,vI s295),(73,bB es),(72,vB false),(71,vB false),(70,vI piece),(69,vI x388.A),(68,.vptr (bF x388) 4),(67,.vptr (bF x388) 0),(66,vI s295),(65,bB es),(1,bB es),(3,vI piece),(7,.ptr 500000 0),(9,.ptr 500001 0),(12,vI s295)],[(500000,.box (aD st)),(500001,.box [(vI s4.X),(vI s4.Y)])]⟩) (by kernel_rfl) (fun hb=>?_) fun hb=>?_))
 replace h:=iK hb h
 refine dN 3 ?_
 obtain ⟨x393,hx393,h⟩:=aA h
 refine dX cB hx393 (dN 4 (bI x393 (fun b0=>⟨[(89,vB (!b0)),(88,vB (!b0)),(87,vB (!b0)),(86,vB b0),(85,.vptr [(vB b0)] 0),(84,vI s295),(83,sB st.Cut),(82,.ptr 500000 0),(81,vB true),(80,vB true),(79,vB true),(78,vI piece),(77,vI x392.B),(76,.vptr (bF x392) 5),(75,.vptr (bF x392) 0),(74,vI s295),(73,bB es),(72,vB false),(71,vB false),(70,vI piece),(69,vI x388.A),(68,.vptr (bF x388) 4),(67,.vptr (bF x388) 0),(66,vI s295),(65,bB es),(1,bB es),(3,vI piece),(7,.ptr 500000 0),(9,.ptr 500001 0),(12,vI s295)],[(500000,.box (aD st)),(500001,.box [(vI s4.X),(vI s4.Y)])]⟩) (by kernel_rfl) (fun hb=>?_) fun hb=>?_))
 replace h:=iK hb h
 refine dN 6 (dE (oN 3 (zO fun u k=>?_)))
 cases h
 exact zG k
 replace h:=iJ hb h
 refine dN 3 ?_
 obtain ⟨x394,hx394,h⟩:=aA h
 refine dX bF hx394 (dN 2 (dE ?_))
 obtain ⟨r395,hr395,h⟩:=aA h
 refine oP (W.yZ hr395) (oN 2 (zO fun u k=>?_))
 cases h
 exact zG k
 replace h:=iJ hb h
 refine dN 14 (dE (oN 3 (zO fun u k=>?_)))
 cases h
 exact zG k
 refine yE k [1,3,7,9,12,98] [500000,500001] (qc h (fun h=>?_) fun h=>?_)
 refine z8 1 ⟨[(10,vB true)],[]⟩ fun u k=>?_
 refine aT (aO ?_)
 cases h
 exact zF k
 refine zM fun u k=>?_
 refine aH (yE k [1,3,7,9,12] [500000,500001] (zD (z6 3 fun u k=>?_)))
 cases h
 exact zH k
 refine zL 2 fun u k=>?_
 refine aQ ?_
 cases h
 exact zF k
 rcases x396 with j397 | j398
 refine aT (aO ?_)
 obtain rfl:=osi h
 exact zV k [(10,vB true)]
 refine zQ (yE k [] [] (z8 1 ⟨[(10,vB false)],[]⟩ fun u k=>?_))
 obtain rfl:=osi h
 exact zV k [(10,vB false)]
theorem W.Gz {l es st x3 r} (h:nX l es st x3=some r):PC G.P 55 [(.agg (aR l)),(.sl (List.map bF es)),(.agg (aD st)),(.agg (dO x3))] [] (vI r) []:=by
 refine zU G Tryz.func55 (yK [0,1,2,3] [] (y3 4 [1,4,6,7] [4,6,7] (zB (zB ?_))))
 obtain ⟨j12,hj12,h⟩:=aA h
 refine gK ⟨[(1,bB es),(4,.ptr 500000 0),(6,.ptr 500001 0),(7,.ptr 500002 0),(67,vB j12)],[(500000,.box (aR l)),(500001,.box (aD st)),(500002,.box (dO x3))]⟩ [] [] [] [] [] 35 (by kernel_rfl) (by kernel_rfl) (by kernel_rfl) ?_ fun u k=>?_
 replace h:=hj12
 refine dN 3 (dL bF es ?_)
 obtain ⟨r13,hr13,h⟩:=aA h
 refine dC [] (W.Me hr13) (dN 2 (bI r13 (fun b0=>⟨[(17,vB (!b0)),(16,vB (!b0)),(15,vB b0),(14,vI (es.length:Int)),(13,bB es),(12,.agg (aD st)),(11,.agg (aR l)),(1,bB es),(4,.ptr 4 0),(6,.ptr 6 0),(7,.ptr 7 0)],[(4,.box (aR l)),(6,.box (aD st)),(7,.box (dO x3))]⟩) (by kernel_rfl) (fun hb=>?_) fun hb=>?_))
 replace h:=iK hb h
 refine dN 5 (bI (decide (x3.Piece<0)) (fun b0=>⟨[(22,vB b0),(21,vB b0),(20,vB b0),(19,vI x3.Piece),(18,.ptr 7 0),(17,vB false),(16,vB false),(15,vB true),(14,vI (es.length:Int)),(13,bB es),(12,.agg (aD st)),(11,.agg (aR l)),(1,bB es),(4,.ptr 4 0),(6,.ptr 6 0),(7,.ptr 7 0)],[(4,.box (aR l)),(6,.box (aD st)),(7,.box (dO x3))]⟩) (by kernel_rfl) (fun hb=>?_) fun hb=>?_)
 replace h:=iK hb h
 refine dN 23 (dE (oN 22 (zO fun u k=>?_)))
 cases h
 exact bH k (sp [] [(4,500000),(6,500001),(7,500002)])
 replace h:=iJ hb h
 refine dN 4 (dL aU l.Pieces (dN 3 (bI (decide (x3.Piece ≥ (l.Pieces.length:Int))) (fun b0=>⟨[(30,vB b0),(29,vB b0),(28,vB b0),(27,vI (l.Pieces.length:Int)),(26,cZ l.Pieces),(25,.ptr 4 8),(24,vI x3.Piece),(23,.ptr 7 0),(22,vB false),(21,vB false),(20,vB false),(19,vI x3.Piece),(18,.ptr 7 0),(17,vB false),(16,vB false),(15,vB true),(14,vI (es.length:Int)),(13,bB es),(12,.agg (aD st)),(11,.agg (aR l)),(1,bB es),(4,.ptr 4 0),(6,.ptr 6 0),(7,.ptr 7 0)],[(4,.box (aR l)),(6,.box (aD st)),(7,.box (dO x3))]⟩) (by kernel_rfl) (fun hb=>?_) fun hb=>?_)))
 replace h:=iK hb h
 refine dN 15 (dE (oN 22 (zO fun u k=>?_)))
 cases h
 exact bH k (sp [] [(4,500000),(6,500001),(7,500002)])
 replace h:=iJ hb h
 refine dN 5 (bI (decide (x3.Hole<(-1))) (fun b0=>⟨[(35,vB b0),(34,vB b0),(33,vB b0),(32,vI x3.Hole),(31,.ptr 7 1),(30,vB false),(29,vB false),(28,vB false),(27,vI (l.Pieces.length:Int)),(26,cZ l.Pieces),(25,.ptr 4 8),(24,vI x3.Piece),(23,.ptr 7 0),(22,vB false),(21,vB false),(20,vB false),(19,vI x3.Piece),(18,.ptr 7 0),(17,vB false),(16,vB false),(15,vB true),(14,vI (es.length:Int)),(13,bB es),(12,.agg (aD st)),(11,.agg (aR l)),(1,bB es),(4,.ptr 4 0),(6,.ptr 6 0),(7,.ptr 7 0)],[(4,.box (aR l)),(6,.box (aD st)),(7,.box (dO x3))]⟩) (by kernel_rfl) (fun hb=>?_) fun hb=>?_)
 replace h:=iK hb h
 refine dN 10 (dE (oN 22 (zO fun u k=>?_)))
 cases h
 exact bH k (sp [] [(4,500000),(6,500001),(7,500002)])
 replace h:=iJ hb h
 refine dN 6 ?_
 obtain ⟨x14,hx14,h⟩:=aA h
 refine dX aU hx14 (dN 2 (dL aB x14.Cuts (dE (oN 3 (oB h [1,4,6,7,48] [4,6,7] [48] (fun h=>?_) fun h=>?_)))))
 refine oN 19 (zO fun u k=>?_)
 cases h
 exact bH k (sp [] [(4,500000),(6,500001),(7,500002)])
 refine oN 5 (oB h [1,4,6,7,53] [4,6,7] [53] (fun h=>?_) fun h=>?_)
 refine oN 14 (zO fun u k=>?_)
 cases h
 exact bH k (sp [] [(4,500000),(6,500001),(7,500002)])
 refine oN 5 (oB h [1,4,6,7,58] [4,6,7] [58] (fun h=>?_) fun h=>?_)
 refine oN 9 (zO fun u k=>?_)
 cases h
 exact bH k (sp [] [(4,500000),(6,500001),(7,500002)])
 refine oN 4 (oB h [1,4,6,7,58,62] [4,6,7] [62] (fun h=>?_) fun h=>?_)
 refine oN 5 (zO fun u k=>?_)
 cases h
 exact bH k (sp [] [(4,500000),(6,500001),(7,500002)])
 refine oN 5 (zO fun u k=>?_)
 cases h
 exact bH k (sp [] [(4,500000),(6,500001),(7,500002)])
 replace h:=iJ hb h
 refine dN 28 (dE (oN 22 (zO fun u k=>?_)))
 cases h
 exact bH k (sp [] [(4,500000),(6,500001),(7,500002)])
 refine yE k [1,4,6,7,67] [500000,500001,500002] (qc h (fun h=>?_) fun h=>?_)
 refine z8 1 ⟨[(8,vI 1)],[]⟩ fun u k=>?_
 refine aO ?_
 obtain rfl:=osi h
 exact zV k [(8,vI 1)]
 refine y4 [1,4,6,7] [500000,500001,500002] (z7 (zA 4 ?_))
 obtain ⟨x16,hx16,h⟩:=aA h
 refine qX aU hx16 (y1 3 [1,4,6,7,9] [9,500000,500001,500002] (zB (y3 3 [1,4,6,7,9,76] [9,500000,500001,500002] (qc h (fun h=>?_) fun h=>?_))))
 refine zB (zB ?_)
 obtain ⟨j57,hj57,h⟩:=aA h
 refine gK ⟨[(7,.ptr 500000 0),(9,.ptr 500001 0),(94,vB j57)],[(500000,.box (dO x3)),(500001,.box (aU x16))]⟩ [] [] [] [] [] 15 (by kernel_rfl) (by kernel_rfl) (by kernel_rfl) ?_ fun u k=>?_
 replace h:=hj57
 refine dN 4 ?_
 obtain ⟨x58,hx58,h⟩:=aA h
 refine dX cB hx58 (dN 2 (bI x58 (fun b0=>⟨[(83,vB b0),(82,vB b0),(81,.vptr [(vB b0)] 0),(80,vI x3.Piece),(79,.ptr 500002 0),(78,sB st.Fallen),(77,.ptr 500001 4),(1,bB es),(4,.ptr 500000 0),(6,.ptr 500001 0),(7,.ptr 500002 0),(9,.ptr 9 0),(76,vB (decide (x3.Hole ≥ 0)))],[(9,.box (aU x16)),(500000,.box (aR l)),(500001,.box (aD st)),(500002,.box (dO x3))]⟩) (by kernel_rfl) (fun hb=>?_) fun hb=>?_))
 replace h:=iK hb h
 refine dN 8 (dE (oN 3 (zO fun u k=>?_)))
 cases h
 exact bH k (sp [] [(9,500001),(500002,500000)])
 replace h:=iJ hb h
 refine dN 4 ?_
 obtain ⟨x59,hx59,h⟩:=aA h
 refine dX (cS cB) hx59 (dN 3 (dE ?_))
 obtain ⟨x60,hx60,h⟩:=aA h
 refine oX cB hx60 (oN 2 (zO fun u k=>?_))
 cases h
 exact bH k (sp [] [(9,500001),(500002,500000)])
 refine yE k [7,9,94] [500000,500001] (qc h (fun h=>?_) fun h=>?_)
 refine z8 1 ⟨[(8,vI 12)],[]⟩ fun u k=>?_
 refine aO (aO ?_)
 obtain rfl:=osi h
 exact zV k [(8,vI 12)]
 refine y4 [7,9] [500000,500001] (z7 (zA 4 ?_))
 obtain ⟨x62,hx62,h⟩:=aA h
 refine qX aB hx62 (y1 3 [7,10] [10,500000] (zB (zB ?_)))
 obtain ⟨j64,hj64,h⟩:=aA h
 refine zT ⟨[(136,vB j64)],[]⟩ ?_ fun u k=>?_
 replace h:=hj64
 refine zA 7 (qB h [7,10,107] [10,500000] [107] (fun h=>?_) fun h=>?_)
 refine z6 29 fun u k=>?_
 cases h
 exact zG k
 refine zA 11 (qB h [7,10,118] [10,500000] [118] (fun h=>?_) fun h=>?_)
 refine z6 18 fun u k=>?_
 cases h
 exact zG k
 refine zA 8 (qB h [7,10,126] [10,500000] [126] (fun h=>?_) fun h=>?_)
 refine z6 10 fun u k=>?_
 cases h
 exact zG k
 refine z6 10 fun u k=>?_
 cases h
 exact zG k
 refine yE k [136] [] (qc h (fun h=>?_) fun h=>?_)
 refine z8 1 ⟨[(8,vI 14)],[]⟩ fun u k=>?_
 refine aO (aO ?_)
 obtain rfl:=osi h
 exact zV k [(8,vI 14)]
 refine y4 [] [] (z8 1 ⟨[(8,vI 0)],[]⟩ fun u k=>?_)
 refine aO ?_
 obtain rfl:=osi h
 exact zV k [(8,vI 0)]
 refine y4 [1,4,6,7,9] [9,500000,500001,500002] (zB (zB ?_))
 obtain ⟨j81,hj81,h⟩:=aA h
 refine zT ⟨[(1,bB es),(4,.ptr 500000 0),(6,.ptr 500001 0),(7,.ptr 500002 0),(9,.ptr 500003 0),(167,vB j81)],[(500000,.box (aR l)),(500001,.box (aD st)),(500002,.box (dO x3)),(500003,.box (aU x16))]⟩ ?_ fun u k=>?_
 replace h:=hj81
 refine zA 4 ?_
 obtain ⟨x82,hx82,h⟩:=aA h
 refine qX cB hx82 (zA 2 (qB h [1,4,6,7,9,143] [9,500000,500001,500002] [143] (fun h=>?_) fun h=>?_))
 refine z6 24 fun u k=>?_
 cases h
 exact bH k (sp [] [(9,500003),(500000,500000),(500001,500001),(500002,500002)])
 refine zA 4 ?_
 obtain ⟨x83,hx83,h⟩:=aA h
 refine qX cB hx83 (zA 3 (qB h [1,4,6,7,9,151] [9,500000,500001,500002] [151] (fun h=>?_) fun h=>?_))
 refine z6 16 fun u k=>?_
 cases h
 exact bH k (sp [] [(9,500003),(500000,500000),(500001,500001),(500002,500002)])
 refine zA 4 ?_
 obtain ⟨x84,hx84,h⟩:=aA h
 refine qX (cS cB) hx84 (zA 1 ?_)
 obtain ⟨r85,hr85,h⟩:=aA h
 refine qP (W.Ob hr85) (zA 3 (zS r85 (fun b0=>⟨[(1,bB es),(4,.ptr 500000 0),(6,.ptr 500001 0),(7,.ptr 500002 0),(9,.ptr 9 0),(161,vB (!b0))],[(9,.box (aU x16)),(500000,.box (aR l)),(500001,.box (aD st)),(500002,.box (dO x3))]⟩) (fun hb=>?_) fun hb=>?_))
 replace h:=iK hb h
 refine zA 4 ?_
 obtain ⟨r86,hr86,h⟩:=aA h
 refine qP (W.xZ hr86) (z6 1 fun u k=>?_)
 cases h
 exact bH k (sp [] [(9,500003),(500000,500000),(500001,500001),(500002,500002)])
 replace h:=iJ hb h
 refine z6 6 fun u k=>?_
 cases h
 exact bH k (sp [] [(9,500003),(500000,500000),(500001,500001),(500002,500002)])
 refine yE k [1,4,6,7,9,167] [500000,500001,500002,500003] (qc h (fun h=>?_) fun h=>?_)
 refine z8 1 ⟨[(8,vI 12)],[]⟩ fun u k=>?_
 refine aO ?_
 obtain rfl:=osi h
 exact zV k [(8,vI 12)]
 refine y4 [1,4,6,7,9] [500000,500001,500002,500003] (zB (zB ?_))
 obtain ⟨j91,hj91,h⟩:=aA h
 refine zT ⟨[(1,bB es),(4,.ptr 500000 0),(6,.ptr 500001 0),(7,.ptr 500002 0),(174,vB j91)],[(500000,.box (aR l)),(500001,.box (aD st)),(500002,.box (dO x3))]⟩ ?_ fun u k=>?_
 replace h:=hj91
 refine zA 4 (qB h [1,4,6,7,9,171] [500000,500001,500002,500003] [171] (fun h=>?_) fun h=>?_)
 refine zA 1 ?_
 obtain ⟨r92,hr92,h⟩:=aA h
 refine qP (W.Ji hr92) (z6 1 fun u k=>?_)
 cases h
 exact zG k
 refine z6 3 fun u k=>?_
 cases h
 exact zG k
 refine yE k [1,4,6,7,174] [500000,500001,500002] (qc h (fun h=>?_) fun h=>?_)
 refine z8 1 ⟨[(8,vI 15)],[]⟩ fun u k=>?_
 refine aO ?_
 obtain rfl:=osi h
 exact zV k [(8,vI 15)]
 refine y4 [1,4,6,7] [500000,500001,500002] (zB (z7 (zA 7 ?_)))
 obtain ⟨r96,hr96,h⟩:=aA h
 refine qP (W.Jk hr96) (y1 1 [183] [] (qc h (fun h=>?_) fun h=>?_))
 refine z8 1 ⟨[(8,vI 14)],[]⟩ fun u k=>?_
 refine aO ?_
 obtain rfl:=osi h
 exact zV k [(8,vI 14)]
 refine y4 [] [] (z8 1 ⟨[(8,vI 0)],[]⟩ fun u k=>?_)
 obtain rfl:=osi h
 exact zV k [(8,vI 0)]
theorem W.Lu {st r} (h:sO st=some r):PC G.P 123 [(.agg (aD st))] [] (.agg [(.row (.top 1) 4),(.row (.top 2) 36),(.row (.top 3) 4),(.row (.top 4) 3),(.row (.top 5) 4)]) [(0,.box [(.row (.top 1) 4),(.row (.top 2) 36),(.row (.top 3) 4),(.row (.top 4) 3),(.row (.top 5) 4)]),(1,.row 4 [] (List.map cB r.Cut)),(2,.row 36 [(0,4)] (List.map (cS cB) r.Holes)),(3,.row 4 [] (List.map cB r.Done)),(4,.row 3 [] (List.map cI r.Joints)),(5,.row 4 [] (List.map cB r.Fallen))]:=by
 refine zU G Tryz.func123 (yK [0] [] (y3 2 [1,2] [1,2] (zB (sK [(0,[5]),(3,[5,600003]),(4,[9]),(7,[9,600007]),(8,[13]),(11,[13,600011]),(12,[17]),(15,[17,600015]),(17,[3])] [(0,[5]),(3,[600003]),(4,[9]),(7,[600007]),(8,[13]),(11,[600011]),(12,[17]),(15,[600015]),(17,[3])] [] [(0,[9,13,17,3]),(1,[5,9,13,17,3]),(2,[5,9,13,17,3]),(3,[9,13,17,3]),(4,[5,600003,13,17,3]),(5,[5,600003,9,13,17,3]),(6,[5,600003,9,13,17,3]),(7,[13,17,3]),(8,[5,600003,9,600007,17,3]),(9,[5,600003,9,600007,13,17,3]),(10,[5,600003,9,600007,13,17,3]),(11,[17,3]),(12,[5,600003,9,600007,13,600011,3]),(13,[5,600003,9,600007,13,600011,17,3]),(14,[5,600003,9,600007,13,600011,17,3]),(15,[3]),(16,[3]),(17,[5,600003,9,600007,13,600011,17,600015])] [(0,[600003,9,600007,13,600011,17,600015,3]),(1,[5,600003,9,600007,13,600011,17,600015,3]),(2,[5,600003,9,600007,13,600011,17,600015,3]),(3,[9,600007,13,600011,17,600015,3]),(4,[5,600003,600007,13,600011,17,600015,3]),(5,[5,600003,9,600007,13,600011,17,600015,3]),(6,[5,600003,9,600007,13,600011,17,600015,3]),(7,[13,600011,17,600015,3]),(8,[5,600003,9,600007,600011,17,600015,3]),(9,[5,600003,9,600007,13,600011,17,600015,3]),(10,[5,600003,9,600007,13,600011,17,600015,3]),(11,[17,600015,3]),(12,[5,600003,9,600007,13,600011,600015,3]),(13,[5,600003,9,600007,13,600011,17,600015,3]),(14,[5,600003,9,600007,13,600011,17,600015,3]),(15,[3]),(16,[3]),(17,[5,600003,9,600007,13,600011,17,600015])] 18 (by kernel_rfl) (by kernel_rfl) [600003,600007,600011,600015,3,17,13,9,5] (by kernel_rfl) (by kernel_rfl) (Ff (e:=4) (d:=5) (es:=(List.map cB [])) (by kernel_rfl) (by kernel_rfl) (by kernel_rfl) (by kernel_rfl) (by kernel_rfl) (by kernel_rfl) (dN 2 ?_))))))
 obtain ⟨l9,hl9,h⟩:=aA h
 refine Qm (c:=cB) (l:=[]) (l2:=st.Cut) (x:=(sB st.Cut)) (g:=5) (g2:=600003) (e:=4) (sz:=1) (d:=8) (by kernel_rfl) (by kernel_rfl) (by kernel_rfl) (by kernel_rfl) (by kernel_rfl) (fun _=>rfl) hl9 (by kernel_rfl) (by kernel_rfl) (by kernel_rfl) (by kernel_rfl) (by kernel_rfl) (Ff (e:=4) (d:=9) (es:=(List.map cB [])) (by kernel_rfl) (by kernel_rfl) (by kernel_rfl) (by kernel_rfl) (by kernel_rfl) (by kernel_rfl) (dN 2 ?_))
 obtain ⟨l10,hl10,h⟩:=aA h
 refine Qm (c:=cB) (l:=[]) (l2:=st.Done) (x:=(sB st.Done)) (g:=9) (g2:=600007) (e:=4) (sz:=1) (d:=12) (by kernel_rfl) (by kernel_rfl) (by kernel_rfl) (by kernel_rfl) (by kernel_rfl) (fun _=>rfl) hl10 (by kernel_rfl) (by kernel_rfl) (by kernel_rfl) (by kernel_rfl) (by kernel_rfl) (Ff (e:=3) (d:=13) (es:=(List.map cI [])) (by kernel_rfl) (by kernel_rfl) (by kernel_rfl) (by kernel_rfl) (by kernel_rfl) (by kernel_rfl) (dN 2 ?_))
 obtain ⟨l11,hl11,h⟩:=aA h
 refine Qm (c:=cI) (l:=[]) (l2:=st.Joints) (x:=(sI st.Joints)) (g:=13) (g2:=600011) (e:=3) (sz:=1) (d:=16) (by kernel_rfl) (by kernel_rfl) (by kernel_rfl) (by kernel_rfl) (by kernel_rfl) (fun _=>rfl) hl11 (by kernel_rfl) (by kernel_rfl) (by kernel_rfl) (by kernel_rfl) (by kernel_rfl) (Ff (e:=4) (d:=17) (es:=(List.map cB [])) (by kernel_rfl) (by kernel_rfl) (by kernel_rfl) (by kernel_rfl) (by kernel_rfl) (by kernel_rfl) (dN 2 ?_))
 obtain ⟨l12,hl12,h⟩:=aA h
 refine Qm (c:=cB) (l:=[]) (l2:=st.Fallen) (x:=(sB st.Fallen)) (g:=17) (g2:=600015) (e:=4) (sz:=1) (d:=20) (by kernel_rfl) (by kernel_rfl) (by kernel_rfl) (by kernel_rfl) (by kernel_rfl) (fun _=>rfl) hl12 (by kernel_rfl) (by kernel_rfl) (by kernel_rfl) (by kernel_rfl) (by kernel_rfl) (dN 1 (vW (g:=3) (ob:=.box [.nl,.nl,.nl,.nl,.nl]) (v:=(.ptr 3 0)) (by kernel_rfl) (by kernel_rfl) (by kernel_rfl) (by kernel_rfl) (by kernel_rfl) (by kernel_rfl) (dE (oN 1 (zO fun u k=>?_)))))
 refine yE k [1,2,3] [1,2,3,600003,600007,600011,600015] (zB (y3 1 [1,2,3,4] [1,2,3,600003,600007,600011,600015] (zC ?_)))
 obtain ⟨x126,hx126,h⟩:=aA h
 refine ql hx126 (fun s89=>⟨[(1,.ptr 500000 0),(2,.ptr 500001 0),(3,.ptr 500002 0),(4,vI s89.1)],[(500000,.box (aD st)),(500001,.box [.nl,.nl,.nl,.nl,.nl]),(500002,.box [(ro 500003 4),(ro 500004 36),(ro 500005 4),(ro 500006 3),(ro 500007 4)]),(500003,wB 4 l9),(500004,.row 36 [(0,4)] (List.map (cS cB) s89.2)),(500005,wB 4 l10),(500006,wI 3 l11),(500007,wB 4 l12)]⟩) (fun x126=>(.exit 0,⟨[(2,.ptr 500000 0),(3,.ptr 500001 0)],[(500000,.box [.nl,.nl,.nl,.nl,.nl]),(500001,.box [(ro 500002 4),(ro 500003 36),(ro 500004 4),(ro 500005 3),(ro 500006 4)]),(500002,wB 4 l9),(500003,.row 36 [(0,4)] (List.map (cS cB) x126)),(500004,wB 4 l10),(500005,wI 3 l11),(500006,wB 4 l12)]⟩)) (sp [.row (.box 3 1) 800000 36 [(0,4)]] [(1,500000),(2,500001),(3,500002),(600003,500003),(600007,500005),(600011,500006),(600015,500007),(800000,500004)]) (fun s89 r h=>?_) fun u k=>?_
 refine zB (z7 (zA 3 (qL (cS cB) st.Holes (y1 1 [1,2,3,4,26] [500000,500001,500002,500003,500004,500005,500006,500007] (qc h (fun h=>?_) fun h=>?_)))))
 refine y4 [1,2,3,4] [500000,500001,500002,500003,500004,500005,500006,500007] (zB (zC (sK [(2,[31]),(8,[31,600008]),(9,[600008,38])] [(2,[31]),(8,[600008]),(9,[38])] [] [(0,[31,600008,38]),(1,[31,600008,38]),(3,[31]),(4,[31]),(5,[31]),(6,[31]),(7,[31])] [(0,[31,600008,38]),(1,[31,600008,38]),(2,[600008,38]),(3,[31,600008,38]),(4,[31,600008,38]),(5,[31,600008,38]),(6,[31,600008,38]),(7,[31,600008,38]),(8,[38])] 10 (by kernel_rfl) (by kernel_rfl) [600008,38,31] (by kernel_rfl) (by kernel_rfl) (dN 2 (Ff (e:=4) (d:=31) (es:=(List.map cB [])) (by kernel_rfl) (by kernel_rfl) (by kernel_rfl) (by kernel_rfl) (by kernel_rfl) (by kernel_rfl) (dN 3 ?_))))))
 obtain ⟨x123,hx123,h⟩:=aA h
 refine dX (cS cB) hx123 (dN 1 ?_)
 obtain ⟨l124,hl124,h⟩:=aA h
 refine Qm (c:=cB) (l:=[]) (l2:=x123) (x:=(sB x123)) (g:=31) (g2:=600008) (e:=4) (sz:=1) (d:=37) (by kernel_rfl) (by kernel_rfl) (by kernel_rfl) (by kernel_rfl) (by kernel_rfl) (fun _=>rfl) hl124 (by kernel_rfl) (by kernel_rfl) (by kernel_rfl) (by kernel_rfl) (by kernel_rfl) (Zy (c:=(cS cB)) (c2:=cB) (e:=36) (e':=4) (d:=600008) (T:=38) (l:=l124) (x:=l124) (by kernel_rfl) (by kernel_rfl) (by kernel_rfl) (by kernel_rfl) rfl (by kernel_rfl) (by kernel_rfl) (by kernel_rfl) (by kernel_rfl) (dE ?_))
 obtain ⟨l125,hl125,h⟩:=aA h
 refine TR (NB (c:=(cS cB)) (l:=s89.2) (l2:=[l124]) (g:=500004) (T:=38) (e:=36) (J:=[(0,4)]) (sz:=1) (d:=39) (by kernel_rfl) (by kernel_rfl) (by kernel_rfl) (by kernel_rfl) hl125) (oN 2 (zO fun u k=>?_))
 refine aH (yE k [1,2,3,4] [500000,500001,500002,500003,500004,500005,500006,500007] (zD (z6 3 fun u k=>?_)))
 cases h
 exact zH k
 refine zL 0 fun u k=>?_
 refine aQ ?_
 cases h
 exact xI k rfl (sp [] [(500001,500000),(500002,500001),(500003,500002),(500004,500003),(500005,500004),(500006,500005),(500007,500006)])
 refine zQ (yE k [2,3] [500000,500001,500002,500003,500004,500005,500006] (z8 2 ⟨[(2,.ptr 500000 0)],[(500000,.box [(ro 500002 4),(ro 500003 36),(ro 500004 4),(ro 500005 3),(ro 500006 4)]),(500002,wB 4 l9),(500003,.row 36 [(0,4)] (List.map (cS cB) x126)),(500004,wB 4 l10),(500005,wI 3 l11),(500006,wB 4 l12)]⟩ fun u k=>?_))
 obtain rfl:=osi h
 exact qW k [(2,.ptr 0 0)] (sp [] [(500000,0),(500002,1),(500003,2),(500004,3),(500005,4),(500006,5)])
theorem W.Md {es st x2 r} (h:kI es st x2=some r):PC G.P 56 [(.sl (List.map bF es)),(.agg (aD st)),(.agg (dO x2))] [] (.agg [(.row (.top 1) 4),(.row (.top 2) 36),(.row (.top 3) 4),(.row (.top 4) 3),(.row (.top 5) 4)]) [(0,.box [(.row (.top 1) 4),(.row (.top 2) 36),(.row (.top 3) 4),(.row (.top 4) 3),(.row (.top 5) 4)]),(1,.row 4 [] (List.map cB r.Cut)),(2,.row 36 [(0,4)] (List.map (cS cB) r.Holes)),(3,.row 4 [] (List.map cB r.Done)),(4,.row 3 [] (List.map cI r.Joints)),(5,.row 4 [] (List.map cB r.Fallen))]:=by
 refine zU G Tryz.func56 (yK [0,1,2] [] (y3 3 [0,4,5,6] [4,5,6] (z7 (zA 1 ?_))))
 obtain ⟨r2,hr2,h⟩:=aA h
 refine qC [] [(0,700050),(1,700051),(2,700052),(3,700053),(4,700054),(5,700055)] (W.Lu hr2) (y1 2 [0,5,6,7] [5,6,7,700051,700052,700053,700054,700055] (bU (fun (j73:(List Bool)×(List (List Bool))×(List Bool)×(List Int))=>⟨[(0,bB es),(6,.ptr 500000 0),(7,.ptr 500001 0)],[(500000,.box [.nl,.nl,.nl,.nl,.nl]),(500001,.box [(ro 500002 4),(ro 500003 36),(ro 500004 4),(ro 500005 3),(ro 500006 4)]),(500002,wB 4 j73.1),(500003,.row 36 [(0,4)] (List.map (cS cB) j73.2.1)),(500004,wB 4 j73.2.2.1),(500005,wI 3 j73.2.2.2),(500006,wB 4 r2.Fallen)]⟩) (kJ es r2) r (by kernel_rfl) (fun j73 h=>?_) ?_))
 refine zB (y3 1 [0,6,7,9] [500000,500001,500002,500003,500004,500005,500006] (zC ?_))
 obtain ⟨x193,hx193,h⟩:=aA h
 refine ql hx193 (fun s154=>⟨[(0,bB es),(6,.ptr 500000 0),(7,.ptr 500001 0),(9,vI s154.1)],[(500000,.box [.nl,.nl,.nl,.nl,.nl]),(500001,.box [(ro 500002 4),(ro 500003 36),(ro 500004 4),(ro 500005 3),(ro 500006 4)]),(500002,wB 4 j73.1),(500003,.row 36 [(0,4)] (List.map (cS cB) j73.2.1)),(500004,wB 4 j73.2.2.1),(500005,wI 3 j73.2.2.2),(500006,wB 4 s154.2)]⟩) (fun x193=>(.exit 2,⟨[(6,.ptr 500000 0),(7,.ptr 500001 0)],[(500000,.box [.nl,.nl,.nl,.nl,.nl]),(500001,.box [(ro 500002 4),(ro 500003 36),(ro 500004 4),(ro 500005 3),(ro 500006 4)]),(500002,wB 4 j73.1),(500003,.row 36 [(0,4)] (List.map (cS cB) j73.2.1)),(500004,wB 4 j73.2.2.1),(500005,wI 3 j73.2.2.2),(500006,wB 4 x193)]⟩)) qH (fun s154 r h=>?_) fun u k=>?_
 refine zB (z7 (zA 3 (qL cB s154.2 (y1 1 [0,6,7,9,68] [500000,500001,500002,500003,500004,500005,500006] (qc h (fun h=>?_) fun h=>?_)))))
 refine y4 [0,6,7,9] [500000,500001,500002,500003,500004,500005,500006] (bU (fun (j183:(List Bool))=>⟨[(0,bB es),(6,.ptr 500000 0),(7,.ptr 500001 0),(9,vI s154.1)],[(500000,.box [.nl,.nl,.nl,.nl,.nl]),(500001,.box [(ro 500002 4),(ro 500003 36),(ro 500004 4),(ro 500005 3),(ro 500006 4)]),(500002,wB 4 j73.1),(500003,.row 36 [(0,4)] (List.map (cS cB) j73.2.1)),(500004,wB 4 j73.2.2.1),(500005,wI 3 j73.2.2.2),(500006,wB 4 j183)]⟩) (nV s154) r (by kernel_rfl) (fun j183 h=>?_) ?_)
 refine zD (z6 3 fun u k=>?_)
 cases h
 exact zH k
 refine zC (zB ?_)
 obtain ⟨j187,hj187,h⟩:=aA h
 refine zT ⟨[(0,bB es),(6,.ptr 500000 0),(7,.ptr 500001 0),(9,vI s154.1),(90,vB j187)],[(500000,.box [.nl,.nl,.nl,.nl,.nl]),(500001,.box [(ro 500002 4),(ro 500003 36),(ro 500004 4),(ro 500005 3),(ro 500006 4)]),(500002,wB 4 j73.1),(500003,.row 36 [(0,4)] (List.map (cS cB) j73.2.1)),(500004,wB 4 j73.2.2.1),(500005,wI 3 j73.2.2.2),(500006,wB 4 s154.2)]⟩ ?_ fun u k=>?_
 replace h:=hj187
 refine zA 3 ?_
 obtain ⟨r188,hr188,h⟩:=aA h
 refine qV [500002,500003,500004,500005,500006] (W.xZ hr188) (zA 1 (qB h [0,6,7,9,75] [500000,500001,500002,500003,500004,500005,500006] [75] (fun h=>?_) fun h=>?_))
 refine zA 3 ?_
 obtain ⟨x189,hx189,h⟩:=aA h
 refine qI cB hx189 (qR cB hx189 (zA 1 (qB h [0,6,7,9,75,81] [500000,500001,500002,500003,500004,500005,500006] [81] (fun h=>?_) fun h=>?_)))
 refine zA 3 ?_
 obtain ⟨x190,hx190,h⟩:=aA h
 refine qI cI hx190 (qR cI hx190 (z6 4 fun u k=>?_))
 cases h
 exact zG k
 refine z6 9 fun u k=>?_
 cases h
 exact zG k
 refine z6 15 fun u k=>?_
 cases h
 exact zG k
 refine yE k [0,6,7,9,90] [500000,500001,500002,500003,500004,500005,500006] (qc h (fun h=>?_) fun h=>?_)
 refine zD (zA 3 ?_)
 obtain ⟨x192,hx192,h⟩:=aA h
 refine qI cB hx192 (qS cB true hx192 (zP fun u k=>?_))
 exact aH (aV (List.set s154.2 (Int.toNat s154.1) true) h k (here (by kernel_rfl)))
 refine zM fun u k=>?_
 exact aH (aV s154.2 h k (here (by kernel_rfl)))
 refine zL 2 fun u k=>?_
 refine aQ ?_
 cases h
 exact zF k
 refine zQ (yE k [6,7] [500000,500001,500002,500003,500004,500005,500006] (z8 2 ⟨[(6,.ptr 500000 0)],[(500000,.box [(ro 500002 4),(ro 500003 36),(ro 500004 4),(ro 500005 3),(ro 500006 4)]),(500002,wB 4 j73.1),(500003,.row 36 [(0,4)] (List.map (cS cB) j73.2.1)),(500004,wB 4 j73.2.2.1),(500005,wI 3 j73.2.2.2),(500006,wB 4 x193)]⟩ fun u k=>?_))
 obtain rfl:=osi h
 exact qW k [(6,.ptr 0 0)] (sp [] [(500000,0),(500002,1),(500003,2),(500004,3),(500005,4),(500006,5)])
 refine y3 3 [0,5,6,7,14] [5,6,7,700051,700052,700053,700054,700055] (qc h (fun h=>?_) fun h=>?_)
 refine qM 8 (dN 4 ?_)
 obtain ⟨x198,hx198,h⟩:=aA h
 refine dI (cS cB) hx198 (xG (by kernel_rfl) (Jo (c:=(cS cB)) (l:=r2.Holes) (i:=(Int.toNat x2.Piece)) (v:=(.row (.sub 700052 (Int.toNat x2.Piece) 0) 4)) (agg:=false) (sz:=1) (kk:=(.top 700052)) (e:=36) (off:=0) (J:=[(0,4)]) (by kernel_rfl) (by kernel_rfl) (by kernel_rfl) ((Ap hx198).2) (by kernel_rfl)) (by kernel_rfl) (by kernel_rfl) (dN 2 (dE ?_)))
 obtain ⟨x199,hx199,h⟩:=aA h
 refine Du (Vp (c:=cB) (l:=x198) (i:=x2.Hole) (kd:=.i64) (kk:=(.sub 700052 (Int.toNat x2.Piece) 0)) (e:=4) (sz:=1) (by kernel_rfl) (yV (g:=700052) (i:=(Int.toNat x2.Piece)) (j:=0) (c:=(cS cB)) (c2:=cB) (e:=36) (J:=[(0,4)]) (l:=r2.Holes) (x:=x198) (l2:=x198) (by kernel_rfl) rfl ((Ap hx198).2) rfl) hx199 rfl) (Du (Qe (c:=cB) (l:=x198) (i:=(Int.toNat x2.Hole)) (x:=x199) (x':=true) (v:=(vB true)) (agg:=false) (sz:=1) (kk:=(.sub 700052 (Int.toNat x2.Piece) 0)) (e:=4) (off:=0) (J:=[]) (o:=.row 36 [(0,4)] (List.map (cS cB) (List.set r2.Holes (Int.toNat x2.Piece) (List.set x198 (Int.toNat x2.Hole) true)))) (by kernel_rfl) (yV (g:=700052) (i:=(Int.toNat x2.Piece)) (j:=0) (c:=(cS cB)) (c2:=cB) (e:=36) (J:=[(0,4)]) (l:=r2.Holes) (x:=x198) (l2:=x198) (by kernel_rfl) rfl ((Ap hx198).2) rfl) (by kernel_rfl) ((Ap hx199).2) (by kernel_rfl) (by kernel_rfl) (Ny (g:=700052) (i:=(Int.toNat x2.Piece)) (j:=0) (c:=(cS cB)) (e:=36) (J:=[(0,4)]) (l:=r2.Holes) (x:=x198) (x':=(List.set x198 (Int.toNat x2.Hole) true)) (by kernel_rfl) ((Ap hx198).2) rfl)) (zO fun u k=>?_))
 exact aV (r2.Cut,(List.set r2.Holes (Int.toNat x2.Piece) (List.set x198 (Int.toNat x2.Hole) true)),r2.Done,r2.Joints) h k (sp [] [(6,500000),(7,500001),(700051,500002),(700052,500003),(700053,500004),(700054,500005),(700055,500006)])
 refine z7 (zA 4 ?_)
 obtain ⟨x201,hx201,h⟩:=aA h
 refine qI cB hx201 (qS cB true hx201 (zP fun u k=>?_))
 refine yE k [0,5,6,7] [5,6,7,700051,700052,700053,700054,700055] (z7 (zA 6 ?_))
 obtain ⟨x203,hx203,h⟩:=aA h
 refine qI cI hx203 (qS cI x2.Joints hx203 (zP fun u k=>?_))
 refine yE k [0,5,6,7] [5,6,7,700051,700052,700053,700054,700055] (y3 1 [0,5,6,7,8] [5,6,7,700051,700052,700053,700054,700055] (zC ?_))
 obtain ⟨x263,hx263,h⟩:=aA h
 refine ql hx263 (fun s224=>⟨[(0,bB es),(5,.ptr 500000 0),(6,.ptr 500001 0),(7,.ptr 500002 0),(8,vI s224.1)],[(500000,.box (dO x2)),(500001,.box [.nl,.nl,.nl,.nl,.nl]),(500002,.box [(ro 500003 4),(ro 500004 36),(ro 500005 4),(ro 500006 3),(ro 500007 4)]),(500003,wB 4 s224.2),(500004,.row 36 [(0,4)] (List.map (cS cB) r2.Holes)),(500005,wB 4 (List.set r2.Done (Int.toNat x2.Piece) true)),(500006,wI 3 (List.set r2.Joints (Int.toNat x2.Piece) x2.Joints)),(500007,wB 4 r2.Fallen)]⟩) (fun x263=>(.exit 0,⟨[(0,bB es),(6,.ptr 500000 0),(7,.ptr 500001 0)],[(500000,.box [.nl,.nl,.nl,.nl,.nl]),(500001,.box [(ro 500002 4),(ro 500003 36),(ro 500004 4),(ro 500005 3),(ro 500006 4)]),(500002,wB 4 x263),(500003,.row 36 [(0,4)] (List.map (cS cB) r2.Holes)),(500004,wB 4 (List.set r2.Done (Int.toNat x2.Piece) true)),(500005,wI 3 (List.set r2.Joints (Int.toNat x2.Piece) x2.Joints)),(500006,wB 4 r2.Fallen)]⟩)) (sp [] [(5,500000),(6,500001),(7,500002),(700051,500003),(700052,500004),(700053,500005),(700054,500006),(700055,500007)]) (fun s224 r h=>?_) fun u k=>?_
 refine zB (z7 (zA 2 (qL bF es (y1 1 [0,5,6,7,8,39] [500000,500001,500002,500003,500004,500005,500006,500007] (qc h (fun h=>?_) fun h=>?_)))))
 refine y4 [0,5,6,7,8] [500000,500001,500002,500003,500004,500005,500006,500007] (bU (fun (j253:(List Bool))=>⟨[(0,bB es),(5,.ptr 500000 0),(6,.ptr 500001 0),(7,.ptr 500002 0),(8,vI s224.1)],[(500000,.box (dO x2)),(500001,.box [.nl,.nl,.nl,.nl,.nl]),(500002,.box [(ro 500003 4),(ro 500004 36),(ro 500005 4),(ro 500006 3),(ro 500007 4)]),(500003,wB 4 j253),(500004,.row 36 [(0,4)] (List.map (cS cB) r2.Holes)),(500005,wB 4 (List.set r2.Done (Int.toNat x2.Piece) true)),(500006,wI 3 (List.set r2.Joints (Int.toNat x2.Piece) x2.Joints)),(500007,wB 4 r2.Fallen)]⟩) (nW s224) r (by kernel_rfl) (fun j253 h=>?_) ?_)
 refine zD (z6 3 fun u k=>?_)
 cases h
 exact zH k
 refine zC (zB ?_)
 obtain ⟨j258,hj258,h⟩:=aA h
 refine gK ⟨[(0,bB es),(5,.ptr 500000 0),(6,.ptr 500001 0),(7,.ptr 500002 0),(8,vI s224.1),(59,vB j258)],[(500000,.box (dO x2)),(500001,.box [.nl,.nl,.nl,.nl,.nl]),(500002,.box [(ro 500003 4),(ro 500004 36),(ro 500005 4),(ro 500006 3),(ro 500007 4)]),(500003,wB 4 s224.2),(500004,.row 36 [(0,4)] (List.map (cS cB) r2.Holes)),(500005,wB 4 (List.set r2.Done (Int.toNat x2.Piece) true)),(500006,wI 3 (List.set r2.Joints (Int.toNat x2.Piece) x2.Joints)),(500007,wB 4 r2.Fallen)]⟩ [] [] [] [] [] 16 (by kernel_rfl) (by kernel_rfl) (by kernel_rfl) ?_ fun u k=>?_
 replace h:=hj258
 refine dN 2 ?_
 obtain ⟨x259,hx259,h⟩:=aA h
 refine dX bF hx259 (dN 6 (bI (x259.A==x2.Piece) (fun b0=>⟨[(50,vB b0),(49,vB b0),(48,vI x2.Piece),(47,.ptr 500000 0),(46,vI x259.A),(45,.vptr (bF x259) 4),(44,.vptr (bF x259) 0),(43,vI s224.1),(42,bB es),(0,bB es),(5,.ptr 500000 0),(6,.ptr 500001 0),(7,.ptr 500002 0),(8,vI s224.1)],[(500000,.box (dO x2)),(500001,.box [.nl,.nl,.nl,.nl,.nl]),(500002,.box [(ro 500003 4),(ro 500004 36),(ro 500005 4),(ro 500006 3),(ro 500007 4)]),(500003,wB 4 s224.2),(500004,.row 36 [(0,4)] (List.map (cS cB) r2.Holes)),(500005,wB 4 (List.set r2.Done (Int.toNat x2.Piece) true)),(500006,wI 3 (List.set r2.Joints (Int.toNat x2.Piece) x2.Joints)),(500007,wB 4 r2.Fallen)]⟩) (by kernel_rfl) (fun hb=>?_) fun hb=>?_))
 replace h:=iK hb h
 refine dN 7 (dE (oN 2 (zO fun u k=>?_)))
 cases h
 exact zG k
 replace h:=iJ hb h
 refine dN 2 ?_
 obtain ⟨x260,hx260,h⟩:=aA h
 refine dX bF hx260 (dN 4 (dE (oN 2 (zO fun u k=>?_))))
 cases h
 exact zG k
 refine yE k [0,5,6,7,8,59] [500000,500001,500002,500003,500004,500005,500006,500007] (qc h (fun h=>?_) fun h=>?_)
 refine zD (zA 3 ?_)
 obtain ⟨x262,hx262,h⟩:=aA h
 refine qI cB hx262 (qS cB true hx262 (zP fun u k=>?_))
 exact aH (aV (List.set s224.2 (Int.toNat s224.1) true) h k (here (by kernel_rfl)))
 refine zM fun u k=>?_
 exact aH (aV s224.2 h k (here (by kernel_rfl)))
 refine zL 0 fun u k=>?_
 refine aQ ?_
 cases h
 exact xI k rfl (sp [] [(500001,500000),(500002,500001),(500003,500002),(500004,500003),(500005,500004),(500006,500005),(500007,500006)])
 exact zQ (aV (x263,r2.Holes,(List.set r2.Done (Int.toNat x2.Piece) true),(List.set r2.Joints (Int.toNat x2.Piece) x2.Joints)) h k (here (by kernel_rfl)))
theorem W.Ot {l st x2 r} (h:uZ l st x2=some r):PC G.P 21 [(.agg (aR l)),(.agg (aD st)),(.agg (dO x2))] [] (.tup [(.agg [(.row (.top 1) 4),(.sl (List.map (cS cB) r.1.Holes)),(.row (.top 2) 4),(.row (.top 3) 3),(.row (.top 4) 4)]),(vI r.2.1)]) [(0,.box [(.row (.top 1) 4),(.sl (List.map (cS cB) r.2.2)),(.row (.top 2) 4),(.row (.top 3) 3),(.row (.top 4) 4)]),(1,.row 4 [] (List.map cB r.1.Cut)),(2,.row 4 [] (List.map cB r.1.Done)),(3,.row 3 [] (List.map cI r.1.Joints)),(4,.row 4 [] (List.map cB r.1.Fallen))]:=by
 refine zU G Tryz.func21 (yK [0,1,2] [] (y3 5 [3,4,5,6] [3,4,5,6] (z7 (zA 1 ?_))))
 obtain ⟨r2,hr2,h⟩:=aA h
 refine qP (W.wH hr2) (y1 1 [3,4,5,6,8] [3,4,5,6] (zB (y3 2 [3,4,5,6,8,13] [3,4,5,6] (qc h (fun h=>?_) fun h=>?_))))
 refine z8 4 ⟨[(6,.ptr 6 0),(7,vI r2)],[(6,.box [.nl,.nl,.nl,.nl,.nl])]⟩ fun u k=>?_
 refine aO ?_
 obtain rfl:=osi h
 exact qW k [(6,.ptr 0 0),(7,vI r2)] (sp [.row (.box 6 0) 800000 4 [],.row (.box 6 2) 800001 4 [],.row (.box 6 3) 800002 3 [],.row (.box 6 4) 800003 4 [],.soft (.box 6 1)] [(6,0),(800000,1),(800001,2),(800002,3),(800003,4)])
 refine y4 [3,4,5,6] [3,4,5,6] (z7 (zA 1 ?_))
 obtain ⟨r4,hr4,h⟩:=aA h
 refine qC [] [(0,700050)] (W.xY hr4) (y1 1 [3,4,5,6,9] [3,4,5,6,700050] (z7 (zA 4 ?_)))
 obtain ⟨r6,hr6,h⟩:=aA h
 refine qV [700050] (W.Gz hr6) (y1 1 [4,5,6,8,9] [4,5,6,700050] (zB (y3 2 [4,5,6,8,9,24] [4,5,6,700050] (qc h (fun h=>?_) fun h=>?_))))
 refine z8 4 ⟨[(6,.ptr 6 0),(7,vI r6)],[(6,.box [.nl,.nl,.nl,.nl,.nl])]⟩ fun u k=>?_
 refine aO ?_
 obtain rfl:=osi h
 exact qW k [(6,.ptr 0 0),(7,vI r6)] (sp [.row (.box 6 0) 800000 4 [],.row (.box 6 2) 800001 4 [],.row (.box 6 3) 800002 3 [],.row (.box 6 4) 800003 4 [],.soft (.box 6 1)] [(6,0),(800000,1),(800001,2),(800002,3),(800003,4)])
 refine y4 [4,5,6,9] [4,5,6,700050] (z7 (zA 3 (wQ [.frz 700050] (by kernel_rfl) ?_)))
 obtain ⟨r8,hr8,h⟩:=aA h
 refine qC [] [(0,700150),(1,700151),(2,700152),(3,700153),(4,700154),(5,700155)] (W.Md hr8) (wQ [.frz 700152] (by kernel_rfl) (y1 2 [6,7] [6,700151,700153,700154,700155] (zN fun u k=>?_)))
 obtain rfl:=osi h
 exact qW k [(6,.ptr 0 0),(7,vI 0)] (sp [] [(6,0),(700151,1),(700153,2),(700154,3),(700155,4)])
theorem W.Sn {st h0_0 h2 r} (h:Ol st h0_0 h2=some r):PC G.P 62 [(.agg (bG st)),(.ptr 1000000 0),(.ptr 1000001 0)] [(1000000,.box [(.sl (List.map cB h0_0))]),(1000001,.box [(.row (.top 300002) 38)]),(300002,.row 38 [] (List.map (cS cI) h2))] (.tup []) [(0,.row 38 [] (List.map (cS cI) r)),(1000000,.box [(.sl (List.map cB st.Fallen))]),(1000001,.box [(.row (.top 0) 38)])]:=by
 refine zU G Tryz.func62 (yK [0,1,2] [300002,1000000,1000001] (y3 1 [1,2,3] [3,300002,1000000,1000001] (y3 1 [1,2,3,4] [3,4,300002,1000000,1000001] (zB (z7 (zA 2 ?_))))))
 refine qL cB st.Fallen (y1 1 [1,2,3,4,8,9,10] [3,4,300002,1000000,1000001] (zC ?_))
 obtain ⟨x96,hx96,h⟩:=aA h
 refine ql hx96 (fun s65=>⟨[(1,.ptr 1000000 0),(2,.ptr 1000001 0),(3,.ptr 500001 0),(4,ro 500002 3),(8,sB st.Fallen),(9,vI (st.Fallen.length:Int)),(10,vI s65.1)],[(500000,.row 38 [] (List.map (cS cI) h2)),(500001,.box (bG st)),(500002,wI 3 s65.2),(1000000,.box [(sB h0_0)]),(1000001,.box [(ro 500000 38)])]⟩) (fun x96=>(.exit 0,⟨[(1,.ptr 1000000 0),(2,.ptr 1000001 0),(3,.ptr 500001 0),(4,ro 500002 3)],[(500000,.row 38 [] (List.map (cS cI) h2)),(500001,.box (bG st)),(500002,wI 3 x96),(1000000,.box [(sB h0_0)]),(1000001,.box [(ro 500000 38)])]⟩)) (sp [] [(3,500001),(4,500002),(300002,500000),(1000000,1000000),(1000001,1000001)]) (fun s65 r h=>?_) fun u k=>?_
 refine y3 1 [1,2,3,4,8,9,10,11] [500000,500001,500002,1000000,1000001] (zB (qc h (fun h=>?_) fun h=>?_))
 refine y4 [1,2,3,4,8,9,10] [500000,500001,500002,1000000,1000001] (bU (fun (j88:(List Int))=>⟨[(1,.ptr 1000000 0),(2,.ptr 1000001 0),(3,.ptr 500001 0),(4,ro 500002 3),(8,sB st.Fallen),(9,vI (st.Fallen.length:Int)),(10,vI s65.1)],[(500000,.row 38 [] (List.map (cS cI) h2)),(500001,.box (bG st)),(500002,wI 3 j88),(1000000,.box [(sB h0_0)]),(1000001,.box [(ro 500000 38)])]⟩) (yN s65) r (by kernel_rfl) (fun j88 h=>?_) ?_)
 refine zD (z6 2 fun u k=>?_)
 cases h
 exact zH k
 refine zC (z7 (zA 1 ?_))
 obtain ⟨x90,hx90,h⟩:=aA h
 refine qX cB hx90 (y1 3 [1,2,3,4,5,6,8,9,10] [500000,500001,500002,1000000,1000001] (zB ?_))
 obtain ⟨j92,hj92,h⟩:=aA h
 refine zT ⟨[(1,.ptr 1000000 0),(2,.ptr 1000001 0),(3,.ptr 500001 0),(4,ro 500002 3),(5,vI s65.1),(8,sB st.Fallen),(9,vI (st.Fallen.length:Int)),(10,vI s65.1),(22,vB j92)],[(500000,.row 38 [] (List.map (cS cI) h2)),(500001,.box (bG st)),(500002,wI 3 s65.2),(1000000,.box [(sB h0_0)]),(1000001,.box [(ro 500000 38)])]⟩ ?_ fun u k=>?_
 replace h:=hj92
 refine zA 2 (qB h [1,2,3,4,5,8,9,10,16] [500000,500001,500002,1000000,1000001] [16] (fun h=>?_) fun h=>?_)
 refine zA 2 ?_
 obtain ⟨x93,hx93,h⟩:=aA h
 refine qX cB hx93 (z6 3 fun u k=>?_)
 cases h
 exact zG k
 refine z6 6 fun u k=>?_
 cases h
 exact zG k
 refine yE k [1,2,3,4,5,8,9,10,22] [500000,500001,500002,1000000,1000001] (qc h (fun h=>?_) fun h=>?_)
 refine zD (zA 3 ?_)
 obtain ⟨l95,hl95,h⟩:=aA h
 refine qA cI 1 hl95 (z6 1 fun u k=>?_)
 exact aH (aV l95 h k (here (by kernel_rfl)))
 refine zM fun u k=>?_
 exact aH (aV s65.2 h k (here (by kernel_rfl)))
 refine zL 0 fun u k=>?_
 refine aQ ?_
 cases h
 exact zF k
 refine zQ (yE k [1,2,3,4] [500000,500001,500002,1000000,1000001] (z7 (zA 2 (wQ [.frz 500002] (by kernel_rfl) (zA 1 ?_)))))
 obtain ⟨l98,hl98,h⟩:=aA h
 refine qA (cS cI) 1 hl98 (y1 1 [1,3] [500000,500001,1000000,1000001] (zD (z6 3 fun u k=>?_)))
 obtain rfl:=osi h
 exact yU k [] (sp [] [(500000,0),(1000000,1000000),(1000001,1000001)]) (by kernel_rfl)
theorem W.Gf {l items h1 h3 r} (h:yQ l items h1 h3=some r):PC G.P 57 [(.agg (aR l)),(.sl (List.map dO items)),(.fn 62 [(.ptr 1000000 0),(.ptr 1000002 0)])] [(1000000,.box [(.row (.top 300001) 4)]),(300001,.row 4 [] (List.map cB h1)),(1000002,.box [(.row (.top 300003) 38)]),(300003,.row 38 [] (List.map (cS cI) h3))] (.tup [(.agg (bG r.1)),(vI r.2.1),(vI r.2.2.1)]) [(0,.box [(.sl (List.map cB r.2.2.2.1)),(.sl (List.map (cS cB) r.2.2.2.2.1)),(.sl (List.map cB r.2.2.2.2.2.1)),(.sl (List.map cI r.2.2.2.2.2.2.1)),(.sl (List.map cB r.2.2.2.2.2.2.2.1))]),(1,.row 38 [] (List.map (cS cI) r.2.2.2.2.2.2.2.2.1)),(1000000,.box [(.sl (List.map cB r.2.2.2.2.2.2.2.2.2))]),(1000002,.box [(.row (.top 1) 38)])]:=by
 refine zU G Tryz.func57 (yK [0,1,2] [300001,300003,1000000,1000002] (y3 4 [1,2,3,6] [3,6,300001,300003,1000000,1000002] (z7 (zA 1 ?_))))
 obtain ⟨r2,hr2,h⟩:=aA h
 refine qC [] [(0,700050)] (W.Eb hr2) (y1 5 [1,2,3,6,9,10] [3,6,300001,300003,700050,1000000,1000002] (zB (y3 2 [1,2,3,6,9,10,22] [3,6,300001,300003,700050,1000000,1000002] (qc h (fun h=>?_) fun h=>?_))))
 exact nomatch h
 refine y4 [1,2,3,6,9] [3,6,300001,300003,700050,1000000,1000002] (zB (z7 (zA 1 (qL dO items (y1 1 [1,2,3,6,9,27] [3,6,300001,300003,700050,1000000,1000002] (qc h (fun h=>?_) fun h=>?_))))))
 exact nomatch h
 refine y4 [1,2,3,6,9] [3,6,300001,300003,700050,1000000,1000002] (z7 (zA 2 (qL bF r2.1 ?_)))
 obtain ⟨r4,hr4,h⟩:=aA h
 refine qC [] [(0,700150),(1,700151),(2,700152),(3,700153),(4,700154),(5,700155)] (W.Un hr4) (y1 2 [1,2,3,6,9,11] [3,6,11,300001,300003,700050,700151,700152,700153,700154,700155,1000000,1000002] (zB (z7 (zA 1 (qL dO items (y1 1 [2,3,6,9,11,33,34,35] [3,6,11,300001,300003,700050,700151,700152,700153,700154,700155,1000000,1000002] ?_))))))
 refine zC ?_
 obtain ⟨x82,hx82,h⟩:=aA h
 refine ql hx82 (fun s57=>⟨[(2,.fn 62 [(.ptr 1000000 0),(.ptr 1000002 0)]),(3,.ptr 500001 0),(6,.ptr 500002 0),(9,bB r2.1),(11,.ptr 500003 0),(33,YN items),(34,vI (items.length:Int)),(35,vI s57.1)],[(500000,.row 38 [] (List.map (cS cI) s57.2.1)),(500001,.box (aR l)),(500002,.box [.nl,.nl,.nl,.nl,.nl]),(500003,.box [(sB s57.2.2.1),(.sl (List.map (cS cB) s57.2.2.2.1)),(sB s57.2.2.2.2.1),(sI s57.2.2.2.2.2.1),(sB s57.2.2.2.2.2.2.1)]),(1000000,.box [(sB s57.2.2.2.2.2.2.2)]),(1000002,.box [(ro 500000 38)])]⟩) (fun x82=>(.exit 0,⟨[(6,.ptr 500000 0),(11,.ptr 500001 0)],[(500000,.box [.nl,.nl,.nl,.nl,.nl]),(500001,.box [(sB x82.1),(.sl (List.map (cS cB) x82.2.1)),(sB x82.2.2.1),(sI x82.2.2.2.1),(sB x82.2.2.2.2.1)]),(500002,.row 38 [] (List.map (cS cI) x82.2.2.2.2.2.1)),(1000000,.box [(sB x82.2.2.2.2.2.2)]),(1000002,.box [(ro 500002 38)])]⟩)) (sp [.frz 300001,.frz 700050,.frz 700151,.frz 700152,.frz 700153,.frz 700154,.frz 700155] [(3,500001),(6,500002),(11,500003),(300003,500000),(1000000,1000000),(1000002,1000002)]) (fun s57 r h=>?_) fun u k=>?_
 refine y3 1 [2,3,6,9,11,33,34,35,36] [500000,500001,500002,500003,1000000,1000002] (zB (qc h (fun h=>?_) fun h=>?_))
 refine y4 [2,3,6,9,11,33,34,35] [500000,500001,500002,500003,1000000,1000002] (zB (zC (z7 (zA 1 ?_))))
 obtain ⟨x77,hx77,h⟩:=aA h
 refine qX dO hx77 (y1 4 [2,3,6,9,11,12,13,33,34,35] [13,500000,500001,500002,500003,1000000,1000002] (z7 (zA 4 ?_)))
 obtain ⟨r79,hr79,h⟩:=aA h
 refine qC [] [(0,700200),(1,700201),(2,700202),(3,700203),(4,700204),(5,700205)] (W.DL hr79) (wQ [.frz 700202] (by kernel_rfl) (y1 6 [2,3,6,9,11,12,14,15,33,34,35] [14,500000,500001,500002,500003,700201,700203,700204,700205,1000000,1000002] (zB (y3 2 [2,3,6,9,11,12,14,15,33,34,35,49] [14,500000,500001,500002,500003,700201,700203,700204,700205,1000000,1000002] (qc h (fun h=>?_) fun h=>?_)))))
 exact nomatch h
 refine y4 [2,3,6,9,11,14,33,34,35] [14,500000,500001,500002,500003,700201,700203,700204,700205,1000000,1000002] (y3 2 [2,3,6,9,11,33,34,35] [500000,500001,500002,500003,700201,700203,700204,700205,1000000,1000002] (zD (zA 2 (wQ [.frz 700201,.frz 700203,.frz 700204,.frz 700205] (by kernel_rfl) ?_))))
 obtain ⟨r81,hr81,h⟩:=aA h
 refine qC [(1000000,1000000),(1000001,1000002),(300002,500000)] [(0,700100)] (W.Sn hr81) (zP fun u k=>?_)
 refine aH (yE k [2,3,6,9,11,33,34,35] [500001,500002,500003,700100,1000000,1000002] (zD (z6 2 fun u k=>?_)))
 cases h
 exact Px k (sp [] [(500001,500001),(500002,500002),(500003,500003),(700100,500000),(1000000,1000000),(1000002,1000002)])
 refine zL 0 fun u k=>?_
 refine aQ ?_
 cases h
 exact xI k rfl (sp [] [(500000,500002),(500002,500000),(500003,500001),(1000000,1000000),(1000002,1000002)])
 refine zQ (yE k [6,11] [500000,500001,500002,1000000,1000002] (z8 4 ⟨[(6,.ptr 500000 0),(7,vI 0),(8,vI 0)],[(500000,.box [(sB x82.1),(.sl (List.map (cS cB) x82.2.1)),(sB x82.2.2.1),(sI x82.2.2.2.1),(sB x82.2.2.2.2.1)]),(500002,.row 38 [] (List.map (cS cI) x82.2.2.2.2.2.1)),(1000000,.box [(sB x82.2.2.2.2.2.2)]),(1000002,.box [(ro 500002 38)])]⟩ fun u k=>?_))
 obtain rfl:=osi h
 exact qW k [(6,.ptr 0 0),(7,vI 0),(8,vI 0)] (sp [] [(500000,0),(500002,1),(1000000,1000000),(1000002,1000002)])
theorem W.Xx {l items r} (h:Uh l items=some r):PC G.P 26 [(.agg (aR l)),(.sl (List.map dO items))] [] (.tup [(.row (.top 0) 38),(vI r.2)]) [(0,.row 38 [] (List.map (cS cI) r.1))]:=by
 refine zU G Tryz.func26 (yK [0,1] [] (y3 3 [1,2] [2] (z7 (zA 1 (wQ [.row (.box 6 0) 800006 38 []] (by kernel_rfl) (zP fun u k=>?_))))))
 refine yE k [1,2,6] [2,6,800006] (z7 (zA 2 (qL aU l.Pieces ?_)))
 obtain ⟨l2,hl2,h⟩:=aA h
 refine iI (Ir (c:=cB) (z:=false) (n:=(l.Pieces.length:Int)) (e:=4) (d:=14) (zs:=[(vB false)]) (k1:=.i64) (k2:=.i64) (by kernel_rfl) rfl hl2) (zA 1 (wQ [.row (.box 7 0) 800007 4 []] (by kernel_rfl) (y1 1 [1,2,6,7] [2,6,7,14,800006] (z7 (zA 3 ?_)))))
 obtain ⟨r4,hr4,h⟩:=aA h
 refine qC [(1000000,7),(300001,14),(1000002,6),(300003,800006)] [(0,700150),(1,700151)] (W.Gf hr4) (y1 8 [6,10] [6,700151] (zB (y3 2 [6,10,24] [6,700151] (qc h (fun h=>?_) fun h=>?_))))
 exact nomatch h
 refine y4 [6] [6,700151] (z8 3 ⟨[(4,ro 700151 38),(5,vI 0)],[(700151,.row 38 [] (List.map (cS cI) r4.2.2.2.2.2.2.2.2.1))]⟩ fun u k=>?_)
 obtain rfl:=osi h
 exact qW k [(4,ro 0 38),(5,vI 0)] (sp [] [(700151,0)])
theorem W.Es {r} (h:tL=some r):PC G.P 13 [] [] (vB r) []:=by
 refine zU G Tryz.func13 (yK [] [] (y3 1 [] [] (y3 1 [1] [] (y3 7 [1,2] [2] (y3 7 [1,2,3] [2,3] (y3 8 [1,2,3,4] [2,3,4] ?_))))))
 refine z7 (zA 3 (fF (PD (es:=(List.map aU [(Piece.mk (ByteArray.mk #[97]) (ByteArray.mk #[115,116,101,101,108]) 10 0 [(Rect.mk 0 0 14400 14400)] [] []),(Piece.mk (ByteArray.mk #[98]) (ByteArray.mk #[115,116,101,101,108]) 10 0 [(Rect.mk 14400 0 14400 14400)] [] [])])) (by kernel_rfl)) (y1 3 [1,5] [5] (z7 (zA 1 ?_)))))
 obtain ⟨r2,hr2,h⟩:=aA h
 refine qC [] [(0,700050)] (W.Eb hr2) (y1 5 [1,5,6,7] [5,700050] (y3 7 [5,6,7,8] [5,700050] (z7 (zA 2 ?_))))
 obtain ⟨r4,hr4,h⟩:=aA h
 refine qC [] [(0,700100)] (W.Xx hr4) (y1 5 [6,7,9,10] [700050,700100] (z7 (zA 3 (qB h [6,9,10,51] [700050,700100] [51] (fun h=>?_) fun h=>?_))))
 refine zA 1 (qL bF r2.1 (zA 3 (qB h [9,10,56] [700100] [56] (fun h=>?_) fun h=>?_)))
 refine zA 4 (qB h [9,60] [700100] [60] (fun h=>?_) fun h=>?_)
 refine zA 1 (qL (cS cI) r4.1 (zA 3 (qB h [9,65] [700100] [65] (fun h=>?_) fun h=>?_)))
 refine zA 1 ?_
 obtain ⟨x9,hx9,h⟩:=aA h
 refine qI (cS cI) hx9 (qR (cS cI) hx9 (zA 1 ?_))
 obtain ⟨r10,hr10,h⟩:=aA h
 refine qP (W.oM hr10) (zA 2 (qB h [9,72] [700100] [72] (fun h=>?_) fun h=>?_))
 refine zA 1 ?_
 obtain ⟨x11,hx11,h⟩:=aA h
 refine qI (cS cI) hx11 (qR (cS cI) hx11 (zA 1 ?_))
 obtain ⟨r12,hr12,h⟩:=aA h
 refine qP (W.oM hr12) (y1 2 [0] [] (zN fun u k=>?_))
 obtain rfl:=osi h
 exact zV k [(0,vB r12)]
 exact nomatch h
 exact nomatch h
 exact nomatch h
 exact nomatch h
 exact nomatch h
theorem W.Gx {l st x2 r} (h:uM l st x2=some r):PC G.P 5 [(.agg (aR l)),(.agg (aD st)),(.agg (dO x2))] [] (vB r) []:=by
 refine zU G Tryz.func5 (yK [0,1,2] [] (y3 4 [3,4,5] [3,4,5] (z7 (zA 1 ?_))))
 obtain ⟨r2,hr2,h⟩:=aA h
 refine qC [] [(0,700050),(1,700051),(2,700052),(3,700053),(4,700054),(5,700055)] (W.EX hr2) (y1 6 [3,4,5,7,8] [3,4,5,7,700051,700052,700053,700054,700055] (z7 (zA 1 ?_)))
 obtain ⟨r4,hr4,h⟩:=aA h
 refine qC [] [(0,700050),(1,700056),(2,700057),(3,700058),(4,700059),(5,700060)] (W.Jj hr4) (y1 6 [3,4,5,7,8,9,10] [3,4,5,7,9,700051,700052,700053,700054,700055,700056,700057,700058,700059,700060] (zB (zB ?_)))
 obtain ⟨j9,hj9,h⟩:=aA h
 refine zT ⟨[(3,.ptr 500000 0),(4,.ptr 500001 0),(5,.ptr 500002 0),(33,vB j9)],[(500000,.box (aR l)),(500001,.box (aD st)),(500002,.box (dO x2))]⟩ ?_ fun u k=>?_
 replace h:=hj9
 refine zA 4 (qB h [3,4,5,7,9,28] [3,4,5,7,9,700051,700052,700053,700054,700055,700056,700057,700058,700059,700060] [28] (fun h=>?_) fun h=>?_)
 refine z6 5 fun u k=>?_
 cases h
 exact bH k (sp [] [(3,500000),(4,500001),(5,500002)])
 refine zA 2 ?_
 obtain ⟨r10,hr10,h⟩:=aA h
 refine qV [700051,700052,700053,700054,700055,700056,700057,700058,700059,700060] (W.yX hr10) (z6 2 fun u k=>?_)
 cases h
 exact bH k (sp [] [(3,500000),(4,500001),(5,500002)])
 refine yE k [3,4,5,33] [500000,500001,500002] (qc h (fun h=>?_) fun h=>?_)
 refine z8 1 ⟨[(6,vB false)],[]⟩ fun u k=>?_
 refine aO ?_
 obtain rfl:=osi h
 exact zV k [(6,vB false)]
 refine y4 [3,4,5] [500000,500001,500002] (z7 (zA 13 ?_))
 obtain ⟨r12,hr12,h⟩:=aA h
 refine qC [] [(0,700650),(1,700651),(2,700652),(3,700653),(4,700654)] (W.PP hr12) (y1 6 [3,4,5,11,12] [11,500000,500001,500002,700651,700652,700653,700654] (z7 (zA 3 ?_)))
 obtain ⟨r14,hr14,h⟩:=aA h
 refine qC [] [(0,700150),(1,700151),(2,700152),(3,700153),(4,700154)] (W.Ot hr14) (y1 6 [11,12,13,14] [11,13,700151,700152,700153,700154,700651,700652,700653,700654] (zB ?_))
 obtain ⟨j17,hj17,h⟩:=aA h
 refine zT ⟨[(6,vB j17)],[]⟩ ?_ fun u k=>?_
 replace h:=hj17
 refine zA 4 (qB h [11,13,61] [11,13,700151,700152,700153,700154,700651,700652,700653,700654] [61] (fun h=>?_) fun h=>?_)
 refine zA 2 ?_
 obtain ⟨r18,hr18,h⟩:=aA h
 refine qV [700651,700652,700653,700654,700151,700152,700153,700154] (W.yX hr18) (zA 2 (qB h [66] [] [66] (fun h=>?_) fun h=>?_))
 obtain ⟨r19,hr19,h⟩:=aA h
 refine qP (W.Es hr19) (z6 2 fun u k=>?_)
 cases h
 exact zG k
 refine z6 3 fun u k=>?_
 cases h
 exact zG k
 refine z6 8 fun u k=>?_
 cases h
 exact zG k
 refine yE k [6] [] (zN fun u k=>?_)
 obtain rfl:=osi h
 exact zV k [(6,vB j17)]
end Go.Proofs.YtgfjbgoehhnaeaaGreat
