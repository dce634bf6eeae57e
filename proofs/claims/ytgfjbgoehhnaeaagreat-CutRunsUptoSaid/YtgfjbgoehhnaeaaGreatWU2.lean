/- Each Go function does what its model says; written by a program out of the translation. -/
import Derived.Test.YtgfjbgoehhnaeaaGreatWU1
import Derived.Test.YtgfjbgoehhnaeaaGreatPl3
set_option linter.unusedVariables false
set_option linter.unusedSimpArgs false
set_option linter.unusedSectionVars false
namespace Go.Proofs.YtgfjbgoehhnaeaaGreat
open Go Go.VI Go.SM Go.Proofs
set_option maxRecDepth 100000
set_option maxHeartbeats 4000000
theorem W.FU {x0 r} (h:Kz x0=some r):PC G.P 65 [(.agg (aU x0))] [] (vB r) []:=by
 refine zU G Tryz.func65 (yK [0] [] (y3 2 [1] [1] (y3 1 [1,3] [1,3] (zB (z7 (zA 2 ?_))))))
 refine qL aD x0.Rects (y1 1 [3,9,10,11] [3] (zC ?_))
 obtain ⟨a2,a6,h⟩:=aA h
 refine ql a6 (fun a0=>⟨[(3,.ptr 500000 0),(9,aW x0.Rects),(10,vI (x0.Rects.length:Int)),(11,vI a0.1)],[(500000,.box [(vI a0.2.1),(vI a0.2.2.1),(vI a0.2.2.2.1),(vI a0.2.2.2.2)])]⟩) (fun a2=>(.exit 0,⟨[(3,.ptr 500000 0)],[(500000,.box [(vI a2.1),(vI a2.2.1),(vI a2.2.2.1),(vI a2.2.2.2)])]⟩)) (sp [] [(3,500000)]) (fun a0 r h=>?_) fun u k=>?_
 refine y3 1 [3,9,10,11,12] [500000] (zB (qc h (fun h=>?_) fun h=>?_))
 refine y4 [3,9,10,11] [500000] (bV (fun (a3:Int×Int×Int×Int)=>⟨[(3,.ptr 500000 0),(9,aW x0.Rects),(10,vI (x0.Rects.length:Int)),(11,vI a0.1)],[(500000,.box [(vI a3.1),(vI a3.2.1),(vI a3.2.2.1),(vI a3.2.2.2)])]⟩) (Ad a0) r (by kernel_rfl) (fun a3 h=>?_) ?_)
 refine zD (z6 2 fun u k=>?_)
 cases h
 exact zH k
 refine zC (z7 ?_)
 obtain ⟨a1,a5,h⟩:=aA h
 refine qX aD a5 (y1 3 [3,5,9,10,11] [5,500000] (zC (z7 (zA 1 ?_))))
 obtain ⟨a7,a4,h⟩:=aA h
 refine qP (W.gB a4) (y1 2 [3,5,9,10,11,57] [5,500000] (qc h (fun h=>?_) fun h=>?_))
 refine zM fun u k=>?_
 exact aF (aF (aV (a0.2.1,a0.2.2.1,a0.2.2.2.1,a0.2.2.2.2) h k (here (by kernel_rfl))))
 refine y3 4 [3,5,9,10,11,61] [5,500000] (qc h (fun h=>?_) fun h=>?_)
 refine zD (z6 2 fun u k=>?_)
 exact aF (aF (aV (a1.X,a1.Y,a1.W,a1.H) h k (here (by kernel_rfl))))
 refine zB (qM 11 (dN 11 (dE (oN 1 (zO fun u k=>?_)))))
 refine yE k [3,5,6,7,9,10,11] [5,500000] (zB (qN [(27,[500000])] [] [] [(17,[500000]),(18,[500000]),(19,[500000]),(20,[500000]),(21,[500000]),(22,[500000]),(23,[500000]),(24,[500000]),(25,[500000])] [] 28 (dN 27 (OI (g:=500000) (ob:=.box [(vI a0.2.1),(vI a0.2.2.1),(vI (aJ (fA (aM a0.2.1 a0.2.2.2.1) (aM a1.X a1.W)) (nH a0.2.1 a1.X))),(vI a0.2.2.2.2)]) (v:=vU) (by kernel_rfl) (by kernel_rfl) (by kernel_rfl) (by kernel_rfl) (by kernel_rfl) (dE (oN 2 ?_))))))
 refine zO fun u k=>?_
 refine yE k [3,6,7,9,10,11] [500000] (zD (z6 6 fun u k=>?_))
 exact aF (aF (aV ((nH a0.2.1 a1.X),(nH a0.2.2.1 a1.Y),(aJ (fA (aM a0.2.1 a0.2.2.2.1) (aM a1.X a1.W)) (nH a0.2.1 a1.X)),(aJ (fA (aM a0.2.2.1 a0.2.2.2.2) (aM a1.Y a1.H)) (nH a0.2.2.1 a1.Y))) h k (here (by kernel_rfl))))
 refine zL 0 fun u k=>?_
 refine aR ?_
 cases h
 exact zF k
 refine zQ (yE k [3] [500000] (z8 7 ⟨[(2,vB (decide ((nH a2.2.2.1 a2.2.2.2)<7200)))],[]⟩ fun u k=>?_))
 obtain rfl:=osi h
 exact zV k [(2,vB (decide ((nH a2.2.2.1 a2.2.2.2)<7200)))]
theorem W.Uw {r0 a_0 a_1 a_2 a_3 r} (h:Gq r0 a_0 a_1 a_2 a_3=some r):PC G.P 184 [(.agg (aD r0)),(.vptr [(vI a_0),(vI a_1),(vI a_2),(vI a_3)] 0)] [] (vB r) []:=by
 refine zU G Tryz.func184 (yK [0,1] [] (y3 2 [1,2] [2] (z7 (zA 2 ?_))))
 obtain ⟨r2,a0,h⟩:=aA h
 refine qP (W.Gv a0) (y1 1 [3] [] (zN fun u k=>?_))
 obtain rfl:=osi h
 exact zV k [(3,vB r2)]
theorem W.oM {s0 f_0_0 f_0_1 f_0_2 f_0_3 r} (h:dM s0 f_0_0 f_0_1 f_0_2 f_0_3=some r):PC G.P 147 [(.sl (List.map aD s0)),(.fn 184 [(.vptr [(vI f_0_0),(vI f_0_1),(vI f_0_2),(vI f_0_3)] 0)])] [] (vI r) []:=by
 refine zU G Tryz.func147 (yK [0,1] [] (y3 1 [0,1] [] (zB (z7 (zA 1 (qL aD s0 ?_))))))
 refine y1 1 [0,1,7,8] [] (zC ?_)
 obtain ⟨a5,a2,h⟩:=aA h
 refine ql a2 (fun a4=>⟨[(0,aW s0),(1,.fn 184 [(.vptr [(vI f_0_0),(vI f_0_1),(vI f_0_2),(vI f_0_3)] 0)]),(7,vI (s0.length:Int)),(8,vI a4)],[]⟩) (fun a5=>match a5 with | .inl a3=>(.ret,⟨[(4,vI a3)],[]⟩) | .inr a6=>(.exit 0,⟨[],[]⟩)) qH (fun a4 r h=>?_) (fun u k=>?_) (hout:=(by intro x;rcases x with _ | _ <;> rfl))
 refine y3 1 [0,1,7,8,9] [] (zB (qc h (fun h=>?_) fun h=>?_))
 refine y4 [0,1,7,8] [] (zB (zC (y3 2 [0,1,5,7,8] [] (z7 (zA 3 ?_)))))
 obtain ⟨a8,a1,h⟩:=aA h
 refine qX aD a1 (zA 1 ?_)
 obtain ⟨a7,a0,h⟩:=aA h
 refine qP (W.Uw a0) (zP fun u k=>?_)
 refine yE k [0,1,5,7,8,16] [] (qc h (fun h=>?_) fun h=>?_)
 refine z8 2 ⟨[(4,vI a4)],[]⟩ fun u k=>?_
 refine aT (aO ?_)
 cases h
 exact zF k
 refine zM fun u k=>?_
 refine aF (yE k [0,1,7,8] [] (zD (z6 2 fun u k=>?_)))
 cases h
 exact zH k
 refine zL 0 fun u k=>?_
 refine aR ?_
 cases h
 exact zF k
 rcases a5 with a3 | a6
 refine aT (aO ?_)
 obtain rfl:=osi h
 exact zV k [(4,vI a3)]
 refine zQ (yE k [] [] (z8 1 ⟨[(4,vI (-1))],[]⟩ fun u k=>?_))
 obtain rfl:=osi h
 exact zV k [(4,vI (-1))]
theorem W.nU {s0 f_0_0 f_0_1 f_0_2 f_0_3 r} (h:bK s0 f_0_0 f_0_1 f_0_2 f_0_3=some r):PC G.P 92 [(.sl (List.map aD s0)),(.fn 184 [(.vptr [(vI f_0_0),(vI f_0_1),(vI f_0_2),(vI f_0_3)] 0)])] [] (vB r) []:=by
 refine zU G Tryz.func92 (yK [0,1] [] (y3 1 [0,1] [] (z7 (zA 2 ?_))))
 obtain ⟨r2,a0,h⟩:=aA h
 refine qP (W.oM a0) (y1 2 [4] [] (zN fun u k=>?_))
 obtain rfl:=osi h
 exact zV k [(4,vB (decide (r2 ≥ 0)))]
theorem W.Pi {l s1 r} (h:nE l s1=some r):PC G.P 158 [(.sl (List.map aD l)),(.agg [(vI s1.X),(vI s1.Y)])] [] (vB r) []:=by
 refine zU G Tryz.func158 (yK [0,1] [] (y3 2 [0,3] [3] (zB (zB ?_))))
 obtain ⟨j2,a5,h⟩:=aA h
 refine zT ⟨[(0,aW l),(3,.ptr 500000 0),(24,vB j2)],[(500000,.box [(vI s1.X),(vI s1.Y)])]⟩ ?_ fun u k=>?_
 replace h:=a5
 refine zA 4 (qB h [0,3,10] [3] [10] (fun h=>?_) fun h=>?_)
 refine z6 14 fun u k=>?_
 cases h
 exact bJ k (sp [] [(3,500000)])
 refine zA 5 (qB h [0,3,15] [3] [15] (fun h=>?_) fun h=>?_)
 refine z6 9 fun u k=>?_
 cases h
 exact bJ k (sp [] [(3,500000)])
 refine zA 5 (qB h [0,3,20] [3] [20] (fun h=>?_) fun h=>?_)
 refine z6 4 fun u k=>?_
 cases h
 exact bJ k (sp [] [(3,500000)])
 refine z6 4 fun u k=>?_
 cases h
 exact bJ k (sp [] [(3,500000)])
 refine yE k [0,3,24] [500000] (qc h (fun h=>?_) fun h=>?_)
 refine z8 1 ⟨[(4,vB false)],[]⟩ fun u k=>?_
 refine aO ?_
 obtain rfl:=osi h
 exact zV k [(4,vB false)]
 refine y4 [0,3] [500000] (zB (z7 (zA 25 (qL aD [(Rect.mk (aJ s1.X 1) (aJ s1.Y 1) 1 1),(Rect.mk s1.X (aJ s1.Y 1) 1 1),(Rect.mk (aJ s1.X 1) s1.Y 1 1),(Rect.mk s1.X s1.Y 1 1)] (y1 1 [0,49,50,51] [] (zC ?_))))))
 obtain ⟨a3,a2,h⟩:=aA h
 refine ql a2 (fun a4=>⟨[(0,aW l),(49,aW [(Rect.mk (aJ s1.X 1) (aJ s1.Y 1) 1 1),(Rect.mk s1.X (aJ s1.Y 1) 1 1),(Rect.mk (aJ s1.X 1) s1.Y 1 1),(Rect.mk s1.X s1.Y 1 1)]),(50,vI ([(Rect.mk (aJ s1.X 1) (aJ s1.Y 1) 1 1),(Rect.mk s1.X (aJ s1.Y 1) 1 1),(Rect.mk (aJ s1.X 1) s1.Y 1 1),(Rect.mk s1.X s1.Y 1 1)].length:Int)),(51,vI a4)],[]⟩) (fun a3=>match a3 with | .inl a6=>(.ret,⟨[(4,vB false)],[]⟩) | .inr a7=>(.exit 0,⟨[],[]⟩)) qH (fun a4 r h=>?_) (fun u k=>?_) (hout:=(by intro x;rcases x with _ | _ <;> rfl))
 refine y3 1 [0,49,50,51,52] [] (zB (qc h (fun h=>?_) fun h=>?_))
 refine y4 [0,49,50,51] [] (zB (zC (z7 ?_)))
 obtain ⟨a9,a1,h⟩:=aA h
 refine qX aD a1 (y1 3 [0,6,49,50,51] [6] (z7 (zA 2 ?_)))
 obtain ⟨a8,a0,h⟩:=aA h
 refine qV [6] (W.nU a0) (y1 1 [0,49,50,51,58] [] (qc h (fun h=>?_) fun h=>?_))
 refine z8 1 ⟨[(4,vB false)],[]⟩ fun u k=>?_
 refine aT (aO ?_)
 cases h
 exact zF k
 refine zM fun u k=>?_
 refine aF (yE k [0,49,50,51] [] (zD (z6 2 fun u k=>?_)))
 cases h
 exact zH k
 refine zL 0 fun u k=>?_
 refine aR ?_
 cases h
 exact zF k
 rcases a3 with a6 | a7
 refine aT (aO ?_)
 obtain rfl:=osi h
 exact zV k [(4,vB false)]
 refine zQ (yE k [] [] (z8 1 ⟨[(4,vB true)],[]⟩ fun u k=>?_))
 obtain rfl:=osi h
 exact zV k [(4,vB true)]
theorem W.LY {s0 l r} (h:FW s0 l=some r):PC G.P 159 [(.agg [(vI s0.X),(vI s0.Y)]),(.agg (Bo l))] [] (vI r) []:=by
 refine zU G Tryz.func159 (yK [0,1] [] (y3 3 [2,3] [2,3] (z8 22 ⟨[(4,vI (fA (fA (fA (fA 0 (aJ l.X1 s0.X)) (aJ s0.X l.X2)) (aJ l.Y1 s0.Y)) (aJ s0.Y l.Y2)))],[]⟩ fun u k=>?_)))
 obtain rfl:=osi h
 exact zV k [(4,vI (fA (fA (fA (fA 0 (aJ l.X1 s0.X)) (aJ s0.X l.X2)) (aJ l.Y1 s0.Y)) (aJ s0.Y l.Y2)))]
theorem W.Uz {st l all x3 r} (h:wR st l all x3=some r):PC G.P 116 [(.agg (bG st)),(.agg (aQ l)),(.sl (List.map bF all)),(.agg [(vI x3.Piece),(vI x3.Hole),(vI x3.Joints),(vI x3.Lead.X),(vI x3.Lead.Y)])] [] (vB r) []:=by
 refine zU G Tryz.func116 (yK [0,1,2,3] [] (y3 4 [2,4,5,7] [4,5,7] (y3 4 [2,4,5,7,9] [4,5,7,9] (zB (y3 3 [2,4,5,7,9,19] [4,5,7,9] (qc h (fun h=>?_) fun h=>?_))))))
 refine zB (sV [(11,[10])] [(11,[10])] [] [(0,[10]),(1,[10]),(2,[10]),(3,[10]),(4,[10]),(5,[10]),(6,[10]),(7,[10]),(8,[10]),(9,[10]),(10,[10])] [(0,[10]),(1,[10]),(2,[10]),(3,[10]),(4,[10]),(5,[10]),(6,[10]),(7,[10]),(8,[10]),(9,[10]),(10,[10])] 12 (by kernel_rfl) (by kernel_rfl) [10] (by kernel_rfl) (by kernel_rfl) (dN 4 ?_))
 obtain ⟨d2,b3,h⟩:=aA h
 refine dX aU b3 (dN 4 ?_)
 obtain ⟨d3,b4,h⟩:=aA h
 refine dX aD b4 (dN 1 (wJ (g:=10) (ob:=.box [(vI 0),(vI 0),(vI 0),(vI 0)]) (v:=(.ptr 10 0)) (by kernel_rfl) (by kernel_rfl) (by kernel_rfl) (by kernel_rfl) (by kernel_rfl) (by kernel_rfl) (dE (oN 1 (zO fun u k=>?_)))))
 refine yE k [9,10] [9,10] (zB ?_)
 obtain ⟨c3,a8,h⟩:=aA h
 refine zT ⟨[(8,vB c3)],[]⟩ ?_ fun u k=>?_
 replace h:=a8
 refine zA 6 (qB h [9,10,36] [9,10] [36] (fun h=>?_) fun h=>?_)
 refine zA 10 (qB h [9,10,46] [9,10] [46] (fun h=>?_) fun h=>?_)
 refine zA 7 (qB h [9,10,53] [9,10] [53] (fun h=>?_) fun h=>?_)
 refine z6 10 fun u k=>?_
 cases h
 exact zG k
 refine z6 10 fun u k=>?_
 cases h
 exact zG k
 refine z6 17 fun u k=>?_
 cases h
 exact zG k
 refine z6 27 fun u k=>?_
 cases h
 exact zG k
 refine yE k [8] [] (zN fun u k=>?_)
 refine aO ?_
 obtain rfl:=osi h
 exact zV k [(8,vB c3)]
 refine y4 [2,4,5,7,9] [4,5,7,9] (zB (zB ?_))
 obtain ⟨c5,a9,h⟩:=aA h
 refine zT ⟨[(2,bC all),(4,.ptr 500000 0),(5,.ptr 500001 0),(7,.ptr 500002 0),(9,.ptr 500003 0),(93,vB c5)],[(500000,.box (bG st)),(500001,.box (aQ l)),(500002,.box [(vI x3.Piece),(vI x3.Hole),(vI x3.Joints),(vI x3.Lead.X),(vI x3.Lead.Y)]),(500003,.box [(vI x3.Lead.X),(vI x3.Lead.Y)])]⟩ ?_ fun u k=>?_
 replace h:=a9
 refine zA 4 (qB h [2,4,5,7,9,66] [4,5,7,9] [66] (fun h=>?_) fun h=>?_)
 refine z6 27 fun u k=>?_
 cases h
 exact bJ k (sp [] [(4,500000),(5,500001),(7,500002),(9,500003)])
 refine zA 8 (qB h [2,4,5,7,9,74] [4,5,7,9] [74] (fun h=>?_) fun h=>?_)
 refine z6 19 fun u k=>?_
 cases h
 exact bJ k (sp [] [(4,500000),(5,500001),(7,500002),(9,500003)])
 refine zA 5 (qB h [2,4,5,7,9,79] [4,5,7,9] [79] (fun h=>?_) fun h=>?_)
 refine z6 14 fun u k=>?_
 cases h
 exact bJ k (sp [] [(4,500000),(5,500001),(7,500002),(9,500003)])
 refine zA 8 (qB h [2,4,5,7,9,87] [4,5,7,9] [87] (fun h=>?_) fun h=>?_)
 refine z6 6 fun u k=>?_
 cases h
 exact bJ k (sp [] [(4,500000),(5,500001),(7,500002),(9,500003)])
 refine zA 4 ?_
 obtain ⟨d0,b1,h⟩:=aA h
 refine qP (W.Pi b1) (z6 1 fun u k=>?_)
 cases h
 exact bJ k (sp [] [(4,500000),(5,500001),(7,500002),(9,500003)])
 refine yE k [2,4,5,7,9,93] [500000,500001,500002,500003] (qc h (fun h=>?_) fun h=>?_)
 refine z8 1 ⟨[(8,vB false)],[]⟩ fun u k=>?_
 refine aO ?_
 obtain rfl:=osi h
 exact zV k [(8,vB false)]
 refine y4 [2,4,5,7,9] [500000,500001,500002,500003] (zB (z7 (zA 2 (qL aU l.Pieces (y1 1 [2,4,7,9,95,96,97] [500000,500002,500003] (zC ?_))))))
 obtain ⟨c2,b6,h⟩:=aA h
 refine ql b6 (fun c4=>⟨[(2,bC all),(4,.ptr 500000 0),(7,.ptr 500001 0),(9,.ptr 500002 0),(95,dB l.Pieces),(96,vI (l.Pieces.length:Int)),(97,vI c4)],[(500000,.box (bG st)),(500001,.box [(vI x3.Piece),(vI x3.Hole),(vI x3.Joints),(vI x3.Lead.X),(vI x3.Lead.Y)]),(500002,.box [(vI x3.Lead.X),(vI x3.Lead.Y)])]⟩) (fun c2=>match c2 with | .inl c6=>(.ret,⟨[(8,vB false)],[]⟩) | .inr c7=>(.exit 0,⟨[(2,bC all),(4,.ptr 500000 0),(7,.ptr 500001 0),(9,.ptr 500002 0)],[(500000,.box (bG st)),(500001,.box [(vI x3.Piece),(vI x3.Hole),(vI x3.Joints),(vI x3.Lead.X),(vI x3.Lead.Y)]),(500002,.box [(vI x3.Lead.X),(vI x3.Lead.Y)])]⟩)) (sp [] [(500000,500000),(500002,500001),(500003,500002)]) (fun c4 r h=>?_) (fun u k=>?_) (hout:=(by intro x;rcases x with _ | _ <;> rfl))
 refine y3 1 [2,4,7,9,95,96,97,98] [500000,500001,500002] (zB (qc h (fun h=>?_) fun h=>?_))
 refine y4 [2,4,7,9,95,96,97] [500000,500001,500002] (zB (zC (z7 ?_)))
 obtain ⟨d4,b5,h⟩:=aA h
 refine qX aU b5 (y1 3 [2,4,7,9,12,95,96,97] [12,500000,500001,500002] (z7 (zA 3 ?_)))
 obtain ⟨d1,b2,h⟩:=aA h
 refine qP (W.Pi b2) (zP fun u k=>?_)
 refine yE k [2,4,7,9,95,96,97,104] [500000,500001,500002] (qc h (fun h=>?_) fun h=>?_)
 refine z8 1 ⟨[(8,vB false)],[]⟩ fun u k=>?_
 refine aT (aO ?_)
 cases h
 exact zF k
 refine zM fun u k=>?_
 refine aF (yE k [2,4,7,9,95,96,97] [500000,500001,500002] (zD (z6 2 fun u k=>?_)))
 cases h
 exact zH k
 refine zL 0 fun u k=>?_
 refine aR ?_
 cases h
 exact zF k
 rcases c2 with c6 | c7
 refine aT (aO ?_)
 obtain rfl:=osi h
 exact zV k [(8,vB false)]
 refine zQ (yE k [2,4,7,9] [500000,500001,500002] (zB (z7 (zA 1 (qL bF all (y1 1 [4,7,9,106,107,108] [500000,500001,500002] ?_))))))
 refine zC ?_
 obtain ⟨a1,a7,h⟩:=aA h
 refine ql a7 (fun a0=>⟨[(4,.ptr 500000 0),(7,.ptr 500001 0),(9,.ptr 500002 0),(106,bC all),(107,vI (all.length:Int)),(108,vI a0)],[(500000,.box (bG st)),(500001,.box [(vI x3.Piece),(vI x3.Hole),(vI x3.Joints),(vI x3.Lead.X),(vI x3.Lead.Y)]),(500002,.box [(vI x3.Lead.X),(vI x3.Lead.Y)])]⟩) (fun a1=>match a1 with | .inl b8=>(.ret,⟨[(8,vB true)],[]⟩) | .inr b9=>(.exit 2,⟨[],[]⟩)) qH (fun a0 r h=>?_) (fun u k=>?_) (hout:=(by intro x;rcases x with _ | _ <;> rfl))
 refine y3 1 [4,7,9,106,107,108,109] [500000,500001,500002] (zB (qc h (fun h=>?_) fun h=>?_))
 refine y4 [4,7,9,106,107,108] [500000,500001,500002] (zB (zC (z7 (zA 1 ?_))))
 obtain ⟨c0,a5,h⟩:=aA h
 refine qX bF a5 (y1 4 [4,7,9,13,14,106,107,108] [14,500000,500001,500002] (zB ?_))
 obtain ⟨b7,a2,h⟩:=aA h
 refine zT ⟨[(4,.ptr 500000 0),(7,.ptr 500001 0),(9,.ptr 500002 0),(106,bC all),(107,vI (all.length:Int)),(108,vI a0),(131,vB b7)],[(500000,.box (bG st)),(500001,.box [(vI x3.Piece),(vI x3.Hole),(vI x3.Joints),(vI x3.Lead.X),(vI x3.Lead.Y)]),(500002,.box [(vI x3.Lead.X),(vI x3.Lead.Y)])]⟩ ?_ fun u k=>?_
 replace h:=a2
 refine zA 3 ?_
 obtain ⟨c8,a3,h⟩:=aA h
 refine qP (W.Wv a3) (zA 1 (qB h [4,7,9,13,14,106,107,108,117] [14,500000,500001,500002] [117] (fun h=>?_) fun h=>?_))
 refine zA 3 ?_
 obtain ⟨c1,a6,h⟩:=aA h
 refine qX cB a6 (zA 4 (zS c1 (fun b0=>⟨[(4,.ptr 500000 0),(7,.ptr 500001 0),(9,.ptr 500002 0),(14,.ptr 14 0),(106,bC all),(107,vI (all.length:Int)),(108,vI a0),(125,vB (!b0))],[(14,.box (bF c0)),(500000,.box (bG st)),(500001,.box [(vI x3.Piece),(vI x3.Hole),(vI x3.Joints),(vI x3.Lead.X),(vI x3.Lead.Y)]),(500002,.box [(vI x3.Lead.X),(vI x3.Lead.Y)])]⟩) (fun hb=>?_) fun hb=>?_))
 replace h:=iD hb h
 refine z6 6 fun u k=>?_
 cases h
 exact zG k
 replace h:=iB hb h
 refine zA 3 ?_
 obtain ⟨c9,a4,h⟩:=aA h
 refine qP (W.LY a4) (z6 2 fun u k=>?_)
 cases h
 exact zG k
 refine z6 14 fun u k=>?_
 cases h
 exact zG k
 refine yE k [4,7,9,106,107,108,131] [500000,500001,500002] (qc h (fun h=>?_) fun h=>?_)
 refine z8 1 ⟨[(8,vB true)],[]⟩ fun u k=>?_
 refine aT (aO ?_)
 cases h
 exact zF k
 refine zM fun u k=>?_
 refine aF (yE k [4,7,9,106,107,108] [500000,500001,500002] (zD (z6 2 fun u k=>?_)))
 cases h
 exact zH k
 refine zL 2 fun u k=>?_
 refine aR ?_
 cases h
 exact zF k
 rcases a1 with b8 | b9
 refine aT (aO ?_)
 obtain rfl:=osi h
 exact zV k [(8,vB true)]
 refine zQ (yE k [] [] (z8 1 ⟨[(8,vB false)],[]⟩ fun u k=>?_))
 obtain rfl:=osi h
 exact zV k [(8,vB false)]
theorem W.jL {s r} (h:iY s=some r):PC G.P 160 [.sl (List.map cB s)] [] (.row (.top 0) 4) [(0,.row 4 [] (List.map cB r))]:=by
 replace h:app [] s=some r:=h
 refine zU G Tryz.func160 (y3 1 [0] [] (zB (z7 (zA 1 (Wy (es:=List.map cB s) (by kernel_rfl) (fun hn=>?_) ?_)))))
 obtain rfl:s=[]:=List.map_eq_nil_iff.1 hn
 obtain rfl:[]=r:=Option.some.inj ((pY (by simp [LIM])).symm.trans h)
 refine zP fun u k=>?_
 refine yE k [0,4] [] (Xm (by kernel_rfl) (by kernel_rfl) (z8 1 ⟨[(2,ro 2 4)],[(2,wB 4 [])]⟩ fun u k=>?_))
 exact aO (Ql k [(2,ro 0 4)] (Rt [(2,0)] rfl rfl (by kernel_rfl)) (by kernel_rfl))
 refine zP fun u k=>?_
 refine yE k [0,4] [] (Ro (by kernel_rfl) (by kernel_rfl) (y4 [0] [] (z7 (fK (Pq (es:=List.map cB []) (e:=4) (d:=5) (by kernel_rfl)) (zA 1 (iQ (HV (c:=cB) (l:=[]) (l2:=s) (x:=sB s) (g:=5) (e:=4) (sz:=1) (d:=7) (by kernel_rfl) (by kernel_rfl) (by kernel_rfl) (by kernel_rfl) (fun _=>rfl) rfl h) ?_))))))
 refine y1 1 [2] [5] (zN fun u k=>?_)
 exact Ql k [(2,ro 0 4)] (Rt [(5,0)] rfl rfl (by kernel_rfl)) (by kernel_rfl)
theorem W.Fp {s r} (h:yJ s=some r):PC G.P 161 [.sl (List.map cI s)] [] (.row (.top 0) 3) [(0,.row 3 [] (List.map cI r))]:=by
 replace h:app [] s=some r:=h
 refine zU G Tryz.func161 (y3 1 [0] [] (zB (z7 (zA 1 (Wy (es:=List.map cI s) (by kernel_rfl) (fun hn=>?_) ?_)))))
 obtain rfl:s=[]:=List.map_eq_nil_iff.1 hn
 obtain rfl:[]=r:=Option.some.inj ((pY (by simp [LIM])).symm.trans h)
 refine zP fun u k=>?_
 refine yE k [0,4] [] (Xm (by kernel_rfl) (by kernel_rfl) (z8 1 ⟨[(2,ro 2 3)],[(2,wI 3 [])]⟩ fun u k=>?_))
 exact aO (Ql k [(2,ro 0 3)] (Rt [(2,0)] rfl rfl (by kernel_rfl)) (by kernel_rfl))
 refine zP fun u k=>?_
 refine yE k [0,4] [] (Ro (by kernel_rfl) (by kernel_rfl) (y4 [0] [] (z7 (fK (Pq (es:=List.map cI []) (e:=3) (d:=5) (by kernel_rfl)) (zA 1 (iQ (HV (c:=cI) (l:=[]) (l2:=s) (x:=sI s) (g:=5) (e:=3) (sz:=1) (d:=7) (by kernel_rfl) (by kernel_rfl) (by kernel_rfl) (by kernel_rfl) (fun _=>rfl) rfl h) ?_))))))
 refine y1 1 [2] [5] (zN fun u k=>?_)
 exact Ql k [(2,ro 0 3)] (Rt [(5,0)] rfl rfl (by kernel_rfl)) (by kernel_rfl)
theorem W.Tn {st r} (h:vP st=some r):PC G.P 117 [(.agg (bG st))] [] (.agg [(.row (.top 1) 4),(.row (.top 2) 36),(.row (.top 3) 4),(.row (.top 4) 3),(.row (.top 5) 4)]) [(0,.box [(.row (.top 1) 4),(.row (.top 2) 36),(.row (.top 3) 4),(.row (.top 4) 3),(.row (.top 5) 4)]),(1,.row 4 [] (List.map cB r.Cut)),(2,.row 36 [(0,4)] (List.map (cS cB) r.Holes)),(3,.row 4 [] (List.map cB r.Done)),(4,.row 3 [] (List.map cI r.Joints)),(5,.row 4 [] (List.map cB r.Fallen))]:=by
 refine zU G Tryz.func117 (yK [0] [] (y3 2 [1,2] [1,2] (zB (sV [(2,[700100]),(5,[700250]),(8,[700400]),(11,[700550]),(13,[3])] [(2,[700100]),(5,[700250]),(8,[700400]),(11,[700550]),(13,[3])] [] [(0,[3]),(1,[3]),(2,[3]),(3,[700100,3]),(4,[700100,3]),(5,[3]),(6,[700100,700250,3]),(7,[700100,700250,3]),(8,[3]),(9,[700100,700250,700400,3]),(10,[700100,700250,700400,3]),(11,[3]),(12,[3]),(13,[700100,700250,700400,700550])] [(0,[700100,700250,700400,700550,3]),(1,[700100,700250,700400,700550,3]),(2,[700250,700400,700550,3]),(3,[700100,700250,700400,700550,3]),(4,[700100,700250,700400,700550,3]),(5,[700400,700550,3]),(6,[700100,700250,700400,700550,3]),(7,[700100,700250,700400,700550,3]),(8,[700550,3]),(9,[700100,700250,700400,700550,3]),(10,[700100,700250,700400,700550,3]),(11,[3]),(12,[3]),(13,[700100,700250,700400,700550])] 14 (by kernel_rfl) (by kernel_rfl) [700100,700250,700400,700550,3] (by kernel_rfl) (by kernel_rfl) (dN 2 ?_)))))
 obtain ⟨r9,b3,h⟩:=aA h
 refine dC [(0,700100)] (W.jL b3) (dN 2 ?_)
 obtain ⟨b0,a7,h⟩:=aA h
 refine dC [(0,700250)] (W.jL a7) (dN 2 ?_)
 obtain ⟨b1,a8,h⟩:=aA h
 refine dC [(0,700400)] (W.Fp a8) (dN 2 ?_)
 obtain ⟨b2,a9,h⟩:=aA h
 refine dC [(0,700550)] (W.jL a9) (dN 1 (wJ (g:=3) (ob:=.box [.nl,.nl,.nl,.nl,.nl]) (v:=(.ptr 3 0)) (by kernel_rfl) (by kernel_rfl) (by kernel_rfl) (by kernel_rfl) (by kernel_rfl) (by kernel_rfl) (dE (oN 1 (zO fun u k=>?_)))))
 refine yE k [1,2,3] [1,2,3,700100,700250,700400,700550] (zB (z7 (zA 2 (qL (cS cB) st.Holes (y1 1 [2,3,20,21,22] [2,3,700100,700250,700400,700550] (zC ?_))))))
 obtain ⟨a1,a5,h⟩:=aA h
 refine ql a5 (fun a6=>⟨[(2,.ptr 500000 0),(3,.ptr 500001 0),(20,.sl (List.map (cS cB) st.Holes)),(21,vI (st.Holes.length:Int)),(22,vI a6.1)],[(500000,.box [.nl,.nl,.nl,.nl,.nl]),(500001,.box [(ro 500002 4),(ro 500003 36),(ro 500004 4),(ro 500005 3),(ro 500006 4)]),(500002,wB 4 r9),(500003,.row 36 [(0,4)] (List.map (cS cB) a6.2)),(500004,wB 4 b0),(500005,wI 3 b1),(500006,wB 4 b2)]⟩) (fun a1=>(.exit 0,⟨[(2,.ptr 500000 0),(3,.ptr 500001 0)],[(500000,.box [.nl,.nl,.nl,.nl,.nl]),(500001,.box [(ro 500002 4),(ro 500003 36),(ro 500004 4),(ro 500005 3),(ro 500006 4)]),(500002,wB 4 r9),(500003,.row 36 [(0,4)] (List.map (cS cB) a1)),(500004,wB 4 b0),(500005,wI 3 b1),(500006,wB 4 b2)]⟩)) (sp [.row (.box 3 1) 800000 36 [(0,4)]] [(2,500000),(3,500001),(700100,500002),(700250,500004),(700400,500005),(700550,500006),(800000,500003)]) (fun a6 r h=>?_) fun u k=>?_
 refine y3 1 [2,3,20,21,22,23] [500000,500001,500002,500003,500004,500005,500006] (zB (qc h (fun h=>?_) fun h=>?_))
 refine y4 [2,3,20,21,22] [500000,500001,500002,500003,500004,500005,500006] (zB (zC (z7 ?_)))
 obtain ⟨b5,a4,h⟩:=aA h
 refine qX (cS cB) a4 (y1 2 [2,3,5,20,21,22] [500000,500001,500002,500003,500004,500005,500006] (sV [(3,[700150]),(4,[700150,30])] [(3,[700150]),(4,[30])] [] [(0,[700150,30]),(1,[700150,30])] [(0,[700150,30]),(1,[700150,30]),(2,[700150,30]),(3,[30])] 5 (by kernel_rfl) (by kernel_rfl) [700150,30] (by kernel_rfl) (by kernel_rfl) (dN 3 ?_)))
 obtain ⟨a0,a3,h⟩:=aA h
 refine dC [(0,700150)] (W.jL a3) (AX (c:=(cS cB)) (c2:=cB) (e:=36) (e':=4) (d:=700150) (T:=30) (l:=a0) (x:=a0) (by kernel_rfl) (by kernel_rfl) (by kernel_rfl) (by kernel_rfl) rfl (by kernel_rfl) (by kernel_rfl) (by kernel_rfl) (by kernel_rfl) (dE ?_))
 obtain ⟨b4,a2,h⟩:=aA h
 refine UR (NZ (c:=(cS cB)) (l:=a6.2) (l2:=[a0]) (g:=500003) (T:=30) (e:=36) (J:=[(0,4)]) (sz:=1) (d:=31) (by kernel_rfl) (by kernel_rfl) (by kernel_rfl) (by kernel_rfl) a2) (oN 2 (zO fun u k=>?_))
 refine aF (yE k [2,3,20,21,22] [500000,500001,500002,500003,500004,500005,500006] (zD (z6 2 fun u k=>?_)))
 cases h
 exact zH k
 refine zL 0 fun u k=>?_
 refine aR ?_
 cases h
 exact zF k
 refine zQ (yE k [2,3] [500000,500001,500002,500003,500004,500005,500006] (z8 2 ⟨[(2,.ptr 500000 0)],[(500000,.box [(ro 500002 4),(ro 500003 36),(ro 500004 4),(ro 500005 3),(ro 500006 4)]),(500002,wB 4 r9),(500003,.row 36 [(0,4)] (List.map (cS cB) a1)),(500004,wB 4 b0),(500005,wI 3 b1),(500006,wB 4 b2)]⟩ fun u k=>?_))
 obtain rfl:=osi h
 exact qW k [(2,.ptr 0 0)] (sp [] [(500000,0),(500002,1),(500003,2),(500004,3),(500005,4),(500006,5)])
theorem W.EH {l all st x3 r} (h:Jn l all st x3=some r):PC G.P 54 [(.agg (aQ l)),(.sl (List.map bF all)),(.agg (bG st)),(.agg (bM x3))] [] (.tup [(.agg [(.row (.top 1) 4),(.row (.top 2) 36),(.row (.top 3) 4),(.row (.top 4) 3),(.row (.top 5) 4)]),(vI r.2)]) [(0,.box [(.row (.top 1) 4),(.row (.top 2) 36),(.row (.top 3) 4),(.row (.top 4) 3),(.row (.top 5) 4)]),(1,.row 4 [] (List.map cB r.1.Cut)),(2,.row 36 [(0,4)] (List.map (cS cB) r.1.Holes)),(3,.row 4 [] (List.map cB r.1.Done)),(4,.row 3 [] (List.map cI r.1.Joints)),(5,.row 4 [] (List.map cB r.1.Fallen))]:=by
 refine zU G Tryz.func54 (yK [0,1,2,3] [] (y3 5 [1,4,6,7,8] [4,6,7,8] (zB (zC (zB ?_)))))
 obtain ⟨d7,c5,h⟩:=aA h
 refine zT ⟨[(1,bC all),(4,.ptr 500000 0),(6,.ptr 500001 0),(7,.ptr 500002 0),(8,.ptr 500003 0),(14,vB d7)],[(500000,.box (aQ l)),(500001,.box (bG st)),(500002,.box (bM x3)),(500003,.box [.nl,.nl,.nl,.nl,.nl])]⟩ ?_ fun u k=>?_
 replace h:=c5
 refine zA 3 (qL bF all ?_)
 obtain ⟨e0,c8,h⟩:=aA h
 refine qP (W.Uy c8) (zA 2 (zS e0 (fun b0=>⟨[(1,bC all),(4,.ptr 4 0),(6,.ptr 6 0),(7,.ptr 7 0),(8,.ptr 8 0),(21,vB (!b0))],[(4,.box (aQ l)),(6,.box (bG st)),(7,.box (bM x3)),(8,.box [.nl,.nl,.nl,.nl,.nl])]⟩) (fun hb=>?_) fun hb=>?_))
 replace h:=iD hb h
 refine zA 5 (qB h [1,4,6,7,8,26] [4,6,7,8] [26] (fun h=>?_) fun h=>?_)
 refine z6 8 fun u k=>?_
 cases h
 exact bJ k (sp [] [(4,500000),(6,500001),(7,500002),(8,500003)])
 refine zA 4 (qL aU l.Pieces (z6 3 fun u k=>?_))
 cases h
 exact bJ k (sp [] [(4,500000),(6,500001),(7,500002),(8,500003)])
 replace h:=iB hb h
 refine z6 13 fun u k=>?_
 cases h
 exact bJ k (sp [] [(4,500000),(6,500001),(7,500002),(8,500003)])
 refine yE k [1,4,6,7,8,14] [500000,500001,500002,500003] (qc h (fun h=>?_) fun h=>?_)
 refine z8 3 ⟨[(8,.ptr 500003 0),(9,vI 1)],[(500003,.box [.nl,.nl,.nl,.nl,.nl])]⟩ fun u k=>?_
 refine aT (aO ?_)
 obtain rfl:=osi h
 exact qW k [(8,.ptr 0 0),(9,vI 1)] (sp [.row (.box 500003 0) 800000 4 [],.row (.box 500003 1) 800001 36 [(0,4)],.row (.box 500003 2) 800002 4 [],.row (.box 500003 3) 800003 3 [],.row (.box 500003 4) 800004 4 []] [(500003,0),(800000,1),(800001,2),(800002,3),(800003,4),(800004,5)])
 refine zB ?_
 obtain ⟨d8,c6,h⟩:=aA h
 refine gG ⟨[(1,bC all),(4,.ptr 500000 0),(6,.ptr 500001 0),(7,.ptr 500002 0),(8,.ptr 500003 0),(35,vB d8)],[(500000,.box (aQ l)),(500001,.box (bG st)),(500002,.box (bM x3)),(500003,.box [.nl,.nl,.nl,.nl,.nl])]⟩ [] [] [] [] [] 14 (by kernel_rfl) (by kernel_rfl) (by kernel_rfl) ?_ fun u k=>?_
 replace h:=c6
 refine dN 4 (bH (decide (x3.Hole<(-1))) (fun b0=>⟨[(39,vB b0),(38,vB b0),(37,vI x3.Hole),(36,.ptr 500002 1),(1,bC all),(4,.ptr 500000 0),(6,.ptr 500001 0),(7,.ptr 500002 0),(8,.ptr 500003 0),(14,vB d7)],[(500000,.box (aQ l)),(500001,.box (bG st)),(500002,.box (bM x3)),(500003,.box [.nl,.nl,.nl,.nl,.nl])]⟩) (by kernel_rfl) (fun hb=>?_) fun hb=>?_)
 replace h:=iD hb h
 refine dN 10 (dE (oN 23 (zO fun u k=>?_)))
 cases h
 exact zG k
 replace h:=iB hb h
 refine dN 6 ?_
 obtain ⟨e8,d3,h⟩:=aA h
 refine dX aU d3 (dN 2 (dL aD e8.Cuts (dE (oN 3 (oB h [1,4,6,7,8,52] [500000,500001,500002,500003] [52] (fun h=>?_) fun h=>?_)))))
 refine oN 20 (zO fun u k=>?_)
 cases h
 exact zG k
 refine oN 5 (oB h [1,4,6,7,8,57] [500000,500001,500002,500003] [57] (fun h=>?_) fun h=>?_)
 refine oN 15 (zO fun u k=>?_)
 cases h
 exact zG k
 refine oN 5 (oB h [1,4,6,7,8,62] [500000,500001,500002,500003] [62] (fun h=>?_) fun h=>?_)
 refine oN 10 (zO fun u k=>?_)
 cases h
 exact zG k
 refine oN 4 (oB h [1,4,6,7,8,62,66] [500000,500001,500002,500003] [66] (fun h=>?_) fun h=>?_)
 refine oN 6 (zO fun u k=>?_)
 cases h
 exact zG k
 refine oN 6 (zO fun u k=>?_)
 cases h
 exact zG k
 refine yE k [1,4,6,7,8,35] [500000,500001,500002,500003] (qc h (fun h=>?_) fun h=>?_)
 refine z8 3 ⟨[(8,.ptr 500003 0),(9,vI 1)],[(500003,.box [.nl,.nl,.nl,.nl,.nl])]⟩ fun u k=>?_
 refine aT (aO ?_)
 obtain rfl:=osi h
 exact qW k [(8,.ptr 0 0),(9,vI 1)] (sp [.row (.box 500003 0) 800000 4 [],.row (.box 500003 1) 800001 36 [(0,4)],.row (.box 500003 2) 800002 4 [],.row (.box 500003 3) 800003 3 [],.row (.box 500003 4) 800004 4 []] [(500003,0),(800000,1),(800001,2),(800002,3),(800003,4),(800004,5)])
 refine z7 (zA 3 ?_)
 obtain ⟨f1,c9,h⟩:=aA h
 refine qP (W.Tq c9) (y1 2 [1,4,6,7,8,73] [500000,500001,500002,500003] (qc h (fun h=>?_) fun h=>?_))
 refine z8 3 ⟨[(8,.ptr 500003 0),(9,vI 12)],[(500003,.box [.nl,.nl,.nl,.nl,.nl])]⟩ fun u k=>?_
 refine aT (aO ?_)
 obtain rfl:=osi h
 exact qW k [(8,.ptr 0 0),(9,vI 12)] (sp [.row (.box 500003 0) 800000 4 [],.row (.box 500003 1) 800001 36 [(0,4)],.row (.box 500003 2) 800002 4 [],.row (.box 500003 3) 800003 3 [],.row (.box 500003 4) 800004 4 []] [(500003,0),(800000,1),(800001,2),(800002,3),(800003,4),(800004,5)])
 refine zB ?_
 obtain ⟨d9,c7,h⟩:=aA h
 refine zT ⟨[(1,bC all),(4,.ptr 500000 0),(6,.ptr 500001 0),(7,.ptr 500002 0),(8,.ptr 500003 0),(80,vB d9)],[(500000,.box (aQ l)),(500001,.box (bG st)),(500002,.box (bM x3)),(500003,.box [.nl,.nl,.nl,.nl,.nl])]⟩ ?_ fun u k=>?_
 replace h:=c7
 refine zA 4 (qB h [1,4,6,7,8,84] [500000,500001,500002,500003] [84] (fun h=>?_) fun h=>?_)
 refine zA 5 (qB h [1,4,6,7,8,89] [500000,500001,500002,500003] [89] (fun h=>?_) fun h=>?_)
 refine zA 4 ?_
 obtain ⟨f4,d4,h⟩:=aA h
 refine qX aU d4 (zA 1 ?_)
 obtain ⟨f2,d0,h⟩:=aA h
 refine qP (W.FU d0) (z6 2 fun u k=>?_)
 cases h
 exact zG k
 refine z6 9 fun u k=>?_
 cases h
 exact zG k
 refine z6 14 fun u k=>?_
 cases h
 exact zG k
 refine yE k [1,4,6,7,8,80] [500000,500001,500002,500003] (qc h (fun h=>?_) fun h=>?_)
 refine z8 3 ⟨[(8,.ptr 500003 0),(9,vI 15)],[(500003,.box [.nl,.nl,.nl,.nl,.nl])]⟩ fun u k=>?_
 refine aT (aO ?_)
 obtain rfl:=osi h
 exact qW k [(8,.ptr 0 0),(9,vI 15)] (sp [.row (.box 500003 0) 800000 4 [],.row (.box 500003 1) 800001 36 [(0,4)],.row (.box 500003 2) 800002 4 [],.row (.box 500003 3) 800003 3 [],.row (.box 500003 4) 800004 4 []] [(500003,0),(800000,1),(800001,2),(800002,3),(800003,4),(800004,5)])
 refine z7 (zA 4 ?_)
 obtain ⟨f3,d1,h⟩:=aA h
 refine qP (W.Uz d1) (y1 2 [1,4,6,7,8,99] [500000,500001,500002,500003] (qc h (fun h=>?_) fun h=>?_))
 refine z8 3 ⟨[(8,.ptr 500003 0),(9,vI 14)],[(500003,.box [.nl,.nl,.nl,.nl,.nl])]⟩ fun u k=>?_
 refine aT (aO ?_)
 obtain rfl:=osi h
 exact qW k [(8,.ptr 0 0),(9,vI 14)] (sp [.row (.box 500003 0) 800000 4 [],.row (.box 500003 1) 800001 36 [(0,4)],.row (.box 500003 2) 800002 4 [],.row (.box 500003 3) 800003 3 [],.row (.box 500003 4) 800004 4 []] [(500003,0),(800000,1),(800001,2),(800002,3),(800003,4),(800004,5)])
 refine zM fun u k=>?_
 refine aF (yE k [1,4,6,7,8] [500000,500001,500002,500003] (z7 (zA 1 ?_)))
 obtain ⟨a0,d2,h⟩:=aA h
 refine qC [] [(0,700050),(1,700051),(2,700052),(3,700053),(4,700054),(5,700055)] (W.Tn d2) (y1 2 [1,4,7,8,10] [10,500000,500002,500003,700051,700052,700053,700054,700055] (bV (fun (a1:(List Bool)×(List (List Bool))×(List Bool)×(List Int))=>⟨[(1,bC all),(4,.ptr 500000 0),(8,.ptr 500001 0),(10,.ptr 500002 0)],[(500000,.box (aQ l)),(500001,.box [.nl,.nl,.nl,.nl,.nl]),(500002,.box [(ro 500003 4),(ro 500004 36),(ro 500005 4),(ro 500006 3),(ro 500007 4)]),(500003,wB 4 a1.1),(500004,.row 36 [(0,4)] (List.map (cS cB) a1.2.1)),(500005,wB 4 a1.2.2.1),(500006,wI 3 a1.2.2.2),(500007,wB 4 a0.Fallen)]⟩) (Bq l all a0) r (by kernel_rfl) (fun a1 h=>?_) ?_))
 refine zB (z7 (zA 2 (qL aU l.Pieces (y1 1 [1,8,10,151,152] [500001,500002,500003,500004,500005,500006,500007] (zC ?_)))))
 obtain ⟨b4,b9,h⟩:=aA h
 refine ql b9 (fun a2=>⟨[(1,bC all),(8,.ptr 500000 0),(10,.ptr 500001 0),(151,vI (l.Pieces.length:Int)),(152,vI a2.1)],[(500000,.box [.nl,.nl,.nl,.nl,.nl]),(500001,.box [(ro 500002 4),(ro 500003 36),(ro 500004 4),(ro 500005 3),(ro 500006 4)]),(500002,wB 4 a1.1),(500003,.row 36 [(0,4)] (List.map (cS cB) a1.2.1)),(500004,wB 4 a1.2.2.1),(500005,wI 3 a1.2.2.2),(500006,wB 4 a2.2)]⟩) (fun b4=>(.exit 3,⟨[(8,.ptr 500000 0),(10,.ptr 500001 0)],[(500000,.box [.nl,.nl,.nl,.nl,.nl]),(500001,.box [(ro 500002 4),(ro 500003 36),(ro 500004 4),(ro 500005 3),(ro 500006 4)]),(500002,wB 4 a1.1),(500003,.row 36 [(0,4)] (List.map (cS cB) a1.2.1)),(500004,wB 4 a1.2.2.1),(500005,wI 3 a1.2.2.2),(500006,wB 4 b4)]⟩)) (sp [] [(500001,500000),(500002,500001),(500003,500002),(500004,500003),(500005,500004),(500006,500005),(500007,500006)]) (fun a2 r h=>?_) fun u k=>?_
 refine y3 1 [1,8,10,151,152,153] [500000,500001,500002,500003,500004,500005,500006] (zB (qc h (fun h=>?_) fun h=>?_))
 refine y4 [1,8,10,151,152] [500000,500001,500002,500003,500004,500005,500006] (bV (fun (c3:(List Bool))=>⟨[(1,bC all),(8,.ptr 500000 0),(10,.ptr 500001 0),(151,vI (l.Pieces.length:Int)),(152,vI a2.1)],[(500000,.box [.nl,.nl,.nl,.nl,.nl]),(500001,.box [(ro 500002 4),(ro 500003 36),(ro 500004 4),(ro 500005 3),(ro 500006 4)]),(500002,wB 4 a1.1),(500003,.row 36 [(0,4)] (List.map (cS cB) a1.2.1)),(500004,wB 4 a1.2.2.1),(500005,wI 3 a1.2.2.2),(500006,wB 4 c3)]⟩) (Qv a2) r (by kernel_rfl) (fun c3 h=>?_) ?_)
 refine zD (z6 2 fun u k=>?_)
 cases h
 exact zH k
 refine zC (y3 2 [1,8,10,13,151,152] [500000,500001,500002,500003,500004,500005,500006] (zB ?_))
 obtain ⟨d5,b6,h⟩:=aA h
 refine zT ⟨[(1,bC all),(8,.ptr 500000 0),(10,.ptr 500001 0),(13,vI a2.1),(151,vI (l.Pieces.length:Int)),(152,vI a2.1),(174,vB d5)],[(500000,.box [.nl,.nl,.nl,.nl,.nl]),(500001,.box [(ro 500002 4),(ro 500003 36),(ro 500004 4),(ro 500005 3),(ro 500006 4)]),(500002,wB 4 a1.1),(500003,.row 36 [(0,4)] (List.map (cS cB) a1.2.1)),(500004,wB 4 a1.2.2.1),(500005,wI 3 a1.2.2.2),(500006,wB 4 a2.2)]⟩ ?_ fun u k=>?_
 replace h:=b6
 refine zA 3 ?_
 obtain ⟨e1,b7,h⟩:=aA h
 refine qV [500002,500003,500004,500005,500006] (W.Iq b7) (zA 1 (qB h [1,8,10,13,151,152,159] [500000,500001,500002,500003,500004,500005,500006] [159] (fun h=>?_) fun h=>?_))
 refine zA 3 ?_
 obtain ⟨e3,a6,h⟩:=aA h
 refine qI cB a6 (qR cB a6 (zA 1 (qB h [1,8,10,13,151,152,159,165] [500000,500001,500002,500003,500004,500005,500006] [165] (fun h=>?_) fun h=>?_)))
 refine zA 3 ?_
 obtain ⟨e4,a7,h⟩:=aA h
 refine qI cI a7 (qR cI a7 (z6 4 fun u k=>?_))
 cases h
 exact zG k
 refine z6 9 fun u k=>?_
 cases h
 exact zG k
 refine z6 15 fun u k=>?_
 cases h
 exact zG k
 refine yE k [1,8,10,13,151,152,174] [500000,500001,500002,500003,500004,500005,500006] (qc h (fun h=>?_) fun h=>?_)
 refine zD (zA 3 ?_)
 obtain ⟨e5,a8,h⟩:=aA h
 refine qI cB a8 (qS cB true a8 (zP fun u k=>?_))
 exact aF (aV (List.set a2.2 (Int.toNat a2.1) true) h k (here (by kernel_rfl)))
 refine zM fun u k=>?_
 exact aF (aV a2.2 h k (here (by kernel_rfl)))
 refine zL 3 fun u k=>?_
 refine aR ?_
 cases h
 exact zF k
 refine zQ (yE k [8,10] [500000,500001,500002,500003,500004,500005,500006] (z8 3 ⟨[(8,.ptr 500000 0),(9,vI 0)],[(500000,.box [(ro 500002 4),(ro 500003 36),(ro 500004 4),(ro 500005 3),(ro 500006 4)]),(500002,wB 4 a1.1),(500003,.row 36 [(0,4)] (List.map (cS cB) a1.2.1)),(500004,wB 4 a1.2.2.1),(500005,wI 3 a1.2.2.2),(500006,wB 4 b4)]⟩ fun u k=>?_))
 obtain rfl:=osi h
 exact qW k [(8,.ptr 0 0),(9,vI 0)] (sp [] [(500000,0),(500002,1),(500003,2),(500004,3),(500005,4),(500006,5)])
 refine y3 3 [1,4,7,8,10,111] [10,500000,500002,500003,700051,700052,700053,700054,700055] (qc h (fun h=>?_) fun h=>?_)
 refine qM 8 (dN 4 ?_)
 obtain ⟨a3,a4,h⟩:=aA h
 refine dI (cS cB) a4 (xM (by kernel_rfl) (Kr (c:=(cS cB)) (l:=a0.Holes) (i:=(Int.toNat x3.Piece)) (v:=(.row (.sub 700052 (Int.toNat x3.Piece) 0) 4)) (agg:=false) (sz:=1) (kk:=(.top 700052)) (e:=36) (off:=0) (J:=[(0,4)]) (by kernel_rfl) (by kernel_rfl) (by kernel_rfl) ((Bf a4).2) (by kernel_rfl)) (by kernel_rfl) (by kernel_rfl) (dN 2 (dE ?_)))
 obtain ⟨d6,a9,h⟩:=aA h
 refine Ed (Wh (c:=cB) (l:=a3) (i:=x3.Hole) (kd:=.i64) (kk:=(.sub 700052 (Int.toNat x3.Piece) 0)) (e:=4) (sz:=1) (by kernel_rfl) (zY (g:=700052) (i:=(Int.toNat x3.Piece)) (j:=0) (c:=(cS cB)) (c2:=cB) (e:=36) (J:=[(0,4)]) (l:=a0.Holes) (x:=a3) (l2:=a3) (by kernel_rfl) rfl ((Bf a4).2) rfl) a9 rfl) (Ed (Qo (c:=cB) (l:=a3) (i:=(Int.toNat x3.Hole)) (x:=d6) (x':=true) (v:=(vB true)) (agg:=false) (sz:=1) (kk:=(.sub 700052 (Int.toNat x3.Piece) 0)) (e:=4) (off:=0) (J:=[]) (o:=.row 36 [(0,4)] (List.map (cS cB) (List.set a0.Holes (Int.toNat x3.Piece) (List.set a3 (Int.toNat x3.Hole) true)))) (by kernel_rfl) (zY (g:=700052) (i:=(Int.toNat x3.Piece)) (j:=0) (c:=(cS cB)) (c2:=cB) (e:=36) (J:=[(0,4)]) (l:=a0.Holes) (x:=a3) (l2:=a3) (by kernel_rfl) rfl ((Bf a4).2) rfl) (by kernel_rfl) ((Bf a9).2) (by kernel_rfl) (by kernel_rfl) (Om (g:=700052) (i:=(Int.toNat x3.Piece)) (j:=0) (c:=(cS cB)) (e:=36) (J:=[(0,4)]) (l:=a0.Holes) (x:=a3) (x':=(List.set a3 (Int.toNat x3.Hole) true)) (by kernel_rfl) ((Bf a4).2) rfl)) (zO fun u k=>?_))
 exact aV (a0.Cut,(List.set a0.Holes (Int.toNat x3.Piece) (List.set a3 (Int.toNat x3.Hole) true)),a0.Done,a0.Joints) h k (sp [] [(10,500002),(500000,500000),(500003,500001),(700051,500003),(700052,500004),(700053,500005),(700054,500006),(700055,500007)])
 refine zB (qN [(11,[700053])] [] [] [(4,[700053]),(5,[700053]),(6,[700053]),(7,[700053]),(8,[700053]),(9,[700053])] [] 12 (dN 10 ?_))
 obtain ⟨e6,b1,h⟩:=aA h
 refine dI cB b1 (dS cB true b1 (dE ?_))
 obtain ⟨e7,b2,h⟩:=aA h
 refine oI cI b2 (oS cI x3.Joints b2 (zO fun u k=>?_))
 refine yE k [1,4,7,8,10] [10,500000,500002,500003,700051,700052,700053,700054,700055] (z7 (zA 1 (qL bF all (y1 1 [1,4,7,8,10,133,134,135] [10,500000,500002,500003,700051,700052,700053,700054,700055] (zC ?_)))))
 obtain ⟨b5,c1,h⟩:=aA h
 refine ql c1 (fun a5=>⟨[(1,bC all),(4,.ptr 500000 0),(7,.ptr 500001 0),(8,.ptr 500002 0),(10,.ptr 500003 0),(133,bC all),(134,vI (all.length:Int)),(135,vI a5.1)],[(500000,.box (aQ l)),(500001,.box (bM x3)),(500002,.box [.nl,.nl,.nl,.nl,.nl]),(500003,.box [(ro 500004 4),(ro 500005 36),(ro 500006 4),(ro 500007 3),(ro 500008 4)]),(500004,wB 4 a5.2),(500005,.row 36 [(0,4)] (List.map (cS cB) a0.Holes)),(500006,wB 4 (List.set a0.Done (Int.toNat x3.Piece) true)),(500007,wI 3 (List.set a0.Joints (Int.toNat x3.Piece) x3.Joints)),(500008,wB 4 a0.Fallen)]⟩) (fun b5=>(.exit 1,⟨[(1,bC all),(4,.ptr 500000 0),(8,.ptr 500001 0),(10,.ptr 500002 0)],[(500000,.box (aQ l)),(500001,.box [.nl,.nl,.nl,.nl,.nl]),(500002,.box [(ro 500003 4),(ro 500004 36),(ro 500005 4),(ro 500006 3),(ro 500007 4)]),(500003,wB 4 b5),(500004,.row 36 [(0,4)] (List.map (cS cB) a0.Holes)),(500005,wB 4 (List.set a0.Done (Int.toNat x3.Piece) true)),(500006,wI 3 (List.set a0.Joints (Int.toNat x3.Piece) x3.Joints)),(500007,wB 4 a0.Fallen)]⟩)) (sp [] [(10,500003),(500000,500000),(500002,500001),(500003,500002),(700051,500004),(700052,500005),(700053,500006),(700054,500007),(700055,500008)]) (fun a5 r h=>?_) fun u k=>?_
 refine y3 1 [1,4,7,8,10,133,134,135,136] [500000,500001,500002,500003,500004,500005,500006,500007,500008] (zB (qc h (fun h=>?_) fun h=>?_))
 refine y4 [1,4,7,8,10,133,134,135] [500000,500001,500002,500003,500004,500005,500006,500007,500008] (bV (fun (c4:(List Bool))=>⟨[(1,bC all),(4,.ptr 500000 0),(7,.ptr 500001 0),(8,.ptr 500002 0),(10,.ptr 500003 0),(133,bC all),(134,vI (all.length:Int)),(135,vI a5.1)],[(500000,.box (aQ l)),(500001,.box (bM x3)),(500002,.box [.nl,.nl,.nl,.nl,.nl]),(500003,.box [(ro 500004 4),(ro 500005 36),(ro 500006 4),(ro 500007 3),(ro 500008 4)]),(500004,wB 4 c4),(500005,.row 36 [(0,4)] (List.map (cS cB) a0.Holes)),(500006,wB 4 (List.set a0.Done (Int.toNat x3.Piece) true)),(500007,wI 3 (List.set a0.Joints (Int.toNat x3.Piece) x3.Joints)),(500008,wB 4 a0.Fallen)]⟩) (Qw a5) r (by kernel_rfl) (fun c4 h=>?_) ?_)
 refine zD (z6 2 fun u k=>?_)
 cases h
 exact zH k
 refine zC (z7 (zA 1 ?_))
 obtain ⟨e9,c0,h⟩:=aA h
 refine qX bF c0 (y1 4 [1,4,7,8,10,11,12,133,134,135] [12,500000,500001,500002,500003,500004,500005,500006,500007,500008] (z7 (zA 3 ?_)))
 obtain ⟨e2,b8,h⟩:=aA h
 refine qP (W.Wv b8) (zP fun u k=>?_)
 refine yE k [1,4,7,8,10,11,133,134,135,143] [500000,500001,500002,500003,500004,500005,500006,500007,500008] (qc h (fun h=>?_) fun h=>?_)
 refine zD (zA 3 ?_)
 obtain ⟨f0,b3,h⟩:=aA h
 refine qI cB b3 (qS cB true b3 (zP fun u k=>?_))
 exact aF (aV (List.set a5.2 (Int.toNat a5.1) true) h k (here (by kernel_rfl)))
 refine zM fun u k=>?_
 exact aF (aV a5.2 h k (here (by kernel_rfl)))
 refine zL 1 fun u k=>?_
 refine aR ?_
 cases h
 exact sP k rfl (sp [] [(500000,500000),(500002,500001),(500003,500002),(500004,500003),(500005,500004),(500006,500005),(500007,500006),(500008,500007)])
 exact zQ (aV (b5,a0.Holes,(List.set a0.Done (Int.toNat x3.Piece) true),(List.set a0.Joints (Int.toNat x3.Piece) x3.Joints)) h k (here (by kernel_rfl)))
theorem W.Nq {l st edges r} (h:eZ l st edges=some r):PC G.P 119 [(.agg (aQ l)),(.agg (aB st)),(vI edges)] [] (vB r) []:=by
 refine zU G Tryz.func119 (yK [0,1,2] [] (y3 3 [2,3,4] [3,4] (z7 (zA 2 (qL aU l.Pieces (y1 1 [2,3,4,7] [3,4] ?_))))))
 refine zB (zB ?_)
 obtain ⟨j2,a5,h⟩:=aA h
 refine zT ⟨[(3,.ptr 500000 0),(4,.ptr 500001 0),(7,vI (l.Pieces.length:Int)),(44,vB j2)],[(500000,.box (aQ l)),(500001,.box (aB st))]⟩ ?_ fun u k=>?_
 replace h:=a5
 refine zA 2 (qL cB st.Cut (zA 3 (qB h [3,4,7,17] [3,4] [17] (fun h=>?_) fun h=>?_)))
 refine z6 27 fun u k=>?_
 cases h
 exact bJ k (sp [] [(3,500000),(4,500001)])
 refine zA 2 (qL (cS cB) st.Holes (zA 4 (qB h [3,4,7,24] [3,4] [24] (fun h=>?_) fun h=>?_)))
 refine z6 20 fun u k=>?_
 cases h
 exact bJ k (sp [] [(3,500000),(4,500001)])
 refine zA 2 (qL cB st.Done (zA 4 (qB h [3,4,7,31] [3,4] [31] (fun h=>?_) fun h=>?_)))
 refine z6 13 fun u k=>?_
 cases h
 exact bJ k (sp [] [(3,500000),(4,500001)])
 refine zA 2 (qL cI st.Joints (zA 4 (qB h [3,4,7,38] [3,4] [38] (fun h=>?_) fun h=>?_)))
 refine z6 6 fun u k=>?_
 cases h
 exact bJ k (sp [] [(3,500000),(4,500001)])
 refine zA 2 (qL cB st.Fallen (z6 3 fun u k=>?_))
 cases h
 exact bJ k (sp [] [(3,500000),(4,500001)])
 refine yE k [3,4,7,44] [500000,500001] (qc h (fun h=>?_) fun h=>?_)
 refine z8 1 ⟨[(6,vB false)],[]⟩ fun u k=>?_
 refine aO ?_
 obtain rfl:=osi h
 exact zV k [(6,vB false)]
 refine y4 [3,4,7] [500000,500001] (zB (y3 1 [3,4,7,8] [500000,500001] (zC ?_)))
 obtain ⟨a3,a2,h⟩:=aA h
 refine ql a2 (fun a4=>⟨[(3,.ptr 500000 0),(4,.ptr 500001 0),(7,vI (l.Pieces.length:Int)),(8,vI a4)],[(500000,.box (aQ l)),(500001,.box (aB st))]⟩) (fun a3=>match a3 with | .inl a6=>(.ret,⟨[(6,vB false)],[]⟩) | .inr a7=>(.exit 0,⟨[],[]⟩)) qH (fun a4 r h=>?_) (fun u k=>?_) (hout:=(by intro x;rcases x with _ | _ <;> rfl))
 refine zB (y3 3 [3,4,7,8,47] [500000,500001] (qc h (fun h=>?_) fun h=>?_))
 refine y4 [3,4,7,8] [500000,500001] (zB (zC (zB (qM 13 (dN 3 ?_)))))
 obtain ⟨a8,a0,h⟩:=aA h
 refine dX (cS cB) a0 (dN 1 (dL cB a8 (dN 3 ?_)))
 obtain ⟨a9,a1,h⟩:=aA h
 refine dX aU a1 (dN 2 (dL aD a9.Cuts (dE (oN 1 (zO fun u k=>?_)))))
 refine yE k [3,4,7,8,63] [500000,500001] (qc h (fun h=>?_) fun h=>?_)
 refine z8 1 ⟨[(6,vB false)],[]⟩ fun u k=>?_
 refine aT (aO ?_)
 cases h
 exact zF k
 refine zM fun u k=>?_
 refine aF (yE k [3,4,7,8] [500000,500001] (zD (z6 3 fun u k=>?_)))
 cases h
 exact zH k
 refine zL 0 fun u k=>?_
 refine aR ?_
 cases h
 exact zF k
 rcases a3 with a6 | a7
 refine aT (aO ?_)
 obtain rfl:=osi h
 exact zV k [(6,vB false)]
 refine zQ (yE k [] [] (z8 1 ⟨[(6,vB true)],[]⟩ fun u k=>?_))
 obtain rfl:=osi h
 exact zV k [(6,vB true)]
theorem W.vL {l r} (h:lW l=some r):PC G.P 61 [(.sl (List.map cB l))] [] (vB r) []:=by
 refine zU G Tryz.func61 (yK [0] [] (y3 1 [0] [] (zB (y3 1 [0,3] [] (zC ?_)))))
 obtain ⟨a2,a1,h⟩:=aA h
 refine ql a1 (fun a3=>⟨[(0,sB l),(3,vI a3)],[]⟩) (fun a2=>match a2 with | .inl a4=>(.ret,⟨[(2,vB false)],[]⟩) | .inr a5=>(.exit 0,⟨[],[]⟩)) qH (fun a3 r h=>?_) (fun u k=>?_) (hout:=(by intro x;rcases x with _ | _ <;> rfl))
 refine zB (z7 (zA 2 (qL cB l (y1 1 [0,3,7] [] (qc h (fun h=>?_) fun h=>?_)))))
 refine y4 [0,3] [] (zB (zC (z7 (zA 2 ?_))))
 obtain ⟨a6,a0,h⟩:=aA h
 refine qX cB a0 (y1 2 [0,3,14] [] (qc h (fun h=>?_) fun h=>?_))
 refine z8 1 ⟨[(2,vB false)],[]⟩ fun u k=>?_
 refine aT (aO ?_)
 cases h
 exact zF k
 refine zM fun u k=>?_
 refine aF (yE k [0,3] [] (zD (z6 3 fun u k=>?_)))
 cases h
 exact zH k
 refine zL 0 fun u k=>?_
 refine aR ?_
 cases h
 exact zF k
 rcases a2 with a4 | a5
 refine aT (aO ?_)
 obtain rfl:=osi h
 exact zV k [(2,vB false)]
 refine zQ (yE k [] [] (z8 1 ⟨[(2,vB true)],[]⟩ fun u k=>?_))
 obtain rfl:=osi h
 exact zV k [(2,vB true)]
theorem W.yH {l st piece r} (h:jQ l st piece=some r):PC G.P 120 [(.sl (List.map bF l)),(.agg (aB st)),(vI piece)] [] (vB r) []:=by
 refine zU G Tryz.func120 (yK [0,1,2] [] (y3 2 [0,2,4] [4] (zB (y3 1 [0,2,4,7] [4] (zC ?_)))))
 obtain ⟨a0,a6,h⟩:=aA h
 refine ql a6 (fun b0=>⟨[(0,bC l),(2,vI piece),(4,.ptr 500000 0),(7,vI b0)],[(500000,.box (aB st))]⟩) (fun a0=>match a0 with | .inl a8=>(.ret,⟨[(6,vB false)],[]⟩) | .inr a9=>(.exit 0,⟨[],[]⟩)) (sp [] [(4,500000)]) (fun b0 r h=>?_) (fun u k=>?_) (hout:=(by intro x;rcases x with _ | _ <;> rfl))
 refine zB (z7 (zA 2 (qL bF l (y1 1 [0,2,4,7,11] [500000] (qc h (fun h=>?_) fun h=>?_)))))
 refine y4 [0,2,4,7] [500000] (zB (zC (zB ?_)))
 obtain ⟨a7,a1,h⟩:=aA h
 refine zT ⟨[(0,bC l),(2,vI piece),(4,.ptr 500000 0),(7,vI b0),(37,vB a7)],[(500000,.box (aB st))]⟩ ?_ fun u k=>?_
 replace h:=a1
 refine zA 2 ?_
 obtain ⟨b1,a2,h⟩:=aA h
 refine qX bF a2 (zA 5 (qB h [0,2,4,7,21] [500000] [21] (fun h=>?_) fun h=>?_))
 refine zA 12 ?_
 obtain ⟨b2,a3,h⟩:=aA h
 refine qX cB a3 (z6 3 fun u k=>?_)
 cases h
 exact zG k
 refine zA 2 ?_
 obtain ⟨b3,a4,h⟩:=aA h
 refine qX bF a4 (zA 6 (qB h [0,2,4,7,30] [500000] [30] (fun h=>?_) fun h=>?_))
 refine zA 3 ?_
 obtain ⟨b4,a5,h⟩:=aA h
 refine qX cB a5 (z6 3 fun u k=>?_)
 cases h
 exact zG k
 refine z6 7 fun u k=>?_
 cases h
 exact zG k
 refine yE k [0,2,4,7,37] [500000] (qc h (fun h=>?_) fun h=>?_)
 refine z8 1 ⟨[(6,vB false)],[]⟩ fun u k=>?_
 refine aT (aO ?_)
 cases h
 exact zF k
 refine zM fun u k=>?_
 refine aF (yE k [0,2,4,7] [500000] (zD (z6 3 fun u k=>?_)))
 cases h
 exact zH k
 refine zL 0 fun u k=>?_
 refine aR ?_
 cases h
 exact zF k
 rcases a0 with a8 | a9
 refine aT (aO ?_)
 obtain rfl:=osi h
 exact zV k [(6,vB false)]
 refine zQ (yE k [] [] (z8 1 ⟨[(6,vB true)],[]⟩ fun u k=>?_))
 obtain rfl:=osi h
 exact zV k [(6,vB true)]
theorem W.Jy {x0 r} (h:mU x0=some r):PC G.P 121 [(.agg (aU x0))] [] (vB r) []:=by
 refine zU G Tryz.func121 (yK [0] [] (y3 2 [1] [1] (y3 1 [1,3] [1] (y3 4 [1,3,4,5,6,7] [1] (zB (y3 1 [1,3,4,5,6,7,8] [1] ?_))))))
 refine zC ?_
 obtain ⟨a3,a8,h⟩:=aA h
 refine ql a8 (fun a0=>⟨[(1,.ptr 500000 0),(3,vB a0.1),(4,vI a0.2.1),(5,vI a0.2.2.1),(6,vI a0.2.2.2.1),(7,vI a0.2.2.2.2.1),(8,vI a0.2.2.2.2.2)],[(500000,.box (aU x0))]⟩) (fun a3=>(.exit 0,⟨[(3,vB a3.1),(4,vI a3.2.1),(5,vI a3.2.2.1),(6,vI a3.2.2.2.1),(7,vI a3.2.2.2.2)],[]⟩)) (sp [] [(1,500000)]) (fun a0 r h=>?_) fun u k=>?_
 refine zB (z7 (zA 3 (qL aD x0.Rects (y1 1 [1,3,4,5,6,7,8,14] [500000] (qc h (fun h=>?_) fun h=>?_)))))
 refine y4 [1,3,4,5,6,7,8] [500000] (bV (fun (a4:Bool×Int×Int×Int×Int)=>⟨[(1,.ptr 500000 0),(3,vB a4.1),(4,vI a4.2.1),(5,vI a4.2.2.1),(6,vI a4.2.2.2.1),(7,vI a4.2.2.2.2),(8,vI a0.2.2.2.2.2)],[(500000,.box (aU x0))]⟩) (nP a0) r (by kernel_rfl) (fun a4 h=>?_) ?_)
 refine zD (z6 3 fun u k=>?_)
 cases h
 exact zH k
 refine zC (z7 (zA 3 ?_))
 obtain ⟨a1,a7,h⟩:=aA h
 refine qX aD a7 (y1 3 [1,3,4,5,6,7,8,9] [9,500000] (zB (z7 (zA 1 ?_))))
 obtain ⟨b1,a6,h⟩:=aA h
 refine qP (W.dG a6) (y1 1 [1,3,4,5,6,7,8,9,24] [9,500000] (qc h (fun h=>?_) fun h=>?_))
 refine zL 1 fun u k=>?_
 exact aR (zQ (aV (a0.1,a0.2.1,a0.2.2.1,a0.2.2.2.1,a0.2.2.2.2.1) h k (here (by kernel_rfl))))
 refine y4 [1,3,4,5,6,7,8,9] [9,500000] (bV (fun (a2:Bool×Int×Int×Int×Int)=>⟨[(1,.ptr 500000 0),(3,vB a2.1),(4,vI a2.2.1),(5,vI a2.2.2.1),(6,vI a2.2.2.2.1),(7,vI a2.2.2.2.2),(8,vI a0.2.2.2.2.2),(9,.ptr 500001 0)],[(500000,.box (aU x0)),(500001,.box (aD a1))]⟩) (nQ a0 a1) r (by kernel_rfl) (fun a2 h=>?_) ?_)
 refine y3 5 [1,3,4,5,6,7,8,9] [500000,500001] (y3 5 [1,3,4,5,6,7,8,9] [500000,500001] (y3 8 [1,3,4,5,6,7,8,9] [500000,500001] (zD (z6 8 fun u k=>?_))))
 exact aF (aV (a2.1,(nH a2.2.1 a1.X),(nH a2.2.2.1 a1.Y),(fA a2.2.2.2.1 (aM a1.X a1.W)),(fA a2.2.2.2.2 (aM a1.Y a1.H))) h k (here (by kernel_rfl)))
 refine y3 2 [1,3,4,5,6,7,8,9,26] [9,500000] (qc h (fun h=>?_) fun h=>?_)
 refine zB (qM 17 (dN 17 (dE (oN 1 (zO fun u k=>?_)))))
 refine yE k [1,4,5,6,7,8,9] [9,500000] (zD (z6 1 fun u k=>?_))
 exact aV (true,a1.X,a1.Y,(aM a1.X a1.W),(aM a1.Y a1.H)) h k (sp [] [(9,500001),(500000,500000)])
 refine zM fun u k=>?_
 exact aV (a0.1,a0.2.1,a0.2.2.1,a0.2.2.2.1,a0.2.2.2.2.1) h k (sp [] [(9,500001),(500000,500000)])
 refine zL 0 fun u k=>?_
 refine aR ?_
 cases h
 exact zF k
 refine zQ (yE k [3,4,5,6,7] [] (zB ?_))
 obtain ⟨a9,a5,h⟩:=aA h
 refine zT ⟨[(2,vB a9)],[]⟩ ?_ fun u k=>?_
 replace h:=a5
 refine zA 3 (zS a3.1 (fun b0=>⟨[(4,vI a3.2.1),(5,vI a3.2.2.1),(6,vI a3.2.2.2.1),(7,vI a3.2.2.2.2),(65,vB (!b0))],[]⟩) (fun hb=>?_) fun hb=>?_)
 replace h:=iD hb h
 refine z6 10 fun u k=>?_
 cases h
 exact zG k
 replace h:=iB hb h
 refine z6 10 fun u k=>?_
 cases h
 exact zG k
 refine yE k [2] [] (zN fun u k=>?_)
 obtain rfl:=osi h
 exact zV k [(2,vB a9)]
theorem W.mJ {l x1 y r} (h:gJ l x1 y=some r):PC G.P 185 [(.sl (List.map aD l)),(vI x1),(vI y)] [] (vB r) []:=by
 refine zU G Tryz.func185 (yK [0,1,2] [] (y3 1 [0,1,2] [] (zB (y3 1 [0,1,2,7] [] (zC ?_)))))
 obtain ⟨a3,a2,h⟩:=aA h
 refine ql a2 (fun a4=>⟨[(0,aW l),(1,vI x1),(2,vI y),(7,vI a4)],[]⟩) (fun a3=>match a3 with | .inl a5=>(.ret,⟨[(6,vB true)],[]⟩) | .inr a6=>(.exit 0,⟨[],[]⟩)) qH (fun a4 r h=>?_) (fun u k=>?_) (hout:=(by intro x;rcases x with _ | _ <;> rfl))
 refine zB (z7 (zA 2 (qL aD l (y1 1 [0,1,2,7,11] [] (qc h (fun h=>?_) fun h=>?_)))))
 refine y4 [0,1,2,7] [] (zB (zC (z7 (zA 5 ?_))))
 obtain ⟨a8,a1,h⟩:=aA h
 refine qX aD a1 (zA 1 ?_)
 obtain ⟨a7,a0,h⟩:=aA h
 refine qP (W.rJ a0) (zP fun u k=>?_)
 refine yE k [0,1,2,7,21] [] (qc h (fun h=>?_) fun h=>?_)
 refine z8 1 ⟨[(6,vB true)],[]⟩ fun u k=>?_
 refine aT (aO ?_)
 cases h
 exact zF k
 refine zM fun u k=>?_
 refine aF (yE k [0,1,2,7] [] (zD (z6 3 fun u k=>?_)))
 cases h
 exact zH k
 refine zL 0 fun u k=>?_
 refine aR ?_
 cases h
 exact zF k
 rcases a3 with a5 | a6
 refine aT (aO ?_)
 obtain rfl:=osi h
 exact zV k [(6,vB true)]
 refine zQ (yE k [] [] (z8 1 ⟨[(6,vB false)],[]⟩ fun u k=>?_))
 obtain rfl:=osi h
 exact zV k [(6,vB false)]
theorem W.wP {l s1 r} (h:fC l s1=some r):PC G.P 162 [(.sl (List.map aD l)),(.agg [(vI s1.X),(vI s1.Y)])] [] (vB r) []:=by
 refine zU G Tryz.func162 (yK [0,1] [] (y3 2 [0,3] [3] (zB (zB ?_))))
 obtain ⟨j2,a2,h⟩:=aA h
 refine zT ⟨[(0,aW l),(3,.ptr 500000 0),(22,vB j2)],[(500000,.box [(vI s1.X),(vI s1.Y)])]⟩ ?_ fun u k=>?_
 replace h:=a2
 refine zA 4 (qB h [0,3,8] [3] [8] (fun h=>?_) fun h=>?_)
 refine z6 14 fun u k=>?_
 cases h
 exact bJ k (sp [] [(3,500000)])
 refine zA 5 (qB h [0,3,13] [3] [13] (fun h=>?_) fun h=>?_)
 refine z6 9 fun u k=>?_
 cases h
 exact bJ k (sp [] [(3,500000)])
 refine zA 5 (qB h [0,3,18] [3] [18] (fun h=>?_) fun h=>?_)
 refine z6 4 fun u k=>?_
 cases h
 exact bJ k (sp [] [(3,500000)])
 refine z6 4 fun u k=>?_
 cases h
 exact bJ k (sp [] [(3,500000)])
 refine yE k [0,3,22] [500000] (qc h (fun h=>?_) fun h=>?_)
 refine z8 1 ⟨[(4,vB false)],[]⟩ fun u k=>?_
 refine aO ?_
 obtain rfl:=osi h
 exact zV k [(4,vB false)]
 refine y4 [0,3] [500000] (zB ?_)
 obtain ⟨j7,a3,h⟩:=aA h
 refine zT ⟨[(4,vB j7)],[]⟩ ?_ fun u k=>?_
 replace h:=a3
 refine zA 5 ?_
 obtain ⟨r8,a4,h⟩:=aA h
 refine qP (W.mJ a4) (zA 1 (qB h [0,3,29] [500000] [29] (fun h=>?_) fun h=>?_))
 refine zA 6 ?_
 obtain ⟨r9,a5,h⟩:=aA h
 refine qP (W.mJ a5) (zA 2 (qB h [0,3,38] [500000] [38] (fun h=>?_) fun h=>?_))
 refine zA 6 ?_
 obtain ⟨a6,a0,h⟩:=aA h
 refine qP (W.mJ a0) (zA 2 (qB h [0,3,47] [500000] [47] (fun h=>?_) fun h=>?_))
 refine zA 7 ?_
 obtain ⟨a7,a1,h⟩:=aA h
 refine qP (W.mJ a1) (z6 2 fun u k=>?_)
 cases h
 exact zG k
 refine z6 10 fun u k=>?_
 cases h
 exact zG k
 refine z6 19 fun u k=>?_
 cases h
 exact zG k
 refine z6 28 fun u k=>?_
 cases h
 exact zG k
 refine yE k [4] [] (zN fun u k=>?_)
 obtain rfl:=osi h
 exact zV k [(4,vB j7)]
theorem W.Aa {s0 g r} (h:tJ s0 g=some r):PC G.P 163 [(.agg [(vI s0.X),(vI s0.Y)]),(.agg (Bo g))] [] (vI r) []:=by
 refine zU G Tryz.func163 (yK [0,1] [] (y3 3 [2,3] [2,3] (z8 22 ⟨[(4,vI (fA (fA (fA (fA 0 (aJ g.X1 s0.X)) (aJ s0.X g.X2)) (aJ g.Y1 s0.Y)) (aJ s0.Y g.Y2)))],[]⟩ fun u k=>?_)))
 obtain rfl:=osi h
 exact zV k [(4,vI (fA (fA (fA (fA 0 (aJ g.X1 s0.X)) (aJ s0.X g.X2)) (aJ g.Y1 s0.Y)) (aJ s0.Y g.Y2)))]
theorem W.Jz {l es st piece s4 r} (h:rE l es st piece s4=some r):PC G.P 122 [(.agg (aQ l)),(.sl (List.map bF es)),(.agg (aB st)),(vI piece),(.agg [(vI s4.X),(vI s4.Y)])] [] (vB r) []:=by
 refine zU G Tryz.func122 (yK [0,1,2,3,4] [] (y3 4 [1,3,5,7,9] [5,7,9] (zB (zB ?_))))
 obtain ⟨j5,c5,h⟩:=aA h
 refine zT ⟨[(1,bC es),(3,vI piece),(5,.ptr 500000 0),(7,.ptr 500001 0),(9,.ptr 500002 0),(43,vB j5)],[(500000,.box (aQ l)),(500001,.box (aB st)),(500002,.box [(vI s4.X),(vI s4.Y)])]⟩ ?_ fun u k=>?_
 replace h:=c5
 refine zA 4 (qB h [1,3,5,7,9,16] [5,7,9] [16] (fun h=>?_) fun h=>?_)
 refine z6 27 fun u k=>?_
 cases h
 exact bJ k (sp [] [(5,500000),(7,500001),(9,500002)])
 refine zA 5 (qB h [1,3,5,7,9,21] [5,7,9] [21] (fun h=>?_) fun h=>?_)
 refine z6 22 fun u k=>?_
 cases h
 exact bJ k (sp [] [(5,500000),(7,500001),(9,500002)])
 refine zA 8 (qB h [1,3,5,7,9,29] [5,7,9] [29] (fun h=>?_) fun h=>?_)
 refine z6 14 fun u k=>?_
 cases h
 exact bJ k (sp [] [(5,500000),(7,500001),(9,500002)])
 refine zA 8 (qB h [1,3,5,7,9,37] [5,7,9] [37] (fun h=>?_) fun h=>?_)
 refine z6 6 fun u k=>?_
 cases h
 exact bJ k (sp [] [(5,500000),(7,500001),(9,500002)])
 refine zA 4 ?_
 obtain ⟨r6,c6,h⟩:=aA h
 refine qP (W.wP c6) (z6 1 fun u k=>?_)
 cases h
 exact bJ k (sp [] [(5,500000),(7,500001),(9,500002)])
 refine yE k [1,3,5,7,9,43] [500000,500001,500002] (qc h (fun h=>?_) fun h=>?_)
 refine z8 1 ⟨[(10,vB false)],[]⟩ fun u k=>?_
 refine aO ?_
 obtain rfl:=osi h
 exact zV k [(10,vB false)]
 refine y4 [1,3,5,7,9] [500000,500001,500002] (zB (y3 1 [1,3,5,7,9,11] [500000,500001,500002] (zC ?_)))
 obtain ⟨c3,b7,h⟩:=aA h
 refine ql b7 (fun c4=>⟨[(1,bC es),(3,vI piece),(5,.ptr 500000 0),(7,.ptr 500001 0),(9,.ptr 500002 0),(11,vI c4)],[(500000,.box (aQ l)),(500001,.box (aB st)),(500002,.box [(vI s4.X),(vI s4.Y)])]⟩) (fun c3=>match c3 with | .inl c7=>(.ret,⟨[(10,vB false)],[]⟩) | .inr c8=>(.exit 0,⟨[(1,bC es),(3,vI piece),(7,.ptr 500000 0),(9,.ptr 500001 0)],[(500000,.box (aB st)),(500001,.box [(vI s4.X),(vI s4.Y)])]⟩)) qH (fun c4 r h=>?_) (fun u k=>?_) (hout:=(by intro x;rcases x with _ | _ <;> rfl))
 refine zB (z7 (zA 3 (qL aU l.Pieces (y1 1 [1,3,5,7,9,11,48] [500000,500001,500002] (qc h (fun h=>?_) fun h=>?_)))))
 refine y4 [1,3,5,7,9,11] [500000,500001,500002] (zB (zC (zB (qM 7 (dN 3 ?_)))))
 obtain ⟨d4,b6,h⟩:=aA h
 refine dX aU b6 (dN 3 (dE ?_))
 obtain ⟨d3,b5,h⟩:=aA h
 refine oP (W.wP b5) (zO fun u k=>?_)
 refine yE k [1,3,5,7,9,11,58] [500000,500001,500002] (qc h (fun h=>?_) fun h=>?_)
 refine z8 1 ⟨[(10,vB false)],[]⟩ fun u k=>?_
 refine aT (aO ?_)
 cases h
 exact zF k
 refine zM fun u k=>?_
 refine aF (yE k [1,3,5,7,9,11] [500000,500001,500002] (zD (z6 3 fun u k=>?_)))
 cases h
 exact zH k
 refine zL 0 fun u k=>?_
 refine aR ?_
 cases h
 exact sP k rfl (sp [] [(500001,500000),(500002,500001)])
 rcases c3 with c7 | c8
 refine aT (aO ?_)
 obtain rfl:=osi h
 exact zV k [(10,vB false)]
 refine zQ (yE k [1,3,7,9] [500000,500001] (zB (y3 1 [1,3,7,9,12] [500000,500001] (zC ?_))))
 obtain ⟨a3,b4,h⟩:=aA h
 refine ql b4 (fun a0=>⟨[(1,bC es),(3,vI piece),(7,.ptr 500000 0),(9,.ptr 500001 0),(12,vI a0)],[(500000,.box (aB st)),(500001,.box [(vI s4.X),(vI s4.Y)])]⟩) (fun a3=>match a3 with | .inl b9=>(.ret,⟨[(10,vB true)],[]⟩) | .inr c0=>(.exit 2,⟨[],[]⟩)) qH (fun a0 r h=>?_) (fun u k=>?_) (hout:=(by intro x;rcases x with _ | _ <;> rfl))
 refine zB (z7 (zA 2 (qL bF es (y1 1 [1,3,7,9,12,62] [500000,500001] (qc h (fun h=>?_) fun h=>?_)))))
 refine y4 [1,3,7,9,12] [500000,500001] (zB (zC (zB ?_)))
 obtain ⟨b8,a4,h⟩:=aA h
 refine gG ⟨[(1,bC es),(3,vI piece),(7,.ptr 500000 0),(9,.ptr 500001 0),(12,vI a0),(98,vB b8)],[(500000,.box (aB st)),(500001,.box [(vI s4.X),(vI s4.Y)])]⟩ [] [] [] [] [] 31 (by kernel_rfl) (by kernel_rfl) (by kernel_rfl) ?_ fun u k=>?_
 replace h:=a4
 refine dN 2 ?_
 obtain ⟨a1,a7,h⟩:=aA h
 refine dX bF a7 (dN 5 (bH (a1.A==piece) (fun b0=>⟨[(72,vB b0),(71,vB b0),(70,vI piece),(69,vI a1.A),(68,.vptr (bF a1) 4),(67,.vptr (bF a1) 0),(66,vI a0),(65,bC es),(1,bC es),(3,vI piece),(7,.ptr 500000 0),(9,.ptr 500001 0),(12,vI a0)],[(500000,.box (aB st)),(500001,.box [(vI s4.X),(vI s4.Y)])]⟩) (by kernel_rfl) (fun hb=>?_) fun hb=>?_))
 replace h:=iD hb h
 refine dN 12 ?_
 obtain ⟨c1,a8,h⟩:=aA h
 refine dX cB a8 (dN 4 (bH c1 (fun b0=>⟨[(89,vB (!b0)),(88,vB (!b0)),(87,vB (!b0)),(86,vB b0),(85,.vptr [(vB b0)] 0),(84,vI a0),(83,sB st.Cut),(82,.ptr 500000 0),(81,vB true),(80,vB true),(79,vU),(78,vU),(77,vU),(76,vU),(75,vU),(74,vU),(73,vU),(72,vB true),(71,vB true),(70,vI piece),(69,vI a1.A),(68,.vptr (bF a1) 4),(67,.vptr (bF a1) 0),(66,vI a0),(65,bC es),(1,bC es),(3,vI piece),(7,.ptr 500000 0),(9,.ptr 500001 0),(12,vI a0)],[(500000,.box (aB st)),(500001,.box [(vI s4.X),(vI s4.Y)])]⟩) (by kernel_rfl) (fun hb=>?_) fun hb=>?_))
 replace h:=iD hb h
 refine dN 6 (dE (oN 3 (zO fun u k=>?_)))
 cases h
 exact zG k
 replace h:=iB hb h
 refine dN 3 ?_
 obtain ⟨d1,a9,h⟩:=aA h
 refine dX bF a9 (dN 2 (dE ?_))
 obtain ⟨c9,a5,h⟩:=aA h
 refine oP (W.Aa a5) (oN 2 (zO fun u k=>?_))
 cases h
 exact zG k
 replace h:=iB hb h
 refine dN 2 ?_
 obtain ⟨a2,b1,h⟩:=aA h
 refine dX bF b1 (dN 6 (bH (a2.B==piece) (fun b0=>⟨[(81,vB b0),(80,vB b0),(79,vB b0),(78,vI piece),(77,vI a2.B),(76,.vptr (bF a2) 5),(75,.vptr (bF a2) 0),(74,vI a0),(73,bC es),(72,vB false),(71,vB false),(70,vI piece),(69,vI a1.A),(68,.vptr (bF a1) 4),(67,.vptr (bF a1) 0),(66,vI a0),(65,bC es),(1,bC es),(3,vI piece),(7,.ptr 500000 0),(9,.ptr 500001 0),(12,vI a0)],[(500000,.box (aB st)),(500001,.box [(vI s4.X),(vI s4.Y)])]⟩) (by kernel_rfl) (fun hb=>?_) fun hb=>?_))
 replace h:=iD hb h
 refine dN 3 ?_
 obtain ⟨c2,b2,h⟩:=aA h
 refine dX cB b2 (dN 4 (bH c2 (fun b0=>⟨[(89,vB (!b0)),(88,vB (!b0)),(87,vB (!b0)),(86,vB b0),(85,.vptr [(vB b0)] 0),(84,vI a0),(83,sB st.Cut),(82,.ptr 500000 0),(81,vB true),(80,vB true),(79,vB true),(78,vI piece),(77,vI a2.B),(76,.vptr (bF a2) 5),(75,.vptr (bF a2) 0),(74,vI a0),(73,bC es),(72,vB false),(71,vB false),(70,vI piece),(69,vI a1.A),(68,.vptr (bF a1) 4),(67,.vptr (bF a1) 0),(66,vI a0),(65,bC es),(1,bC es),(3,vI piece),(7,.ptr 500000 0),(9,.ptr 500001 0),(12,vI a0)],[(500000,.box (aB st)),(500001,.box [(vI s4.X),(vI s4.Y)])]⟩) (by kernel_rfl) (fun hb=>?_) fun hb=>?_))
 replace h:=iD hb h
 refine dN 6 (dE (oN 3 (zO fun u k=>?_)))
 cases h
 exact zG k
 replace h:=iB hb h
 refine dN 3 ?_
 obtain ⟨d2,b3,h⟩:=aA h
 refine dX bF b3 (dN 2 (dE ?_))
 obtain ⟨d0,a6,h⟩:=aA h
 refine oP (W.Aa a6) (oN 2 (zO fun u k=>?_))
 cases h
 exact zG k
 replace h:=iB hb h
 refine dN 14 (dE (oN 3 (zO fun u k=>?_)))
 cases h
 exact zG k
 refine yE k [1,3,7,9,12,98] [500000,500001] (qc h (fun h=>?_) fun h=>?_)
 refine z8 1 ⟨[(10,vB true)],[]⟩ fun u k=>?_
 refine aT (aO ?_)
 cases h
 exact zF k
 refine zM fun u k=>?_
 refine aF (yE k [1,3,7,9,12] [500000,500001] (zD (z6 3 fun u k=>?_)))
 cases h
 exact zH k
 refine zL 2 fun u k=>?_
 refine aR ?_
 cases h
 exact zF k
 rcases a3 with b9 | c0
 refine aT (aO ?_)
 obtain rfl:=osi h
 exact zV k [(10,vB true)]
 refine zQ (yE k [] [] (z8 1 ⟨[(10,vB false)],[]⟩ fun u k=>?_))
 obtain rfl:=osi h
 exact zV k [(10,vB false)]
theorem W.Hw {l es st x3 r} (h:dZ l es st x3=some r):PC G.P 55 [(.agg (aQ l)),(.sl (List.map bF es)),(.agg (aB st)),(.agg (bM x3))] [] (vI r) []:=by
 refine zU G Tryz.func55 (yK [0,1,2,3] [] (y3 4 [1,4,6,7] [4,6,7] (zB (zB ?_))))
 obtain ⟨c1,a1,h⟩:=aA h
 refine gG ⟨[(1,bC es),(4,.ptr 500000 0),(6,.ptr 500001 0),(7,.ptr 500002 0),(67,vB c1)],[(500000,.box (aQ l)),(500001,.box (aB st)),(500002,.box (bM x3))]⟩ [] [] [] [] [] 35 (by kernel_rfl) (by kernel_rfl) (by kernel_rfl) ?_ fun u k=>?_
 replace h:=a1
 refine dN 3 (dL bF es ?_)
 obtain ⟨c6,a6,h⟩:=aA h
 refine dC [] (W.Nq a6) (dN 2 (bH c6 (fun b0=>⟨[(17,vB (!b0)),(16,vB (!b0)),(15,vB b0),(14,vI (es.length:Int)),(13,bC es),(12,.agg (aB st)),(11,.agg (aQ l)),(1,bC es),(4,.ptr 4 0),(6,.ptr 6 0),(7,.ptr 7 0)],[(4,.box (aQ l)),(6,.box (aB st)),(7,.box (bM x3))]⟩) (by kernel_rfl) (fun hb=>?_) fun hb=>?_))
 replace h:=iD hb h
 refine dN 5 (bH (decide (x3.Piece<0)) (fun b0=>⟨[(22,vB b0),(21,vB b0),(20,vB b0),(19,vI x3.Piece),(18,.ptr 7 0),(17,vB false),(16,vB false),(15,vB true),(14,vI (es.length:Int)),(13,bC es),(12,.agg (aB st)),(11,.agg (aQ l)),(1,bC es),(4,.ptr 4 0),(6,.ptr 6 0),(7,.ptr 7 0)],[(4,.box (aQ l)),(6,.box (aB st)),(7,.box (bM x3))]⟩) (by kernel_rfl) (fun hb=>?_) fun hb=>?_)
 replace h:=iD hb h
 refine dN 23 (dE (oN 22 (zO fun u k=>?_)))
 cases h
 exact bJ k (sp [] [(4,500000),(6,500001),(7,500002)])
 replace h:=iB hb h
 refine dN 4 (dL aU l.Pieces (dN 3 (bH (decide (x3.Piece ≥ (l.Pieces.length:Int))) (fun b0=>⟨[(30,vB b0),(29,vB b0),(28,vB b0),(27,vI (l.Pieces.length:Int)),(26,dB l.Pieces),(25,.ptr 4 8),(24,vI x3.Piece),(23,.ptr 7 0),(22,vB false),(21,vB false),(20,vB false),(19,vI x3.Piece),(18,.ptr 7 0),(17,vB false),(16,vB false),(15,vB true),(14,vI (es.length:Int)),(13,bC es),(12,.agg (aB st)),(11,.agg (aQ l)),(1,bC es),(4,.ptr 4 0),(6,.ptr 6 0),(7,.ptr 7 0)],[(4,.box (aQ l)),(6,.box (aB st)),(7,.box (bM x3))]⟩) (by kernel_rfl) (fun hb=>?_) fun hb=>?_)))
 replace h:=iD hb h
 refine dN 15 (dE (oN 22 (zO fun u k=>?_)))
 cases h
 exact bJ k (sp [] [(4,500000),(6,500001),(7,500002)])
 replace h:=iB hb h
 refine dN 5 (bH (decide (x3.Hole<(-1))) (fun b0=>⟨[(35,vB b0),(34,vB b0),(33,vB b0),(32,vI x3.Hole),(31,.ptr 7 1),(30,vB false),(29,vB false),(28,vB false),(27,vI (l.Pieces.length:Int)),(26,dB l.Pieces),(25,.ptr 4 8),(24,vI x3.Piece),(23,.ptr 7 0),(22,vB false),(21,vB false),(20,vB false),(19,vI x3.Piece),(18,.ptr 7 0),(17,vB false),(16,vB false),(15,vB true),(14,vI (es.length:Int)),(13,bC es),(12,.agg (aB st)),(11,.agg (aQ l)),(1,bC es),(4,.ptr 4 0),(6,.ptr 6 0),(7,.ptr 7 0)],[(4,.box (aQ l)),(6,.box (aB st)),(7,.box (bM x3))]⟩) (by kernel_rfl) (fun hb=>?_) fun hb=>?_)
 replace h:=iD hb h
 refine dN 10 (dE (oN 22 (zO fun u k=>?_)))
 cases h
 exact bJ k (sp [] [(4,500000),(6,500001),(7,500002)])
 replace h:=iB hb h
 refine dN 6 ?_
 obtain ⟨c8,b2,h⟩:=aA h
 refine dX aU b2 (dN 2 (dL aD c8.Cuts (dE (oN 3 (oB h [1,4,6,7,48] [4,6,7] [48] (fun h=>?_) fun h=>?_)))))
 refine oN 19 (zO fun u k=>?_)
 cases h
 exact bJ k (sp [] [(4,500000),(6,500001),(7,500002)])
 refine oN 5 (oB h [1,4,6,7,53] [4,6,7] [53] (fun h=>?_) fun h=>?_)
 refine oN 14 (zO fun u k=>?_)
 cases h
 exact bJ k (sp [] [(4,500000),(6,500001),(7,500002)])
 refine oN 5 (oB h [1,4,6,7,58] [4,6,7] [58] (fun h=>?_) fun h=>?_)
 refine oN 9 (zO fun u k=>?_)
 cases h
 exact bJ k (sp [] [(4,500000),(6,500001),(7,500002)])
 refine oN 4 (oB h [1,4,6,7,58,62] [4,6,7] [62] (fun h=>?_) fun h=>?_)
 refine oN 5 (zO fun u k=>?_)
 cases h
 exact bJ k (sp [] [(4,500000),(6,500001),(7,500002)])
 refine oN 5 (zO fun u k=>?_)
 cases h
 exact bJ k (sp [] [(4,500000),(6,500001),(7,500002)])
 replace h:=iB hb h
 refine dN 28 (dE (oN 22 (zO fun u k=>?_)))
 cases h
 exact bJ k (sp [] [(4,500000),(6,500001),(7,500002)])
 refine yE k [1,4,6,7,67] [500000,500001,500002] (qc h (fun h=>?_) fun h=>?_)
 refine z8 1 ⟨[(8,vI 1)],[]⟩ fun u k=>?_
 refine aO ?_
 obtain rfl:=osi h
 exact zV k [(8,vI 1)]
 refine y4 [1,4,6,7] [500000,500001,500002] (z7 (zA 4 ?_))
 obtain ⟨a0,b3,h⟩:=aA h
 refine qX aU b3 (y1 3 [1,4,6,7,9] [9,500000,500001,500002] (zB (y3 3 [1,4,6,7,9,76] [9,500000,500001,500002] (qc h (fun h=>?_) fun h=>?_))))
 refine zB (zB ?_)
 obtain ⟨c2,a2,h⟩:=aA h
 refine gG ⟨[(7,.ptr 500000 0),(9,.ptr 500001 0),(94,vB c2)],[(500000,.box (bM x3)),(500001,.box (aU a0))]⟩ [] [] [] [] [] 15 (by kernel_rfl) (by kernel_rfl) (by kernel_rfl) ?_ fun u k=>?_
 replace h:=a2
 refine dN 4 ?_
 obtain ⟨c9,b4,h⟩:=aA h
 refine dX cB b4 (dN 2 (bH c9 (fun b0=>⟨[(83,vB b0),(82,vB b0),(81,.vptr [(vB b0)] 0),(80,vI x3.Piece),(79,.ptr 500002 0),(78,sB st.Fallen),(77,.ptr 500001 4),(1,bC es),(4,.ptr 500000 0),(6,.ptr 500001 0),(7,.ptr 500002 0),(9,.ptr 9 0),(76,vB (decide (x3.Hole ≥ 0)))],[(9,.box (aU a0)),(500000,.box (aQ l)),(500001,.box (aB st)),(500002,.box (bM x3))]⟩) (by kernel_rfl) (fun hb=>?_) fun hb=>?_))
 replace h:=iD hb h
 refine dN 8 (dE (oN 3 (zO fun u k=>?_)))
 cases h
 exact bJ k (sp [] [(9,500001),(500002,500000)])
 replace h:=iB hb h
 refine dN 4 ?_
 obtain ⟨d3,b5,h⟩:=aA h
 refine dX (cS cB) b5 (dN 3 (dE ?_))
 obtain ⟨d4,b6,h⟩:=aA h
 refine oX cB b6 (oN 2 (zO fun u k=>?_))
 cases h
 exact bJ k (sp [] [(9,500001),(500002,500000)])
 refine yE k [7,9,94] [500000,500001] (qc h (fun h=>?_) fun h=>?_)
 refine z8 1 ⟨[(8,vI 12)],[]⟩ fun u k=>?_
 refine aO (aO ?_)
 obtain rfl:=osi h
 exact zV k [(8,vI 12)]
 refine y4 [7,9] [500000,500001] (z7 (zA 4 ?_))
 obtain ⟨d5,b7,h⟩:=aA h
 refine qX aD b7 (y1 3 [7,10] [10,500000] (zB (zB ?_)))
 obtain ⟨c3,a3,h⟩:=aA h
 refine zT ⟨[(136,vB c3)],[]⟩ ?_ fun u k=>?_
 replace h:=a3
 refine zA 7 (qB h [7,10,107] [10,500000] [107] (fun h=>?_) fun h=>?_)
 refine z6 29 fun u k=>?_
 cases h
 exact zG k
 refine zA 11 (qB h [7,10,118] [10,500000] [118] (fun h=>?_) fun h=>?_)
 refine z6 18 fun u k=>?_
 cases h
 exact zG k
 refine zA 8 (qB h [7,10,126] [10,500000] [126] (fun h=>?_) fun h=>?_)
 refine z6 10 fun u k=>?_
 cases h
 exact zG k
 refine z6 10 fun u k=>?_
 cases h
 exact zG k
 refine yE k [136] [] (qc h (fun h=>?_) fun h=>?_)
 refine z8 1 ⟨[(8,vI 14)],[]⟩ fun u k=>?_
 refine aO (aO ?_)
 obtain rfl:=osi h
 exact zV k [(8,vI 14)]
 refine y4 [] [] (z8 1 ⟨[(8,vI 0)],[]⟩ fun u k=>?_)
 refine aO ?_
 obtain rfl:=osi h
 exact zV k [(8,vI 0)]
 refine y4 [1,4,6,7,9] [9,500000,500001,500002] (zB (zB ?_))
 obtain ⟨c4,a4,h⟩:=aA h
 refine zT ⟨[(1,bC es),(4,.ptr 500000 0),(6,.ptr 500001 0),(7,.ptr 500002 0),(9,.ptr 500003 0),(167,vB c4)],[(500000,.box (aQ l)),(500001,.box (aB st)),(500002,.box (bM x3)),(500003,.box (aU a0))]⟩ ?_ fun u k=>?_
 replace h:=a4
 refine zA 4 ?_
 obtain ⟨d6,b8,h⟩:=aA h
 refine qX cB b8 (zA 2 (qB h [1,4,6,7,9,143] [9,500000,500001,500002] [143] (fun h=>?_) fun h=>?_))
 refine z6 24 fun u k=>?_
 cases h
 exact bJ k (sp [] [(9,500003),(500000,500000),(500001,500001),(500002,500002)])
 refine zA 4 ?_
 obtain ⟨d7,b9,h⟩:=aA h
 refine qX cB b9 (zA 3 (qB h [1,4,6,7,9,151] [9,500000,500001,500002] [151] (fun h=>?_) fun h=>?_))
 refine z6 16 fun u k=>?_
 cases h
 exact bJ k (sp [] [(9,500003),(500000,500000),(500001,500001),(500002,500002)])
 refine zA 4 ?_
 obtain ⟨d8,c0,h⟩:=aA h
 refine qX (cS cB) c0 (zA 1 ?_)
 obtain ⟨c7,a7,h⟩:=aA h
 refine qP (W.vL a7) (zA 3 (zS c7 (fun b0=>⟨[(1,bC es),(4,.ptr 500000 0),(6,.ptr 500001 0),(7,.ptr 500002 0),(9,.ptr 9 0),(161,vB (!b0))],[(9,.box (aU a0)),(500000,.box (aQ l)),(500001,.box (aB st)),(500002,.box (bM x3))]⟩) (fun hb=>?_) fun hb=>?_))
 replace h:=iD hb h
 refine zA 4 ?_
 obtain ⟨d0,a8,h⟩:=aA h
 refine qP (W.yH a8) (z6 1 fun u k=>?_)
 cases h
 exact bJ k (sp [] [(9,500003),(500000,500000),(500001,500001),(500002,500002)])
 replace h:=iB hb h
 refine z6 6 fun u k=>?_
 cases h
 exact bJ k (sp [] [(9,500003),(500000,500000),(500001,500001),(500002,500002)])
 refine yE k [1,4,6,7,9,167] [500000,500001,500002,500003] (qc h (fun h=>?_) fun h=>?_)
 refine z8 1 ⟨[(8,vI 12)],[]⟩ fun u k=>?_
 refine aO ?_
 obtain rfl:=osi h
 exact zV k [(8,vI 12)]
 refine y4 [1,4,6,7,9] [500000,500001,500002,500003] (zB (zB ?_))
 obtain ⟨c5,a5,h⟩:=aA h
 refine zT ⟨[(1,bC es),(4,.ptr 500000 0),(6,.ptr 500001 0),(7,.ptr 500002 0),(174,vB c5)],[(500000,.box (aQ l)),(500001,.box (aB st)),(500002,.box (bM x3))]⟩ ?_ fun u k=>?_
 replace h:=a5
 refine zA 4 (qB h [1,4,6,7,9,171] [500000,500001,500002,500003] [171] (fun h=>?_) fun h=>?_)
 refine zA 1 ?_
 obtain ⟨d1,a9,h⟩:=aA h
 refine qP (W.Jy a9) (z6 1 fun u k=>?_)
 cases h
 exact zG k
 refine z6 3 fun u k=>?_
 cases h
 exact zG k
 refine yE k [1,4,6,7,174] [500000,500001,500002] (qc h (fun h=>?_) fun h=>?_)
 refine z8 1 ⟨[(8,vI 15)],[]⟩ fun u k=>?_
 refine aO ?_
 obtain rfl:=osi h
 exact zV k [(8,vI 15)]
 refine y4 [1,4,6,7] [500000,500001,500002] (zB (z7 (zA 7 ?_)))
 obtain ⟨d2,b1,h⟩:=aA h
 refine qP (W.Jz b1) (y1 1 [183] [] (qc h (fun h=>?_) fun h=>?_))
 refine z8 1 ⟨[(8,vI 14)],[]⟩ fun u k=>?_
 refine aO ?_
 obtain rfl:=osi h
 exact zV k [(8,vI 14)]
 refine y4 [] [] (z8 1 ⟨[(8,vI 0)],[]⟩ fun u k=>?_)
 obtain rfl:=osi h
 exact zV k [(8,vI 0)]
theorem W.Nk {st r} (h:tF st=some r):PC G.P 123 [(.agg (aB st))] [] (.agg [(.row (.top 1) 4),(.row (.top 2) 36),(.row (.top 3) 4),(.row (.top 4) 3),(.row (.top 5) 4)]) [(0,.box [(.row (.top 1) 4),(.row (.top 2) 36),(.row (.top 3) 4),(.row (.top 4) 3),(.row (.top 5) 4)]),(1,.row 4 [] (List.map cB r.Cut)),(2,.row 36 [(0,4)] (List.map (cS cB) r.Holes)),(3,.row 4 [] (List.map cB r.Done)),(4,.row 3 [] (List.map cI r.Joints)),(5,.row 4 [] (List.map cB r.Fallen))]:=by
 refine zU G Tryz.func123 (yK [0] [] (y3 2 [1,2] [1,2] (zB (sV [(0,[5]),(3,[5,600003]),(4,[9]),(7,[9,600007]),(8,[13]),(11,[13,600011]),(12,[17]),(15,[17,600015]),(17,[3])] [(0,[5]),(3,[600003]),(4,[9]),(7,[600007]),(8,[13]),(11,[600011]),(12,[17]),(15,[600015]),(17,[3])] [] [(0,[9,13,17,3]),(1,[5,9,13,17,3]),(2,[5,9,13,17,3]),(3,[9,13,17,3]),(4,[5,600003,13,17,3]),(5,[5,600003,9,13,17,3]),(6,[5,600003,9,13,17,3]),(7,[13,17,3]),(8,[5,600003,9,600007,17,3]),(9,[5,600003,9,600007,13,17,3]),(10,[5,600003,9,600007,13,17,3]),(11,[17,3]),(12,[5,600003,9,600007,13,600011,3]),(13,[5,600003,9,600007,13,600011,17,3]),(14,[5,600003,9,600007,13,600011,17,3]),(15,[3]),(16,[3]),(17,[5,600003,9,600007,13,600011,17,600015])] [(0,[600003,9,600007,13,600011,17,600015,3]),(1,[5,600003,9,600007,13,600011,17,600015,3]),(2,[5,600003,9,600007,13,600011,17,600015,3]),(3,[9,600007,13,600011,17,600015,3]),(4,[5,600003,600007,13,600011,17,600015,3]),(5,[5,600003,9,600007,13,600011,17,600015,3]),(6,[5,600003,9,600007,13,600011,17,600015,3]),(7,[13,600011,17,600015,3]),(8,[5,600003,9,600007,600011,17,600015,3]),(9,[5,600003,9,600007,13,600011,17,600015,3]),(10,[5,600003,9,600007,13,600011,17,600015,3]),(11,[17,600015,3]),(12,[5,600003,9,600007,13,600011,600015,3]),(13,[5,600003,9,600007,13,600011,17,600015,3]),(14,[5,600003,9,600007,13,600011,17,600015,3]),(15,[3]),(16,[3]),(17,[5,600003,9,600007,13,600011,17,600015])] 18 (by kernel_rfl) (by kernel_rfl) [600003,600007,600011,600015,3,17,13,9,5] (by kernel_rfl) (by kernel_rfl) (Gh (e:=4) (d:=5) (es:=(List.map cB [])) (by kernel_rfl) (by kernel_rfl) (by kernel_rfl) (by kernel_rfl) (by kernel_rfl) (by kernel_rfl) (dN 2 ?_))))))
 obtain ⟨l9,b4,h⟩:=aA h
 refine Qx (c:=cB) (l:=[]) (l2:=st.Cut) (x:=(sB st.Cut)) (g:=5) (g2:=600003) (e:=4) (sz:=1) (d:=8) (by kernel_rfl) (by kernel_rfl) (by kernel_rfl) (by kernel_rfl) (by kernel_rfl) (fun _=>rfl) b4 (by kernel_rfl) (by kernel_rfl) (by kernel_rfl) (by kernel_rfl) (by kernel_rfl) (Gh (e:=4) (d:=9) (es:=(List.map cB [])) (by kernel_rfl) (by kernel_rfl) (by kernel_rfl) (by kernel_rfl) (by kernel_rfl) (by kernel_rfl) (dN 2 ?_))
 obtain ⟨b1,a8,h⟩:=aA h
 refine Qx (c:=cB) (l:=[]) (l2:=st.Done) (x:=(sB st.Done)) (g:=9) (g2:=600007) (e:=4) (sz:=1) (d:=12) (by kernel_rfl) (by kernel_rfl) (by kernel_rfl) (by kernel_rfl) (by kernel_rfl) (fun _=>rfl) a8 (by kernel_rfl) (by kernel_rfl) (by kernel_rfl) (by kernel_rfl) (by kernel_rfl) (Gh (e:=3) (d:=13) (es:=(List.map cI [])) (by kernel_rfl) (by kernel_rfl) (by kernel_rfl) (by kernel_rfl) (by kernel_rfl) (by kernel_rfl) (dN 2 ?_))
 obtain ⟨b2,a9,h⟩:=aA h
 refine Qx (c:=cI) (l:=[]) (l2:=st.Joints) (x:=(sI st.Joints)) (g:=13) (g2:=600011) (e:=3) (sz:=1) (d:=16) (by kernel_rfl) (by kernel_rfl) (by kernel_rfl) (by kernel_rfl) (by kernel_rfl) (fun _=>rfl) a9 (by kernel_rfl) (by kernel_rfl) (by kernel_rfl) (by kernel_rfl) (by kernel_rfl) (Gh (e:=4) (d:=17) (es:=(List.map cB [])) (by kernel_rfl) (by kernel_rfl) (by kernel_rfl) (by kernel_rfl) (by kernel_rfl) (by kernel_rfl) (dN 2 ?_))
 obtain ⟨b3,b0,h⟩:=aA h
 refine Qx (c:=cB) (l:=[]) (l2:=st.Fallen) (x:=(sB st.Fallen)) (g:=17) (g2:=600015) (e:=4) (sz:=1) (d:=20) (by kernel_rfl) (by kernel_rfl) (by kernel_rfl) (by kernel_rfl) (by kernel_rfl) (fun _=>rfl) b0 (by kernel_rfl) (by kernel_rfl) (by kernel_rfl) (by kernel_rfl) (by kernel_rfl) (dN 1 (wJ (g:=3) (ob:=.box [.nl,.nl,.nl,.nl,.nl]) (v:=(.ptr 3 0)) (by kernel_rfl) (by kernel_rfl) (by kernel_rfl) (by kernel_rfl) (by kernel_rfl) (by kernel_rfl) (dE (oN 1 (zO fun u k=>?_)))))
 refine yE k [1,2,3] [1,2,3,600003,600007,600011,600015] (zB (y3 1 [1,2,3,4] [1,2,3,600003,600007,600011,600015] (zC ?_)))
 obtain ⟨a1,a5,h⟩:=aA h
 refine ql a5 (fun a7=>⟨[(1,.ptr 500000 0),(2,.ptr 500001 0),(3,.ptr 500002 0),(4,vI a7.1)],[(500000,.box (aB st)),(500001,.box [.nl,.nl,.nl,.nl,.nl]),(500002,.box [(ro 500003 4),(ro 500004 36),(ro 500005 4),(ro 500006 3),(ro 500007 4)]),(500003,wB 4 l9),(500004,.row 36 [(0,4)] (List.map (cS cB) a7.2)),(500005,wB 4 b1),(500006,wI 3 b2),(500007,wB 4 b3)]⟩) (fun a1=>(.exit 0,⟨[(2,.ptr 500000 0),(3,.ptr 500001 0)],[(500000,.box [.nl,.nl,.nl,.nl,.nl]),(500001,.box [(ro 500002 4),(ro 500003 36),(ro 500004 4),(ro 500005 3),(ro 500006 4)]),(500002,wB 4 l9),(500003,.row 36 [(0,4)] (List.map (cS cB) a1)),(500004,wB 4 b1),(500005,wI 3 b2),(500006,wB 4 b3)]⟩)) (sp [.row (.box 3 1) 800000 36 [(0,4)]] [(1,500000),(2,500001),(3,500002),(600003,500003),(600007,500005),(600011,500006),(600015,500007),(800000,500004)]) (fun a7 r h=>?_) fun u k=>?_
 refine zB (z7 (zA 3 (qL (cS cB) st.Holes (y1 1 [1,2,3,4,26] [500000,500001,500002,500003,500004,500005,500006,500007] (qc h (fun h=>?_) fun h=>?_)))))
 refine y4 [1,2,3,4] [500000,500001,500002,500003,500004,500005,500006,500007] (zB (zC (sV [(2,[31]),(8,[31,600008]),(9,[600008,38])] [(2,[31]),(8,[600008]),(9,[38])] [] [(0,[31,600008,38]),(1,[31,600008,38]),(3,[31]),(4,[31]),(5,[31]),(6,[31]),(7,[31])] [(0,[31,600008,38]),(1,[31,600008,38]),(2,[600008,38]),(3,[31,600008,38]),(4,[31,600008,38]),(5,[31,600008,38]),(6,[31,600008,38]),(7,[31,600008,38]),(8,[38])] 10 (by kernel_rfl) (by kernel_rfl) [600008,38,31] (by kernel_rfl) (by kernel_rfl) (dN 2 (Gh (e:=4) (d:=31) (es:=(List.map cB [])) (by kernel_rfl) (by kernel_rfl) (by kernel_rfl) (by kernel_rfl) (by kernel_rfl) (by kernel_rfl) (dN 3 ?_))))))
 obtain ⟨a6,a4,h⟩:=aA h
 refine dX (cS cB) a4 (dN 1 ?_)
 obtain ⟨a0,a2,h⟩:=aA h
 refine Qx (c:=cB) (l:=[]) (l2:=a6) (x:=(sB a6)) (g:=31) (g2:=600008) (e:=4) (sz:=1) (d:=37) (by kernel_rfl) (by kernel_rfl) (by kernel_rfl) (by kernel_rfl) (by kernel_rfl) (fun _=>rfl) a2 (by kernel_rfl) (by kernel_rfl) (by kernel_rfl) (by kernel_rfl) (by kernel_rfl) (AX (c:=(cS cB)) (c2:=cB) (e:=36) (e':=4) (d:=600008) (T:=38) (l:=a0) (x:=a0) (by kernel_rfl) (by kernel_rfl) (by kernel_rfl) (by kernel_rfl) rfl (by kernel_rfl) (by kernel_rfl) (by kernel_rfl) (by kernel_rfl) (dE ?_))
 obtain ⟨b5,a3,h⟩:=aA h
 refine UR (NZ (c:=(cS cB)) (l:=a7.2) (l2:=[a0]) (g:=500004) (T:=38) (e:=36) (J:=[(0,4)]) (sz:=1) (d:=39) (by kernel_rfl) (by kernel_rfl) (by kernel_rfl) (by kernel_rfl) a3) (oN 2 (zO fun u k=>?_))
 refine aF (yE k [1,2,3,4] [500000,500001,500002,500003,500004,500005,500006,500007] (zD (z6 3 fun u k=>?_)))
 cases h
 exact zH k
 refine zL 0 fun u k=>?_
 refine aR ?_
 cases h
 exact sP k rfl (sp [] [(500001,500000),(500002,500001),(500003,500002),(500004,500003),(500005,500004),(500006,500005),(500007,500006)])
 refine zQ (yE k [2,3] [500000,500001,500002,500003,500004,500005,500006] (z8 2 ⟨[(2,.ptr 500000 0)],[(500000,.box [(ro 500002 4),(ro 500003 36),(ro 500004 4),(ro 500005 3),(ro 500006 4)]),(500002,wB 4 l9),(500003,.row 36 [(0,4)] (List.map (cS cB) a1)),(500004,wB 4 b1),(500005,wI 3 b2),(500006,wB 4 b3)]⟩ fun u k=>?_))
 obtain rfl:=osi h
 exact qW k [(2,.ptr 0 0)] (sp [] [(500000,0),(500002,1),(500003,2),(500004,3),(500005,4),(500006,5)])
theorem W.Np {es st x2 r} (h:gF es st x2=some r):PC G.P 56 [(.sl (List.map bF es)),(.agg (aB st)),(.agg (bM x2))] [] (.agg [(.row (.top 1) 4),(.row (.top 2) 36),(.row (.top 3) 4),(.row (.top 4) 3),(.row (.top 5) 4)]) [(0,.box [(.row (.top 1) 4),(.row (.top 2) 36),(.row (.top 3) 4),(.row (.top 4) 3),(.row (.top 5) 4)]),(1,.row 4 [] (List.map cB r.Cut)),(2,.row 36 [(0,4)] (List.map (cS cB) r.Holes)),(3,.row 4 [] (List.map cB r.Done)),(4,.row 3 [] (List.map cI r.Joints)),(5,.row 4 [] (List.map cB r.Fallen))]:=by
 refine zU G Tryz.func56 (yK [0,1,2] [] (y3 3 [0,4,5,6] [4,5,6] (z7 (zA 1 ?_))))
 obtain ⟨r2,c9,h⟩:=aA h
 refine qC [] [(0,700050),(1,700051),(2,700052),(3,700053),(4,700054),(5,700055)] (W.Nk c9) (y1 2 [0,5,6,7] [5,6,7,700051,700052,700053,700054,700055] (bV (fun (a1:(List Bool)×(List (List Bool))×(List Bool)×(List Int))=>⟨[(0,bC es),(6,.ptr 500000 0),(7,.ptr 500001 0)],[(500000,.box [.nl,.nl,.nl,.nl,.nl]),(500001,.box [(ro 500002 4),(ro 500003 36),(ro 500004 4),(ro 500005 3),(ro 500006 4)]),(500002,wB 4 a1.1),(500003,.row 36 [(0,4)] (List.map (cS cB) a1.2.1)),(500004,wB 4 a1.2.2.1),(500005,wI 3 a1.2.2.2),(500006,wB 4 r2.Fallen)]⟩) (kS es r2) r (by kernel_rfl) (fun a1 h=>?_) ?_))
 refine zB (y3 1 [0,6,7,9] [500000,500001,500002,500003,500004,500005,500006] (zC ?_))
 obtain ⟨b4,b9,h⟩:=aA h
 refine ql b9 (fun a2=>⟨[(0,bC es),(6,.ptr 500000 0),(7,.ptr 500001 0),(9,vI a2.1)],[(500000,.box [.nl,.nl,.nl,.nl,.nl]),(500001,.box [(ro 500002 4),(ro 500003 36),(ro 500004 4),(ro 500005 3),(ro 500006 4)]),(500002,wB 4 a1.1),(500003,.row 36 [(0,4)] (List.map (cS cB) a1.2.1)),(500004,wB 4 a1.2.2.1),(500005,wI 3 a1.2.2.2),(500006,wB 4 a2.2)]⟩) (fun b4=>(.exit 2,⟨[(6,.ptr 500000 0),(7,.ptr 500001 0)],[(500000,.box [.nl,.nl,.nl,.nl,.nl]),(500001,.box [(ro 500002 4),(ro 500003 36),(ro 500004 4),(ro 500005 3),(ro 500006 4)]),(500002,wB 4 a1.1),(500003,.row 36 [(0,4)] (List.map (cS cB) a1.2.1)),(500004,wB 4 a1.2.2.1),(500005,wI 3 a1.2.2.2),(500006,wB 4 b4)]⟩)) qH (fun a2 r h=>?_) fun u k=>?_
 refine zB (z7 (zA 3 (qL cB a2.2 (y1 1 [0,6,7,9,68] [500000,500001,500002,500003,500004,500005,500006] (qc h (fun h=>?_) fun h=>?_)))))
 refine y4 [0,6,7,9] [500000,500001,500002,500003,500004,500005,500006] (bV (fun (c4:(List Bool))=>⟨[(0,bC es),(6,.ptr 500000 0),(7,.ptr 500001 0),(9,vI a2.1)],[(500000,.box [.nl,.nl,.nl,.nl,.nl]),(500001,.box [(ro 500002 4),(ro 500003 36),(ro 500004 4),(ro 500005 3),(ro 500006 4)]),(500002,wB 4 a1.1),(500003,.row 36 [(0,4)] (List.map (cS cB) a1.2.1)),(500004,wB 4 a1.2.2.1),(500005,wI 3 a1.2.2.2),(500006,wB 4 c4)]⟩) (oG a2) r (by kernel_rfl) (fun c4 h=>?_) ?_)
 refine zD (z6 3 fun u k=>?_)
 cases h
 exact zH k
 refine zC (zB ?_)
 obtain ⟨c6,b6,h⟩:=aA h
 refine zT ⟨[(0,bC es),(6,.ptr 500000 0),(7,.ptr 500001 0),(9,vI a2.1),(90,vB c6)],[(500000,.box [.nl,.nl,.nl,.nl,.nl]),(500001,.box [(ro 500002 4),(ro 500003 36),(ro 500004 4),(ro 500005 3),(ro 500006 4)]),(500002,wB 4 a1.1),(500003,.row 36 [(0,4)] (List.map (cS cB) a1.2.1)),(500004,wB 4 a1.2.2.1),(500005,wI 3 a1.2.2.2),(500006,wB 4 a2.2)]⟩ ?_ fun u k=>?_
 replace h:=b6
 refine zA 3 ?_
 obtain ⟨d0,b8,h⟩:=aA h
 refine qV [500002,500003,500004,500005,500006] (W.yH b8) (zA 1 (qB h [0,6,7,9,75] [500000,500001,500002,500003,500004,500005,500006] [75] (fun h=>?_) fun h=>?_))
 refine zA 3 ?_
 obtain ⟨d1,a6,h⟩:=aA h
 refine qI cB a6 (qR cB a6 (zA 1 (qB h [0,6,7,9,75,81] [500000,500001,500002,500003,500004,500005,500006] [81] (fun h=>?_) fun h=>?_)))
 refine zA 3 ?_
 obtain ⟨d2,a7,h⟩:=aA h
 refine qI cI a7 (qR cI a7 (z6 4 fun u k=>?_))
 cases h
 exact zG k
 refine z6 9 fun u k=>?_
 cases h
 exact zG k
 refine z6 15 fun u k=>?_
 cases h
 exact zG k
 refine yE k [0,6,7,9,90] [500000,500001,500002,500003,500004,500005,500006] (qc h (fun h=>?_) fun h=>?_)
 refine zD (zA 3 ?_)
 obtain ⟨d3,a8,h⟩:=aA h
 refine qI cB a8 (qS cB true a8 (zP fun u k=>?_))
 exact aF (aV (List.set a2.2 (Int.toNat a2.1) true) h k (here (by kernel_rfl)))
 refine zM fun u k=>?_
 exact aF (aV a2.2 h k (here (by kernel_rfl)))
 refine zL 2 fun u k=>?_
 refine aR ?_
 cases h
 exact zF k
 refine zQ (yE k [6,7] [500000,500001,500002,500003,500004,500005,500006] (z8 2 ⟨[(6,.ptr 500000 0)],[(500000,.box [(ro 500002 4),(ro 500003 36),(ro 500004 4),(ro 500005 3),(ro 500006 4)]),(500002,wB 4 a1.1),(500003,.row 36 [(0,4)] (List.map (cS cB) a1.2.1)),(500004,wB 4 a1.2.2.1),(500005,wI 3 a1.2.2.2),(500006,wB 4 b4)]⟩ fun u k=>?_))
 obtain rfl:=osi h
 exact qW k [(6,.ptr 0 0)] (sp [] [(500000,0),(500002,1),(500003,2),(500004,3),(500005,4),(500006,5)])
 refine y3 3 [0,5,6,7,14] [5,6,7,700051,700052,700053,700054,700055] (qc h (fun h=>?_) fun h=>?_)
 refine qM 8 (dN 4 ?_)
 obtain ⟨a3,a4,h⟩:=aA h
 refine dI (cS cB) a4 (xM (by kernel_rfl) (Kr (c:=(cS cB)) (l:=r2.Holes) (i:=(Int.toNat x2.Piece)) (v:=(.row (.sub 700052 (Int.toNat x2.Piece) 0) 4)) (agg:=false) (sz:=1) (kk:=(.top 700052)) (e:=36) (off:=0) (J:=[(0,4)]) (by kernel_rfl) (by kernel_rfl) (by kernel_rfl) ((Bf a4).2) (by kernel_rfl)) (by kernel_rfl) (by kernel_rfl) (dN 2 (dE ?_)))
 obtain ⟨c8,a9,h⟩:=aA h
 refine Ed (Wh (c:=cB) (l:=a3) (i:=x2.Hole) (kd:=.i64) (kk:=(.sub 700052 (Int.toNat x2.Piece) 0)) (e:=4) (sz:=1) (by kernel_rfl) (zY (g:=700052) (i:=(Int.toNat x2.Piece)) (j:=0) (c:=(cS cB)) (c2:=cB) (e:=36) (J:=[(0,4)]) (l:=r2.Holes) (x:=a3) (l2:=a3) (by kernel_rfl) rfl ((Bf a4).2) rfl) a9 rfl) (Ed (Qo (c:=cB) (l:=a3) (i:=(Int.toNat x2.Hole)) (x:=c8) (x':=true) (v:=(vB true)) (agg:=false) (sz:=1) (kk:=(.sub 700052 (Int.toNat x2.Piece) 0)) (e:=4) (off:=0) (J:=[]) (o:=.row 36 [(0,4)] (List.map (cS cB) (List.set r2.Holes (Int.toNat x2.Piece) (List.set a3 (Int.toNat x2.Hole) true)))) (by kernel_rfl) (zY (g:=700052) (i:=(Int.toNat x2.Piece)) (j:=0) (c:=(cS cB)) (c2:=cB) (e:=36) (J:=[(0,4)]) (l:=r2.Holes) (x:=a3) (l2:=a3) (by kernel_rfl) rfl ((Bf a4).2) rfl) (by kernel_rfl) ((Bf a9).2) (by kernel_rfl) (by kernel_rfl) (Om (g:=700052) (i:=(Int.toNat x2.Piece)) (j:=0) (c:=(cS cB)) (e:=36) (J:=[(0,4)]) (l:=r2.Holes) (x:=a3) (x':=(List.set a3 (Int.toNat x2.Hole) true)) (by kernel_rfl) ((Bf a4).2) rfl)) (zO fun u k=>?_))
 exact aV (r2.Cut,(List.set r2.Holes (Int.toNat x2.Piece) (List.set a3 (Int.toNat x2.Hole) true)),r2.Done,r2.Joints) h k (sp [] [(6,500000),(7,500001),(700051,500002),(700052,500003),(700053,500004),(700054,500005),(700055,500006)])
 refine z7 (zA 4 ?_)
 obtain ⟨d4,b1,h⟩:=aA h
 refine qI cB b1 (qS cB true b1 (zP fun u k=>?_))
 refine yE k [0,5,6,7] [5,6,7,700051,700052,700053,700054,700055] (z7 (zA 6 ?_))
 obtain ⟨d5,b2,h⟩:=aA h
 refine qI cI b2 (qS cI x2.Joints b2 (zP fun u k=>?_))
 refine yE k [0,5,6,7] [5,6,7,700051,700052,700053,700054,700055] (y3 1 [0,5,6,7,8] [5,6,7,700051,700052,700053,700054,700055] (zC ?_))
 obtain ⟨b5,c3,h⟩:=aA h
 refine ql c3 (fun a0=>⟨[(0,bC es),(5,.ptr 500000 0),(6,.ptr 500001 0),(7,.ptr 500002 0),(8,vI a0.1)],[(500000,.box (bM x2)),(500001,.box [.nl,.nl,.nl,.nl,.nl]),(500002,.box [(ro 500003 4),(ro 500004 36),(ro 500005 4),(ro 500006 3),(ro 500007 4)]),(500003,wB 4 a0.2),(500004,.row 36 [(0,4)] (List.map (cS cB) r2.Holes)),(500005,wB 4 (List.set r2.Done (Int.toNat x2.Piece) true)),(500006,wI 3 (List.set r2.Joints (Int.toNat x2.Piece) x2.Joints)),(500007,wB 4 r2.Fallen)]⟩) (fun b5=>(.exit 0,⟨[(0,bC es),(6,.ptr 500000 0),(7,.ptr 500001 0)],[(500000,.box [.nl,.nl,.nl,.nl,.nl]),(500001,.box [(ro 500002 4),(ro 500003 36),(ro 500004 4),(ro 500005 3),(ro 500006 4)]),(500002,wB 4 b5),(500003,.row 36 [(0,4)] (List.map (cS cB) r2.Holes)),(500004,wB 4 (List.set r2.Done (Int.toNat x2.Piece) true)),(500005,wI 3 (List.set r2.Joints (Int.toNat x2.Piece) x2.Joints)),(500006,wB 4 r2.Fallen)]⟩)) (sp [] [(5,500000),(6,500001),(7,500002),(700051,500003),(700052,500004),(700053,500005),(700054,500006),(700055,500007)]) (fun a0 r h=>?_) fun u k=>?_
 refine zB (z7 (zA 2 (qL bF es (y1 1 [0,5,6,7,8,39] [500000,500001,500002,500003,500004,500005,500006,500007] (qc h (fun h=>?_) fun h=>?_)))))
 refine y4 [0,5,6,7,8] [500000,500001,500002,500003,500004,500005,500006,500007] (bV (fun (c5:(List Bool))=>⟨[(0,bC es),(5,.ptr 500000 0),(6,.ptr 500001 0),(7,.ptr 500002 0),(8,vI a0.1)],[(500000,.box (bM x2)),(500001,.box [.nl,.nl,.nl,.nl,.nl]),(500002,.box [(ro 500003 4),(ro 500004 36),(ro 500005 4),(ro 500006 3),(ro 500007 4)]),(500003,wB 4 c5),(500004,.row 36 [(0,4)] (List.map (cS cB) r2.Holes)),(500005,wB 4 (List.set r2.Done (Int.toNat x2.Piece) true)),(500006,wI 3 (List.set r2.Joints (Int.toNat x2.Piece) x2.Joints)),(500007,wB 4 r2.Fallen)]⟩) (oH a0) r (by kernel_rfl) (fun c5 h=>?_) ?_)
 refine zD (z6 3 fun u k=>?_)
 cases h
 exact zH k
 refine zC (zB ?_)
 obtain ⟨c7,b7,h⟩:=aA h
 refine gG ⟨[(0,bC es),(5,.ptr 500000 0),(6,.ptr 500001 0),(7,.ptr 500002 0),(8,vI a0.1),(59,vB c7)],[(500000,.box (bM x2)),(500001,.box [.nl,.nl,.nl,.nl,.nl]),(500002,.box [(ro 500003 4),(ro 500004 36),(ro 500005 4),(ro 500006 3),(ro 500007 4)]),(500003,wB 4 a0.2),(500004,.row 36 [(0,4)] (List.map (cS cB) r2.Holes)),(500005,wB 4 (List.set r2.Done (Int.toNat x2.Piece) true)),(500006,wI 3 (List.set r2.Joints (Int.toNat x2.Piece) x2.Joints)),(500007,wB 4 r2.Fallen)]⟩ [] [] [] [] [] 16 (by kernel_rfl) (by kernel_rfl) (by kernel_rfl) ?_ fun u k=>?_
 replace h:=b7
 refine dN 2 ?_
 obtain ⟨a5,c0,h⟩:=aA h
 refine dX bF c0 (dN 6 (bH (a5.A==x2.Piece) (fun b0=>⟨[(50,vB b0),(49,vB b0),(48,vI x2.Piece),(47,.ptr 500000 0),(46,vI a5.A),(45,.vptr (bF a5) 4),(44,.vptr (bF a5) 0),(43,vI a0.1),(42,bC es),(0,bC es),(5,.ptr 500000 0),(6,.ptr 500001 0),(7,.ptr 500002 0),(8,vI a0.1)],[(500000,.box (bM x2)),(500001,.box [.nl,.nl,.nl,.nl,.nl]),(500002,.box [(ro 500003 4),(ro 500004 36),(ro 500005 4),(ro 500006 3),(ro 500007 4)]),(500003,wB 4 a0.2),(500004,.row 36 [(0,4)] (List.map (cS cB) r2.Holes)),(500005,wB 4 (List.set r2.Done (Int.toNat x2.Piece) true)),(500006,wI 3 (List.set r2.Joints (Int.toNat x2.Piece) x2.Joints)),(500007,wB 4 r2.Fallen)]⟩) (by kernel_rfl) (fun hb=>?_) fun hb=>?_))
 replace h:=iD hb h
 refine dN 7 (dE (oN 2 (zO fun u k=>?_)))
 cases h
 exact zG k
 replace h:=iB hb h
 refine dN 2 ?_
 obtain ⟨d6,c1,h⟩:=aA h
 refine dX bF c1 (dN 4 (dE (oN 2 (zO fun u k=>?_))))
 cases h
 exact zG k
 refine yE k [0,5,6,7,8,59] [500000,500001,500002,500003,500004,500005,500006,500007] (qc h (fun h=>?_) fun h=>?_)
 refine zD (zA 3 ?_)
 obtain ⟨d7,b3,h⟩:=aA h
 refine qI cB b3 (qS cB true b3 (zP fun u k=>?_))
 exact aF (aV (List.set a0.2 (Int.toNat a0.1) true) h k (here (by kernel_rfl)))
 refine zM fun u k=>?_
 exact aF (aV a0.2 h k (here (by kernel_rfl)))
 refine zL 0 fun u k=>?_
 refine aR ?_
 cases h
 exact sP k rfl (sp [] [(500001,500000),(500002,500001),(500003,500002),(500004,500003),(500005,500004),(500006,500005),(500007,500006)])
 exact zQ (aV (b5,r2.Holes,(List.set r2.Done (Int.toNat x2.Piece) true),(List.set r2.Joints (Int.toNat x2.Piece) x2.Joints)) h k (here (by kernel_rfl)))
theorem W.FT {a r} (h:EF a=some r):PC G.P 58 [(.agg (bG a))] [] (.tup []) []:=by
 refine zU G Tryz.func58 (yK [0] [] (zD (z6 1 fun u k=>?_)))
 obtain rfl:=osi h
 exact xO k [] (here (by kernel_rfl)) (by kernel_rfl)
theorem W.Pm {l items r} (h:yY l items=some r):PC G.P 57 [(.agg (aQ l)),(.sl (List.map bM items)),(.fn 58 [])] [] (.tup [(.agg [(.row (.top 1) 4),(.sl (List.map (cS cB) r.1.Holes)),(.row (.top 2) 4),(.row (.top 3) 3),(.row (.top 4) 4)]),(vI r.2.1),(vI r.2.2.1)]) [(0,.box [(.row (.top 1) 4),(.sl (List.map (cS cB) r.2.2.2)),(.row (.top 2) 4),(.row (.top 3) 3),(.row (.top 4) 4)]),(1,.row 4 [] (List.map cB r.1.Cut)),(2,.row 4 [] (List.map cB r.1.Done)),(3,.row 3 [] (List.map cI r.1.Joints)),(4,.row 4 [] (List.map cB r.1.Fallen))]:=by
 refine zU G Tryz.func57 (yK [0,1,2] [] (y3 4 [1,2,3,6] [3,6] (z7 (zA 1 ?_))))
 obtain ⟨r2,a8,h⟩:=aA h
 refine qC [] [(0,700050)] (W.Ob a8) (y1 5 [1,2,3,6,9,10] [3,6,700050] (zB (y3 2 [1,2,3,6,9,10,22] [3,6,700050] (qc h (fun h=>?_) fun h=>?_))))
 refine z8 5 ⟨[(6,.ptr 6 0),(7,vI 0),(8,vI r2.2)],[(6,.box [.nl,.nl,.nl,.nl,.nl])]⟩ fun u k=>?_
 refine aO ?_
 obtain rfl:=osi h
 exact qW k [(6,.ptr 0 0),(7,vI 0),(8,vI r2.2)] (sp [.row (.box 6 0) 800000 4 [],.row (.box 6 2) 800001 4 [],.row (.box 6 3) 800002 3 [],.row (.box 6 4) 800003 4 [],.soft (.box 6 1)] [(6,0),(800000,1),(800001,2),(800002,3),(800003,4)])
 refine y4 [1,2,3,6,9] [3,6,700050] (zB (z7 (zA 1 (qL bM items (y1 1 [1,2,3,6,9,27] [3,6,700050] (qc h (fun h=>?_) fun h=>?_))))))
 refine z8 4 ⟨[(6,.ptr 6 0),(7,vI 0),(8,vI 4)],[(6,.box [.nl,.nl,.nl,.nl,.nl])]⟩ fun u k=>?_
 refine aO ?_
 obtain rfl:=osi h
 exact qW k [(6,.ptr 0 0),(7,vI 0),(8,vI 4)] (sp [.row (.box 6 0) 800000 4 [],.row (.box 6 2) 800001 4 [],.row (.box 6 3) 800002 3 [],.row (.box 6 4) 800003 4 [],.soft (.box 6 1)] [(6,0),(800000,1),(800001,2),(800002,3),(800003,4)])
 refine y4 [1,2,3,6,9] [3,6,700050] (z7 (zA 2 (qL bF r2.1 ?_)))
 obtain ⟨r4,a9,h⟩:=aA h
 refine qC [] [(0,700150),(1,700151),(2,700152),(3,700153),(4,700154),(5,700155)] (W.Vd a9) (y1 2 [1,2,3,6,9,11] [3,6,11,700050,700151,700152,700153,700154,700155] (zB (z7 (zA 1 (qL bM items (y1 1 [2,3,6,9,11,33,34,35] [3,6,11,700050,700151,700152,700153,700154,700155] ?_))))))
 refine zC ?_
 obtain ⟨a7,a6,h⟩:=aA h
 refine ql a6 (fun a1=>⟨[(2,.fn 58 []),(3,.ptr 500000 0),(6,.ptr 500001 0),(9,bC r2.1),(11,.ptr 500002 0),(33,Rn items),(34,vI (items.length:Int)),(35,vI a1.1)],[(500000,.box (aQ l)),(500001,.box [.nl,.nl,.nl,.nl,.nl]),(500002,.box [(ro 500003 4),(.sl (List.map (cS cB) a1.2.1)),(ro 500004 4),(ro 500005 3),(ro 500006 4)]),(500003,wB 4 a1.2.2.1),(500004,wB 4 a1.2.2.2.1),(500005,wI 3 a1.2.2.2.2.1),(500006,wB 4 a1.2.2.2.2.2)]⟩) (fun a7=>match a7 with | .inl a2=>(.ret,⟨[(6,.ptr 500000 0),(7,vI a2.1),(8,vI a2.2)],[(500000,.box [.nl,.nl,.nl,.nl,.nl])]⟩) | .inr a0=>(.exit 0,⟨[(6,.ptr 500000 0),(11,.ptr 500001 0)],[(500000,.box [.nl,.nl,.nl,.nl,.nl]),(500001,.box [(ro 500002 4),(.sl (List.map (cS cB) a0.1)),(ro 500003 4),(ro 500004 3),(ro 500005 4)]),(500002,wB 4 a0.2.1),(500003,wB 4 a0.2.2.1),(500004,wI 3 a0.2.2.2.1),(500005,wB 4 a0.2.2.2.2)]⟩)) (sp [.frz 700050,.frz 700152] [(3,500000),(6,500001),(11,500002),(700151,500003),(700153,500004),(700154,500005),(700155,500006)]) (fun a1 r h=>?_) (fun u k=>?_) (hout:=(by intro x;rcases x with _ | _ <;> rfl))
 refine y3 1 [2,3,6,9,11,33,34,35,36] [500000,500001,500002,500003,500004,500005,500006] (zB (qc h (fun h=>?_) fun h=>?_))
 refine y4 [2,3,6,9,11,33,34,35] [500000,500001,500002,500003,500004,500005,500006] (zB (zC (z7 (zA 1 ?_))))
 obtain ⟨b2,a5,h⟩:=aA h
 refine qX bM a5 (y1 4 [2,3,6,9,11,12,13,33,34,35] [13,500000,500001,500002,500003,500004,500005,500006] (z7 (zA 4 (xV [.frz 500003,.frz 500004,.frz 500005,.frz 500006] (by kernel_rfl) ?_))))
 obtain ⟨b0,a3,h⟩:=aA h
 refine qC [] [(0,700200),(1,700201),(2,700202),(3,700203),(4,700204),(5,700205)] (W.EH a3) (xV [.frz 700202] (by kernel_rfl) (y1 6 [2,3,6,9,11,12,14,15,33,34,35] [14,500000,500001,500002,700201,700203,700204,700205] (zB (y3 2 [2,3,6,9,11,12,14,15,33,34,35,49] [14,500000,500001,500002,700201,700203,700204,700205] (qc h (fun h=>?_) fun h=>?_)))))
 refine z8 6 ⟨[(6,.ptr 500001 0),(7,vI a1.1),(8,vI b0.2)],[(500001,.box [.nl,.nl,.nl,.nl,.nl])]⟩ fun u k=>?_
 refine aO (aT (aO ?_))
 cases h
 exact sP k rfl (sp [] [(500001,500000)])
 refine y4 [2,3,6,9,11,14,33,34,35] [14,500000,500001,500002,700201,700203,700204,700205] (y3 2 [2,3,6,9,11,33,34,35] [500000,500001,500002,700201,700203,700204,700205] (zD (zA 2 ?_)))
 obtain ⟨b1,a4,h⟩:=aA h
 refine qV [700201,700203,700204,700205] (W.FT a4) (zP fun u k=>?_)
 refine aF (yE k [2,3,6,9,11,33,34,35] [500000,500001,500002,700201,700203,700204,700205] (zD (z6 2 fun u k=>?_)))
 cases h
 exact Lx k (sp [] [(500000,500000),(500001,500001),(500002,500002),(700201,500003),(700203,500004),(700204,500005),(700205,500006)])
 refine zL 0 fun u k=>?_
 refine aR ?_
 cases h
 exact sP k rfl (sp [] [(500001,500000),(500002,500001),(500003,500002),(500004,500003),(500005,500004),(500006,500005)])
 rcases a7 with a2 | a0
 refine aT (aO ?_)
 obtain rfl:=osi h
 exact qW k [(6,.ptr 0 0),(7,vI a2.1),(8,vI a2.2)] (sp [.row (.box 500000 0) 800000 4 [],.row (.box 500000 2) 800001 4 [],.row (.box 500000 3) 800002 3 [],.row (.box 500000 4) 800003 4 [],.soft (.box 500000 1)] [(500000,0),(800000,1),(800001,2),(800002,3),(800003,4)])
 refine zQ (yE k [6,11] [500000,500001,500002,500003,500004,500005] (z8 4 ⟨[(6,.ptr 500000 0),(7,vI 0),(8,vI 0)],[(500000,.box [(ro 500002 4),(.sl (List.map (cS cB) a0.1)),(ro 500003 4),(ro 500004 3),(ro 500005 4)]),(500002,wB 4 a0.2.1),(500003,wB 4 a0.2.2.1),(500004,wI 3 a0.2.2.2.1),(500005,wB 4 a0.2.2.2.2)]⟩ fun u k=>?_))
 obtain rfl:=osi h
 exact qW k [(6,.ptr 0 0),(7,vI 0),(8,vI 0)] (sp [] [(500000,0),(500002,1),(500003,2),(500004,3),(500005,4)])
theorem W.AA {l items r} (h:Ux l items=some r):PC G.P 22 [(.agg (aQ l)),(.sl (List.map bM items))] [] (.tup [(.agg [(.row (.top 1) 4),(.sl (List.map (cS cB) r.1.Holes)),(.row (.top 2) 4),(.row (.top 3) 3),(.row (.top 4) 4)]),(vI r.2.1),(vI r.2.2.1)]) [(0,.box [(.row (.top 1) 4),(.sl (List.map (cS cB) r.2.2.2)),(.row (.top 2) 4),(.row (.top 3) 3),(.row (.top 4) 4)]),(1,.row 4 [] (List.map cB r.1.Cut)),(2,.row 4 [] (List.map cB r.1.Done)),(3,.row 3 [] (List.map cI r.1.Joints)),(4,.row 4 [] (List.map cB r.1.Fallen))]:=by
 refine zU G Tryz.func22 (yK [0,1] [] (y3 4 [1,2,4] [2,4] (z7 (zA 2 ?_))))
 obtain ⟨r2,a0,h⟩:=aA h
 refine qC [] [(0,700100),(1,700101),(2,700102),(3,700103),(4,700104)] (W.Pm a0) (y1 6 [4,5,6] [4,700101,700102,700103,700104] (zN fun u k=>?_))
 obtain rfl:=osi h
 exact qW k [(4,.ptr 0 0),(5,vI r2.2.1),(6,vI r2.2.2.1)] (sp [] [(4,0),(700101,1),(700102,2),(700103,3),(700104,4)])
theorem W.Il {l items r} (h:gK l items=some r):PC G.P 59 [(.agg (aQ l)),(.sl (List.map bM items))] [] (.tup [(.row (.top 0) 40),(vI r.2.1),(vI r.2.2)]) [(0,.row 40 [] (List.map aB r.1))]:=by
 refine zU G Tryz.func59 (yK [0,1] [] (y3 4 [1,2] [2] (z7 (zA 1 ?_))))
 obtain ⟨r2,b1,h⟩:=aA h
 refine qC [] [(0,700050)] (W.yG b1) (y1 1 [1,2,7] [2,700050] (z7 (zA 1 ?_)))
 obtain ⟨r4,b2,h⟩:=aA h
 refine qC [] [(0,700051),(1,700052),(2,700053),(3,700054),(4,700055),(5,700056)] (W.yI b2) (y1 2 [1,2,7,8] [2,8,700050,700052,700053,700054,700055,700056] (y3 1 [1,2,7,8,9] [2,8,9,700050,700052,700053,700054,700055,700056] (zB (y3 1 [1,2,7,8,9,10] [2,8,9,700050,700052,700053,700054,700055,700056] (zC ?_)))))
 obtain ⟨a3,a9,h⟩:=aA h
 refine ql a9 (fun a0=>⟨[(1,Rn items),(2,.ptr 500000 0),(7,bC r2),(8,.ptr 500001 0),(9,ro 500002 40),(10,vI a0.1)],[(500000,.box (aQ l)),(500001,.box [(sB a0.2.1),(.sl (List.map (cS cB) a0.2.2.1)),(sB a0.2.2.2.1),(sI a0.2.2.2.2.1),(sB a0.2.2.2.2.2.1)]),(500002,kY 40 a0.2.2.2.2.2.2)]⟩) (fun a3=>match a3 with | .inl a1=>(.ret,⟨[(4,ro 500000 40),(5,vI a1.1),(6,vI a1.2)],[(500000,kY 40 [])]⟩) | .inr a2=>(.exit 0,⟨[(9,ro 500000 40)],[(500000,kY 40 a2)]⟩)) (sp [.frz 700050,.frz 700052,.frz 700053,.frz 700054,.frz 700055,.frz 700056] [(2,500000),(8,500001),(9,500002)]) (fun a0 r h=>?_) (fun u k=>?_) (hout:=(by intro x;rcases x with _ | _ <;> rfl))
 refine zB (z7 (zA 2 (qL bM items (y1 1 [1,2,7,8,9,10,19] [500000,500001,500002] (qc h (fun h=>?_) fun h=>?_)))))
 refine y4 [1,2,7,8,9,10] [500000,500001,500002] (zB (zC (zB (qM 7 (dN 5 ?_)))))
 obtain ⟨b5,a7,h⟩:=aA h
 refine dX bM a7 (dN 1 (dE ?_))
 obtain ⟨b0,a5,h⟩:=aA h
 refine oP (W.Hw a5) (oN 1 (zO fun u k=>?_))
 refine yE k [1,2,7,8,9,10,11] [500000,500001,500002] (zB (y3 2 [1,2,7,8,9,10,11,31] [500000,500001,500002] (qc h (fun h=>?_) fun h=>?_)))
 refine z8 5 ⟨[(4,ro 4 40),(5,vI a0.1),(6,vI b0)],[(4,kY 40 [])]⟩ fun u k=>?_
 refine aO (aT (aO ?_))
 cases h
 exact sP k rfl (sp [] [(4,500000)])
 refine y4 [1,2,7,8,9,10] [500000,500001,500002] (zB (qM 6 (dN 4 ?_)))
 obtain ⟨b6,a8,h⟩:=aA h
 refine dX bM a8 (dN 1 (dE ?_))
 obtain ⟨b4,a6,h⟩:=aA h
 refine oC [] [(0,700300),(1,700301),(2,700302),(3,700303),(4,700304),(5,700305)] (W.Np a6) (UW [.frz 700302] (by kernel_rfl) (oN 1 (zO fun u k=>?_)))
 refine yE k [1,2,7,8,9,10] [500000,500001,500002,700301,700303,700304,700305] (zD (zA 2 (xV [.frz 700301,.frz 700303,.frz 700304,.frz 700305] (by kernel_rfl) (zA 1 ?_))))
 obtain ⟨b3,a4,h⟩:=aA h
 refine qA aB 5 a4 (z6 1 fun u k=>?_)
 refine aF (yE k [1,2,7,8,9,10] [500000,500001,500002] (zD (z6 3 fun u k=>?_)))
 cases h
 exact zH k
 refine zL 0 fun u k=>?_
 refine aR ?_
 cases h
 exact sP k rfl (sp [] [(500002,500000)])
 rcases a3 with a1 | a2
 refine aT (aO ?_)
 obtain rfl:=osi h
 exact qW k [(4,ro 0 40),(5,vI a1.1),(6,vI a1.2)] (sp [] [(500000,0)])
 refine zQ (yE k [9] [500000] (z8 4 ⟨[(4,ro 500000 40),(5,vI 0),(6,vI 0)],[(500000,kY 40 a2)]⟩ fun u k=>?_))
 obtain rfl:=osi h
 exact qW k [(4,ro 0 40),(5,vI 0),(6,vI 0)] (sp [] [(500000,0)])
theorem W.Bd {l items r} (h:oQ l items=some r):PC G.P 23 [(.agg (aQ l)),(.sl (List.map bM items))] [] (.tup [(.agg (aB r.1)),(vI r.2.1),(vI r.2.2.1)]) [(0,.box [(.sl (List.map cB r.2.2.2.1)),(.sl (List.map (cS cB) r.2.2.2.2.1)),(.sl (List.map cB r.2.2.2.2.2.1)),(.sl (List.map cI r.2.2.2.2.2.2.1)),(.sl (List.map cB r.2.2.2.2.2.2.2))])]:=by
 refine zU G Tryz.func23 (yK [0,1] [] (y3 4 [1,2,4] [2,4] (z7 (zA 1 ?_))))
 obtain ⟨r2,a1,h⟩:=aA h
 refine qP (W.Fj a1) (y1 1 [1,2,4,7] [2,4] (zB (y3 2 [1,2,4,7,14] [2,4] (qc h (fun h=>?_) fun h=>?_))))
 refine z8 5 ⟨[(4,.ptr 4 0),(5,vI 0),(6,vI r2)],[(4,.box [.nl,.nl,.nl,.nl,.nl])]⟩ fun u k=>?_
 refine aO ?_
 obtain rfl:=osi h
 exact qW k [(4,.ptr 0 0),(5,vI 0),(6,vI r2)] (sp [.soft (.box 4 0),.soft (.box 4 1),.soft (.box 4 2),.soft (.box 4 3),.soft (.box 4 4)] [(4,0)])
 refine y4 [1,2,4] [2,4] (zB (z7 (zA 1 (qL bM items (y1 1 [1,2,4,19] [2,4] (qc h (fun h=>?_) fun h=>?_))))))
 refine z8 4 ⟨[(4,.ptr 4 0),(5,vI 0),(6,vI 4)],[(4,.box [.nl,.nl,.nl,.nl,.nl])]⟩ fun u k=>?_
 refine aO ?_
 obtain rfl:=osi h
 exact qW k [(4,.ptr 0 0),(5,vI 0),(6,vI 4)] (sp [.soft (.box 4 0),.soft (.box 4 1),.soft (.box 4 2),.soft (.box 4 3),.soft (.box 4 4)] [(4,0)])
 refine y4 [1,2,4] [2,4] (zB (z7 (zA 1 (qL bM items (y1 1 [1,2,4,23] [2,4] (qc h (fun h=>?_) fun h=>?_))))))
 refine z7 (zA 1 ?_)
 obtain ⟨r6,a2,h⟩:=aA h
 refine qC [] [(0,700050),(1,700051),(2,700052),(3,700053),(4,700054),(5,700055)] (W.yI a2) (y1 3 [4,5,6] [4,700051,700052,700053,700054,700055] (zN fun u k=>?_))
 refine aO ?_
 obtain rfl:=osi h
 exact qW k [(4,.ptr 0 0),(5,vI 0),(6,vI 0)] (sp [.frz 700051,.frz 700052,.frz 700053,.frz 700054,.frz 700055] [(4,0)])
 refine y4 [1,2,4] [2,4] (z7 (zA 2 ?_))
 obtain ⟨r8,a3,h⟩:=aA h
 refine qC [] [(0,700100)] (W.Il a3) (y1 7 [4,8,9,10] [4,700100] (zB (y3 2 [4,8,9,10,34] [4,700100] (qc h (fun h=>?_) fun h=>?_))))
 refine z8 6 ⟨[(4,.ptr 4 0),(5,vI r8.2.1),(6,vI r8.2.2)],[(4,.box [.nl,.nl,.nl,.nl,.nl])]⟩ fun u k=>?_
 refine aO ?_
 obtain rfl:=osi h
 exact qW k [(4,.ptr 0 0),(5,vI r8.2.1),(6,vI r8.2.2)] (sp [.soft (.box 4 0),.soft (.box 4 1),.soft (.box 4 2),.soft (.box 4 3),.soft (.box 4 4)] [(4,0)])
 refine y4 [4,8] [4,700100] (z7 (zA 2 (qL aB r8.1 (zA 1 ?_))))
 obtain ⟨a4,a0,h⟩:=aA h
 refine qI aB a0 (qR aB a0 (y1 3 [4,5,6] [4] (zN fun u k=>?_)))
 obtain rfl:=osi h
 exact qW k [(4,.ptr 0 0),(5,vI 0),(6,vI 0)] (sp [] [(4,0)])
theorem W.FR {l items r} (h:Qs l items=some r):PC G.P 24 [(.agg (aQ l)),(.sl (List.map bM items))] [] (vI r) []:=by
 refine zU G Tryz.func24 (yK [0,1] [] (y3 2 [1,2] [2] (z7 (zA 2 ?_))))
 obtain ⟨r2,a5,h⟩:=aA h
 refine qC [] [(0,700100),(1,700101),(2,700102),(3,700103),(4,700104)] (W.AA a5) (y1 8 [5,7] [5,700101,700102,700103,700104] (zB (y3 2 [5,7,18] [5,700101,700102,700103,700104] (qc h (fun h=>?_) fun h=>?_))))
 refine z8 2 ⟨[(4,vI r2.2.2.1)],[]⟩ fun u k=>?_
 refine aO ?_
 obtain rfl:=osi h
 exact zV k [(4,vI r2.2.2.1)]
 refine y4 [5] [5,700101,700102,700103,700104] (zB (z7 (zA 2 ?_)))
 obtain ⟨r6,a6,h⟩:=aA h
 refine qV [700102] (W.nW a6) (zP fun u k=>?_)
 refine yE k [5,22] [5,700101,700102,700103,700104] (qc h (fun h=>?_) fun h=>?_)
 refine z8 1 ⟨[(4,vI 12)],[]⟩ fun u k=>?_
 refine aO ?_
 obtain rfl:=osi h
 exact zV k [(4,vI 12)]
 refine y4 [5] [5,700101,700102,700103,700104] (zB (z7 (zA 2 (qL (cS cB) r2.1.Holes (y1 1 [24,25,26] [] (zC ?_))))))
 obtain ⟨a3,a2,h⟩:=aA h
 refine ql a2 (fun a4=>⟨[(24,.sl (List.map (cS cB) r2.1.Holes)),(25,vI (r2.1.Holes.length:Int)),(26,vI a4)],[]⟩) (fun a3=>match a3 with | .inl a7=>(.ret,⟨[(4,vI 12)],[]⟩) | .inr a8=>(.exit 0,⟨[],[]⟩)) qH (fun a4 r h=>?_) (fun u k=>?_) (hout:=(by intro x;rcases x with _ | _ <;> rfl))
 refine y3 1 [24,25,26,27] [] (zB (qc h (fun h=>?_) fun h=>?_))
 refine y4 [24,25,26] [] (zB (zC (z7 ?_)))
 obtain ⟨b0,a1,h⟩:=aA h
 refine qX (cS cB) a1 (y1 2 [9,24,25,26] [] (z7 (zA 1 ?_)))
 obtain ⟨a9,a0,h⟩:=aA h
 refine qP (W.nW a0) (zP fun u k=>?_)
 refine yE k [24,25,26,31] [] (qc h (fun h=>?_) fun h=>?_)
 refine z8 1 ⟨[(4,vI 12)],[]⟩ fun u k=>?_
 refine aT (aO ?_)
 cases h
 exact zF k
 refine zM fun u k=>?_
 refine aF (yE k [24,25,26] [] (zD (z6 2 fun u k=>?_)))
 cases h
 exact zH k
 refine zL 0 fun u k=>?_
 refine aR ?_
 cases h
 exact zF k
 rcases a3 with a7 | a8
 refine aT (aO ?_)
 obtain rfl:=osi h
 exact zV k [(4,vI 12)]
 refine zQ (yE k [] [] (z8 1 ⟨[(4,vI 0)],[]⟩ fun u k=>?_))
 obtain rfl:=osi h
 exact zV k [(4,vI 0)]
theorem W.Jw {l items r} (h:rD l items=some r):PC G.P 25 [(.agg (aQ l)),(.sl (List.map bM items))] [] (vI r) []:=by
 refine zU G Tryz.func25 (yK [0,1] [] (y3 2 [1,2] [2] (z7 (zA 2 ?_))))
 obtain ⟨r2,a5,h⟩:=aA h
 refine qC [] [(0,700100)] (W.Bd a5) (y1 8 [5,7] [5] (zB (y3 2 [5,7,17] [5] (qc h (fun h=>?_) fun h=>?_))))
 refine z8 2 ⟨[(4,vI r2.2.2.1)],[]⟩ fun u k=>?_
 refine aO ?_
 obtain rfl:=osi h
 exact zV k [(4,vI r2.2.2.1)]
 refine y4 [5] [5] (zB (z7 (zA 2 ?_)))
 obtain ⟨r6,a6,h⟩:=aA h
 refine qP (W.vL a6) (y1 1 [5,22] [5] (qc h (fun h=>?_) fun h=>?_))
 refine z8 1 ⟨[(4,vI 12)],[]⟩ fun u k=>?_
 refine aO ?_
 obtain rfl:=osi h
 exact zV k [(4,vI 12)]
 refine y4 [5] [5] (zB (y3 1 [5,8] [5] (zC ?_)))
 obtain ⟨a3,a2,h⟩:=aA h
 refine ql a2 (fun a4=>⟨[(5,.ptr 500000 0),(8,vI a4)],[(500000,.box (aB r2.1))]⟩) (fun a3=>match a3 with | .inl a7=>(.ret,⟨[(4,vI 12)],[]⟩) | .inr a8=>(.exit 0,⟨[],[]⟩)) (sp [] [(5,500000)]) (fun a4 r h=>?_) (fun u k=>?_) (hout:=(by intro x;rcases x with _ | _ <;> rfl))
 refine zB (z7 (zA 3 (qL (cS cB) r2.1.Holes (y1 1 [5,8,27] [500000] (qc h (fun h=>?_) fun h=>?_)))))
 refine y4 [5,8] [500000] (zB (zC (z7 (zA 3 ?_))))
 obtain ⟨b0,a1,h⟩:=aA h
 refine qX (cS cB) a1 (zA 1 ?_)
 obtain ⟨a9,a0,h⟩:=aA h
 refine qP (W.vL a0) (y1 1 [5,8,36] [500000] (qc h (fun h=>?_) fun h=>?_))
 refine z8 1 ⟨[(4,vI 12)],[]⟩ fun u k=>?_
 refine aT (aO ?_)
 cases h
 exact zF k
 refine zM fun u k=>?_
 refine aF (yE k [5,8] [500000] (zD (z6 3 fun u k=>?_)))
 cases h
 exact zH k
 refine zL 0 fun u k=>?_
 refine aR ?_
 cases h
 exact zF k
 rcases a3 with a7 | a8
 refine aT (aO ?_)
 obtain rfl:=osi h
 exact zV k [(4,vI 12)]
 refine zQ (yE k [] [] (z8 1 ⟨[(4,vI 0)],[]⟩ fun u k=>?_))
 obtain rfl:=osi h
 exact zV k [(4,vI 0)]
theorem W.Tm {st h0_0 h2 r} (h:Ph st h0_0 h2=some r):PC G.P 62 [(.agg (bG st)),(.ptr 1000000 0),(.ptr 1000001 0)] [(1000000,.box [(.sl (List.map cB h0_0))]),(1000001,.box [(.row (.top 300002) 38)]),(300002,.row 38 [] (List.map (cS cI) h2))] (.tup []) [(0,.row 38 [] (List.map (cS cI) r)),(1000000,.box [(.sl (List.map cB st.Fallen))]),(1000001,.box [(.row (.top 0) 38)])]:=by
 refine zU G Tryz.func62 (yK [0,1,2] [300002,1000000,1000001] (y3 1 [1,2,3] [3,300002,1000000,1000001] (y3 1 [1,2,3,4] [3,4,300002,1000000,1000001] (zB (z7 (zA 2 ?_))))))
 refine qL cB st.Fallen (y1 1 [1,2,3,4,8,9,10] [3,4,300002,1000000,1000001] (zC ?_))
 obtain ⟨a8,a6,h⟩:=aA h
 refine ql a6 (fun a0=>⟨[(1,.ptr 1000000 0),(2,.ptr 1000001 0),(3,.ptr 500001 0),(4,ro 500002 3),(8,sB st.Fallen),(9,vI (st.Fallen.length:Int)),(10,vI a0.1)],[(500000,.row 38 [] (List.map (cS cI) h2)),(500001,.box (bG st)),(500002,wI 3 a0.2),(1000000,.box [(sB h0_0)]),(1000001,.box [(ro 500000 38)])]⟩) (fun a8=>(.exit 0,⟨[(1,.ptr 1000000 0),(2,.ptr 1000001 0),(3,.ptr 500001 0),(4,ro 500002 3)],[(500000,.row 38 [] (List.map (cS cI) h2)),(500001,.box (bG st)),(500002,wI 3 a8),(1000000,.box [(sB h0_0)]),(1000001,.box [(ro 500000 38)])]⟩)) (sp [] [(3,500001),(4,500002),(300002,500000),(1000000,1000000),(1000001,1000001)]) (fun a0 r h=>?_) fun u k=>?_
 refine y3 1 [1,2,3,4,8,9,10,11] [500000,500001,500002,1000000,1000001] (zB (qc h (fun h=>?_) fun h=>?_))
 refine y4 [1,2,3,4,8,9,10] [500000,500001,500002,1000000,1000001] (bV (fun (a7:(List Int))=>⟨[(1,.ptr 1000000 0),(2,.ptr 1000001 0),(3,.ptr 500001 0),(4,ro 500002 3),(8,sB st.Fallen),(9,vI (st.Fallen.length:Int)),(10,vI a0.1)],[(500000,.row 38 [] (List.map (cS cI) h2)),(500001,.box (bG st)),(500002,wI 3 a7),(1000000,.box [(sB h0_0)]),(1000001,.box [(ro 500000 38)])]⟩) (yX a0) r (by kernel_rfl) (fun a7 h=>?_) ?_)
 refine zD (z6 2 fun u k=>?_)
 cases h
 exact zH k
 refine zC (z7 (zA 1 ?_))
 obtain ⟨b2,a4,h⟩:=aA h
 refine qX cB a4 (y1 3 [1,2,3,4,5,6,8,9,10] [500000,500001,500002,1000000,1000001] (zB ?_))
 obtain ⟨a9,a1,h⟩:=aA h
 refine zT ⟨[(1,.ptr 1000000 0),(2,.ptr 1000001 0),(3,.ptr 500001 0),(4,ro 500002 3),(5,vI a0.1),(8,sB st.Fallen),(9,vI (st.Fallen.length:Int)),(10,vI a0.1),(22,vB a9)],[(500000,.row 38 [] (List.map (cS cI) h2)),(500001,.box (bG st)),(500002,wI 3 a0.2),(1000000,.box [(sB h0_0)]),(1000001,.box [(ro 500000 38)])]⟩ ?_ fun u k=>?_
 replace h:=a1
 refine zA 2 (qB h [1,2,3,4,5,8,9,10,16] [500000,500001,500002,1000000,1000001] [16] (fun h=>?_) fun h=>?_)
 refine zA 2 ?_
 obtain ⟨b3,a5,h⟩:=aA h
 refine qX cB a5 (z6 3 fun u k=>?_)
 cases h
 exact zG k
 refine z6 6 fun u k=>?_
 cases h
 exact zG k
 refine yE k [1,2,3,4,5,8,9,10,22] [500000,500001,500002,1000000,1000001] (qc h (fun h=>?_) fun h=>?_)
 refine zD (zA 3 ?_)
 obtain ⟨b0,a2,h⟩:=aA h
 refine qA cI 1 a2 (z6 1 fun u k=>?_)
 exact aF (aV b0 h k (here (by kernel_rfl)))
 refine zM fun u k=>?_
 exact aF (aV a0.2 h k (here (by kernel_rfl)))
 refine zL 0 fun u k=>?_
 refine aR ?_
 cases h
 exact zF k
 refine zQ (yE k [1,2,3,4] [500000,500001,500002,1000000,1000001] (z7 (zA 2 (xV [.frz 500002] (by kernel_rfl) (zA 1 ?_)))))
 obtain ⟨b1,a3,h⟩:=aA h
 refine qA (cS cI) 1 a3 (y1 1 [1,3] [500000,500001,1000000,1000001] (zD (z6 3 fun u k=>?_)))
 obtain rfl:=osi h
 exact xO k [] (sp [] [(500000,0),(1000000,1000000),(1000001,1000001)]) (by kernel_rfl)
theorem W.Gu {l items h1 h3 r} (h:zJ l items h1 h3=some r):PC G.P 57 [(.agg (aQ l)),(.sl (List.map bM items)),(.fn 62 [(.ptr 1000000 0),(.ptr 1000002 0)])] [(1000000,.box [(.row (.top 300001) 4)]),(300001,.row 4 [] (List.map cB h1)),(1000002,.box [(.row (.top 300003) 38)]),(300003,.row 38 [] (List.map (cS cI) h3))] (.tup [(.agg (bG r.1)),(vI r.2.1),(vI r.2.2.1)]) [(0,.box [(.sl (List.map cB r.2.2.2.1)),(.sl (List.map (cS cB) r.2.2.2.2.1)),(.sl (List.map cB r.2.2.2.2.2.1)),(.sl (List.map cI r.2.2.2.2.2.2.1)),(.sl (List.map cB r.2.2.2.2.2.2.2.1))]),(1,.row 38 [] (List.map (cS cI) r.2.2.2.2.2.2.2.2.1)),(1000000,.box [(.sl (List.map cB r.2.2.2.2.2.2.2.2.2))]),(1000002,.box [(.row (.top 1) 38)])]:=by
 refine zU G Tryz.func57 (yK [0,1,2] [300001,300003,1000000,1000002] (y3 4 [1,2,3,6] [3,6,300001,300003,1000000,1000002] (z7 (zA 1 ?_))))
 obtain ⟨r2,a6,h⟩:=aA h
 refine qC [] [(0,700050)] (W.Ob a6) (y1 5 [1,2,3,6,9,10] [3,6,300001,300003,700050,1000000,1000002] (zB (y3 2 [1,2,3,6,9,10,22] [3,6,300001,300003,700050,1000000,1000002] (qc h (fun h=>?_) fun h=>?_))))
 exact nomatch h
 refine y4 [1,2,3,6,9] [3,6,300001,300003,700050,1000000,1000002] (zB (z7 (zA 1 (qL bM items (y1 1 [1,2,3,6,9,27] [3,6,300001,300003,700050,1000000,1000002] (qc h (fun h=>?_) fun h=>?_))))))
 exact nomatch h
 refine y4 [1,2,3,6,9] [3,6,300001,300003,700050,1000000,1000002] (z7 (zA 2 (qL bF r2.1 ?_)))
 obtain ⟨r4,a7,h⟩:=aA h
 refine qC [] [(0,700150),(1,700151),(2,700152),(3,700153),(4,700154),(5,700155)] (W.Vd a7) (y1 2 [1,2,3,6,9,11] [3,6,11,300001,300003,700050,700151,700152,700153,700154,700155,1000000,1000002] (zB (z7 (zA 1 (qL bM items (y1 1 [2,3,6,9,11,33,34,35] [3,6,11,300001,300003,700050,700151,700152,700153,700154,700155,1000000,1000002] ?_))))))
 refine zC ?_
 obtain ⟨a0,a5,h⟩:=aA h
 refine ql a5 (fun a1=>⟨[(2,.fn 62 [(.ptr 1000000 0),(.ptr 1000002 0)]),(3,.ptr 500001 0),(6,.ptr 500002 0),(9,bC r2.1),(11,.ptr 500003 0),(33,Rn items),(34,vI (items.length:Int)),(35,vI a1.1)],[(500000,.row 38 [] (List.map (cS cI) a1.2.1)),(500001,.box (aQ l)),(500002,.box [.nl,.nl,.nl,.nl,.nl]),(500003,.box [(sB a1.2.2.1),(.sl (List.map (cS cB) a1.2.2.2.1)),(sB a1.2.2.2.2.1),(sI a1.2.2.2.2.2.1),(sB a1.2.2.2.2.2.2.1)]),(1000000,.box [(sB a1.2.2.2.2.2.2.2)]),(1000002,.box [(ro 500000 38)])]⟩) (fun a0=>(.exit 0,⟨[(6,.ptr 500000 0),(11,.ptr 500001 0)],[(500000,.box [.nl,.nl,.nl,.nl,.nl]),(500001,.box [(sB a0.1),(.sl (List.map (cS cB) a0.2.1)),(sB a0.2.2.1),(sI a0.2.2.2.1),(sB a0.2.2.2.2.1)]),(500002,.row 38 [] (List.map (cS cI) a0.2.2.2.2.2.1)),(1000000,.box [(sB a0.2.2.2.2.2.2)]),(1000002,.box [(ro 500002 38)])]⟩)) (sp [.frz 300001,.frz 700050,.frz 700151,.frz 700152,.frz 700153,.frz 700154,.frz 700155] [(3,500001),(6,500002),(11,500003),(300003,500000),(1000000,1000000),(1000002,1000002)]) (fun a1 r h=>?_) fun u k=>?_
 refine y3 1 [2,3,6,9,11,33,34,35,36] [500000,500001,500002,500003,1000000,1000002] (zB (qc h (fun h=>?_) fun h=>?_))
 refine y4 [2,3,6,9,11,33,34,35] [500000,500001,500002,500003,1000000,1000002] (zB (zC (z7 (zA 1 ?_))))
 obtain ⟨b0,a4,h⟩:=aA h
 refine qX bM a4 (y1 4 [2,3,6,9,11,12,13,33,34,35] [13,500000,500001,500002,500003,1000000,1000002] (z7 (zA 4 ?_)))
 obtain ⟨a8,a2,h⟩:=aA h
 refine qC [] [(0,700200),(1,700201),(2,700202),(3,700203),(4,700204),(5,700205)] (W.EH a2) (xV [.frz 700202] (by kernel_rfl) (y1 6 [2,3,6,9,11,12,14,15,33,34,35] [14,500000,500001,500002,500003,700201,700203,700204,700205,1000000,1000002] (zB (y3 2 [2,3,6,9,11,12,14,15,33,34,35,49] [14,500000,500001,500002,500003,700201,700203,700204,700205,1000000,1000002] (qc h (fun h=>?_) fun h=>?_)))))
 exact nomatch h
 refine y4 [2,3,6,9,11,14,33,34,35] [14,500000,500001,500002,500003,700201,700203,700204,700205,1000000,1000002] (y3 2 [2,3,6,9,11,33,34,35] [500000,500001,500002,500003,700201,700203,700204,700205,1000000,1000002] (zD (zA 2 (xV [.frz 700201,.frz 700203,.frz 700204,.frz 700205] (by kernel_rfl) ?_))))
 obtain ⟨a9,a3,h⟩:=aA h
 refine qC [(1000000,1000000),(1000001,1000002),(300002,500000)] [(0,700100)] (W.Tm a3) (zP fun u k=>?_)
 refine aF (yE k [2,3,6,9,11,33,34,35] [500001,500002,500003,700100,1000000,1000002] (zD (z6 2 fun u k=>?_)))
 cases h
 exact Lx k (sp [] [(500001,500001),(500002,500002),(500003,500003),(700100,500000),(1000000,1000000),(1000002,1000002)])
 refine zL 0 fun u k=>?_
 refine aR ?_
 cases h
 exact sP k rfl (sp [] [(500000,500002),(500002,500000),(500003,500001),(1000000,1000000),(1000002,1000002)])
 refine zQ (yE k [6,11] [500000,500001,500002,1000000,1000002] (z8 4 ⟨[(6,.ptr 500000 0),(7,vI 0),(8,vI 0)],[(500000,.box [(sB a0.1),(.sl (List.map (cS cB) a0.2.1)),(sB a0.2.2.1),(sI a0.2.2.2.1),(sB a0.2.2.2.2.1)]),(500002,.row 38 [] (List.map (cS cI) a0.2.2.2.2.2.1)),(1000000,.box [(sB a0.2.2.2.2.2.2)]),(1000002,.box [(ro 500002 38)])]⟩ fun u k=>?_))
 obtain rfl:=osi h
 exact qW k [(6,.ptr 0 0),(7,vI 0),(8,vI 0)] (sp [] [(500000,0),(500002,1),(1000000,1000000),(1000002,1000002)])
theorem W.Ym {l items r} (h:Uu l items=some r):PC G.P 26 [(.agg (aQ l)),(.sl (List.map bM items))] [] (.tup [(.row (.top 0) 38),(vI r.2)]) [(0,.row 38 [] (List.map (cS cI) r.1))]:=by
 refine zU G Tryz.func26 (yK [0,1] [] (y3 3 [1,2] [2] (z7 (zA 1 (xV [.row (.box 6 0) 800006 38 []] (by kernel_rfl) (zP fun u k=>?_))))))
 refine yE k [1,2,6] [2,6,800006] (z7 (zA 2 (qL aU l.Pieces ?_)))
 obtain ⟨l2,a0,h⟩:=aA h
 refine iQ (Ji (c:=cB) (z:=false) (n:=(l.Pieces.length:Int)) (e:=4) (d:=14) (zs:=[(vB false)]) (k1:=.i64) (k2:=.i64) (by kernel_rfl) rfl a0) (zA 1 (xV [.row (.box 7 0) 800007 4 []] (by kernel_rfl) (y1 1 [1,2,6,7] [2,6,7,14,800006] (z7 (zA 3 ?_)))))
 obtain ⟨r4,a1,h⟩:=aA h
 refine qC [(1000000,7),(300001,14),(1000002,6),(300003,800006)] [(0,700150),(1,700151)] (W.Gu a1) (y1 8 [6,10] [6,700151] (zB (y3 2 [6,10,24] [6,700151] (qc h (fun h=>?_) fun h=>?_))))
 exact nomatch h
 refine y4 [6] [6,700151] (z8 3 ⟨[(4,ro 700151 38),(5,vI 0)],[(700151,.row 38 [] (List.map (cS cI) r4.2.2.2.2.2.2.2.2.1))]⟩ fun u k=>?_)
 obtain rfl:=osi h
 exact qW k [(4,ro 0 38),(5,vI 0)] (sp [] [(700151,0)])
theorem W.Fe {r} (h:uA=some r):PC G.P 13 [] [] (vB r) []:=by
 refine zU G Tryz.func13 (yK [] [] (y3 1 [] [] (y3 1 [1] [] (y3 7 [1,2] [2] (y3 7 [1,2,3] [2,3] (y3 8 [1,2,3,4] [2,3,4] ?_))))))
 refine z7 (zA 3 (fK (QD (es:=(List.map aU [(Piece.mk (ByteArray.mk #[97]) (ByteArray.mk #[115,116,101,101,108]) 10 0 [(Rect.mk 0 0 14400 14400)] [] []),(Piece.mk (ByteArray.mk #[98]) (ByteArray.mk #[115,116,101,101,108]) 10 0 [(Rect.mk 14400 0 14400 14400)] [] [])])) (by kernel_rfl)) (y1 3 [1,5] [5] (z7 (zA 1 ?_)))))
 obtain ⟨r2,a4,h⟩:=aA h
 refine qC [] [(0,700050)] (W.Ob a4) (y1 5 [1,5,6,7] [5,700050] (y3 7 [5,6,7,8] [5,700050] (z7 (zA 2 ?_))))
 obtain ⟨r4,a5,h⟩:=aA h
 refine qC [] [(0,700100)] (W.Ym a5) (y1 5 [6,7,9,10] [700050,700100] (z7 (zA 3 (qB h [6,9,10,51] [700050,700100] [51] (fun h=>?_) fun h=>?_))))
 refine zA 1 (qL bF r2.1 (zA 3 (qB h [9,10,56] [700100] [56] (fun h=>?_) fun h=>?_)))
 refine zA 4 (qB h [9,60] [700100] [60] (fun h=>?_) fun h=>?_)
 refine zA 1 (qL (cS cI) r4.1 (zA 3 (qB h [9,65] [700100] [65] (fun h=>?_) fun h=>?_)))
 refine zA 1 ?_
 obtain ⟨x9,a3,h⟩:=aA h
 refine qI (cS cI) a3 (qR (cS cI) a3 (zA 1 ?_))
 obtain ⟨a7,a1,h⟩:=aA h
 refine qP (W.pE a1) (zA 2 (qB h [9,72] [700100] [72] (fun h=>?_) fun h=>?_))
 refine zA 1 ?_
 obtain ⟨a8,a0,h⟩:=aA h
 refine qI (cS cI) a0 (qR (cS cI) a0 (zA 1 ?_))
 obtain ⟨a6,a2,h⟩:=aA h
 refine qP (W.pE a2) (y1 2 [0] [] (zN fun u k=>?_))
 obtain rfl:=osi h
 exact zV k [(0,vB a6)]
 exact nomatch h
 exact nomatch h
 exact nomatch h
 exact nomatch h
 exact nomatch h
theorem W.Ht {l items r} (h:uT l items=some r):PC G.P 6 [(.agg (aQ l)),(.sl (List.map bM items))] [] (vB r) []:=by
 refine zU G Tryz.func6 (yK [0,1] [] (y3 2 [1,2] [2] (z7 (zA 2 ?_))))
 obtain ⟨r2,a6,h⟩:=aA h
 refine qC [] [(0,700100),(1,700101),(2,700102),(3,700103),(4,700104)] (W.AA a6) (y1 8 [1,2,5,6,7] [2,5,700101,700102,700103,700104] (z7 (zA 2 ?_)))
 obtain ⟨r4,a7,h⟩:=aA h
 refine qC [] [(0,700100)] (W.Bd a7) (y1 8 [1,2,5,6,7,8,9,10] [2,5,8,700101,700102,700103,700104] (zB ?_))
 obtain ⟨a5,a0,h⟩:=aA h
 refine gG ⟨[(4,vB a5)],[]⟩ [] [] [(11,[700101,700102,700103,700104])] [] [] 19 (by kernel_rfl) (by kernel_rfl) (by kernel_rfl) ?_ fun u k=>?_
 replace h:=a0
 refine dN 4 (bH (r2.2.2.1==r4.2.2.1) (fun b0=>⟨[(28,vB b0),(27,vB b0),(26,vI r4.2.2.1),(25,vI r2.2.2.1),(1,Rn items),(2,.ptr 2 0),(5,.ptr 5 0),(6,vI r2.2.1),(7,vI r2.2.2.1),(8,.ptr 8 0),(9,vI r4.2.1),(10,vI r4.2.2.1)],[(2,.box (aQ l)),(5,.box [(ro 700101 4),(.sl (List.map (cS cB) r2.1.Holes)),(ro 700102 4),(ro 700103 3),(ro 700104 4)]),(8,.box (aB r4.1)),(700101,wB 4 r2.1.Cut),(700102,wB 4 r2.1.Done),(700103,wI 3 r2.1.Joints),(700104,wB 4 r2.1.Fallen)]⟩) (by kernel_rfl) (fun hb=>?_) fun hb=>?_)
 replace h:=iD hb h
 refine dN 5 (bH (r2.2.1==r4.2.1) (fun b0=>⟨[(33,vB b0),(32,vB b0),(31,vB b0),(30,vI r4.2.1),(29,vI r2.2.1),(28,vB true),(27,vB true),(26,vI r4.2.2.1),(25,vI r2.2.2.1),(1,Rn items),(2,.ptr 2 0),(5,.ptr 5 0),(6,vI r2.2.1),(7,vI r2.2.2.1),(8,.ptr 8 0),(9,vI r4.2.1),(10,vI r4.2.2.1)],[(2,.box (aQ l)),(5,.box [(ro 700101 4),(.sl (List.map (cS cB) r2.1.Holes)),(ro 700102 4),(ro 700103 3),(ro 700104 4)]),(8,.box (aB r4.1)),(700101,wB 4 r2.1.Cut),(700102,wB 4 r2.1.Done),(700103,wI 3 r2.1.Joints),(700104,wB 4 r2.1.Fallen)]⟩) (by kernel_rfl) (fun hb=>?_) fun hb=>?_)
 replace h:=iD hb h
 refine dN 2 ?_
 obtain ⟨a8,a1,h⟩:=aA h
 refine EJ [] [700101,700102,700103,700104] (by kernel_rfl) (by kernel_rfl) (W.Nc a1) (by kernel_rfl) (.inr ⟨rfl,fun _ _=>Vk⟩) (by kernel_rfl) (by kernel_rfl) (dN 2 (bH a8 (fun b0=>⟨[(38,vB b0),(37,vB b0),(36,vB b0),(35,.agg (aB r4.1)),(34,.agg [(ro 700101 4),(.sl (List.map (cS cB) r2.1.Holes)),(ro 700102 4),(ro 700103 3),(ro 700104 4)]),(33,vB true),(32,vB true),(31,vB true),(30,vI r4.2.1),(29,vI r2.2.1),(28,vB true),(27,vB true),(26,vI r4.2.2.1),(25,vI r2.2.2.1),(1,Rn items),(2,.ptr 2 0),(5,.ptr 5 0),(6,vI r2.2.1),(7,vI r2.2.2.1),(8,.ptr 8 0),(9,vI r4.2.1),(10,vI r4.2.2.1)],[(2,.box (aQ l)),(5,.box [(ro 700101 4),(.sl (List.map (cS cB) r2.1.Holes)),(ro 700102 4),(ro 700103 3),(ro 700104 4)]),(8,.box (aB r4.1)),(700101,wB 4 r2.1.Cut),(700102,wB 4 r2.1.Done),(700103,wI 3 r2.1.Joints),(700104,wB 4 r2.1.Fallen)]⟩) (by kernel_rfl) (fun hb=>?_) fun hb=>?_))
 replace h:=iD hb h
 refine dN 2 ?_
 obtain ⟨a9,a2,h⟩:=aA h
 refine dC [] (W.FR a2) (dN 2 (dE ?_))
 obtain ⟨b1,a3,h⟩:=aA h
 refine oP (W.Jw a3) (oN 3 (oB h [47] [] [47] (fun h=>?_) fun h=>?_))
 obtain ⟨b2,a4,h⟩:=aA h
 refine oP (W.Fe a4) (oN 2 (zO fun u k=>?_))
 cases h
 exact zG k
 refine oN 3 (zO fun u k=>?_)
 cases h
 exact zG k
 replace h:=iB hb h
 refine dN 5 (dE (oN 7 (zO fun u k=>?_)))
 cases h
 exact zG k
 replace h:=iB hb h
 refine dN 10 (dE (oN 7 (zO fun u k=>?_)))
 cases h
 exact zG k
 replace h:=iB hb h
 refine dN 15 (dE (oN 7 (zO fun u k=>?_)))
 cases h
 exact zG k
 refine yE k [4] [] (zN fun u k=>?_)
 obtain rfl:=osi h
 exact zV k [(4,vB a5)]
end Go.Proofs.YtgfjbgoehhnaeaaGreat
