/- Each Go function does what its model says; written by a program out of the translation. -/
import Derived.Test.YtgfjbgoehhnaeaaGreatWU
import Derived.Test.YtgfjbgoehhnaeaaGreatPl3
set_option linter.unusedVariables false
set_option linter.unusedSimpArgs false
set_option linter.unusedSectionVars false
namespace Go.Proofs.YtgfjbgoehhnaeaaGreat
open Go Go.VI Go.SM Go.Proofs
set_option maxRecDepth 100000
set_option maxHeartbeats 4000000
theorem W.fP {data a b h0_0 r} (h:dU data a b h0_0=some r):PC G.P 220 [(.sl (List.map cI data)),(vI a),(vI b),(.ptr 1000000 0),(.fn 129 [])] [(1000000,.box [(vI h0_0)])] (.tup [(vI r.1),(vI r.2.1)]) [(1000000,.box [(vI r.2.2)])]:=by
 refine zU G Tryz.func220 (yK [0,1,2,3,4] [1000000] (y3 2 [0,1,2,3,4] [1000000] (zB (zB (qM 9 (dN 3 ?_))))))
 obtain ⟨a4,a1,h⟩:=aA h
 refine dX cI a1 (dN 3 ?_)
 obtain ⟨a5,a2,h⟩:=aA h
 refine dX cI a2 (dN 1 (dE ?_))
 obtain ⟨a3,a0,h⟩:=aA h
 refine oP (W.bN a0) (oN 1 (zO fun u k=>?_))
 refine yE k [1,2,3,22] [1000000] (qc h (fun h=>?_) fun h=>?_)
 refine y3 6 [1,2] [1000000] (z8 4 ⟨[(10,vI b),(11,vI a)],[(1000000,.box [(vI (aM h0_0 1))])]⟩ fun u k=>?_)
 refine aO ?_
 obtain rfl:=osi h
 exact zV k [(10,vI b),(11,vI a)]
 refine y4 [1,2] [1000000] (z8 4 ⟨[(10,vI a),(11,vI b)],[(1000000,.box [(vI h0_0)])]⟩ fun u k=>?_)
 obtain rfl:=osi h
 exact zV k [(10,vI a),(11,vI b)]
theorem W.kW {data a b c h0_0 r} (h:gU data a b c h0_0=some r):PC G.P 216 [(.sl (List.map cI data)),(vI a),(vI b),(vI c),(.ptr 1000000 0),(.fn 129 [])] [(1000000,.box [(vI h0_0)])] (vI r.1) [(1000000,.box [(vI r.2)])]:=by
 refine zU G Tryz.func216 (yK [0,1,2,3,4,5] [1000000] (y3 1 [0,1,2,3,4,5] [1000000] (z7 (zA 5 ?_))))
 obtain ⟨r2,a0,h⟩:=aA h
 refine qC [(1000000,1000000)] [] (W.fP a0) (y1 5 [0,1,2,3,4,5] [1000000] (z7 (zA 5 ?_)))
 obtain ⟨r4,a1,h⟩:=aA h
 refine qC [(1000000,1000000)] [] (W.fP a1) (y1 5 [0,1,2,4,5] [1000000] (z7 (zA 5 ?_)))
 obtain ⟨r6,a2,h⟩:=aA h
 refine qC [(1000000,1000000)] [] (W.fP a2) (y1 5 [2] [1000000] (z8 2 ⟨[(12,vI r6.2.1)],[(1000000,.box [(vI r6.2.2)])]⟩ fun u k=>?_))
 obtain rfl:=osi h
 exact zV k [(12,vI r6.2.1)]
theorem W.dF {data a h0_0 r} (h:bP data a h0_0=some r):PC G.P 215 [(.sl (List.map cI data)),(vI a),(.ptr 1000000 0),(.fn 129 [])] [(1000000,.box [(vI h0_0)])] (vI r.1) [(1000000,.box [(vI r.2)])]:=by
 refine zU G Tryz.func215 (yK [0,1,2,3] [1000000] (y3 1 [0,1,2,3] [1000000] (z7 (zA 8 ?_))))
 obtain ⟨r2,a0,h⟩:=aA h
 refine qC [(1000000,1000000)] [] (W.kW a0) (y1 1 [8] [1000000] (zN fun u k=>?_))
 obtain rfl:=osi h
 exact zV k [(8,vI r2.1)]
theorem W.rF {data a b r} (h:jZ data a b=some r):PC G.P 193 [(.sl (List.map cI data)),(vI a),(vI b),(.fn 129 [])] [] (.tup [(vI r.1),(vI r.2)]) []:=by
 refine zU G Tryz.func193 (yK [0,1,2,3] [] (y3 2 [0,1,2,3] [] (y3 4 [0,1,3,10] [] (y3 1 [0,1,3,10,11] [11] (y3 6 [0,1,3,10,11,12] [11] (y3 6 [0,1,3,10,11,12,13] [11] ?_))))))
 refine y3 6 [0,3,10,11,12,13,14] [11] (bV (fun (a0:Int×Int)=>⟨[(11,.ptr 500000 0),(13,vI a0.1)],[(500000,.box [(vI a0.2)])]⟩) (eB) r (by kernel_rfl) (fun a0 h=>?_) ?_)
 refine y3 1 [13,55] [] (zC (y3 2 [13,55,57] [] (qc h (fun h=>?_) fun h=>?_)))
 refine z8 3 ⟨[(8,vI a0.1),(9,vI 1)],[]⟩ fun u k=>?_
 refine aT ?_
 obtain rfl:=osi h
 exact zV k [(8,vI a0.1),(9,vI 1)]
 refine y3 2 [13,60] [] (qc h (fun h=>?_) fun h=>?_)
 refine z8 3 ⟨[(8,vI a0.1),(9,vI 2)],[]⟩ fun u k=>?_
 refine aT ?_
 obtain rfl:=osi h
 exact zV k [(8,vI a0.1),(9,vI 2)]
 refine z8 3 ⟨[(8,vI a0.1),(9,vI 0)],[]⟩ fun u k=>?_
 refine aT ?_
 obtain rfl:=osi h
 exact zV k [(8,vI a0.1),(9,vI 0)]
 refine y3 2 [0,3,10,11,12,13,14,34] [11] (qc h (fun h=>?_) fun h=>?_)
 refine bV (fun (a1:Int×Int×Int×Int)=>⟨[(0,sI data),(3,.fn 129 []),(11,.ptr 500000 0),(12,vI a1.1),(13,vI a1.2.1),(14,vI a1.2.2.1)],[(500000,.box [(vI a1.2.2.2)])]⟩) (eD data) r (by kernel_rfl) (fun a1 h=>?_) ?_
 refine zD (zA 5 ?_)
 obtain ⟨a6,a2,h⟩:=aA h
 refine qC [(1000000,500000)] [] (W.kW a2) (z6 1 fun u k=>?_)
 exact aV (a6.1,a6.2) h k (here (by kernel_rfl))
 refine y3 2 [0,3,11,12,13,14,36] [11] (qc h (fun h=>?_) fun h=>?_)
 refine z7 (zA 3 ?_)
 obtain ⟨a8,a3,h⟩:=aA h
 refine qC [(1000000,11)] [] (W.dF a3) (y1 1 [0,3,11,12,13,14] [11] (z7 (zA 3 ?_)))
 obtain ⟨a9,a4,h⟩:=aA h
 refine qC [(1000000,11)] [] (W.dF a4) (y1 1 [0,3,11,12,13,14] [11] (zD (zA 3 ?_)))
 obtain ⟨a7,a5,h⟩:=aA h
 refine qC [(1000000,11)] [] (W.dF a5) (z6 1 fun u k=>?_)
 exact aV (a8.1,a9.1,a7.1,a7.2) h k (sp [] [(11,500000)])
 refine zM fun u k=>?_
 exact aV ((aM a (nI (xU (aJ b a) 4) 1)),(aM a (nI (xU (aJ b a) 4) 2)),(aM a (nI (xU (aJ b a) 4) 3)),0) h k (sp [] [(11,500000)])
 refine zM fun u k=>?_
 exact aV ((aM a (nI (xU (aJ b a) 4) 2)),0) h k (sp [] [(11,500000)])
theorem W.qU {a b h0 r} (h:jO a b h0=some r):PC G.P 194 [(.row (.top 1000000) 3),(vI a),(vI b),(.fn 129 [])] [(1000000,.row 3 [] (List.map cI h0))] (.tup []) [(1000000,.row 3 [] (List.map cI r))]:=by
 refine zU G Tryz.func194 (yK [0,1,2] [1000000] (y3 2 [0,2,8] [1000000] (y3 3 [0,8,9] [1000000] (zC ?_))))
 obtain ⟨a6,a5,h⟩:=aA h
 refine ql a5 (fun a4=>⟨[(0,ro 1000000 3),(8,vI a4.1),(9,vI a4.2.1)],[(1000000,wI 3 a4.2.2)]⟩) (fun a6=>(.exit 0,⟨[],[(1000000,wI 3 a6)]⟩)) qH (fun a4 r h=>?_) fun u k=>?_
 refine zB (y3 3 [0,8,9,15] [1000000] (qc h (fun h=>?_) fun h=>?_))
 refine y4 [0,8,9] [1000000] (zC (zB (qN [(13,[1000000])] [] [] [(2,[1000000]),(3,[1000000])] [] 14 (dN 6 ?_))))
 obtain ⟨a7,a0,h⟩:=aA h
 refine dI cI a0 (dR cI a0 (dN 2 ?_))
 obtain ⟨a8,a1,h⟩:=aA h
 refine dI cI a1 (dR cI a1 ?_)
 obtain ⟨a9,a2,h⟩:=aA h
 refine dI cI a2 (dS cI a7 a2 (dE ?_))
 obtain ⟨b0,a3,h⟩:=aA h
 refine oI cI a3 (oS cI a8 a3 (zO fun u k=>?_))
 refine yE k [0,8,9] [1000000] (y3 3 [0,8,9] [1000000] (zD (z6 3 fun u k=>?_)))
 refine aF ?_
 cases h
 exact zH k
 refine zL 0 fun u k=>?_
 refine aR ?_
 cases h
 exact zF k
 refine zQ ?_
 obtain rfl:=osi h
 exact xO k [] (here (by kernel_rfl)) (by kernel_rfl)
theorem W.nC {a b h0 r} (h:gP a b h0=some r):PC G.P 195 [(.row (.top 1000000) 3),(vI a),(vI b),(.fn 129 [])] [(1000000,.row 3 [] (List.map cI h0))] (vB r.1) [(1000000,.row 3 [] (List.map cI r.2))]:=by
 refine zU G Tryz.func195 (yK [0,1,2,3] [1000000] (y3 1 [0,1,2,3] [1000000] (y3 3 [0,1,2,3,9] [1000000] (zB (y3 1 [0,1,2,3,9,10] [1000000] (zC ?_))))))
 obtain ⟨d0,e0,h⟩:=aA h
 refine ql e0 (fun a0=>⟨[(0,ro 1000000 3),(1,vI a),(2,vI b),(3,.fn 129 []),(9,vI a0.1),(10,vI a0.2.1)],[(1000000,wI 3 a0.2.2)]⟩) (fun d0=>match d0 with | .inl a3=>(.ret,⟨[(8,vB a3.1)],[(1000000,wI 3 a3.2)]⟩) | .inr c5=>(.exit 0,⟨[],[(1000000,wI 3 c5)]⟩)) qH (fun a0 r h=>?_) (fun u k=>?_) (hout:=(by intro x;rcases x with _ | _ <;> rfl))
 refine zB (y3 2 [0,1,2,3,9,10,16] [1000000] (qc h (fun h=>?_) fun h=>?_))
 refine y4 [0,1,2,3,9,10] [1000000] (bV (fun (c3:Int×(List Int))=>⟨[(0,ro 1000000 3),(1,vI a),(2,vI b),(3,.fn 129 []),(9,vI c3.1),(10,vI a0.2.1)],[(1000000,wI 3 c3.2)]⟩) (bT a0) r (by kernel_rfl) (fun c3 h=>?_) ?_)
 refine zD (z6 3 fun u k=>?_)
 cases h
 exact zH k
 refine zC (zB (zC ?_))
 obtain ⟨a1,d7,h⟩:=aA h
 refine ql d7 (fun a2=>⟨[(0,ro 1000000 3),(1,vI a),(2,vI b),(3,.fn 129 []),(9,vI a2),(10,vI a0.2.1)],[(1000000,wI 3 a0.2.2)]⟩) (fun a1=>(.exit 2,⟨[(0,ro 1000000 3),(1,vI a),(2,vI b),(3,.fn 129 []),(9,vI a1),(10,vI a0.2.1)],[(1000000,wI 3 a0.2.2)]⟩)) qH (fun a2 r h=>?_) fun u k=>?_
 refine zB (zB ?_)
 obtain ⟨e1,d3,h⟩:=aA h
 refine gG ⟨[(0,ro 1000000 3),(1,vI a),(2,vI b),(3,.fn 129 []),(9,vI a2),(10,vI a0.2.1),(36,vB e1)],[(1000000,wI 3 a0.2.2)]⟩ [] [] [] [] [] 14 (by kernel_rfl) (by kernel_rfl) (by kernel_rfl) ?_ fun u k=>?_
 replace h:=d3
 refine dN 4 (bH (decide (a2<b)) (fun b0=>⟨[(22,vB b0),(21,vB b0),(20,vI b),(19,vI a2),(0,ro 1000000 3),(1,vI a),(2,vI b),(3,.fn 129 []),(9,vI a2),(10,vI a0.2.1)],[(1000000,wI 3 a0.2.2)]⟩) (by kernel_rfl) (fun hb=>?_) fun hb=>?_)
 replace h:=iD hb h
 refine dN 3 ?_
 obtain ⟨e9,a4,h⟩:=aA h
 refine dI cI a4 (dR cI a4 (dN 3 ?_))
 obtain ⟨f0,a5,h⟩:=aA h
 refine dI cI a5 (dR cI a5 (dE ?_))
 obtain ⟨e6,d4,h⟩:=aA h
 refine oP (W.bN d4) (oN 3 (zO fun u k=>?_))
 cases h
 exact zG k
 replace h:=iB hb h
 refine dN 10 (dE (oN 4 (zO fun u k=>?_)))
 cases h
 exact zG k
 refine yE k [0,1,2,3,9,10,36] [1000000] (qc h (fun h=>?_) fun h=>?_)
 refine y4 [0,1,2,3,9,10] [1000000] (zC (zD (z6 3 fun u k=>?_)))
 refine aF ?_
 cases h
 exact zH k
 refine zL 2 fun u k=>?_
 refine aR ?_
 cases h
 exact zF k
 refine zQ (yE k [0,1,2,3,9,10] [1000000] (zB (y3 3 [0,1,2,3,9,10,41] [1000000] (qc h (fun h=>?_) fun h=>?_))))
 refine z8 1 ⟨[(8,vB true)],[(1000000,wI 3 a0.2.2)]⟩ fun u k=>?_
 refine aO (aT (MM ?_))
 cases h
 exact zF k
 refine y4 [0,1,2,3,9,10] [1000000] (zB (y3 4 [0,1,2,3,9,10,45] [1000000] (qc h (fun h=>?_) fun h=>?_)))
 refine z8 1 ⟨[(8,vB false)],[(1000000,wI 3 a0.2.2)]⟩ fun u k=>?_
 refine aO (aT (MM ?_))
 cases h
 exact zF k
 refine y4 [0,1,2,3,9,10] [1000000] (zB (qN [(15,[1000000])] [] [] [(2,[1000000]),(3,[1000000]),(4,[1000000])] [] 16 (dN 8 ?_)))
 obtain ⟨d1,a6,h⟩:=aA h
 refine dI cI a6 (dR cI a6 (dN 2 ?_))
 obtain ⟨d2,a7,h⟩:=aA h
 refine dI cI a7 (dR cI a7 ?_)
 obtain ⟨f1,a8,h⟩:=aA h
 refine dI cI a8 (dS cI d1 a8 (dE ?_))
 obtain ⟨f2,a9,h⟩:=aA h
 refine oI cI a9 (oS cI d2 a9 (zO fun u k=>?_))
 refine yE k [0,1,2,3,9,10] [1000000] (bV (fun (c4:(List Int))=>⟨[(0,ro 1000000 3),(1,vI a),(2,vI b),(3,.fn 129 []),(9,vI a1),(10,vI a0.2.1)],[(1000000,wI 3 c4)]⟩) (bU b a0 a1) r (by kernel_rfl) (fun c4 h=>?_) ?_)
 refine y3 4 [0,1,2,3,9,10,104] [1000000] (qc h (fun h=>?_) fun h=>?_)
 refine y3 3 [0,1,2,3,9,10,12] [1000000] (zC ?_)
 obtain ⟨c8,d8,h⟩:=aA h
 refine ql d8 (fun c6=>⟨[(0,ro 1000000 3),(1,vI a),(2,vI b),(3,.fn 129 []),(9,vI a1),(10,vI a0.2.1),(12,vI c6.1)],[(1000000,wI 3 c6.2)]⟩) (fun c8=>(.exit 6,⟨[(0,ro 1000000 3),(1,vI a),(2,vI b),(3,.fn 129 []),(9,vI a1),(10,vI a0.2.1)],[(1000000,wI 3 c8)]⟩)) qH (fun c6 r h=>?_) fun u k=>?_
 refine zB (y3 3 [0,1,2,3,9,10,12,109] [1000000] (qc h (fun h=>?_) fun h=>?_))
 refine y4 [0,1,2,3,9,10,12] [1000000] (zB (zC (zB (zB (qM 10 (dN 3 ?_))))))
 obtain ⟨f3,b1,h⟩:=aA h
 refine dI cI b1 (dR cI b1 (dN 3 ?_))
 obtain ⟨f4,b2,h⟩:=aA h
 refine dI cI b2 (dR cI b2 (dE ?_))
 obtain ⟨e7,d5,h⟩:=aA h
 refine oP (W.bN d5) (oN 2 (zO fun u k=>?_))
 refine yE k [0,1,2,3,9,10,12,124] [1000000] (qc h (fun h=>?_) fun h=>?_)
 refine zL 6 fun u k=>?_
 refine aR (Ur (by kernel_rfl) (aR ?_))
 cases h
 exact zF k
 refine y4 [0,1,2,3,9,10,12] [1000000] (qN [(15,[1000000])] [] [] [(2,[1000000]),(3,[1000000]),(4,[1000000])] [] 16 (dN 8 ?_))
 obtain ⟨e2,b3,h⟩:=aA h
 refine dI cI b3 (dR cI b3 (dN 2 ?_))
 obtain ⟨e3,b4,h⟩:=aA h
 refine dI cI b4 (dR cI b4 ?_)
 obtain ⟨f5,b5,h⟩:=aA h
 refine dI cI b5 (dS cI e2 b5 (dE ?_))
 obtain ⟨f6,b6,h⟩:=aA h
 refine oI cI b6 (oS cI e3 b6 (zO fun u k=>?_))
 refine aF (yE k [0,1,2,3,9,10,12] [1000000] (zD (z6 3 fun u k=>?_)))
 cases h
 exact zH k
 refine zL 6 fun u k=>?_
 refine aR ?_
 cases h
 exact zF k
 exact zQ (aF (aV (a1,c8) h k (here (by kernel_rfl))))
 refine zM fun u k=>?_
 exact aF (aV (a1,c4) h k (here (by kernel_rfl)))
 refine y3 4 [0,1,2,3,9,10,65] [1000000] (qc h (fun h=>?_) fun h=>?_)
 refine y3 3 [0,1,2,3,9,10,11] [1000000] (zC ?_)
 obtain ⟨c9,d9,h⟩:=aA h
 refine ql d9 (fun c7=>⟨[(0,ro 1000000 3),(1,vI a),(2,vI b),(3,.fn 129 []),(9,vI a1),(10,vI a0.2.1),(11,vI c7.1)],[(1000000,wI 3 c7.2)]⟩) (fun c9=>(.exit 4,⟨[(0,ro 1000000 3),(1,vI a),(2,vI b),(3,.fn 129 []),(9,vI a1),(10,vI a0.2.1)],[(1000000,wI 3 c9)]⟩)) qH (fun c7 r h=>?_) fun u k=>?_
 refine zB (y3 2 [0,1,2,3,9,10,11,69] [1000000] (qc h (fun h=>?_) fun h=>?_))
 refine y4 [0,1,2,3,9,10,11] [1000000] (zB (zC (zB (zB (qM 10 (dN 3 ?_))))))
 obtain ⟨f7,b7,h⟩:=aA h
 refine dI cI b7 (dR cI b7 (dN 3 ?_))
 obtain ⟨f8,b8,h⟩:=aA h
 refine dI cI b8 (dR cI b8 (dE ?_))
 obtain ⟨e8,d6,h⟩:=aA h
 refine oP (W.bN d6) (oN 2 (zO fun u k=>?_))
 refine yE k [0,1,2,3,9,10,11,84] [1000000] (qc h (fun h=>?_) fun h=>?_)
 refine zL 4 fun u k=>?_
 refine aR (Ur (by kernel_rfl) (aR ?_))
 cases h
 exact zF k
 refine y4 [0,1,2,3,9,10,11] [1000000] (qN [(15,[1000000])] [] [] [(2,[1000000]),(3,[1000000]),(4,[1000000])] [] 16 (dN 8 ?_))
 obtain ⟨e4,b9,h⟩:=aA h
 refine dI cI b9 (dR cI b9 (dN 2 ?_))
 obtain ⟨e5,c0,h⟩:=aA h
 refine dI cI c0 (dR cI c0 ?_)
 obtain ⟨f9,c1,h⟩:=aA h
 refine dI cI c1 (dS cI e4 c1 (dE ?_))
 obtain ⟨g0,c2,h⟩:=aA h
 refine oI cI c2 (oS cI e5 c2 (zO fun u k=>?_))
 refine aF (yE k [0,1,2,3,9,10,11] [1000000] (zD (z6 3 fun u k=>?_)))
 cases h
 exact zH k
 refine zL 4 fun u k=>?_
 refine aR ?_
 cases h
 exact zF k
 exact zQ (aV c9 h k (here (by kernel_rfl)))
 refine zM fun u k=>?_
 exact aV (List.set (List.set a0.2.2 (Int.toNat a1) d1) (Int.toNat (aJ a1 1)) d2) h k (here (by kernel_rfl))
 refine zL 0 fun u k=>?_
 refine aR ?_
 cases h
 exact zF k
 rcases d0 with a3 | c5
 refine aT (aO ?_)
 obtain rfl:=osi h
 exact zV k [(8,vB a3.1)]
 refine zQ (yE k [] [1000000] (z8 1 ⟨[(8,vB false)],[(1000000,wI 3 c5)]⟩ fun u k=>?_))
 obtain rfl:=osi h
 exact zV k [(8,vB false)]
theorem W.pM {a b pivot h0 r} (h:iZ a b pivot h0=some r):PC G.P 196 [(.row (.top 1000000) 3),(vI a),(vI b),(vI pivot),(.fn 129 [])] [(1000000,.row 3 [] (List.map cI h0))] (vI r.1) [(1000000,.row 3 [] (List.map cI r.2))]:=by
 refine zU G Tryz.func196 (yK [0,1,2,3,4] [1000000] (y3 1 [0,1,2,3,4] [1000000] (zB (qN [(13,[1000000])] [] [] [(2,[1000000]),(3,[1000000])] [] 14 (dN 6 ?_)))))
 obtain ⟨x9,c9,h⟩:=aA h
 refine dI cI c9 (dR cI c9 (dN 2 ?_))
 obtain ⟨d8,c2,h⟩:=aA h
 refine dI cI c2 (dR cI c2 ?_)
 obtain ⟨d9,c3,h⟩:=aA h
 refine dI cI c3 (dS cI x9 c3 (dE ?_))
 obtain ⟨e0,c4,h⟩:=aA h
 refine oI cI c4 (oS cI d8 c4 (zO fun u k=>?_))
 refine yE k [0,1,2,4] [1000000] (y3 6 [0,1,4,11,12] [1000000] (zB (zC ?_)))
 obtain ⟨a4,c1,h⟩:=aA h
 refine ql c1 (fun a0=>⟨[(0,ro 1000000 3),(1,vI a),(4,.fn 129 []),(11,vI a0.1),(12,vI a0.2.1)],[(1000000,wI 3 a0.2.2)]⟩) (fun a4=>(.exit 0,⟨[(11,vI a4.1)],[(1000000,wI 3 a4.2)]⟩)) qH (fun a0 r h=>?_) fun u k=>?_
 refine zC (zB (zC ?_))
 obtain ⟨a1,b9,h⟩:=aA h
 refine ql b9 (fun a2=>⟨[(0,ro 1000000 3),(1,vI a),(4,.fn 129 []),(11,vI a2),(12,vI a0.2.1)],[(1000000,wI 3 a0.2.2)]⟩) (fun a1=>(.exit 2,⟨[(0,ro 1000000 3),(1,vI a),(4,.fn 129 []),(11,vI a1),(12,vI a0.2.1)],[(1000000,wI 3 a0.2.2)]⟩)) qH (fun a2 r h=>?_) fun u k=>?_
 refine zB (zB ?_)
 obtain ⟨c5,b5,h⟩:=aA h
 refine gG ⟨[(0,ro 1000000 3),(1,vI a),(4,.fn 129 []),(11,vI a2),(12,vI a0.2.1),(47,vB c5)],[(1000000,wI 3 a0.2.2)]⟩ [] [] [] [] [] 13 (by kernel_rfl) (by kernel_rfl) (by kernel_rfl) ?_ fun u k=>?_
 replace h:=b5
 refine dN 4 (bH (decide (a2≤a0.2.1)) (fun b0=>⟨[(34,vB b0),(33,vB b0),(32,vI a0.2.1),(31,vI a2),(0,ro 1000000 3),(1,vI a),(4,.fn 129 []),(11,vI a2),(12,vI a0.2.1)],[(1000000,wI 3 a0.2.2)]⟩) (by kernel_rfl) (fun hb=>?_) fun hb=>?_)
 replace h:=iD hb h
 refine dN 3 ?_
 obtain ⟨d2,a5,h⟩:=aA h
 refine dI cI a5 (dR cI a5 (dN 2 ?_))
 obtain ⟨d3,a6,h⟩:=aA h
 refine dI cI a6 (dR cI a6 (dE ?_))
 obtain ⟨d0,b7,h⟩:=aA h
 refine oP (W.bN b7) (oN 3 (zO fun u k=>?_))
 cases h
 exact zG k
 replace h:=iB hb h
 refine dN 9 (dE (oN 4 (zO fun u k=>?_)))
 cases h
 exact zG k
 refine yE k [0,1,4,11,12,47] [1000000] (qc h (fun h=>?_) fun h=>?_)
 refine y4 [0,1,4,11,12] [1000000] (zC (zD (z6 3 fun u k=>?_)))
 refine aF ?_
 cases h
 exact zH k
 refine zL 2 fun u k=>?_
 refine aR ?_
 cases h
 exact zF k
 refine zQ (yE k [0,1,4,11,12] [1000000] (zB (zC ?_)))
 obtain ⟨b4,c0,h⟩:=aA h
 refine ql c0 (fun a3=>⟨[(0,ro 1000000 3),(1,vI a),(4,.fn 129 []),(11,vI a1),(12,vI a3)],[(1000000,wI 3 a0.2.2)]⟩) (fun b4=>(.exit 4,⟨[(0,ro 1000000 3),(1,vI a),(4,.fn 129 []),(11,vI a1),(12,vI b4)],[(1000000,wI 3 a0.2.2)]⟩)) qH (fun a3 r h=>?_) fun u k=>?_
 refine zB (zB ?_)
 obtain ⟨c6,b6,h⟩:=aA h
 refine gG ⟨[(0,ro 1000000 3),(1,vI a),(4,.fn 129 []),(11,vI a1),(12,vI a3),(65,vB c6)],[(1000000,wI 3 a0.2.2)]⟩ [] [] [] [] [] 13 (by kernel_rfl) (by kernel_rfl) (by kernel_rfl) ?_ fun u k=>?_
 replace h:=b6
 refine dN 4 (bH (decide (a1≤a3)) (fun b0=>⟨[(53,vB b0),(52,vB b0),(51,vI a3),(50,vI a1),(0,ro 1000000 3),(1,vI a),(4,.fn 129 []),(11,vI a1),(12,vI a3)],[(1000000,wI 3 a0.2.2)]⟩) (by kernel_rfl) (fun hb=>?_) fun hb=>?_)
 replace h:=iD hb h
 refine dN 3 ?_
 obtain ⟨d4,a7,h⟩:=aA h
 refine dI cI a7 (dR cI a7 (dN 2 ?_))
 obtain ⟨d5,a8,h⟩:=aA h
 refine dI cI a8 (dR cI a8 (dE ?_))
 obtain ⟨d1,b8,h⟩:=aA h
 refine oP (W.bN b8) (oN 2 (zO fun u k=>?_))
 cases h
 exact zG k
 replace h:=iB hb h
 refine dN 9 (dE (oN 3 (zO fun u k=>?_)))
 cases h
 exact zG k
 refine yE k [0,1,4,11,12,65] [1000000] (qc h (fun h=>?_) fun h=>?_)
 refine y4 [0,1,4,11,12] [1000000] (zC (zD (z6 3 fun u k=>?_)))
 refine aF ?_
 cases h
 exact zH k
 refine zL 4 fun u k=>?_
 refine aR ?_
 cases h
 exact zF k
 refine zQ (yE k [0,1,4,11,12] [1000000] (zB (y3 3 [0,1,4,11,12,70] [1000000] (qc h (fun h=>?_) fun h=>?_))))
 refine zL 0 fun u k=>?_
 refine aR (Ur (by kernel_rfl) ?_)
 cases h
 exact zF k
 refine y4 [0,1,4,11,12] [1000000] (zB (qN [(13,[1000000])] [] [] [(2,[1000000]),(3,[1000000])] [] 14 (dN 6 ?_)))
 obtain ⟨c7,a9,h⟩:=aA h
 refine dI cI a9 (dR cI a9 (dN 2 ?_))
 obtain ⟨c8,b1,h⟩:=aA h
 refine dI cI b1 (dR cI b1 ?_)
 obtain ⟨d6,b2,h⟩:=aA h
 refine dI cI b2 (dS cI c7 b2 (dE ?_))
 obtain ⟨d7,b3,h⟩:=aA h
 refine oI cI b3 (oS cI c8 b3 (zO fun u k=>?_))
 refine yE k [0,1,4,11,12] [1000000] (y3 3 [0,1,4,11,12] [1000000] (zD (z6 3 fun u k=>?_)))
 refine aF ?_
 cases h
 exact zH k
 refine zQ (yE k [11] [1000000] (z8 2 ⟨[(10,vI a4.1)],[(1000000,wI 3 a4.2)]⟩ fun u k=>?_))
 obtain rfl:=osi h
 exact zV k [(10,vI a4.1)]
theorem W.tX {a b pivot h0 r} (h:kX a b pivot h0=some r):PC G.P 197 [(.row (.top 1000000) 3),(vI a),(vI b),(vI pivot),(.fn 129 [])] [(1000000,.row 3 [] (List.map cI h0))] (.tup [(vI r.1),(vB r.2.1)]) [(1000000,.row 3 [] (List.map cI r.2.2))]:=by
 refine zU G Tryz.func197 (yK [0,1,2,3,4] [1000000] (y3 2 [0,1,2,3,4] [1000000] (zB (qN [(13,[1000000])] [] [] [(2,[1000000]),(3,[1000000])] [] 14 (dN 6 ?_)))))
 obtain ⟨x9,g4,h⟩:=aA h
 refine dI cI g4 (dR cI g4 (dN 2 ?_))
 obtain ⟨c1,e9,h⟩:=aA h
 refine dI cI e9 (dR cI e9 ?_)
 obtain ⟨i6,f0,h⟩:=aA h
 refine dI cI f0 (dS cI x9 f0 (dE ?_))
 obtain ⟨i7,f1,h⟩:=aA h
 refine oI cI f1 (oS cI c1 f1 (zO fun u k=>?_))
 refine yE k [0,1,2,4] [1000000] (y3 6 [0,1,4,12,13] [1000000] (zB (zC ?_)))
 obtain ⟨a5,f2,h⟩:=aA h
 refine ql f2 (fun e4=>⟨[(0,ro 1000000 3),(1,vI a),(4,.fn 129 []),(12,vI e4),(13,vI (aJ b 1))],[(1000000,wI 3 (List.set (List.set h0 (Int.toNat a) x9) (Int.toNat pivot) c1))]⟩) (fun a5=>(.exit 0,⟨[(0,ro 1000000 3),(1,vI a),(4,.fn 129 []),(12,vI a5),(13,vI (aJ b 1))],[(1000000,wI 3 (List.set (List.set h0 (Int.toNat a) x9) (Int.toNat pivot) c1))]⟩)) qH (fun e4 r h=>?_) fun u k=>?_
 refine zB (zB ?_)
 obtain ⟨g0,e5,h⟩:=aA h
 refine gG ⟨[(0,ro 1000000 3),(1,vI a),(4,.fn 129 []),(12,vI e4),(13,vI (aJ b 1)),(47,vB g0)],[(1000000,wI 3 (List.set (List.set h0 (Int.toNat a) x9) (Int.toNat pivot) c1))]⟩ [] [] [] [] [] 13 (by kernel_rfl) (by kernel_rfl) (by kernel_rfl) ?_ fun u k=>?_
 replace h:=e5
 refine dN 4 (bH (decide (e4≤(aJ b 1))) (fun b0=>⟨[(35,vB b0),(34,vB b0),(33,vI (aJ b 1)),(32,vI e4),(0,ro 1000000 3),(1,vI a),(4,.fn 129 []),(12,vI e4),(13,vI (aJ b 1))],[(1000000,wI 3 (List.set (List.set h0 (Int.toNat a) x9) (Int.toNat pivot) c1))]⟩) (by kernel_rfl) (fun hb=>?_) fun hb=>?_)
 replace h:=iD hb h
 refine dN 3 ?_
 obtain ⟨h8,c2,h⟩:=aA h
 refine dI cI c2 (dR cI c2 (dN 2 ?_))
 obtain ⟨h9,c3,h⟩:=aA h
 refine dI cI c3 (dR cI c3 (dE ?_))
 obtain ⟨h6,e7,h⟩:=aA h
 refine oP (W.bN e7) (oN 2 (zO fun u k=>?_))
 cases h
 exact zG k
 replace h:=iB hb h
 refine dN 9 (dE (oN 3 (zO fun u k=>?_)))
 cases h
 exact zG k
 refine yE k [0,1,4,12,13,47] [1000000] (qc h (fun h=>?_) fun h=>?_)
 refine y4 [0,1,4,12,13] [1000000] (zC (zD (z6 3 fun u k=>?_)))
 refine aF ?_
 cases h
 exact zH k
 refine zL 0 fun u k=>?_
 refine aR ?_
 cases h
 exact zF k
 refine zQ (yE k [0,1,4,12,13] [1000000] (zB (zC ?_)))
 obtain ⟨c0,f3,h⟩:=aA h
 refine ql f3 (fun a6=>⟨[(0,ro 1000000 3),(1,vI a),(4,.fn 129 []),(12,vI a5),(13,vI a6)],[(1000000,wI 3 (List.set (List.set h0 (Int.toNat a) x9) (Int.toNat pivot) c1))]⟩) (fun c0=>(.exit 2,⟨[(0,ro 1000000 3),(1,vI a),(4,.fn 129 []),(12,vI a5),(13,vI c0)],[(1000000,wI 3 (List.set (List.set h0 (Int.toNat a) x9) (Int.toNat pivot) c1))]⟩)) qH (fun a6 r h=>?_) fun u k=>?_
 refine zB (zB ?_)
 obtain ⟨g1,e6,h⟩:=aA h
 refine gG ⟨[(0,ro 1000000 3),(1,vI a),(4,.fn 129 []),(12,vI a5),(13,vI a6),(66,vB g1)],[(1000000,wI 3 (List.set (List.set h0 (Int.toNat a) x9) (Int.toNat pivot) c1))]⟩ [] [] [] [] [] 13 (by kernel_rfl) (by kernel_rfl) (by kernel_rfl) ?_ fun u k=>?_
 replace h:=e6
 refine dN 4 (bH (decide (a5≤a6)) (fun b0=>⟨[(53,vB b0),(52,vB b0),(51,vI a6),(50,vI a5),(0,ro 1000000 3),(1,vI a),(4,.fn 129 []),(12,vI a5),(13,vI a6)],[(1000000,wI 3 (List.set (List.set h0 (Int.toNat a) x9) (Int.toNat pivot) c1))]⟩) (by kernel_rfl) (fun hb=>?_) fun hb=>?_)
 replace h:=iD hb h
 refine dN 3 ?_
 obtain ⟨i0,c4,h⟩:=aA h
 refine dI cI c4 (dR cI c4 (dN 2 ?_))
 obtain ⟨i1,c5,h⟩:=aA h
 refine dI cI c5 (dR cI c5 (dE ?_))
 obtain ⟨h7,e8,h⟩:=aA h
 refine oP (W.bN e8) (oN 3 (zO fun u k=>?_))
 cases h
 exact zG k
 replace h:=iB hb h
 refine dN 9 (dE (oN 4 (zO fun u k=>?_)))
 cases h
 exact zG k
 refine yE k [0,1,4,12,13,66] [1000000] (qc h (fun h=>?_) fun h=>?_)
 refine y4 [0,1,4,12,13] [1000000] (zC (zD (z6 3 fun u k=>?_)))
 refine aF ?_
 cases h
 exact zH k
 refine zL 2 fun u k=>?_
 refine aR ?_
 cases h
 exact zF k
 refine zQ (yE k [0,1,4,12,13] [1000000] (zB (y3 3 [0,1,4,12,13,71] [1000000] (qc h (fun h=>?_) fun h=>?_))))
 refine zB (qN [(13,[1000000])] [] [] [(2,[1000000]),(3,[1000000])] [] 14 (dN 6 ?_))
 obtain ⟨f8,c6,h⟩:=aA h
 refine dI cI c6 (dR cI c6 (dN 2 ?_))
 obtain ⟨f9,c7,h⟩:=aA h
 refine dI cI c7 (dR cI c7 ?_)
 obtain ⟨i2,c8,h⟩:=aA h
 refine dI cI c8 (dS cI f8 c8 (dE ?_))
 obtain ⟨i3,c9,h⟩:=aA h
 refine oI cI c9 (oS cI f9 c9 (zO fun u k=>?_))
 refine yE k [13] [1000000] (z8 3 ⟨[(10,vI c0),(11,vB true)],[(1000000,wI 3 (List.set (List.set (List.set (List.set h0 (Int.toNat a) x9) (Int.toNat pivot) c1) (Int.toNat c0) f8) (Int.toNat a) f9))]⟩ fun u k=>?_)
 refine aO ?_
 obtain rfl:=osi h
 exact zV k [(10,vI c0),(11,vB true)]
 refine y4 [0,1,4,12,13] [1000000] (zB (qN [(13,[1000000])] [] [] [(2,[1000000]),(3,[1000000])] [] 14 (dN 6 ?_)))
 obtain ⟨g2,d0,h⟩:=aA h
 refine dI cI d0 (dR cI d0 (dN 2 ?_))
 obtain ⟨g3,d1,h⟩:=aA h
 refine dI cI d1 (dR cI d1 ?_)
 obtain ⟨i4,d2,h⟩:=aA h
 refine dI cI d2 (dS cI g2 d2 (dE ?_))
 obtain ⟨i5,d3,h⟩:=aA h
 refine oI cI d3 (oS cI g3 d3 (zO fun u k=>?_))
 refine yE k [0,1,4,12,13] [1000000] (y3 3 [0,1,4,12,13] [1000000] (y3 3 [0,1,4,12,13] [1000000] (zB (zC ?_))))
 obtain ⟨a2,e3,h⟩:=aA h
 refine ql e3 (fun a0=>⟨[(0,ro 1000000 3),(1,vI a),(4,.fn 129 []),(12,vI a0.1),(13,vI a0.2.1)],[(1000000,wI 3 a0.2.2)]⟩) (fun a2=>(.exit 4,⟨[(0,ro 1000000 3),(1,vI a),(13,vI a2.1)],[(1000000,wI 3 a2.2)]⟩)) qH (fun a0 r h=>?_) fun u k=>?_
 refine zC (zB (zC ?_))
 obtain ⟨a1,e1,h⟩:=aA h
 refine ql e1 (fun a3=>⟨[(0,ro 1000000 3),(1,vI a),(4,.fn 129 []),(12,vI a3),(13,vI a0.2.1)],[(1000000,wI 3 a0.2.2)]⟩) (fun a1=>(.exit 6,⟨[(0,ro 1000000 3),(1,vI a),(4,.fn 129 []),(12,vI a1),(13,vI a0.2.1)],[(1000000,wI 3 a0.2.2)]⟩)) qH (fun a3 r h=>?_) fun u k=>?_
 refine zB (zB ?_)
 obtain ⟨f4,d7,h⟩:=aA h
 refine gG ⟨[(0,ro 1000000 3),(1,vI a),(4,.fn 129 []),(12,vI a3),(13,vI a0.2.1),(120,vB f4)],[(1000000,wI 3 a0.2.2)]⟩ [] [] [] [] [] 13 (by kernel_rfl) (by kernel_rfl) (by kernel_rfl) ?_ fun u k=>?_
 replace h:=d7
 refine dN 4 (bH (decide (a3≤a0.2.1)) (fun b0=>⟨[(108,vB b0),(107,vB b0),(106,vI a0.2.1),(105,vI a3),(0,ro 1000000 3),(1,vI a),(4,.fn 129 []),(12,vI a3),(13,vI a0.2.1)],[(1000000,wI 3 a0.2.2)]⟩) (by kernel_rfl) (fun hb=>?_) fun hb=>?_)
 replace h:=iD hb h
 refine dN 3 ?_
 obtain ⟨g7,a7,h⟩:=aA h
 refine dI cI a7 (dR cI a7 (dN 2 ?_))
 obtain ⟨g8,a8,h⟩:=aA h
 refine dI cI a8 (dR cI a8 (dE ?_))
 obtain ⟨g5,d9,h⟩:=aA h
 refine oP (W.bN d9) (oN 2 (zO fun u k=>?_))
 cases h
 exact zG k
 replace h:=iB hb h
 refine dN 9 (dE (oN 3 (zO fun u k=>?_)))
 cases h
 exact zG k
 refine yE k [0,1,4,12,13,120] [1000000] (qc h (fun h=>?_) fun h=>?_)
 refine y4 [0,1,4,12,13] [1000000] (zC (zD (z6 3 fun u k=>?_)))
 refine aF ?_
 cases h
 exact zH k
 refine zL 6 fun u k=>?_
 refine aR ?_
 cases h
 exact zF k
 refine zQ (yE k [0,1,4,12,13] [1000000] (zB (zC ?_)))
 obtain ⟨d4,e2,h⟩:=aA h
 refine ql e2 (fun a4=>⟨[(0,ro 1000000 3),(1,vI a),(4,.fn 129 []),(12,vI a1),(13,vI a4)],[(1000000,wI 3 a0.2.2)]⟩) (fun d4=>(.exit 8,⟨[(0,ro 1000000 3),(1,vI a),(4,.fn 129 []),(12,vI a1),(13,vI d4)],[(1000000,wI 3 a0.2.2)]⟩)) qH (fun a4 r h=>?_) fun u k=>?_
 refine zB (zB ?_)
 obtain ⟨f5,d8,h⟩:=aA h
 refine gG ⟨[(0,ro 1000000 3),(1,vI a),(4,.fn 129 []),(12,vI a1),(13,vI a4),(139,vB f5)],[(1000000,wI 3 a0.2.2)]⟩ [] [] [] [] [] 13 (by kernel_rfl) (by kernel_rfl) (by kernel_rfl) ?_ fun u k=>?_
 replace h:=d8
 refine dN 4 (bH (decide (a1≤a4)) (fun b0=>⟨[(126,vB b0),(125,vB b0),(124,vI a4),(123,vI a1),(0,ro 1000000 3),(1,vI a),(4,.fn 129 []),(12,vI a1),(13,vI a4)],[(1000000,wI 3 a0.2.2)]⟩) (by kernel_rfl) (fun hb=>?_) fun hb=>?_)
 replace h:=iD hb h
 refine dN 3 ?_
 obtain ⟨g9,a9,h⟩:=aA h
 refine dI cI a9 (dR cI a9 (dN 2 ?_))
 obtain ⟨h1,b1,h⟩:=aA h
 refine dI cI b1 (dR cI b1 (dE ?_))
 obtain ⟨g6,e0,h⟩:=aA h
 refine oP (W.bN e0) (oN 3 (zO fun u k=>?_))
 cases h
 exact zG k
 replace h:=iB hb h
 refine dN 9 (dE (oN 4 (zO fun u k=>?_)))
 cases h
 exact zG k
 refine yE k [0,1,4,12,13,139] [1000000] (qc h (fun h=>?_) fun h=>?_)
 refine y4 [0,1,4,12,13] [1000000] (zC (zD (z6 3 fun u k=>?_)))
 refine aF ?_
 cases h
 exact zH k
 refine zL 8 fun u k=>?_
 refine aR ?_
 cases h
 exact zF k
 refine zQ (yE k [0,1,4,12,13] [1000000] (zB (y3 3 [0,1,4,12,13,144] [1000000] (qc h (fun h=>?_) fun h=>?_))))
 refine zL 4 fun u k=>?_
 refine aR (Ur (by kernel_rfl) ?_)
 cases h
 exact zF k
 refine y4 [0,1,4,12,13] [1000000] (zB (qN [(13,[1000000])] [] [] [(2,[1000000]),(3,[1000000])] [] 14 (dN 6 ?_)))
 obtain ⟨f6,b2,h⟩:=aA h
 refine dI cI b2 (dR cI b2 (dN 2 ?_))
 obtain ⟨f7,b3,h⟩:=aA h
 refine dI cI b3 (dR cI b3 ?_)
 obtain ⟨h2,b4,h⟩:=aA h
 refine dI cI b4 (dS cI f6 b4 (dE ?_))
 obtain ⟨h3,b5,h⟩:=aA h
 refine oI cI b5 (oS cI f7 b5 (zO fun u k=>?_))
 refine yE k [0,1,4,12,13] [1000000] (y3 3 [0,1,4,12,13] [1000000] (zD (z6 3 fun u k=>?_)))
 refine aF ?_
 cases h
 exact zH k
 refine zQ (yE k [0,1,13] [1000000] (zB (qN [(13,[1000000])] [] [] [(2,[1000000]),(3,[1000000])] [] 14 (dN 6 ?_))))
 obtain ⟨d5,b6,h⟩:=aA h
 refine dI cI b6 (dR cI b6 (dN 2 ?_))
 obtain ⟨d6,b7,h⟩:=aA h
 refine dI cI b7 (dR cI b7 ?_)
 obtain ⟨h4,b8,h⟩:=aA h
 refine dI cI b8 (dS cI d5 b8 (dE ?_))
 obtain ⟨h5,b9,h⟩:=aA h
 refine oI cI b9 (oS cI d6 b9 (zO fun u k=>?_))
 refine yE k [13] [1000000] (z8 3 ⟨[(10,vI a2.1),(11,vB false)],[(1000000,wI 3 (List.set (List.set a2.2 (Int.toNat a2.1) d5) (Int.toNat a) d6))]⟩ fun u k=>?_)
 obtain rfl:=osi h
 exact zV k [(10,vI a2.1),(11,vB false)]
theorem W.qO (self:Int→Int→Int→(List Int)→Option ((List Int))) (hself:∀ {a:Int} {b:Int} {limit:Int} {h0:(List Int)} {r:(List Int)},self a b limit h0=some r→PC G.P 180 [(.row (.top 1000000) 3),(vI a),(vI b),(vI limit),(.fn 129 [])] [(1000000,.row 3 [] (List.map cI h0))] (.tup []) [(1000000,.row 3 [] (List.map cI r))]) {a:Int} {b:Int} {limit:Int} {h0:(List Int)} {r:(List Int)} (h:jM self a b limit h0=some r):PC G.P 180 [(.row (.top 1000000) 3),(vI a),(vI b),(vI limit),(.fn 129 [])] [(1000000,.row 3 [] (List.map cI h0))] (.tup []) [(1000000,.row 3 [] (List.map cI r))]:=by
 refine zU G Tryz.func180 (yK [0,1,2,3,4] [1000000] (y3 1 [0,1,2,3,4,10] [1000000] (y3 1 [0,1,2,3,4,10,11] [1000000] (zC ?_))))
 obtain ⟨c3,c2,h⟩:=aA h
 refine ql c2 (fun a0=>⟨[(0,ro 1000000 3),(1,vI a0.1),(2,vI a0.2.1),(3,vI a0.2.2.1),(4,.fn 129 []),(10,vB a0.2.2.2.1),(11,vB a0.2.2.2.2.1)],[(1000000,wI 3 a0.2.2.2.2.2)]⟩) (fun c3=>(.ret,⟨[],[(1000000,wI 3 c3)]⟩)) qH (fun a0 r h=>?_) fun u k=>?_
 refine zC (y3 4 [0,1,2,3,4,10,11,12] [1000000] (zB (y3 2 [0,1,2,3,4,10,11,12,25] [1000000] (qc h (fun h=>?_) fun h=>?_))))
 refine z7 (zA 4 ?_)
 obtain ⟨c8,b1,h⟩:=aA h
 refine qC [(1000000,1000000)] [] (W.pW b1) (zP fun u k=>?_)
 refine yE k [] [1000000] (zN fun u k=>?_)
 refine aO (aT ?_)
 cases h
 exact zF k
 refine y4 [0,1,2,3,4,10,11,12] [1000000] (zB (y3 2 [0,1,2,3,4,10,11,12,32] [1000000] (qc h (fun h=>?_) fun h=>?_)))
 refine z7 (zA 4 ?_)
 obtain ⟨c9,b2,h⟩:=aA h
 refine qC [(1000000,1000000)] [] (W.uH b2) (zP fun u k=>?_)
 refine yE k [] [1000000] (zN fun u k=>?_)
 refine aO (aT ?_)
 cases h
 exact zF k
 refine y4 [0,1,2,3,4,10,11,12] [1000000] (bV (fun (a1:Int×(List Int))=>⟨[(0,ro 1000000 3),(1,vI a0.1),(2,vI a0.2.1),(3,vI a1.1),(4,.fn 129 []),(10,vB a0.2.2.2.1),(11,vB a0.2.2.2.2.1),(12,vI (aJ a0.2.1 a0.1))],[(1000000,wI 3 a1.2)]⟩) (fI self a0) r (by kernel_rfl) (fun a1 h=>?_) ?_)
 refine z7 (zA 4 ?_)
 obtain ⟨a7,b3,h⟩:=aA h
 refine qV [1000000] (W.rF b3) (y1 5 [0,1,2,3,4,10,11,12,13,14] [1000000] (bV (fun (a2:Int×Int×(List Int))=>⟨[(0,ro 1000000 3),(1,vI a0.1),(2,vI a0.2.1),(3,vI a1.1),(4,.fn 129 []),(10,vB a0.2.2.2.1),(11,vB a0.2.2.2.2.1),(12,vI (aJ a0.2.1 a0.1)),(13,vI a2.1),(14,vI a2.2.1)],[(1000000,wI 3 a2.2.2)]⟩) (fH self a0 a1) r (by kernel_rfl) (fun a2 h=>?_) ?_))
 refine bV (fun (a3:Bool×Bool×(List Int))=>⟨[(0,ro 1000000 3),(1,vI a0.1),(2,vI a0.2.1),(3,vI a1.1),(4,.fn 129 []),(10,vB a3.1),(11,vB a3.2.1),(12,vI (aJ a0.2.1 a0.1)),(13,vI a2.1)],[(1000000,wI 3 a3.2.2)]⟩) (fG self a0 a1 a2) r (by kernel_rfl) (fun a3 h=>?_) ?_
 refine zB (zB ?_)
 obtain ⟨c4,a8,h⟩:=aA h
 refine gG ⟨[(0,ro 1000000 3),(1,vI a0.1),(2,vI a0.2.1),(3,vI a1.1),(4,.fn 129 []),(10,vB a3.1),(11,vB a3.2.1),(12,vI (aJ a0.2.1 a0.1)),(13,vI a2.1),(97,vB c4)],[(1000000,wI 3 a3.2.2)]⟩ [] [] [] [] [] 13 (by kernel_rfl) (by kernel_rfl) (by kernel_rfl) ?_ fun u k=>?_
 replace h:=a8
 refine dN 3 (bH (decide (a0.1>0)) (fun b0=>⟨[(83,vB b0),(82,vB b0),(81,vI a0.1),(0,ro 1000000 3),(1,vI a0.1),(2,vI a0.2.1),(3,vI a1.1),(4,.fn 129 []),(10,vB a3.1),(11,vB a3.2.1),(12,vI (aJ a0.2.1 a0.1)),(13,vI a2.1)],[(1000000,wI 3 a3.2.2)]⟩) (by kernel_rfl) (fun hb=>?_) fun hb=>?_)
 replace h:=iD hb h
 refine dN 4 ?_
 obtain ⟨d5,a5,h⟩:=aA h
 refine dI cI a5 (dR cI a5 (dN 2 ?_))
 obtain ⟨d6,a6,h⟩:=aA h
 refine dI cI a6 (dR cI a6 (dE ?_))
 obtain ⟨d0,b4,h⟩:=aA h
 refine oP (W.bN b4) (oN 3 (zO fun u k=>?_))
 cases h
 exact zG k
 replace h:=iB hb h
 refine dN 10 (dE (oN 4 (zO fun u k=>?_)))
 cases h
 exact zG k
 refine yE k [0,1,2,3,4,10,11,12,13,97] [1000000] (qc h (fun h=>?_) fun h=>?_)
 refine z7 (zA 5 ?_)
 obtain ⟨d1,b5,h⟩:=aA h
 refine qC [(1000000,1000000)] [] (W.pM b5) (y1 1 [0,2,3,4,10,11,15] [1000000] (y3 2 [0,1,2,3,4,10,11] [1000000] (zL 1 fun u k=>?_)))
 refine aR (zQ ?_)
 cases h
 exact zH k
 refine y4 [0,1,2,3,4,12,13] [1000000] (z7 (zA 5 ?_))
 obtain ⟨d2,b6,h⟩:=aA h
 refine qC [(1000000,1000000)] [] (W.tX b6) (y1 5 [0,1,2,3,4,12,16,17] [1000000] (y3 2 [0,1,2,3,4,11,12,16] [1000000] (y3 8 [0,1,2,3,4,11,12,16,18,19] [1000000] (y3 3 [0,1,2,3,4,11,16,18,19,20] [1000000] (y3 3 [0,1,2,3,4,11,16,18,19,20,125] [1000000] (qc h (fun h=>?_) fun h=>?_))))))
 refine y3 4 [0,1,2,3,4,10,11,16] [1000000] (z7 (zA 5 ?_))
 obtain ⟨d3,b7,h⟩:=aA h
 refine zK [(1000000,1000000)] [] [] (by kernel_rfl) (hself b7) (by kernel_rfl) (by kernel_rfl) (.inl rfl) (zP fun u k=>?_)
 refine yE k [0,2,3,4,10,11,16] [1000000] (zD (z6 3 fun u k=>?_))
 refine aF ?_
 cases h
 exact zH k
 refine y3 4 [0,1,2,3,4,10,11,16] [1000000] (z7 (zA 6 ?_))
 obtain ⟨d4,b8,h⟩:=aA h
 refine zK [(1000000,1000000)] [] [] (by kernel_rfl) (hself b8) (by kernel_rfl) (by kernel_rfl) (.inl rfl) (zP fun u k=>?_)
 refine yE k [0,1,3,4,10,11,16] [1000000] (zD (z6 2 fun u k=>?_))
 refine aF ?_
 cases h
 exact zH k
 refine zB ?_
 obtain ⟨a4,a9,h⟩:=aA h
 refine zT ⟨[(0,ro 1000000 3),(1,vI a0.1),(2,vI a0.2.1),(3,vI a1.1),(4,.fn 129 []),(10,vB a4.1),(11,vB a4.2.1),(12,vI (aJ a0.2.1 a0.1)),(13,vI a2.1),(75,vB a4.2.2)],[(1000000,wI 3 a2.2.2)]⟩ ?_ fun u k=>?_
 replace h:=a9
 refine zA 2 (qB h [0,1,2,3,4,10,11,12,13,14,69] [1000000] [10,69] (fun h=>?_) fun h=>?_)
 refine zA 3 (qB h [0,1,2,3,4,10,11,12,13,14,72] [1000000] [11,72] (fun h=>?_) fun h=>?_)
 refine z6 3 fun u k=>?_
 cases h
 exact zG k
 refine z6 3 fun u k=>?_
 cases h
 exact zG k
 refine z6 6 fun u k=>?_
 cases h
 exact zG k
 refine yE k [0,1,2,3,4,10,11,12,13,75] [1000000] (qc h (fun h=>?_) fun h=>?_)
 refine z7 (zA 4 ?_)
 obtain ⟨c5,b9,h⟩:=aA h
 refine qC [(1000000,1000000)] [] (W.nC b9) (zP fun u k=>?_)
 refine yE k [0,1,2,3,4,10,11,12,13,80] [1000000] (qc h (fun h=>?_) fun h=>?_)
 refine zN fun u k=>?_
 refine MM (aT ?_)
 cases h
 exact zF k
 refine zM fun u k=>?_
 exact aV (a4.1,a4.2.1,c5.2) h k (here (by kernel_rfl))
 refine zM fun u k=>?_
 exact aV (a4.1,a4.2.1,a2.2.2) h k (here (by kernel_rfl))
 refine y3 2 [0,1,2,3,4,10,11,12,13,14,56] [1000000] (qc h (fun h=>?_) fun h=>?_)
 refine z7 (zA 4 ?_)
 obtain ⟨c6,c0,h⟩:=aA h
 refine qC [(1000000,1000000)] [] (W.qU c0) (zP fun u k=>?_)
 refine yE k [0,1,2,3,4,10,11,12,13] [1000000] (y3 7 [0,1,2,3,4,10,11,12,13] [1000000] (zD (z6 1 fun u k=>?_)))
 exact aV ((aJ (aJ a0.2.1 1) (aJ a7.1 a0.1)),1,c6) h k (here (by kernel_rfl))
 refine zM fun u k=>?_
 exact aV (a7.1,a7.2,a1.2) h k (here (by kernel_rfl))
 refine y3 2 [0,1,2,3,4,10,11,12,39] [1000000] (qc h (fun h=>?_) fun h=>?_)
 refine z7 (zA 4 ?_)
 obtain ⟨c7,c1,h⟩:=aA h
 refine qC [(1000000,1000000)] [] (W.pR c1) (zP fun u k=>?_)
 refine yE k [0,1,2,3,4,10,11,12] [1000000] (zD (z6 3 fun u k=>?_))
 exact aV ((aJ a0.2.2.1 1),c7) h k (here (by kernel_rfl))
 refine zM fun u k=>?_
 exact aV (a0.2.2.1,a0.2.2.2.2.2) h k (here (by kernel_rfl))
 refine aT ?_
 obtain rfl:=osi h
 exact zV k []
theorem W.jN:∀ (n:Nat) {a:Int} {b:Int} {limit:Int} {h0:(List Int)} {r:(List Int)},bL n a b limit h0=some r→PC G.P 180 [(.row (.top 1000000) 3),(vI a),(vI b),(vI limit),(.fn 129 [])] [(1000000,.row 3 [] (List.map cI h0))] (.tup []) [(1000000,.row 3 [] (List.map cI r))]
  | 0,_,_,_,_,_,h=>by simp [bL] at h
  | n+1,_,_,_,_,_,h=>W.qO (bL n) (W.jN n) h
theorem W.uK {a:Int} {b:Int} {limit:Int} {h0:(List Int)} {r:(List Int)} (h:lT a b limit h0=some r):PC G.P 180 [(.row (.top 1000000) 3),(vI a),(vI b),(vI limit),(.fn 129 [])] [(1000000,.row 3 [] (List.map cI h0))] (.tup []) [(1000000,.row 3 [] (List.map cI r))]:=W.jN 1000 h
theorem W.uW {h0 r} (h:dQ h0=some r):PC G.P 151 [(.row (.top 1000000) 3),(.fn 129 [])] [(1000000,.row 3 [] (List.map cI h0))] (.tup []) [(1000000,.row 3 [] (List.map cI r))]:=by
 refine zU G Tryz.func151 (yK [0,1] [1000000] (z7 (zA 1 (qL cI h0 (y1 1 [0,1,4] [1000000] (zD ?_))))))
 refine zA 4 ?_
 obtain ⟨r3,a0,h⟩:=aA h
 refine qP (W.Xt a0) (zA 1 ?_)
 obtain ⟨r4,a1,h⟩:=aA h
 refine qC [(1000000,1000000)] [] (W.uK a1) (zP fun u k=>?_)
 obtain rfl:=osi h
 exact xO k [] (here (by kernel_rfl)) (by kernel_rfl)
theorem W.Ia {h0 r} (h:uU h0=some r):PC G.P 152 [(.row (.top 300000) 3)] [(300000,.row 3 [] (List.map cI h0))] (.row (.top 0) 3) [(0,.row 3 [] (List.map cI r))]:=by
 refine zU G Tryz.func152 (yK [0] [300000] (y3 1 [0] [300000] (zB (z7 (zA 1 (qL cI h0 ?_))))))
 refine y1 1 [0,8] [300000] (qc h (fun h=>?_) fun h=>?_)
 refine z8 2 ⟨[(2,ro 300000 3)],[(300000,wI 3 h0)]⟩ fun u k=>?_
 refine aO ?_
 obtain rfl:=osi h
 exact qW k [(2,ro 0 3)] (sp [] [(300000,0)])
 refine y4 [0] [300000] (zB (y3 1 [0,3] [300000] (zC ?_)))
 obtain ⟨b1,b5,h⟩:=aA h
 refine ql b5 (fun a1=>⟨[(0,ro 500000 3),(3,vI a1)],[(500000,wI 3 h0)]⟩) (fun b1=>match b1 with | .inl b2=>(.ret,⟨[(2,ro 500000 3)],[(500000,wI 3 b2)]⟩) | .inr b6=>(.exit 0,⟨[(0,ro 500000 3)],[(500000,wI 3 h0)]⟩)) (sp [] [(300000,500000)]) (fun a1 r h=>?_) (fun u k=>?_) (hout:=(by intro x;rcases x with _ | _ <;> rfl))
 refine zB (z7 (zA 2 (qL cI h0 (y1 1 [0,3,13] [500000] (qc h (fun h=>?_) fun h=>?_)))))
 refine y4 [0,3] [500000] (zB (zC (zB (qM 9 (dN 2 ?_)))))
 obtain ⟨c0,a3,h⟩:=aA h
 refine dI cI a3 (dR cI a3 (dN 3 ?_))
 obtain ⟨c1,a4,h⟩:=aA h
 refine dI cI a4 (dR cI a4 (dE (oN 1 (zO fun u k=>?_))))
 refine yE k [0,3,25] [500000] (qc h (fun h=>?_) fun h=>?_)
 refine z7 (zA 2 ?_)
 obtain ⟨hp2,h⟩:=ZA h
 refine iQ (PS (c:=cI) (l:=h0) (kk:=(.top 500000)) (e:=3) (sz:=1) (lo:=a1) (k1:=.i64) (by kernel_rfl) (by kernel_rfl) (fun _=>rfl) hp2) (y1 1 [0,3,4] [500000] (zB (y3 1 [0,3,4,5] [500000] (zC ?_))))
 obtain ⟨a2,b4,h⟩:=aA h
 refine ql b4 (fun a0=>⟨[(0,ro 500000 3),(3,vI a0.1),(4,.part (.top 500000) 3 (Int.toNat a1) (Int.toNat (h0.length:Int)-Int.toNat a1)),(5,vI a0.2.1)],[(500000,wI 3 a0.2.2)]⟩) (fun a2=>(.exit 2,⟨[(0,ro 500000 3),(3,vI a2.1)],[(500000,wI 3 a2.2)]⟩)) qH (fun a0 r h=>?_) fun u k=>?_
 refine zB (z7 (zA 2 (iQ (ZY (kk:=(.top 500000)) (e:=3) (lo:=(Int.toNat a1)) (n:=(Int.toNat (h0.length:Int)-Int.toNat a1)) (by kernel_rfl)) (y1 1 [0,3,4,5,32] [500000] (qc h (fun h=>?_) fun h=>?_)))))
 refine y4 [0,3,4,5] [500000] (bV (fun (a9:Int×(List Int))=>⟨[(0,ro 500000 3),(3,vI a9.1),(4,.part (.top 500000) 3 (Int.toNat a1) (Int.toNat (h0.length:Int)-Int.toNat a1)),(5,vI a0.2.1)],[(500000,wI 3 a9.2)]⟩) (qK a0) r (by kernel_rfl) (fun a9 h=>?_) ?_)
 refine zD (z6 3 fun u k=>?_)
 cases h
 exact zH k
 refine zC (zB (qM 9 (dN 2 ?_)))
 obtain ⟨b7,a5,h⟩:=aA h
 refine xM (by kernel_rfl) (HZ (c:=cI) (l:=a0.2.2) (i:=a0.2.1) (kd:=.i64) (kk:=(.top 500000)) (e:=3) (sz:=1) (lo:=(Int.toNat a1)) (n:=(Int.toNat (h0.length:Int)-Int.toNat a1)) (by kernel_rfl) (by kernel_rfl) a5 rfl) (by kernel_rfl) (by kernel_rfl) (xM (by kernel_rfl) (Kr (c:=cI) (l:=a0.2.2) (i:=((Int.toNat a1)+Int.toNat a0.2.1)) (v:=(vI b7)) (agg:=false) (sz:=1) (kk:=(.top 500000)) (e:=3) (off:=0) (J:=[]) (by kernel_rfl) (by kernel_rfl) (by kernel_rfl) (BJ a5) (by kernel_rfl)) (by kernel_rfl) (by kernel_rfl) (dN 3 ?_))
 obtain ⟨b8,a6,h⟩:=aA h
 refine xM (by kernel_rfl) (HZ (c:=cI) (l:=a0.2.2) (i:=(aJ a0.2.1 1)) (kd:=.i64) (kk:=(.top 500000)) (e:=3) (sz:=1) (lo:=(Int.toNat a1)) (n:=(Int.toNat (h0.length:Int)-Int.toNat a1)) (by kernel_rfl) (by kernel_rfl) a6 rfl) (by kernel_rfl) (by kernel_rfl) (xM (by kernel_rfl) (Kr (c:=cI) (l:=a0.2.2) (i:=((Int.toNat a1)+Int.toNat (aJ a0.2.1 1))) (v:=(vI b8)) (agg:=false) (sz:=1) (kk:=(.top 500000)) (e:=3) (off:=0) (J:=[]) (by kernel_rfl) (by kernel_rfl) (by kernel_rfl) (BJ a6) (by kernel_rfl)) (by kernel_rfl) (by kernel_rfl) (dE (oN 1 (zO fun u k=>?_))))
 refine yE k [0,3,4,5,44] [500000] (qc h (fun h=>?_) fun h=>?_)
 refine z7 (zA 4 ?_)
 obtain ⟨b0,a7,h⟩:=aA h
 refine iQ (HZ (c:=cI) (l:=a0.2.2) (i:=a0.2.1) (kd:=.i64) (kk:=(.top 500000)) (e:=3) (sz:=1) (lo:=(Int.toNat a1)) (n:=(Int.toNat (h0.length:Int)-Int.toNat a1)) (by kernel_rfl) (by kernel_rfl) a7 rfl) (iQ (Kr (c:=cI) (l:=a0.2.2) (i:=((Int.toNat a1)+Int.toNat a0.2.1)) (v:=(vI b0)) (agg:=false) (sz:=1) (kk:=(.top 500000)) (e:=3) (off:=0) (J:=[]) (by kernel_rfl) (by kernel_rfl) (by kernel_rfl) (BJ a7) (by kernel_rfl)) ?_)
 obtain ⟨c2,a8,h⟩:=aA h
 refine qI cI a8 (qS cI b0 a8 (zP fun u k=>?_))
 refine yE k [0,3,4,5] [500000] (zD (z6 3 fun u k=>?_))
 exact aF (aV ((aM a0.1 1),(List.set a0.2.2 (Int.toNat a0.1) b0)) h k (here (by kernel_rfl)))
 refine zM fun u k=>?_
 exact aF (aV (a0.1,a0.2.2) h k (here (by kernel_rfl)))
 refine zL 2 fun u k=>?_
 refine aR ?_
 cases h
 exact zF k
 refine zQ (yE k [0,3] [500000] (z7 (zA 2 ?_)))
 obtain ⟨hp2,h⟩:=ZA h
 refine iQ (PS (c:=cI) (l:=a2.2) (kk:=(.top 500000)) (e:=3) (sz:=1) (lo:=a2.1) (k1:=.i64) (by kernel_rfl) (by kernel_rfl) (fun _=>rfl) hp2) (fK (TQ (c:=cI) (l:=a2.2) (z:=0) (d:=(.part (.top 500000) 3 (Int.toNat a2.1) (Int.toNat (a2.2.length:Int)-Int.toNat a2.1))) (e:=3) (g:=500000) (lo:=(Int.toNat a2.1)) (n:=(Int.toNat (a2.2.length:Int)-Int.toNat a2.1)) (zs:=[(vI 0)]) (by kernel_rfl) (by kernel_rfl) (by kernel_rfl) (WL hp2) rfl) (zP fun u k=>?_))
 refine yE k [0,3] [500000] (z7 (zA 2 ?_))
 obtain ⟨b9,b3,h⟩:=aA h
 refine fK (H6 (J:=[]) (c:=cI) (l:=(cpy a2.2 (Int.toNat a2.1) (List.replicate (Int.toNat (a2.2.length:Int)-Int.toNat a2.1) 0))) (e:=3) (g:=500000) (hi:=a2.1) (k2:=.i64) (by kernel_rfl) (by kernel_rfl) rfl b3) (y1 1 [2] [500000] (zN fun u k=>?_))
 refine aT (aO ?_)
 cases h
 exact zF k
 refine zM fun u k=>?_
 refine aF (yE k [0,3] [500000] (zD (z6 3 fun u k=>?_)))
 cases h
 exact zH k
 refine zL 0 fun u k=>?_
 refine aR ?_
 cases h
 exact zF k
 rcases b1 with b2 | b6
 refine aT (aO ?_)
 obtain rfl:=osi h
 exact qW k [(2,ro 0 3)] (sp [] [(500000,0)])
 refine zQ (yE k [0] [500000] (z8 2 ⟨[(2,ro 500000 3)],[(500000,wI 3 h0)]⟩ fun u k=>?_))
 obtain rfl:=osi h
 exact qW k [(2,ro 0 3)] (sp [] [(500000,0)])
theorem W.AQ {h0 r} (h:Vb h0=some r):PC G.P 105 [(.row (.top 300000) 3)] [(300000,.row 3 [] (List.map cI h0))] (.row (.top 0) 3) [(0,.row 3 [] (List.map cI r))]:=by
 refine zU G Tryz.func105 (yK [0] [300000] (y3 1 [0] [300000] (z7 (zA 1 ?_))))
 obtain ⟨r2,a0,h⟩:=aA h
 refine qC [(1000000,300000)] [] (W.uW a0) (zP fun u k=>?_)
 refine yE k [0] [300000] (z7 (zA 1 ?_))
 obtain ⟨r4,a1,h⟩:=aA h
 refine qC [(300000,300000)] [(0,700050)] (W.Ia a1) (y1 1 [2] [700050] (zN fun u k=>?_))
 obtain rfl:=osi h
 exact qW k [(2,ro 0 3)] (sp [] [(700050,0)])
theorem W.Qu {l x1 y r} (h:Gs l x1 y=some r):PC G.P 108 [(.agg (aQ l)),(vI x1),(vI y)] [] (vF 198 194 r) []:=by
 refine zU G Tryz.func108 (yK [0,1,2] [] (y3 2 [1,2,3] [3] (zB (z7 (zA 2 (qL aU l.Pieces ?_))))))
 refine y1 1 [1,2,12,13,14] [] (zC ?_)
 obtain ⟨a5,b0,h⟩:=aA h
 refine ql b0 (fun a0=>⟨[(1,vI x1),(2,vI y),(12,dB l.Pieces),(13,vI (l.Pieces.length:Int)),(14,vI a0)],[]⟩) (fun a5=>match a5 with | .inl a2=>(.ret,⟨[(6,vF 198 194 a2)],[]⟩) | .inr b4=>(.exit 0,⟨[],[]⟩)) qH (fun a0 r h=>?_) (fun u k=>?_) (hout:=(by intro x;rcases x with _ | _ <;> rfl))
 refine y3 1 [1,2,12,13,14,15] [] (zB (qc h (fun h=>?_) fun h=>?_))
 refine y4 [1,2,12,13,14] [] (zB (zC (z7 (zA 1 ?_))))
 obtain ⟨a1,a7,h⟩:=aA h
 refine qX aU a7 (y1 4 [1,2,7,8,12,13,14] [8] (z7 (zA 2 (qL aD a1.Rects (y1 1 [1,2,7,12,13,14,20,21,22] [] (zC ?_))))))
 obtain ⟨a4,a9,h⟩:=aA h
 refine ql a9 (fun a3=>⟨[(1,vI x1),(2,vI y),(7,vI a0),(12,dB l.Pieces),(13,vI (l.Pieces.length:Int)),(14,vI a0),(20,aW a1.Rects),(21,vI (a1.Rects.length:Int)),(22,vI a3)],[]⟩) (fun a4=>match a4 with | .inl b2=>(.ret,⟨[(6,vF 198 194 (some a0))],[]⟩) | .inr b3=>(.exit 2,⟨[(1,vI x1),(2,vI y),(12,dB l.Pieces),(13,vI (l.Pieces.length:Int)),(14,vI a0)],[]⟩)) qH (fun a3 r h=>?_) (fun u k=>?_) (hout:=(by intro x;rcases x with _ | _ <;> rfl))
 refine y3 1 [1,2,7,12,13,14,20,21,22,23] [] (zB (qc h (fun h=>?_) fun h=>?_))
 refine y4 [1,2,7,12,13,14,20,21,22] [] (zB (zC (z7 ?_)))
 obtain ⟨b5,a8,h⟩:=aA h
 refine qX aD a8 (y1 3 [1,2,7,10,12,13,14,20,21,22] [10] (zB ?_))
 obtain ⟨b1,a6,h⟩:=aA h
 refine zT ⟨[(1,vI x1),(2,vI y),(7,vI a0),(12,dB l.Pieces),(13,vI (l.Pieces.length:Int)),(14,vI a0),(20,aW a1.Rects),(21,vI (a1.Rects.length:Int)),(22,vI a3),(53,vB b1)],[]⟩ ?_ fun u k=>?_
 replace h:=a6
 refine zA 5 (qB h [1,2,7,10,12,13,14,20,21,22,30] [10] [30] (fun h=>?_) fun h=>?_)
 refine zA 9 (qB h [1,2,7,10,12,13,14,20,21,22,39] [10] [39] (fun h=>?_) fun h=>?_)
 refine zA 6 (qB h [1,2,7,10,12,13,14,20,21,22,45] [10] [45] (fun h=>?_) fun h=>?_)
 refine z6 8 fun u k=>?_
 cases h
 exact zG k
 refine z6 8 fun u k=>?_
 cases h
 exact zG k
 refine z6 14 fun u k=>?_
 cases h
 exact zG k
 refine z6 23 fun u k=>?_
 cases h
 exact zG k
 refine yE k [1,2,7,12,13,14,20,21,22,53] [] (qc h (fun h=>?_) fun h=>?_)
 refine z7 (zA 1 (fK (Di (x:=(some a0)) Jp (by kernel_rfl)) (y1 1 [6] [] (zN fun u k=>?_))))
 refine aT (aO ?_)
 cases h
 exact zF k
 refine zM fun u k=>?_
 refine aF (yE k [1,2,7,12,13,14,20,21,22] [] (zD (z6 2 fun u k=>?_)))
 cases h
 exact zH k
 refine zL 2 fun u k=>?_
 refine aR ?_
 cases h
 exact zF k
 rcases a4 with b2 | b3
 refine aT (aT (aO ?_))
 cases h
 exact zF k
 refine zQ (aF (yE k [1,2,12,13,14] [] (zD (z6 2 fun u k=>?_))))
 cases h
 exact zH k
 refine zL 0 fun u k=>?_
 refine aR ?_
 cases h
 exact zF k
 rcases a5 with a2 | b4
 refine aT (aO ?_)
 obtain rfl:=osi h
 exact zV k [(6,vF 198 194 a2)]
 refine zQ (yE k [] [] (z7 (zA 1 (fK (Di (x:=none) Jp (by kernel_rfl)) (y1 1 [6] [] (zN fun u k=>?_))))))
 obtain rfl:=osi h
 exact zV k [(6,vF 198 194 none)]
theorem W.AB {x0 a_0 a_1 a_2 a_3 a_4 a_5 a_6 a_7 a_8 a2_0 r} (h:Iw x0 a_0 a_1 a_2 a_3 a_4 a_5 a_6 a_7 a_8 a2_0=some r):PC G.P 107 [(vI x0),(.vptr [(vS a_0),(vS a_1),(vI a_2),(vI a_3),(vI a_4),(vI a_5),(.sl (List.map aD a_6)),(.sl (List.map aD a_7)),(.sl (List.map aU a_8))] 0),(.vptr [(vI a2_0)] 0)] [] (.tup [(vF 198 194 r.1),(vF 198 194 r.2)]) []:=by
 refine zU G Tryz.func107 (yK [0,1,2] [] (y3 2 [0,1,2] [] (zB (qM 8 (dN 3 ?_)))))
 obtain ⟨r5,a0,h⟩:=aA h
 refine dC [] (W.Qu a0) (dN 4 (dE ?_))
 obtain ⟨r6,a1,h⟩:=aA h
 refine oP (W.Qu a1) (oN 2 (zO fun u k=>?_))
 refine yE k [4,5] [] (zN fun u k=>?_)
 obtain rfl:=osi h
 exact zV k [(4,vF 198 194 r5),(5,vF 198 194 r6)]
theorem W.sG {a r} (h:fZ a=some r):PC G.P 237 [(vI a)] [] (vB r) []:=by
 refine zU G Tryz.func237 (yK [] [] (y3 1 [] [] (z8 1 ⟨[(2,vB true)],[]⟩ fun u k=>?_)))
 obtain rfl:=osi h
 exact zV k [(2,vB true)]
theorem W.sD {a r} (h:fU a=some r):PC G.P 236 [(.agg [])] [] (vB r) []:=by
 refine zU G Tryz.func236 (yK [0] [] (y3 2 [] [] (z8 1 ⟨[(2,vB false)],[]⟩ fun u k=>?_)))
 obtain rfl:=osi h
 exact zV k [(2,vB false)]
theorem W.AC {from0 to1 a_0 r} (h:Iy from0 to1 a_0=some r):PC G.P 109 [(vI from0),(vI to1),(.vptr [(vI a_0)] 0)] [] (.agg (Bo r)) [(0,.box [(vI from0),(vI a_0),(vI to1),(vI a_0)])]:=by
 refine zU G Tryz.func109 (yK [0,1,2] [] (y3 1 [0,1,2,5] [5] (z8 6 ⟨[(5,.ptr 5 0)],[(5,.box [(vI from0),(vI a_0),(vI to1),(vI a_0)])]⟩ fun u k=>?_)))
 obtain rfl:=osi h
 exact qW k [(5,.ptr 0 0)] (sp [] [(5,0)])
theorem W.Dl {t r} (h:wW t=some r):PC G.P 154 [(vF 198 194 t)] [] (vI r) []:=by
 refine zU G Tryz.func154 (yK [0] [] (y3 1 [0] [] (y3 1 [5] [] (zC (z7 (fK (H9 (x:=t) Jp (by kernel_rfl)) ?_))))))
 refine y1 2 [5,7,8] [] (qc h (fun h=>?_) fun h=>?_)
 refine y3 1 [3] [] (z8 2 ⟨[(2,vI (Option.getD t 0))],[]⟩ fun u k=>?_)
 refine aT ?_
 obtain rfl:=osi h
 exact zV k [(2,vI (Option.getD t 0))]
 refine y3 1 [] [] (z8 1 ⟨[(2,vI (-1))],[]⟩ fun u k=>?_)
 refine aT ?_
 obtain rfl:=osi h
 exact zV k [(2,vI (-1))]
theorem W.Xv {s0 a b r} (h:Ld s0 a b=some r):PC G.P 153 [(.agg (Bo s0)),(vI a),(vI b)] [] (.agg (bF r.1)) [(0,.box [(vI s0.X1),(vI s0.Y1),(vI s0.X2),(vI s0.Y2),(vI r.2.1),(vI r.2.2)])]:=by
 refine zU G Tryz.func153 (yK [0,1,2] [] (y3 2 [1,2,3,6] [3,6] (bV (fun (j2:Int×Int)=>⟨[(1,vI j2.1),(2,vI j2.2),(3,.ptr 500000 0),(6,.ptr 500001 0)],[(500000,.box (Bo s0)),(500001,.box [(vI 0),(vI 0),(vI 0),(vI 0),(vI 0),(vI 0)])]⟩) (Iu s0) r (by kernel_rfl) (fun j2 h=>?_) ?_)))
 refine z8 5 ⟨[(6,.ptr 500001 0)],[(500001,.box [(vI s0.X1),(vI s0.Y1),(vI s0.X2),(vI s0.Y2),(vI j2.1),(vI j2.2)])]⟩ fun u k=>?_
 obtain rfl:=osi h
 exact qW k [(6,.ptr 0 0)] (sp [] [(500001,0)])
 refine zB ?_
 obtain ⟨j3,a0,h⟩:=aA h
 refine zT ⟨[(1,vI a),(2,vI b),(3,.ptr 500000 0),(6,.ptr 500001 0),(17,vB j3)],[(500000,.box (Bo s0)),(500001,.box [(vI 0),(vI 0),(vI 0),(vI 0),(vI 0),(vI 0)])]⟩ ?_ fun u k=>?_
 replace h:=a0
 refine zA 3 (qB h [1,2,3,6,9] [3,6] [9] (fun h=>?_) fun h=>?_)
 refine z6 8 fun u k=>?_
 cases h
 exact bJ k (sp [] [(3,500000),(6,500001)])
 refine zA 3 (qB h [1,2,3,6,9,12] [3,6] [12] (fun h=>?_) fun h=>?_)
 refine z6 5 fun u k=>?_
 cases h
 exact bJ k (sp [] [(3,500000),(6,500001)])
 refine z6 5 fun u k=>?_
 cases h
 exact bJ k (sp [] [(3,500000),(6,500001)])
 refine yE k [1,2,3,6,17] [500000,500001] (qc h (fun h=>?_) fun h=>?_)
 refine zD (z6 4 fun u k=>?_)
 exact aV (b,a) h k (here (by kernel_rfl))
 refine zM fun u k=>?_
 exact aV (a,b) h k (here (by kernel_rfl))
theorem W.wT {ends sides_0_0 sides_0_1 sides_0_2 sides_0_3 sides_0_4 sides_0_5 sides_0_6 sides_0_7 sides_0_8 sides_1_0 line_0_0 r} (h:fQ ends sides_0_0 sides_0_1 sides_0_2 sides_0_3 sides_0_4 sides_0_5 sides_0_6 sides_0_7 sides_0_8 sides_1_0 line_0_0=some r):PC G.P 106 [(.sl (List.map cI ends)),(.fn 107 [(.vptr [(vS sides_0_0),(vS sides_0_1),(vI sides_0_2),(vI sides_0_3),(vI sides_0_4),(vI sides_0_5),(.sl (List.map aD sides_0_6)),(.sl (List.map aD sides_0_7)),(.sl (List.map aU sides_0_8))] 0),(.vptr [(vI sides_1_0)] 0)]),(.fn 109 [(.vptr [(vI line_0_0)] 0)])] [] (.row (.top 0) 74) [(0,.row 74 [] (List.map bF r))]:=by
 refine zU G Tryz.func106 (yK [0,1,2] [] (y3 1 [0,1,2] [] (y3 1 [0,1,2,7] [7] (y3 1 [0,1,2,7,8] [7] (z7 (zA 1 ?_))))))
 refine fK (Di (x:=none) Jp (by kernel_rfl)) (zA 1 (fK (Di (x:=none) Jp (by kernel_rfl)) (y1 2 [0,1,2,7,8,9,10] [7] (zB (z7 (zA 1 ?_))))))
 refine qL cI ends (y1 1 [0,1,2,7,8,9,10,19,20,21] [7] (zC ?_))
 obtain ⟨a5,b8,h⟩:=aA h
 refine ql b8 (fun a0=>⟨[(0,sI ends),(1,.fn 107 [(.vptr [(vS sides_0_0),(vS sides_0_1),(vI sides_0_2),(vI sides_0_3),(vI sides_0_4),(vI sides_0_5),(aW sides_0_6),(aW sides_0_7),(dB sides_0_8)] 0),(.vptr [(vI sides_1_0)] 0)]),(2,.fn 109 [(.vptr [(vI line_0_0)] 0)]),(7,ro 500000 74),(8,vI a0.1),(9,vF 198 194 a0.2.1),(10,vF 198 194 a0.2.2.1),(19,sI ends),(20,vI (ends.length:Int)),(21,vI a0.2.2.2.1)],[(500000,iJ 74 a0.2.2.2.2)]⟩) (fun a5=>(.exit 0,⟨[(7,ro 500000 74)],[(500000,iJ 74 a5)]⟩)) (sp [] [(7,500000)]) (fun a0 r h=>?_) fun u k=>?_
 refine y3 1 [0,1,2,7,8,9,10,19,20,21,22] [500000] (zB (qc h (fun h=>?_) fun h=>?_))
 refine y4 [0,1,2,7,8,9,10,19,20,21] [500000] (bV (fun (a3:Int×(Option Int)×(Option Int)×(List EdgeT))=>⟨[(0,sI ends),(1,.fn 107 [(.vptr [(vS sides_0_0),(vS sides_0_1),(vI sides_0_2),(vI sides_0_3),(vI sides_0_4),(vI sides_0_5),(aW sides_0_6),(aW sides_0_7),(dB sides_0_8)] 0),(.vptr [(vI sides_1_0)] 0)]),(2,.fn 109 [(.vptr [(vI line_0_0)] 0)]),(7,ro 500000 74),(8,vI a3.1),(9,vF 198 194 a3.2.1),(10,vF 198 194 a3.2.2.1),(19,sI ends),(20,vI (ends.length:Int)),(21,vI a0.2.2.2.1)],[(500000,iJ 74 a3.2.2.2)]⟩) (iK a0) r (by kernel_rfl) (fun a3 h=>?_) ?_)
 refine zD (z6 2 fun u k=>?_)
 cases h
 exact zH k
 refine zC (z7 (zA 1 ?_))
 obtain ⟨a2,b7,h⟩:=aA h
 refine qX cI b7 (y1 3 [0,1,2,7,8,9,10,11,12,19,20,21] [500000] (z7 (zA 1 (fK (Di (x:=none) Jp (by kernel_rfl)) (zA 1 (fK (Di (x:=none) Jp (by kernel_rfl)) ?_))))))
 refine y1 2 [0,1,2,7,8,9,10,11,12,13,14,19,20,21] [500000] (bV (fun (a1:(Option Int)×(Option Int))=>⟨[(0,sI ends),(1,.fn 107 [(.vptr [(vS sides_0_0),(vS sides_0_1),(vI sides_0_2),(vI sides_0_3),(vI sides_0_4),(vI sides_0_5),(aW sides_0_6),(aW sides_0_7),(dB sides_0_8)] 0),(.vptr [(vI sides_1_0)] 0)]),(2,.fn 109 [(.vptr [(vI line_0_0)] 0)]),(7,ro 500000 74),(8,vI a0.1),(9,vF 198 194 a0.2.1),(10,vF 198 194 a0.2.2.1),(12,vI a2),(13,vF 198 194 a1.1),(14,vF 198 194 a1.2),(19,sI ends),(20,vI (ends.length:Int)),(21,vI a0.2.2.2.1)],[(500000,iJ 74 a0.2.2.2.2)]⟩) (iM line_0_0 a0 a2) r (by kernel_rfl) (fun a1 h=>?_) ?_)
 refine zB (zB ?_)
 obtain ⟨c2,a8,h⟩:=aA h
 refine zT ⟨[(0,sI ends),(1,.fn 107 [(.vptr [(vS sides_0_0),(vS sides_0_1),(vI sides_0_2),(vI sides_0_3),(vI sides_0_4),(vI sides_0_5),(aW sides_0_6),(aW sides_0_7),(dB sides_0_8)] 0),(.vptr [(vI sides_1_0)] 0)]),(2,.fn 109 [(.vptr [(vI line_0_0)] 0)]),(7,ro 500000 74),(8,vI a0.1),(9,vF 198 194 a0.2.1),(10,vF 198 194 a0.2.2.1),(12,vI a2),(13,vF 198 194 a1.1),(14,vF 198 194 a1.2),(19,sI ends),(20,vI (ends.length:Int)),(21,vI a0.2.2.2.1),(48,vB c2)],[(500000,iJ 74 a0.2.2.2.2)]⟩ ?_ fun u k=>?_
 replace h:=a8
 refine zA 2 (fK (FK (x:=a1.1) (y:=a0.2.1) Jp (by kernel_rfl)) (zA 1 (qB h [0,1,2,7,8,9,10,12,13,14,19,20,21,44] [500000] [44] (fun h=>?_) fun h=>?_)))
 refine zA 2 (fK (FK (x:=a1.2) (y:=a0.2.2.1) Jp (by kernel_rfl)) (z6 1 fun u k=>?_))
 cases h
 exact zG k
 refine z6 4 fun u k=>?_
 cases h
 exact zG k
 refine yE k [0,1,2,7,8,9,10,12,13,14,19,20,21,48] [500000] (qc h (fun h=>?_) fun h=>?_)
 refine zL 1 fun u k=>?_
 exact aR (zQ (aV (a0.1,a0.2.1,a0.2.2.1,a0.2.2.2.2) h k (here (by kernel_rfl))))
 refine y4 [0,1,2,7,8,9,10,12,13,14,19,20,21] [500000] (bV (fun (a4:(List EdgeT))=>⟨[(0,sI ends),(1,.fn 107 [(.vptr [(vS sides_0_0),(vS sides_0_1),(vI sides_0_2),(vI sides_0_3),(vI sides_0_4),(vI sides_0_5),(aW sides_0_6),(aW sides_0_7),(dB sides_0_8)] 0),(.vptr [(vI sides_1_0)] 0)]),(2,.fn 109 [(.vptr [(vI line_0_0)] 0)]),(7,ro 500000 74),(12,vI a2),(13,vF 198 194 a1.1),(14,vF 198 194 a1.2),(19,sI ends),(20,vI (ends.length:Int)),(21,vI a0.2.2.2.1)],[(500000,iJ 74 a4)]⟩) (iL a0 a2 a1) r (by kernel_rfl) (fun a4 h=>?_) ?_)
 refine zD (z6 6 fun u k=>?_)
 exact aF (aV (a2,a1.1,a1.2,a4) h k (here (by kernel_rfl)))
 refine zB ?_
 obtain ⟨c3,a9,h⟩:=aA h
 refine zT ⟨[(0,sI ends),(1,.fn 107 [(.vptr [(vS sides_0_0),(vS sides_0_1),(vI sides_0_2),(vI sides_0_3),(vI sides_0_4),(vI sides_0_5),(aW sides_0_6),(aW sides_0_7),(dB sides_0_8)] 0),(.vptr [(vI sides_1_0)] 0)]),(2,.fn 109 [(.vptr [(vI line_0_0)] 0)]),(7,ro 500000 74),(8,vI a0.1),(9,vF 198 194 a0.2.1),(10,vF 198 194 a0.2.2.1),(12,vI a2),(13,vF 198 194 a1.1),(14,vF 198 194 a1.2),(19,sI ends),(20,vI (ends.length:Int)),(21,vI a0.2.2.2.1),(59,vB c3)],[(500000,iJ 74 a0.2.2.2.2)]⟩ ?_ fun u k=>?_
 replace h:=a9
 refine zA 2 (fK (TS (x:=a0.2.1) (y:=a0.2.2.1) Jp (by kernel_rfl)) (zA 1 (zS (a0.2.1==a0.2.2.1) (fun b0=>⟨[(0,sI ends),(1,.fn 107 [(.vptr [(vS sides_0_0),(vS sides_0_1),(vI sides_0_2),(vI sides_0_3),(vI sides_0_4),(vI sides_0_5),(aW sides_0_6),(aW sides_0_7),(dB sides_0_8)] 0),(.vptr [(vI sides_1_0)] 0)]),(2,.fn 109 [(.vptr [(vI line_0_0)] 0)]),(7,ro 500000 74),(8,vI a0.1),(9,vF 198 194 a0.2.1),(10,vF 198 194 a0.2.2.1),(12,vI a2),(13,vF 198 194 a1.1),(14,vF 198 194 a1.2),(19,sI ends),(20,vI (ends.length:Int)),(21,vI a0.2.2.2.1),(52,vB (!b0))],[(500000,iJ 74 a0.2.2.2.2)]⟩) (fun hb=>?_) fun hb=>?_)))
 replace h:=iD hb h
 refine z6 7 fun u k=>?_
 cases h
 exact zG k
 replace h:=iB hb h
 refine zA 1 ?_
 obtain ⟨c0,a6,h⟩:=aA h
 refine Yx (x:=a0.2.1) (r:=c0) Jp (by kernel_rfl) (GJ a6 (fun n h=>W.sG h) (fun h=>W.sD h)) (zA 1 (qB h [0,1,2,7,8,9,10,12,13,14,19,20,21,52,55] [500000] [55] (fun h=>?_) fun h=>?_))
 refine z6 4 fun u k=>?_
 cases h
 exact zG k
 refine zA 1 ?_
 obtain ⟨c1,a7,h⟩:=aA h
 refine Yx (x:=a0.2.2.1) (r:=c1) Jp (by kernel_rfl) (GJ a7 (fun n h=>W.sG h) (fun h=>W.sD h)) (z6 2 fun u k=>?_)
 cases h
 exact zG k
 refine yE k [0,1,2,7,8,9,10,12,13,14,19,20,21,59] [500000] (qc h (fun h=>?_) fun h=>?_)
 refine zD (zA 4 ?_)
 obtain ⟨c5,b2,h⟩:=aA h
 refine qC [] [(0,700200)] (W.AC b2) (zA 1 ?_)
 obtain ⟨c6,b3,h⟩:=aA h
 refine qP (W.Dl b3) (zA 1 ?_)
 obtain ⟨c7,b4,h⟩:=aA h
 refine qP (W.Dl b4) ?_
 obtain ⟨c8,b5,h⟩:=aA h
 refine qC [] [(0,700450)] (W.Xv b5) (zA 1 ?_)
 obtain ⟨c4,b1,h⟩:=aA h
 refine qA bF 6 b1 (z6 1 fun u k=>?_)
 exact aV c4 h k (here (by kernel_rfl))
 refine zM fun u k=>?_
 exact aV a0.2.2.2.2 h k (here (by kernel_rfl))
 refine z7 (zA 3 (qL cI ends (y1 1 [0,1,2,7,8,9,10,12,13,14,19,20,21,34] [500000] (qc h (fun h=>?_) fun h=>?_))))
 refine zD (zA 2 ?_)
 obtain ⟨b9,b6,h⟩:=aA h
 refine qP (W.AB b6) (z6 5 fun u k=>?_)
 exact aV (b9.1,b9.2) h k (here (by kernel_rfl))
 refine zM fun u k=>?_
 exact aV (none,none) h k (here (by kernel_rfl))
 refine zL 0 fun u k=>?_
 refine aR ?_
 cases h
 exact zF k
 refine zQ (yE k [7] [500000] (z8 2 ⟨[(6,ro 500000 74)],[(500000,iJ 74 a5)]⟩ fun u k=>?_))
 obtain rfl:=osi h
 exact qW k [(6,ro 0 74)] (sp [] [(500000,0)])
theorem W.AJ {y a_0 a_1 a_2 a_3 a_4 a_5 a_6 a_7 a_8 a2_0 r} (h:Iz y a_0 a_1 a_2 a_3 a_4 a_5 a_6 a_7 a_8 a2_0=some r):PC G.P 110 [(vI y),(.vptr [(vS a_0),(vS a_1),(vI a_2),(vI a_3),(vI a_4),(vI a_5),(.sl (List.map aD a_6)),(.sl (List.map aD a_7)),(.sl (List.map aU a_8))] 0),(.vptr [(vI a2_0)] 0)] [] (.tup [(vF 198 194 r.1),(vF 198 194 r.2)]) []:=by
 refine zU G Tryz.func110 (yK [0,1,2] [] (y3 2 [0,1,2] [] (zB (qM 8 (dN 3 ?_)))))
 obtain ⟨r5,a0,h⟩:=aA h
 refine dC [] (W.Qu a0) (dN 4 (dE ?_))
 obtain ⟨r6,a1,h⟩:=aA h
 refine oP (W.Qu a1) (oN 2 (zO fun u k=>?_))
 refine yE k [4,5] [] (zN fun u k=>?_)
 obtain rfl:=osi h
 exact zV k [(4,vF 198 194 r5),(5,vF 198 194 r6)]
theorem W.AL {from0 to1 a_0 r} (h:Ja from0 to1 a_0=some r):PC G.P 111 [(vI from0),(vI to1),(.vptr [(vI a_0)] 0)] [] (.agg (Bo r)) [(0,.box [(vI a_0),(vI from0),(vI a_0),(vI to1)])]:=by
 refine zU G Tryz.func111 (yK [0,1,2] [] (y3 1 [0,1,2,5] [5] (z8 6 ⟨[(5,.ptr 5 0)],[(5,.box [(vI a_0),(vI from0),(vI a_0),(vI to1)])]⟩ fun u k=>?_)))
 obtain rfl:=osi h
 exact qW k [(5,.ptr 0 0)] (sp [] [(5,0)])
theorem W.wV {ends sides_0_0 sides_0_1 sides_0_2 sides_0_3 sides_0_4 sides_0_5 sides_0_6 sides_0_7 sides_0_8 sides_1_0 line_0_0 r} (h:fT ends sides_0_0 sides_0_1 sides_0_2 sides_0_3 sides_0_4 sides_0_5 sides_0_6 sides_0_7 sides_0_8 sides_1_0 line_0_0=some r):PC G.P 106 [(.sl (List.map cI ends)),(.fn 110 [(.vptr [(vS sides_0_0),(vS sides_0_1),(vI sides_0_2),(vI sides_0_3),(vI sides_0_4),(vI sides_0_5),(.sl (List.map aD sides_0_6)),(.sl (List.map aD sides_0_7)),(.sl (List.map aU sides_0_8))] 0),(.vptr [(vI sides_1_0)] 0)]),(.fn 111 [(.vptr [(vI line_0_0)] 0)])] [] (.row (.top 0) 74) [(0,.row 74 [] (List.map bF r))]:=by
 refine zU G Tryz.func106 (yK [0,1,2] [] (y3 1 [0,1,2] [] (y3 1 [0,1,2,7] [7] (y3 1 [0,1,2,7,8] [7] (z7 (zA 1 ?_))))))
 refine fK (Di (x:=none) Jp (by kernel_rfl)) (zA 1 (fK (Di (x:=none) Jp (by kernel_rfl)) (y1 2 [0,1,2,7,8,9,10] [7] (zB (z7 (zA 1 ?_))))))
 refine qL cI ends (y1 1 [0,1,2,7,8,9,10,19,20,21] [7] (zC ?_))
 obtain ⟨a5,b8,h⟩:=aA h
 refine ql b8 (fun a0=>⟨[(0,sI ends),(1,.fn 110 [(.vptr [(vS sides_0_0),(vS sides_0_1),(vI sides_0_2),(vI sides_0_3),(vI sides_0_4),(vI sides_0_5),(aW sides_0_6),(aW sides_0_7),(dB sides_0_8)] 0),(.vptr [(vI sides_1_0)] 0)]),(2,.fn 111 [(.vptr [(vI line_0_0)] 0)]),(7,ro 500000 74),(8,vI a0.1),(9,vF 198 194 a0.2.1),(10,vF 198 194 a0.2.2.1),(19,sI ends),(20,vI (ends.length:Int)),(21,vI a0.2.2.2.1)],[(500000,iJ 74 a0.2.2.2.2)]⟩) (fun a5=>(.exit 0,⟨[(7,ro 500000 74)],[(500000,iJ 74 a5)]⟩)) (sp [] [(7,500000)]) (fun a0 r h=>?_) fun u k=>?_
 refine y3 1 [0,1,2,7,8,9,10,19,20,21,22] [500000] (zB (qc h (fun h=>?_) fun h=>?_))
 refine y4 [0,1,2,7,8,9,10,19,20,21] [500000] (bV (fun (a3:Int×(Option Int)×(Option Int)×(List EdgeT))=>⟨[(0,sI ends),(1,.fn 110 [(.vptr [(vS sides_0_0),(vS sides_0_1),(vI sides_0_2),(vI sides_0_3),(vI sides_0_4),(vI sides_0_5),(aW sides_0_6),(aW sides_0_7),(dB sides_0_8)] 0),(.vptr [(vI sides_1_0)] 0)]),(2,.fn 111 [(.vptr [(vI line_0_0)] 0)]),(7,ro 500000 74),(8,vI a3.1),(9,vF 198 194 a3.2.1),(10,vF 198 194 a3.2.2.1),(19,sI ends),(20,vI (ends.length:Int)),(21,vI a0.2.2.2.1)],[(500000,iJ 74 a3.2.2.2)]⟩) (iN a0) r (by kernel_rfl) (fun a3 h=>?_) ?_)
 refine zD (z6 2 fun u k=>?_)
 cases h
 exact zH k
 refine zC (z7 (zA 1 ?_))
 obtain ⟨a2,b7,h⟩:=aA h
 refine qX cI b7 (y1 3 [0,1,2,7,8,9,10,11,12,19,20,21] [500000] (z7 (zA 1 (fK (Di (x:=none) Jp (by kernel_rfl)) (zA 1 (fK (Di (x:=none) Jp (by kernel_rfl)) ?_))))))
 refine y1 2 [0,1,2,7,8,9,10,11,12,13,14,19,20,21] [500000] (bV (fun (a1:(Option Int)×(Option Int))=>⟨[(0,sI ends),(1,.fn 110 [(.vptr [(vS sides_0_0),(vS sides_0_1),(vI sides_0_2),(vI sides_0_3),(vI sides_0_4),(vI sides_0_5),(aW sides_0_6),(aW sides_0_7),(dB sides_0_8)] 0),(.vptr [(vI sides_1_0)] 0)]),(2,.fn 111 [(.vptr [(vI line_0_0)] 0)]),(7,ro 500000 74),(8,vI a0.1),(9,vF 198 194 a0.2.1),(10,vF 198 194 a0.2.2.1),(12,vI a2),(13,vF 198 194 a1.1),(14,vF 198 194 a1.2),(19,sI ends),(20,vI (ends.length:Int)),(21,vI a0.2.2.2.1)],[(500000,iJ 74 a0.2.2.2.2)]⟩) (iP line_0_0 a0 a2) r (by kernel_rfl) (fun a1 h=>?_) ?_)
 refine zB (zB ?_)
 obtain ⟨c2,a8,h⟩:=aA h
 refine zT ⟨[(0,sI ends),(1,.fn 110 [(.vptr [(vS sides_0_0),(vS sides_0_1),(vI sides_0_2),(vI sides_0_3),(vI sides_0_4),(vI sides_0_5),(aW sides_0_6),(aW sides_0_7),(dB sides_0_8)] 0),(.vptr [(vI sides_1_0)] 0)]),(2,.fn 111 [(.vptr [(vI line_0_0)] 0)]),(7,ro 500000 74),(8,vI a0.1),(9,vF 198 194 a0.2.1),(10,vF 198 194 a0.2.2.1),(12,vI a2),(13,vF 198 194 a1.1),(14,vF 198 194 a1.2),(19,sI ends),(20,vI (ends.length:Int)),(21,vI a0.2.2.2.1),(48,vB c2)],[(500000,iJ 74 a0.2.2.2.2)]⟩ ?_ fun u k=>?_
 replace h:=a8
 refine zA 2 (fK (FK (x:=a1.1) (y:=a0.2.1) Jp (by kernel_rfl)) (zA 1 (qB h [0,1,2,7,8,9,10,12,13,14,19,20,21,44] [500000] [44] (fun h=>?_) fun h=>?_)))
 refine zA 2 (fK (FK (x:=a1.2) (y:=a0.2.2.1) Jp (by kernel_rfl)) (z6 1 fun u k=>?_))
 cases h
 exact zG k
 refine z6 4 fun u k=>?_
 cases h
 exact zG k
 refine yE k [0,1,2,7,8,9,10,12,13,14,19,20,21,48] [500000] (qc h (fun h=>?_) fun h=>?_)
 refine zL 1 fun u k=>?_
 exact aR (zQ (aV (a0.1,a0.2.1,a0.2.2.1,a0.2.2.2.2) h k (here (by kernel_rfl))))
 refine y4 [0,1,2,7,8,9,10,12,13,14,19,20,21] [500000] (bV (fun (a4:(List EdgeT))=>⟨[(0,sI ends),(1,.fn 110 [(.vptr [(vS sides_0_0),(vS sides_0_1),(vI sides_0_2),(vI sides_0_3),(vI sides_0_4),(vI sides_0_5),(aW sides_0_6),(aW sides_0_7),(dB sides_0_8)] 0),(.vptr [(vI sides_1_0)] 0)]),(2,.fn 111 [(.vptr [(vI line_0_0)] 0)]),(7,ro 500000 74),(12,vI a2),(13,vF 198 194 a1.1),(14,vF 198 194 a1.2),(19,sI ends),(20,vI (ends.length:Int)),(21,vI a0.2.2.2.1)],[(500000,iJ 74 a4)]⟩) (iO a0 a2 a1) r (by kernel_rfl) (fun a4 h=>?_) ?_)
 refine zD (z6 6 fun u k=>?_)
 exact aF (aV (a2,a1.1,a1.2,a4) h k (here (by kernel_rfl)))
 refine zB ?_
 obtain ⟨c3,a9,h⟩:=aA h
 refine zT ⟨[(0,sI ends),(1,.fn 110 [(.vptr [(vS sides_0_0),(vS sides_0_1),(vI sides_0_2),(vI sides_0_3),(vI sides_0_4),(vI sides_0_5),(aW sides_0_6),(aW sides_0_7),(dB sides_0_8)] 0),(.vptr [(vI sides_1_0)] 0)]),(2,.fn 111 [(.vptr [(vI line_0_0)] 0)]),(7,ro 500000 74),(8,vI a0.1),(9,vF 198 194 a0.2.1),(10,vF 198 194 a0.2.2.1),(12,vI a2),(13,vF 198 194 a1.1),(14,vF 198 194 a1.2),(19,sI ends),(20,vI (ends.length:Int)),(21,vI a0.2.2.2.1),(59,vB c3)],[(500000,iJ 74 a0.2.2.2.2)]⟩ ?_ fun u k=>?_
 replace h:=a9
 refine zA 2 (fK (TS (x:=a0.2.1) (y:=a0.2.2.1) Jp (by kernel_rfl)) (zA 1 (zS (a0.2.1==a0.2.2.1) (fun b0=>⟨[(0,sI ends),(1,.fn 110 [(.vptr [(vS sides_0_0),(vS sides_0_1),(vI sides_0_2),(vI sides_0_3),(vI sides_0_4),(vI sides_0_5),(aW sides_0_6),(aW sides_0_7),(dB sides_0_8)] 0),(.vptr [(vI sides_1_0)] 0)]),(2,.fn 111 [(.vptr [(vI line_0_0)] 0)]),(7,ro 500000 74),(8,vI a0.1),(9,vF 198 194 a0.2.1),(10,vF 198 194 a0.2.2.1),(12,vI a2),(13,vF 198 194 a1.1),(14,vF 198 194 a1.2),(19,sI ends),(20,vI (ends.length:Int)),(21,vI a0.2.2.2.1),(52,vB (!b0))],[(500000,iJ 74 a0.2.2.2.2)]⟩) (fun hb=>?_) fun hb=>?_)))
 replace h:=iD hb h
 refine z6 7 fun u k=>?_
 cases h
 exact zG k
 replace h:=iB hb h
 refine zA 1 ?_
 obtain ⟨c0,a6,h⟩:=aA h
 refine Yx (x:=a0.2.1) (r:=c0) Jp (by kernel_rfl) (GJ a6 (fun n h=>W.sG h) (fun h=>W.sD h)) (zA 1 (qB h [0,1,2,7,8,9,10,12,13,14,19,20,21,52,55] [500000] [55] (fun h=>?_) fun h=>?_))
 refine z6 4 fun u k=>?_
 cases h
 exact zG k
 refine zA 1 ?_
 obtain ⟨c1,a7,h⟩:=aA h
 refine Yx (x:=a0.2.2.1) (r:=c1) Jp (by kernel_rfl) (GJ a7 (fun n h=>W.sG h) (fun h=>W.sD h)) (z6 2 fun u k=>?_)
 cases h
 exact zG k
 refine yE k [0,1,2,7,8,9,10,12,13,14,19,20,21,59] [500000] (qc h (fun h=>?_) fun h=>?_)
 refine zD (zA 4 ?_)
 obtain ⟨c5,b2,h⟩:=aA h
 refine qC [] [(0,700200)] (W.AL b2) (zA 1 ?_)
 obtain ⟨c6,b3,h⟩:=aA h
 refine qP (W.Dl b3) (zA 1 ?_)
 obtain ⟨c7,b4,h⟩:=aA h
 refine qP (W.Dl b4) ?_
 obtain ⟨c8,b5,h⟩:=aA h
 refine qC [] [(0,700450)] (W.Xv b5) (zA 1 ?_)
 obtain ⟨c4,b1,h⟩:=aA h
 refine qA bF 6 b1 (z6 1 fun u k=>?_)
 exact aV c4 h k (here (by kernel_rfl))
 refine zM fun u k=>?_
 exact aV a0.2.2.2.2 h k (here (by kernel_rfl))
 refine z7 (zA 3 (qL cI ends (y1 1 [0,1,2,7,8,9,10,12,13,14,19,20,21,34] [500000] (qc h (fun h=>?_) fun h=>?_))))
 refine zD (zA 2 ?_)
 obtain ⟨b9,b6,h⟩:=aA h
 refine qP (W.AJ b6) (z6 5 fun u k=>?_)
 exact aV (b9.1,b9.2) h k (here (by kernel_rfl))
 refine zM fun u k=>?_
 exact aV (none,none) h k (here (by kernel_rfl))
 refine zL 0 fun u k=>?_
 refine aR ?_
 cases h
 exact zF k
 refine zQ (yE k [7] [500000] (z8 2 ⟨[(6,ro 500000 74)],[(500000,iJ 74 a5)]⟩ fun u k=>?_))
 obtain rfl:=osi h
 exact qW k [(6,ro 0 74)] (sp [] [(500000,0)])
theorem W.FV {l r} (h:Gf l=some r):PC G.P 49 [(.agg (aQ l))] [] (.row (.top 0) 74) [(0,.row 74 [] (List.map bF r))]:=by
 refine zU G Tryz.func49 (yK [0] [] (y3 2 [1] [1] (y3 2 [1,3,4] [1,3,4] (zB (z7 (zA 2 ?_))))))
 refine qL aU l.Pieces (y1 1 [1,3,4,15,16,17] [1,3,4] (zC ?_))
 obtain ⟨b0,c3,h⟩:=aA h
 refine ql c3 (fun a0=>⟨[(1,.ptr 500000 0),(3,ro 500001 3),(4,ro 500002 3),(15,dB l.Pieces),(16,vI (l.Pieces.length:Int)),(17,vI a0.1)],[(500000,.box (aQ l)),(500001,wI 3 a0.2.1),(500002,wI 3 a0.2.2)]⟩) (fun b0=>(.exit 0,⟨[(1,.ptr 500000 0),(3,ro 500001 3),(4,ro 500002 3)],[(500000,.box (aQ l)),(500001,wI 3 b0.1),(500002,wI 3 b0.2)]⟩)) (sp [] [(1,500000),(3,500001),(4,500002)]) (fun a0 r h=>?_) fun u k=>?_
 refine y3 1 [1,3,4,15,16,17,18] [500000,500001,500002] (zB (qc h (fun h=>?_) fun h=>?_))
 refine y4 [1,3,4,15,16,17] [500000,500001,500002] (zB (zC (z7 ?_)))
 obtain ⟨a8,c0,h⟩:=aA h
 refine qX aU c0 (y1 3 [1,3,4,6,15,16,17] [6,500000,500001,500002] (z7 (zA 2 (qL aD a8.Rects (y1 1 [1,3,4,15,16,17,22,23,24] [500000,500001,500002] (zC ?_))))))
 obtain ⟨a9,c2,h⟩:=aA h
 refine ql c2 (fun a3=>⟨[(1,.ptr 500000 0),(3,ro 500001 3),(4,ro 500002 3),(15,dB l.Pieces),(16,vI (l.Pieces.length:Int)),(17,vI a0.1),(22,aW a8.Rects),(23,vI (a8.Rects.length:Int)),(24,vI a3.1)],[(500000,.box (aQ l)),(500001,wI 3 a3.2.1),(500002,wI 3 a3.2.2)]⟩) (fun a9=>(.exit 2,⟨[(1,.ptr 500000 0),(3,ro 500001 3),(4,ro 500002 3),(15,dB l.Pieces),(16,vI (l.Pieces.length:Int)),(17,vI a0.1)],[(500000,.box (aQ l)),(500001,wI 3 a9.1),(500002,wI 3 a9.2)]⟩)) qH (fun a3 r h=>?_) fun u k=>?_
 refine y3 1 [1,3,4,15,16,17,22,23,24,25] [500000,500001,500002] (zB (qc h (fun h=>?_) fun h=>?_))
 refine y4 [1,3,4,15,16,17,22,23,24] [500000,500001,500002] (zB (zC (z7 ?_)))
 obtain ⟨d3,c1,h⟩:=aA h
 refine qX aD c1 (y1 3 [1,3,4,8,15,16,17,22,23,24] [8,500000,500001,500002] (z7 (zA 9 ?_)))
 obtain ⟨c7,b2,h⟩:=aA h
 refine qA cI 1 b2 (y1 1 [1,3,4,8,15,16,17,22,23,24] [8,500000,500001,500002] (zD (zA 9 ?_)))
 obtain ⟨c8,b3,h⟩:=aA h
 refine qA cI 1 b3 (z6 1 fun u k=>?_)
 refine aF (yE k [1,3,4,15,16,17,22,23,24] [500000,500001,500002] (zD (z6 2 fun u k=>?_)))
 cases h
 exact zH k
 refine zL 2 fun u k=>?_
 refine aR ?_
 cases h
 exact zF k
 refine zQ (aF (yE k [1,3,4,15,16,17] [500000,500001,500002] (zD (z6 2 fun u k=>?_))))
 cases h
 exact zH k
 refine zL 0 fun u k=>?_
 refine aR ?_
 cases h
 exact zF k
 refine zQ (yE k [1,3,4] [500000,500001,500002] (z7 (zA 1 ?_)))
 obtain ⟨a1,b6,h⟩:=aA h
 refine qC [(300000,500001)] [(0,700050)] (W.AQ b6) (zA 1 ?_)
 obtain ⟨a2,b7,h⟩:=aA h
 refine qC [(300000,500002)] [(0,700150)] (W.AQ b7) (y1 2 [1,3,4] [500000,700050,700150] (y3 1 [1,3,4,9] [9,500000,700050,700150] (zB (z7 (zA 1 (qL cI a2 ?_))))))
 refine y1 1 [1,3,4,9,54,55,56] [9,500000,700050,700150] (zC ?_)
 obtain ⟨c6,c4,h⟩:=aA h
 refine ql c4 (fun a6=>⟨[(1,.ptr 500000 0),(3,ro 500001 3),(4,ro 500002 3),(9,ro 500003 74),(54,ro 500002 3),(55,vI (a2.length:Int)),(56,vI a6.1)],[(500000,.box (aQ l)),(500001,wI 3 a1),(500002,wI 3 a2),(500003,iJ 74 a6.2)]⟩) (fun c6=>(.exit 4,⟨[(1,.ptr 500000 0),(3,ro 500001 3),(4,ro 500002 3),(9,ro 500003 74)],[(500000,.box (aQ l)),(500001,wI 3 a1),(500002,wI 3 a2),(500003,iJ 74 c6)]⟩)) (sp [] [(9,500003),(500000,500000),(700050,500001),(700150,500002)]) (fun a6 r h=>?_) fun u k=>?_
 refine y3 1 [1,3,4,9,54,55,56,57] [500000,500001,500002,500003] (zB (qc h (fun h=>?_) fun h=>?_))
 refine y4 [1,3,4,9,54,55,56] [500000,500001,500002,500003] (zB (zC (z7 ?_)))
 obtain ⟨d4,a4,h⟩:=aA h
 refine qI cI a4 (qR cI a4 (y1 2 [1,3,4,9,11,54,55,56] [11,500000,500001,500002,500003] (zD (zA 4 ?_))))
 obtain ⟨d1,b8,h⟩:=aA h
 refine zK [] [(0,700200)] [500001,500000,11] (by kernel_rfl) (W.wT b8) (by kernel_rfl) (by kernel_rfl) (.inr ⟨rfl,fun _ _=>Qf (Vl fun _=>rfl) (fun _ _=>Vk)⟩) ?_
 obtain ⟨c9,b4,h⟩:=aA h
 refine qA bF 6 b4 (z6 1 fun u k=>?_)
 refine aF (yE k [1,3,4,9,54,55,56] [500000,500001,500002,500003] (zD (z6 2 fun u k=>?_)))
 cases h
 exact zH k
 refine zL 4 fun u k=>?_
 refine aR ?_
 cases h
 exact zF k
 refine zQ (yE k [1,3,4,9] [500000,500001,500002,500003] (zB (z7 (zA 1 (qL cI a1 (y1 1 [1,4,9,67,68,69] [500000,500001,500002,500003] ?_))))))
 refine zC ?_
 obtain ⟨b1,c5,h⟩:=aA h
 refine ql c5 (fun a7=>⟨[(1,.ptr 500000 0),(4,ro 500001 3),(9,ro 500002 74),(67,ro 500003 3),(68,vI (a1.length:Int)),(69,vI a7.1)],[(500000,.box (aQ l)),(500001,wI 3 a2),(500002,iJ 74 a7.2),(500003,wI 3 a1)]⟩) (fun b1=>(.exit 6,⟨[(9,ro 500000 74)],[(500000,iJ 74 b1)]⟩)) (sp [] [(500000,500000),(500001,500003),(500002,500001),(500003,500002)]) (fun a7 r h=>?_) fun u k=>?_
 refine y3 1 [1,4,9,67,68,69,70] [500000,500001,500002,500003] (zB (qc h (fun h=>?_) fun h=>?_))
 refine y4 [1,4,9,67,68,69] [500000,500001,500002,500003] (zB (zC (z7 ?_)))
 obtain ⟨d5,a5,h⟩:=aA h
 refine qI cI a5 (qR cI a5 (y1 2 [1,4,9,13,67,68,69] [13,500000,500001,500002,500003] (zD (zA 4 ?_))))
 obtain ⟨d2,b9,h⟩:=aA h
 refine zK [] [(0,700200)] [500001,500000,13] (by kernel_rfl) (W.wV b9) (by kernel_rfl) (by kernel_rfl) (.inr ⟨rfl,fun _ _=>Qf (Vl fun _=>rfl) (fun _ _=>Vk)⟩) ?_
 obtain ⟨d0,b5,h⟩:=aA h
 refine qA bF 6 b5 (z6 1 fun u k=>?_)
 refine aF (yE k [1,4,9,67,68,69] [500000,500001,500002,500003] (zD (z6 2 fun u k=>?_)))
 cases h
 exact zH k
 refine zL 6 fun u k=>?_
 refine aR ?_
 cases h
 exact sP k rfl (sp [] [(500002,500000)])
 refine zQ (yE k [9] [500000] (z8 2 ⟨[(2,ro 500000 74)],[(500000,iJ 74 b1)]⟩ fun u k=>?_))
 obtain rfl:=osi h
 exact qW k [(2,ro 0 74)] (sp [] [(500000,0)])
theorem W.Ob {l r} (h:wE l=some r):PC G.P 14 [(.agg (aQ l))] [] (.tup [(.row (.top 0) 74),(vI r.2)]) [(0,.row 74 [] (List.map bF r.1))]:=by
 refine zU G Tryz.func14 (yK [0] [] (y3 3 [1] [1] (zB (z7 (zA 1 ?_)))))
 obtain ⟨r4,a0,h⟩:=aA h
 refine qP (W.Yn a0) (y1 1 [1,4] [1] (y3 2 [1,4,8] [1] (qc h (fun h=>?_) fun h=>?_)))
 refine z8 3 ⟨[(2,ro 2 74),(3,vI r4)],[(2,iJ 74 [])]⟩ fun u k=>?_
 refine aO ?_
 obtain rfl:=osi h
 exact qW k [(2,ro 0 74),(3,vI r4)] (sp [] [(2,0)])
 refine y4 [1] [1] (z7 (zA 1 ?_))
 obtain ⟨r6,a1,h⟩:=aA h
 refine qC [] [(0,700050)] (W.FV a1) (y1 2 [2,3] [700050] (zN fun u k=>?_))
 obtain rfl:=osi h
 exact qW k [(2,ro 0 74),(3,vI 0)] (sp [] [(700050,0)])
theorem W.mG {n h0 r} (h:gI n h0=some r):PC G.P 182 [(.row (.top 300000) 3),(vI n)] [(300000,.row 3 [] (List.map cI h0))] (.row (.top 0) 3) [(0,.row 3 [] (List.map cI r))]:=by
 refine zU G Tryz.func182 (yK [0,1] [300000] (y3 1 [0,1] [300000] (z7 (zA 1 (qL cI h0 (y1 1 [0,1,5] [300000] ?_))))))
 refine zB (zC ?_)
 obtain ⟨a4,b1,h⟩:=aA h
 refine ql b1 (fun b2=>⟨[(0,ro 500000 3),(1,vI n),(5,vI b2)],[(500000,wI 3 h0)]⟩) (fun a4=>(.exit 0,⟨[(0,ro 500000 3),(1,vI n),(5,vI a4)],[(500000,wI 3 h0)]⟩)) (sp [] [(300000,500000)]) (fun b2 r h=>?_) fun u k=>?_
 refine zB (zB ?_)
 obtain ⟨b5,a8,h⟩:=aA h
 refine zT ⟨[(0,ro 500000 3),(1,vI n),(5,vI b2),(19,vB b5)],[(500000,wI 3 h0)]⟩ ?_ fun u k=>?_
 replace h:=a8
 refine zA 3 (qB h [0,1,5,11] [500000] [11] (fun h=>?_) fun h=>?_)
 refine zA 3 ?_
 obtain ⟨c0,a6,h⟩:=aA h
 refine qI cI a6 (qR cI a6 (z6 3 fun u k=>?_))
 cases h
 exact zG k
 refine z6 8 fun u k=>?_
 cases h
 exact zG k
 refine yE k [0,1,5,19] [500000] (qc h (fun h=>?_) fun h=>?_)
 refine y4 [0,1,5] [500000] (zC (zD (z6 3 fun u k=>?_)))
 refine aF ?_
 cases h
 exact zH k
 refine zL 0 fun u k=>?_
 refine aR ?_
 cases h
 exact zF k
 refine zQ (yE k [0,1,5] [500000] (zB (zB ?_)))
 obtain ⟨b6,a9,h⟩:=aA h
 refine zT ⟨[(0,ro 500000 3),(1,vI n),(5,vI a4),(32,vB b6)],[(500000,wI 3 h0)]⟩ ?_ fun u k=>?_
 replace h:=a9
 refine zA 3 (qB h [0,1,5,24] [500000] [24] (fun h=>?_) fun h=>?_)
 refine zA 3 ?_
 obtain ⟨c1,a7,h⟩:=aA h
 refine qI cI a7 (qR cI a7 (z6 3 fun u k=>?_))
 cases h
 exact zG k
 refine z6 8 fun u k=>?_
 cases h
 exact zG k
 refine yE k [0,1,5,32] [500000] (qc h (fun h=>?_) fun h=>?_)
 refine z8 2 ⟨[(4,ro 500000 3)],[(500000,wI 3 h0)]⟩ fun u k=>?_
 refine aO ?_
 obtain rfl:=osi h
 exact qW k [(4,ro 0 3)] (sp [] [(500000,0)])
 refine y4 [0,1,5] [500000] (z7 (zA 2 ?_))
 obtain ⟨b7,b0,h⟩:=aA h
 refine qA cI 1 b0 (y1 1 [0,1,5] [500000] (zB (z7 (zA 1 (qL cI b7 (y1 2 [0,1,5,6] [500000] ?_))))))
 refine zC ?_
 obtain ⟨a3,a5,h⟩:=aA h
 refine ql a5 (fun b3=>⟨[(0,ro 500000 3),(1,vI n),(5,vI a4),(6,vI b3.1)],[(500000,wI 3 b3.2)]⟩) (fun a3=>(.exit 2,⟨[(0,ro 500000 3),(1,vI n),(5,vI a4)],[(500000,wI 3 a3)]⟩)) qH (fun b3 r h=>?_) fun u k=>?_
 refine zB (y3 3 [0,1,5,6,42] [500000] (qc h (fun h=>?_) fun h=>?_))
 refine y4 [0,1,5,6] [500000] (zB (zC (zD (zA 5 ?_))))
 obtain ⟨b4,a0,h⟩:=aA h
 refine qI cI a0 (qR cI a0 ?_)
 obtain ⟨b8,a1,h⟩:=aA h
 refine qI cI a1 (qS cI b4 a1 (zP fun u k=>?_))
 refine aF (yE k [0,1,5,6] [500000] (zD (z6 3 fun u k=>?_)))
 cases h
 exact zH k
 refine zL 2 fun u k=>?_
 refine aR ?_
 cases h
 exact zF k
 refine zQ (yE k [0,1,5] [500000] (z7 (zA 3 ?_)))
 obtain ⟨b9,a2,h⟩:=aA h
 refine qI cI a2 (qS cI n a2 (zP fun u k=>?_))
 refine yE k [0] [500000] (z8 2 ⟨[(4,ro 500000 3)],[(500000,wI 3 (List.set a3 (Int.toNat a4) n))]⟩ fun u k=>?_)
 obtain rfl:=osi h
 exact qW k [(4,ro 0 3)] (sp [] [(500000,0)])
theorem W.Nh {l r} (h:sZ l=some r):PC G.P 155 [(.sl (List.map aD l))] [] (.tup [(.row (.top 0) 3),(.row (.top 1) 3)]) [(0,.row 3 [] (List.map cI r.1)),(1,.row 3 [] (List.map cI r.2))]:=by
 refine zU G Tryz.func155 (yK [0] [] (y3 2 [0] [] (y3 2 [0,4,5] [4,5] (zB (y3 1 [0,4,5,6] [4,5] (zC ?_))))))
 obtain ⟨a0,b2,h⟩:=aA h
 refine ql b2 (fun a1=>⟨[(0,aW l),(4,ro 500000 3),(5,ro 500001 3),(6,vI a1.1)],[(500000,wI 3 a1.2.1),(500001,wI 3 a1.2.2)]⟩) (fun a0=>(.exit 0,⟨[(4,ro 500000 3),(5,ro 500001 3)],[(500000,wI 3 a0.1),(500001,wI 3 a0.2)]⟩)) (sp [] [(4,500000),(5,500001)]) (fun a1 r h=>?_) fun u k=>?_
 refine zB (z7 (zA 2 (qL aD l (y1 1 [0,4,5,6,10] [500000,500001] (qc h (fun h=>?_) fun h=>?_)))))
 refine y4 [0,4,5,6] [500000,500001] (zB (zC (z7 (zA 3 ?_))))
 obtain ⟨b7,a6,h⟩:=aA h
 refine qX aD a6 (zA 2 ?_)
 obtain ⟨b3,a2,h⟩:=aA h
 refine qC [(300000,500000)] [(0,700300)] (W.mG a2) (y1 1 [0,4,5,6] [500001,700300] (zB (qM 12 (dN 3 ?_))))
 obtain ⟨b8,a7,h⟩:=aA h
 refine dX aD a7 (dN 4 ?_)
 obtain ⟨b9,a8,h⟩:=aA h
 refine dX aD a8 (dN 3 (dE ?_))
 obtain ⟨b4,a3,h⟩:=aA h
 refine oC [(300000,700300)] [(0,700600)] (W.mG a3) (oN 1 (zO fun u k=>?_))
 refine yE k [0,4,5,6] [500001,700600] (z7 (zA 3 ?_))
 obtain ⟨c0,a9,h⟩:=aA h
 refine qX aD a9 (zA 2 ?_)
 obtain ⟨b5,a4,h⟩:=aA h
 refine qC [(300000,500001)] [(0,700300)] (W.mG a4) (y1 1 [0,4,5,6] [700300,700600] (qM 12 (dN 3 ?_)))
 obtain ⟨c1,b0,h⟩:=aA h
 refine dX aD b0 (dN 4 ?_)
 obtain ⟨c2,b1,h⟩:=aA h
 refine dX aD b1 (dN 3 (dE ?_))
 obtain ⟨b6,a5,h⟩:=aA h
 refine oC [(300000,700300)] [(0,700601)] (W.mG a5) (oN 1 (zO fun u k=>?_))
 refine aF (yE k [0,4,5,6] [700600,700601] (zD (z6 3 fun u k=>?_)))
 cases h
 exact Lx k (sp [] [(700600,500000),(700601,500001)])
 refine zL 0 fun u k=>?_
 refine aR ?_
 cases h
 exact zF k
 refine zQ (yE k [4,5] [500000,500001] (z8 4 ⟨[(2,ro 500000 3),(3,ro 500001 3)],[(500000,wI 3 a0.1),(500001,wI 3 a0.2)]⟩ fun u k=>?_))
 obtain rfl:=osi h
 exact qW k [(2,ro 0 3),(3,ro 1 3)] (sp [] [(500000,0),(500001,1)])
theorem W.Ij {l x1 y r} (h:oZ l x1 y=some r):PC G.P 200 [(.sl (List.map aD l)),(vI x1),(vI y)] [] (vB r) []:=by
 refine zU G Tryz.func200 (yK [0,1,2] [] (y3 1 [0,1,2] [] (zB (y3 1 [0,1,2,7] [] (zC ?_)))))
 obtain ⟨a4,a2,h⟩:=aA h
 refine ql a2 (fun a3=>⟨[(0,aW l),(1,vI x1),(2,vI y),(7,vI a3)],[]⟩) (fun a4=>match a4 with | .inl a6=>(.ret,⟨[(6,vB true)],[]⟩) | .inr a7=>(.exit 0,⟨[],[]⟩)) qH (fun a3 r h=>?_) (fun u k=>?_) (hout:=(by intro x;rcases x with _ | _ <;> rfl))
 refine zB (z7 (zA 2 (qL aD l (y1 1 [0,1,2,7,12] [] (qc h (fun h=>?_) fun h=>?_)))))
 refine y4 [0,1,2,7] [] (zB (zC (z7 (zA 2 ?_))))
 obtain ⟨a8,a1,h⟩:=aA h
 refine qX aD a1 (y1 3 [0,1,2,7,8] [8] (zB ?_))
 obtain ⟨a5,a0,h⟩:=aA h
 refine zT ⟨[(0,aW l),(1,vI x1),(2,vI y),(7,vI a3),(46,vB a5)],[]⟩ ?_ fun u k=>?_
 replace h:=a0
 refine zA 5 (qB h [0,1,2,7,8,23] [8] [23] (fun h=>?_) fun h=>?_)
 refine zA 9 (qB h [0,1,2,7,8,32] [8] [32] (fun h=>?_) fun h=>?_)
 refine zA 6 (qB h [0,1,2,7,8,38] [8] [38] (fun h=>?_) fun h=>?_)
 refine z6 8 fun u k=>?_
 cases h
 exact zG k
 refine z6 8 fun u k=>?_
 cases h
 exact zG k
 refine z6 14 fun u k=>?_
 cases h
 exact zG k
 refine z6 23 fun u k=>?_
 cases h
 exact zG k
 refine yE k [0,1,2,7,46] [] (qc h (fun h=>?_) fun h=>?_)
 refine z8 1 ⟨[(6,vB true)],[]⟩ fun u k=>?_
 refine aT (aO ?_)
 cases h
 exact zF k
 refine zM fun u k=>?_
 refine aF (yE k [0,1,2,7] [] (zD (z6 3 fun u k=>?_)))
 cases h
 exact zH k
 refine zL 0 fun u k=>?_
 refine aR ?_
 cases h
 exact zF k
 rcases a4 with a6 | a7
 refine aT (aO ?_)
 obtain rfl:=osi h
 exact zV k [(6,vB true)]
 refine zQ (yE k [] [] (z8 1 ⟨[(6,vB false)],[]⟩ fun u k=>?_))
 obtain rfl:=osi h
 exact zV k [(6,vB false)]
theorem W.Ju {regions x1 y r} (h:qZ regions x1 y=some r):PC G.P 183 [(.sl (List.map (cS aD) regions)),(vI x1),(vI y)] [] (vI r) []:=by
 refine zU G Tryz.func183 (yK [0,1,2] [] (y3 1 [0,1,2] [] (zB (y3 1 [0,1,2,7] [] (zC ?_)))))
 obtain ⟨a5,a2,h⟩:=aA h
 refine ql a2 (fun a4=>⟨[(0,.sl (List.map (cS aD) regions)),(1,vI x1),(2,vI y),(7,vI a4)],[]⟩) (fun a5=>match a5 with | .inl a3=>(.ret,⟨[(6,vI a3)],[]⟩) | .inr a6=>(.exit 0,⟨[],[]⟩)) qH (fun a4 r h=>?_) (fun u k=>?_) (hout:=(by intro x;rcases x with _ | _ <;> rfl))
 refine zB (z7 (zA 2 (qL (cS aD) regions (y1 1 [0,1,2,7,11] [] (qc h (fun h=>?_) fun h=>?_)))))
 refine y4 [0,1,2,7] [] (zB (zC (z7 (zA 2 ?_))))
 obtain ⟨a8,a1,h⟩:=aA h
 refine qX (cS aD) a1 (zA 3 ?_)
 obtain ⟨a7,a0,h⟩:=aA h
 refine qP (W.Ij a0) (zP fun u k=>?_)
 refine yE k [0,1,2,7,20] [] (qc h (fun h=>?_) fun h=>?_)
 refine z8 2 ⟨[(6,vI a4)],[]⟩ fun u k=>?_
 refine aT (aO ?_)
 cases h
 exact zF k
 refine zM fun u k=>?_
 refine aF (yE k [0,1,2,7] [] (zD (z6 3 fun u k=>?_)))
 cases h
 exact zH k
 refine zL 0 fun u k=>?_
 refine aR ?_
 cases h
 exact zF k
 rcases a5 with a3 | a6
 refine aT (aO ?_)
 obtain rfl:=osi h
 exact zV k [(6,vI a3)]
 refine zQ (yE k [] [] (z8 1 ⟨[(6,vI (-1))],[]⟩ fun u k=>?_))
 obtain rfl:=osi h
 exact zV k [(6,vI (-1))]
theorem W.Ik {regions xs ys r} (h:pF regions xs ys=some r):PC G.P 156 [(.sl (List.map (cS aD) regions)),(.sl (List.map cI xs)),(.sl (List.map cI ys))] [] (.row (.top 0) 38) [(0,.row 38 [(0,3)] (List.map (cS cI) r))]:=by
 refine zU G Tryz.func156 (yK [0,1,2] [] (y3 1 [0,1,2] [] (z7 (zA 1 (qL cI xs (zA 1 ?_))))))
 obtain ⟨l2,c8,h⟩:=aA h
 refine fK (H7 (c:=(cS cI)) (z:=[]) (n:=(aM (xs.length:Int) 1)) (e:=38) (e2:=3) (d:=13) (k1:=.i64) (k2:=.i64) (by kernel_rfl) rfl (by kernel_rfl) c8) (y1 1 [0,1,2,7] [13] (zB (y3 1 [0,1,2,7,8] [13] (zC ?_))))
 obtain ⟨b0,c0,h⟩:=aA h
 refine ql c0 (fun a1=>⟨[(0,.sl (List.map (cS aD) regions)),(1,sI xs),(2,sI ys),(7,ro 500000 38),(8,vI a1.1)],[(500000,.row 38 [(0,3)] (List.map (cS cI) a1.2))]⟩) (fun b0=>(.exit 0,⟨[(7,ro 500000 38)],[(500000,.row 38 [(0,3)] (List.map (cS cI) b0))]⟩)) (sp [] [(13,500000)]) (fun a1 r h=>?_) fun u k=>?_
 refine zB (z7 (zA 2 (qL cI xs (y1 1 [0,1,2,7,8,17] [500000] (qc h (fun h=>?_) fun h=>?_)))))
 refine y4 [0,1,2,7,8] [500000] (zB (zC (z7 (zA 3 (qL cI ys (zA 1 ?_))))))
 obtain ⟨b2,b5,h⟩:=aA h
 refine iQ (Ji (c:=cI) (z:=0) (n:=(aM (ys.length:Int) 1)) (e:=3) (d:=25) (zs:=[(vI 0)]) (k1:=.i64) (k2:=.i64) (by kernel_rfl) rfl b5) ?_
 obtain ⟨c3,a7,h⟩:=aA h
 refine qI (cS cI) a7 (fK (TU (c:=(cS cI)) (c2:=cI) (l:=a1.2) (x:=c3) (x':=b2) (l2:=b2) (g:=500000) (d:=25) (e:=38) (e':=3) (i:=(Int.toNat a1.1)) (off:=0) (J:=[(0,3)]) (by kernel_rfl) (by kernel_rfl) (by kernel_rfl) (by kernel_rfl) rfl ((Bf a7).2) rfl) (zP fun u k=>?_))
 refine yE k [0,1,2,7,8] [500000] (y3 1 [0,1,2,7,8,9] [500000] (zC ?_))
 obtain ⟨b3,b9,h⟩:=aA h
 refine ql b9 (fun a0=>⟨[(0,.sl (List.map (cS aD) regions)),(1,sI xs),(2,sI ys),(7,ro 500000 38),(8,vI a1.1),(9,vI a0.1)],[(500000,.row 38 [(0,3)] (List.map (cS cI) a0.2))]⟩) (fun b3=>(.exit 2,⟨[(0,.sl (List.map (cS aD) regions)),(1,sI xs),(2,sI ys),(7,ro 500000 38),(8,vI a1.1)],[(500000,.row 38 [(0,3)] (List.map (cS cI) b3))]⟩)) qH (fun a0 r h=>?_) fun u k=>?_
 refine zB (z7 (zA 2 (qL cI ys (y1 1 [0,1,2,7,8,9,30] [500000] (qc h (fun h=>?_) fun h=>?_)))))
 refine y4 [0,1,2,7,8,9] [500000] (bV (fun (b1:(List (List Int)))=>⟨[(0,.sl (List.map (cS aD) regions)),(1,sI xs),(2,sI ys),(7,ro 500000 38),(8,vI a1.1),(9,vI a0.1)],[(500000,.row 38 [(0,3)] (List.map (cS cI) b1))]⟩) (jE a0) r (by kernel_rfl) (fun b1 h=>?_) ?_)
 refine zD (z6 3 fun u k=>?_)
 cases h
 exact zH k
 refine zC (z7 (zA 2 ?_))
 obtain ⟨a2,a4,h⟩:=aA h
 refine qI (cS cI) a4 (iQ (Kr (c:=(cS cI)) (l:=a0.2) (i:=(Int.toNat a1.1)) (v:=(.row (.sub 500000 (Int.toNat a1.1) 0) 3)) (agg:=false) (sz:=1) (kk:=(.top 500000)) (e:=38) (off:=0) (J:=[(0,3)]) (by kernel_rfl) (by kernel_rfl) (by kernel_rfl) ((Bf a4).2) (by kernel_rfl)) (zA 1 ?_))
 obtain ⟨c4,a8,h⟩:=aA h
 refine iQ (Wh (c:=cI) (l:=a2) (i:=a0.1) (kd:=.i64) (kk:=(.sub 500000 (Int.toNat a1.1) 0)) (e:=3) (sz:=1) (by kernel_rfl) (zY (g:=500000) (i:=(Int.toNat a1.1)) (j:=0) (c:=(cS cI)) (c2:=cI) (e:=38) (J:=[(0,3)]) (l:=a0.2) (x:=a2) (l2:=a2) (by kernel_rfl) rfl ((Bf a4).2) rfl) a8 rfl) (iQ (Qo (c:=cI) (l:=a2) (i:=(Int.toNat a0.1)) (x:=c4) (x':=(-1)) (v:=(vI (-1))) (agg:=false) (sz:=1) (kk:=(.sub 500000 (Int.toNat a1.1) 0)) (e:=3) (off:=0) (J:=[]) (o:=.row 38 [(0,3)] (List.map (cS cI) (List.set a0.2 (Int.toNat a1.1) (List.set a2 (Int.toNat a0.1) (-1))))) (by kernel_rfl) (zY (g:=500000) (i:=(Int.toNat a1.1)) (j:=0) (c:=(cS cI)) (c2:=cI) (e:=38) (J:=[(0,3)]) (l:=a0.2) (x:=a2) (l2:=a2) (by kernel_rfl) rfl ((Bf a4).2) rfl) (by kernel_rfl) ((Bf a8).2) (by kernel_rfl) (by kernel_rfl) (Om (g:=500000) (i:=(Int.toNat a1.1)) (j:=0) (c:=(cS cI)) (e:=38) (J:=[(0,3)]) (l:=a0.2) (x:=a2) (x':=(List.set a2 (Int.toNat a0.1) (-1))) (by kernel_rfl) ((Bf a4).2) rfl)) (zP fun u k=>?_))
 refine yE k [0,1,2,7,8,9] [500000] (zB ?_)
 obtain ⟨c1,b4,h⟩:=aA h
 refine zT ⟨[(0,.sl (List.map (cS aD) regions)),(1,sI xs),(2,sI ys),(7,ro 500000 38),(8,vI a1.1),(9,vI a0.1),(56,vB c1)],[(500000,.row 38 [(0,3)] (List.map (cS cI) (List.set a0.2 (Int.toNat a1.1) (List.set a2 (Int.toNat a0.1) (-1)))))]⟩ ?_ fun u k=>?_
 replace h:=b4
 refine zA 3 (qB h [0,1,2,7,8,9,41] [500000] [41] (fun h=>?_) fun h=>?_)
 refine zA 4 (qB h [0,1,2,7,8,9,45] [500000] [45] (fun h=>?_) fun h=>?_)
 refine zA 2 (qL cI xs (zA 3 (qB h [0,1,2,7,8,9,51] [500000] [51] (fun h=>?_) fun h=>?_)))
 refine zA 2 (qL cI ys (z6 2 fun u k=>?_))
 cases h
 exact zG k
 refine z6 5 fun u k=>?_
 cases h
 exact zG k
 refine z6 11 fun u k=>?_
 cases h
 exact zG k
 refine z6 15 fun u k=>?_
 cases h
 exact zG k
 refine yE k [0,1,2,7,8,9,56] [500000] (qc h (fun h=>?_) fun h=>?_)
 refine qM 17 (dN 2 ?_)
 obtain ⟨a3,a5,h⟩:=aA h
 refine dI (cS cI) a5 (xM (by kernel_rfl) (Kr (c:=(cS cI)) (l:=(List.set a0.2 (Int.toNat a1.1) (List.set a2 (Int.toNat a0.1) (-1)))) (i:=(Int.toNat a1.1)) (v:=(.row (.sub 500000 (Int.toNat a1.1) 0) 3)) (agg:=false) (sz:=1) (kk:=(.top 500000)) (e:=38) (off:=0) (J:=[(0,3)]) (by kernel_rfl) (by kernel_rfl) (by kernel_rfl) ((Bf a5).2) (by kernel_rfl)) (by kernel_rfl) (by kernel_rfl) (dN 5 ?_))
 obtain ⟨c6,b7,h⟩:=aA h
 refine dX cI b7 (dN 4 ?_)
 obtain ⟨c7,b8,h⟩:=aA h
 refine dX cI b8 (dN 1 ?_)
 obtain ⟨a6,b6,h⟩:=aA h
 refine dC [] (W.Ju b6) (dE ?_)
 obtain ⟨c5,a9,h⟩:=aA h
 refine Ed (Wh (c:=cI) (l:=a3) (i:=a0.1) (kd:=.i64) (kk:=(.sub 500000 (Int.toNat a1.1) 0)) (e:=3) (sz:=1) (by kernel_rfl) (zY (g:=500000) (i:=(Int.toNat a1.1)) (j:=0) (c:=(cS cI)) (c2:=cI) (e:=38) (J:=[(0,3)]) (l:=(List.set a0.2 (Int.toNat a1.1) (List.set a2 (Int.toNat a0.1) (-1)))) (x:=a3) (l2:=a3) (by kernel_rfl) rfl ((Bf a5).2) rfl) a9 rfl) (Ed (Qo (c:=cI) (l:=a3) (i:=(Int.toNat a0.1)) (x:=c5) (x':=a6) (v:=(vI a6)) (agg:=false) (sz:=1) (kk:=(.sub 500000 (Int.toNat a1.1) 0)) (e:=3) (off:=0) (J:=[]) (o:=.row 38 [(0,3)] (List.map (cS cI) (List.set (List.set a0.2 (Int.toNat a1.1) (List.set a2 (Int.toNat a0.1) (-1))) (Int.toNat a1.1) (List.set a3 (Int.toNat a0.1) a6)))) (by kernel_rfl) (zY (g:=500000) (i:=(Int.toNat a1.1)) (j:=0) (c:=(cS cI)) (c2:=cI) (e:=38) (J:=[(0,3)]) (l:=(List.set a0.2 (Int.toNat a1.1) (List.set a2 (Int.toNat a0.1) (-1)))) (x:=a3) (l2:=a3) (by kernel_rfl) rfl ((Bf a5).2) rfl) (by kernel_rfl) ((Bf a9).2) (by kernel_rfl) (by kernel_rfl) (Om (g:=500000) (i:=(Int.toNat a1.1)) (j:=0) (c:=(cS cI)) (e:=38) (J:=[(0,3)]) (l:=(List.set a0.2 (Int.toNat a1.1) (List.set a2 (Int.toNat a0.1) (-1)))) (x:=a3) (x':=(List.set a3 (Int.toNat a0.1) a6)) (by kernel_rfl) ((Bf a5).2) rfl)) (zO fun u k=>?_))
 exact aF (aV (List.set (List.set a0.2 (Int.toNat a1.1) (List.set a2 (Int.toNat a0.1) (-1))) (Int.toNat a1.1) (List.set a3 (Int.toNat a0.1) a6)) h k (here (by kernel_rfl)))
 refine zM fun u k=>?_
 exact aF (aV (List.set a0.2 (Int.toNat a1.1) (List.set a2 (Int.toNat a0.1) (-1))) h k (here (by kernel_rfl)))
 refine zL 2 fun u k=>?_
 refine aR ?_
 cases h
 exact zF k
 refine zQ (aF (yE k [0,1,2,7,8] [500000] (zD (z6 3 fun u k=>?_))))
 cases h
 exact zH k
 refine zL 0 fun u k=>?_
 refine aR ?_
 cases h
 exact zF k
 refine zQ (yE k [7] [500000] (z8 2 ⟨[(6,ro 500000 38)],[(500000,.row 38 [(0,3)] (List.map (cS cI) b0))]⟩ fun u k=>?_))
 obtain rfl:=osi h
 exact qW k [(6,ro 0 38)] (sp [] [(500000,0)])
theorem W.zZ {x1 h0 r} (h:bQ x1 h0=some r):PC G.P 157 [(.row (.top 300000) 165),(.agg (aL x1))] [(300000,.row 165 [] (List.map aL h0))] (.row (.top 0) 165) [(0,.row 165 [] (List.map aL r))]:=by
 refine zU G Tryz.func157 (yK [0,1] [300000] (y3 2 [0,3] [3,300000] (zB (y3 5 [0,3,10] [3,300000] (qc h (fun h=>?_) fun h=>?_)))))
 refine z8 2 ⟨[(4,ro 300000 165)],[(300000,aX 165 h0)]⟩ fun u k=>?_
 refine aO ?_
 obtain rfl:=osi h
 exact qW k [(4,ro 0 165)] (sp [] [(300000,0)])
 refine y4 [0,3] [3,300000] (z7 (zA 1 (qL aL h0 (y1 2 [0,3,5] [3,300000] (zB (zB ?_))))))
 obtain ⟨b8,b4,h⟩:=aA h
 refine gG ⟨[(0,ro 500000 165),(3,.ptr 500001 0),(5,vI (aJ (h0.length:Int) 1)),(84,vB b8)],[(500000,aX 165 h0),(500001,.box (aL x1))]⟩ [] [] [] [] [] 67 (by kernel_rfl) (by kernel_rfl) (by kernel_rfl) ?_ fun u k=>?_
 replace h:=b4
 refine dN 3 (bH (decide ((aJ (h0.length:Int) 1) ≥ 0)) (fun b0=>⟨[(17,vB b0),(16,vB b0),(15,vI (aJ (h0.length:Int) 1)),(0,ro 300000 165),(3,.ptr 3 0),(5,vI (aJ (h0.length:Int) 1))],[(3,.box (aL x1)),(300000,aX 165 h0)]⟩) (by kernel_rfl) (fun hb=>?_) fun hb=>?_)
 replace h:=iD hb h
 refine dN 2 ?_
 obtain ⟨a2,a3,h⟩:=aA h
 refine dI aL a3 (dN 1 (dR aL a3 (dN 5 (bH (a2.Low==x1.Low) (fun b0=>⟨[(27,vB b0),(26,vB b0),(25,vB b0),(24,vI x1.Low),(23,.ptr 3 4),(22,vI a2.Low),(21,.rptr (.top 300000) 165 (Int.toNat (aJ (h0.length:Int) 1)) 4),(20,.rptr (.top 300000) 165 (Int.toNat (aJ (h0.length:Int) 1)) 0),(19,vI (aJ (h0.length:Int) 1)),(18,ro 300000 165),(17,vB true),(16,vB true),(15,vI (aJ (h0.length:Int) 1)),(0,ro 300000 165),(3,.ptr 3 0),(5,vI (aJ (h0.length:Int) 1))],[(3,.box (aL x1)),(300000,aX 165 h0)]⟩) (by kernel_rfl) (fun hb=>?_) fun hb=>?_))))
 replace h:=iD hb h
 refine dN 2 ?_
 obtain ⟨b2,a4,h⟩:=aA h
 refine dI aL a4 (dN 1 (dR aL a4 (dN 5 (bH (b2.High==x1.High) (fun b0=>⟨[(37,vB b0),(36,vB b0),(35,vB b0),(34,vI x1.High),(33,.ptr 3 5),(32,vI b2.High),(31,.rptr (.top 300000) 165 (Int.toNat (aJ (h0.length:Int) 1)) 5),(30,.rptr (.top 300000) 165 (Int.toNat (aJ (h0.length:Int) 1)) 0),(29,vI (aJ (h0.length:Int) 1)),(28,ro 300000 165),(27,vB true),(26,vB true),(25,vB true),(24,vI x1.Low),(23,.ptr 3 4),(22,vI a2.Low),(21,.rptr (.top 300000) 165 (Int.toNat (aJ (h0.length:Int) 1)) 4),(20,.rptr (.top 300000) 165 (Int.toNat (aJ (h0.length:Int) 1)) 0),(19,vI (aJ (h0.length:Int) 1)),(18,ro 300000 165),(17,vB true),(16,vB true),(15,vI (aJ (h0.length:Int) 1)),(0,ro 300000 165),(3,.ptr 3 0),(5,vI (aJ (h0.length:Int) 1))],[(3,.box (aL x1)),(300000,aX 165 h0)]⟩) (by kernel_rfl) (fun hb=>?_) fun hb=>?_))))
 replace h:=iD hb h
 refine dN 2 ?_
 obtain ⟨b3,a5,h⟩:=aA h
 refine dI aL a5 (dN 2 (dR aL a5 (dN 6 (bH (b3.At.X2==x1.At.X1) (fun b0=>⟨[(49,vB b0),(48,vB b0),(47,vB b0),(46,vI x1.At.X1),(45,.ptr 3 0),(44,.ptr 3 0),(43,vI b3.At.X2),(42,.rptr (.top 300000) 165 (Int.toNat (aJ (h0.length:Int) 1)) 2),(41,.rptr (.top 300000) 165 (Int.toNat (aJ (h0.length:Int) 1)) 0),(40,.rptr (.top 300000) 165 (Int.toNat (aJ (h0.length:Int) 1)) 0),(39,vI (aJ (h0.length:Int) 1)),(38,ro 300000 165),(37,vB true),(36,vB true),(35,vB true),(34,vI x1.High),(33,.ptr 3 5),(32,vI b2.High),(31,.rptr (.top 300000) 165 (Int.toNat (aJ (h0.length:Int) 1)) 5),(30,.rptr (.top 300000) 165 (Int.toNat (aJ (h0.length:Int) 1)) 0),(29,vI (aJ (h0.length:Int) 1)),(28,ro 300000 165),(27,vB true),(26,vB true),(25,vB true),(24,vI x1.Low),(23,.ptr 3 4),(22,vI a2.Low),(21,.rptr (.top 300000) 165 (Int.toNat (aJ (h0.length:Int) 1)) 4),(20,.rptr (.top 300000) 165 (Int.toNat (aJ (h0.length:Int) 1)) 0),(19,vI (aJ (h0.length:Int) 1)),(18,ro 300000 165),(17,vB true),(16,vB true),(15,vI (aJ (h0.length:Int) 1)),(0,ro 300000 165),(3,.ptr 3 0),(5,vI (aJ (h0.length:Int) 1))],[(3,.box (aL x1)),(300000,aX 165 h0)]⟩) (by kernel_rfl) (fun hb=>?_) fun hb=>?_))))
 replace h:=iD hb h
 refine dN 2 ?_
 obtain ⟨b6,a6,h⟩:=aA h
 refine dI aL a6 (dN 2 (dR aL a6 (dN 6 (bH (b6.At.Y2==x1.At.Y1) (fun b0=>⟨[(61,vB b0),(60,vB b0),(59,vB b0),(58,vI x1.At.Y1),(57,.ptr 3 1),(56,.ptr 3 0),(55,vI b6.At.Y2),(54,.rptr (.top 300000) 165 (Int.toNat (aJ (h0.length:Int) 1)) 3),(53,.rptr (.top 300000) 165 (Int.toNat (aJ (h0.length:Int) 1)) 0),(52,.rptr (.top 300000) 165 (Int.toNat (aJ (h0.length:Int) 1)) 0),(51,vI (aJ (h0.length:Int) 1)),(50,ro 300000 165),(49,vB true),(48,vB true),(47,vB true),(46,vI x1.At.X1),(45,.ptr 3 0),(44,.ptr 3 0),(43,vI b3.At.X2),(42,.rptr (.top 300000) 165 (Int.toNat (aJ (h0.length:Int) 1)) 2),(41,.rptr (.top 300000) 165 (Int.toNat (aJ (h0.length:Int) 1)) 0),(40,.rptr (.top 300000) 165 (Int.toNat (aJ (h0.length:Int) 1)) 0),(39,vI (aJ (h0.length:Int) 1)),(38,ro 300000 165),(37,vB true),(36,vB true),(35,vB true),(34,vI x1.High),(33,.ptr 3 5),(32,vI b2.High),(31,.rptr (.top 300000) 165 (Int.toNat (aJ (h0.length:Int) 1)) 5),(30,.rptr (.top 300000) 165 (Int.toNat (aJ (h0.length:Int) 1)) 0),(29,vI (aJ (h0.length:Int) 1)),(28,ro 300000 165),(27,vB true),(26,vB true),(25,vB true),(24,vI x1.Low),(23,.ptr 3 4),(22,vI a2.Low),(21,.rptr (.top 300000) 165 (Int.toNat (aJ (h0.length:Int) 1)) 4),(20,.rptr (.top 300000) 165 (Int.toNat (aJ (h0.length:Int) 1)) 0),(19,vI (aJ (h0.length:Int) 1)),(18,ro 300000 165),(17,vB true),(16,vB true),(15,vI (aJ (h0.length:Int) 1)),(0,ro 300000 165),(3,.ptr 3 0),(5,vI (aJ (h0.length:Int) 1))],[(3,.box (aL x1)),(300000,aX 165 h0)]⟩) (by kernel_rfl) (fun hb=>?_) fun hb=>?_))))
 replace h:=iD hb h
 refine dN 2 ?_
 obtain ⟨b7,a7,h⟩:=aA h
 refine dI aL a7 (dN 2 (dR aL a7 (dN 5 (bH (b7.At.Y1==x1.At.Y2) (fun b0=>⟨[(72,vB b0),(71,vB b0),(70,vI x1.At.Y2),(69,.ptr 3 3),(68,.ptr 3 0),(67,vI b7.At.Y1),(66,.rptr (.top 300000) 165 (Int.toNat (aJ (h0.length:Int) 1)) 1),(65,.rptr (.top 300000) 165 (Int.toNat (aJ (h0.length:Int) 1)) 0),(64,.rptr (.top 300000) 165 (Int.toNat (aJ (h0.length:Int) 1)) 0),(63,vI (aJ (h0.length:Int) 1)),(62,ro 300000 165),(61,vB true),(60,vB true),(59,vB true),(58,vI x1.At.Y1),(57,.ptr 3 1),(56,.ptr 3 0),(55,vI b6.At.Y2),(54,.rptr (.top 300000) 165 (Int.toNat (aJ (h0.length:Int) 1)) 3),(53,.rptr (.top 300000) 165 (Int.toNat (aJ (h0.length:Int) 1)) 0),(52,.rptr (.top 300000) 165 (Int.toNat (aJ (h0.length:Int) 1)) 0),(51,vI (aJ (h0.length:Int) 1)),(50,ro 300000 165),(49,vB true),(48,vB true),(47,vB true),(46,vI x1.At.X1),(45,.ptr 3 0),(44,.ptr 3 0),(43,vI b3.At.X2),(42,.rptr (.top 300000) 165 (Int.toNat (aJ (h0.length:Int) 1)) 2),(41,.rptr (.top 300000) 165 (Int.toNat (aJ (h0.length:Int) 1)) 0),(40,.rptr (.top 300000) 165 (Int.toNat (aJ (h0.length:Int) 1)) 0),(39,vI (aJ (h0.length:Int) 1)),(38,ro 300000 165),(37,vB true),(36,vB true),(35,vB true),(34,vI x1.High),(33,.ptr 3 5),(32,vI b2.High),(31,.rptr (.top 300000) 165 (Int.toNat (aJ (h0.length:Int) 1)) 5),(30,.rptr (.top 300000) 165 (Int.toNat (aJ (h0.length:Int) 1)) 0),(29,vI (aJ (h0.length:Int) 1)),(28,ro 300000 165),(27,vB true),(26,vB true),(25,vB true),(24,vI x1.Low),(23,.ptr 3 4),(22,vI a2.Low),(21,.rptr (.top 300000) 165 (Int.toNat (aJ (h0.length:Int) 1)) 4),(20,.rptr (.top 300000) 165 (Int.toNat (aJ (h0.length:Int) 1)) 0),(19,vI (aJ (h0.length:Int) 1)),(18,ro 300000 165),(17,vB true),(16,vB true),(15,vI (aJ (h0.length:Int) 1)),(0,ro 300000 165),(3,.ptr 3 0),(5,vI (aJ (h0.length:Int) 1))],[(3,.box (aL x1)),(300000,aX 165 h0)]⟩) (by kernel_rfl) (fun hb=>?_) fun hb=>?_))))
 replace h:=iD hb h
 refine dN 9 (dE (oN 3 (zO fun u k=>?_)))
 cases h
 exact bJ k (sp [] [(3,500001),(300000,500000)])
 replace h:=iB hb h
 refine dN 2 ?_
 obtain ⟨c0,a8,h⟩:=aA h
 refine dI aL a8 (dN 2 (dR aL a8 (dN 3 (dE (oN 3 (zO fun u k=>?_))))))
 cases h
 exact bJ k (sp [] [(3,500001),(300000,500000)])
 replace h:=iB hb h
 refine dN 20 (dE (oN 3 (zO fun u k=>?_)))
 cases h
 exact bJ k (sp [] [(3,500001),(300000,500000)])
 replace h:=iB hb h
 refine dN 32 (dE (oN 3 (zO fun u k=>?_)))
 cases h
 exact bJ k (sp [] [(3,500001),(300000,500000)])
 replace h:=iB hb h
 refine dN 44 (dE (oN 3 (zO fun u k=>?_)))
 cases h
 exact bJ k (sp [] [(3,500001),(300000,500000)])
 replace h:=iB hb h
 refine dN 54 (dE (oN 3 (zO fun u k=>?_)))
 cases h
 exact bJ k (sp [] [(3,500001),(300000,500000)])
 replace h:=iB hb h
 refine dN 64 (dE (oN 3 (zO fun u k=>?_)))
 cases h
 exact bJ k (sp [] [(3,500001),(300000,500000)])
 refine yE k [0,3,5,84] [500000,500001] (qc h (fun h=>?_) fun h=>?_)
 refine z7 (zA 5 ?_)
 obtain ⟨a0,a9,h⟩:=aA h
 refine qI aL a9 (zA 2 (qS aL (sheetmetalref06_Line.mk (Segment.mk a0.At.X1 a0.At.Y1 x1.At.X2 a0.At.Y2) a0.Low a0.High) a9 (zP fun u k=>?_)))
 refine yE k [0,3,5] [500000,500001] (z7 (zA 5 ?_))
 obtain ⟨a1,b1,h⟩:=aA h
 refine qI aL b1 (zA 2 (qS aL (sheetmetalref06_Line.mk (Segment.mk a1.At.X1 a1.At.Y1 a1.At.X2 x1.At.Y2) a1.Low a1.High) b1 (zP fun u k=>?_)))
 refine yE k [0] [500000] (z8 2 ⟨[(4,ro 500000 165)],[(500000,aX 165 (List.set (List.set h0 (Int.toNat (aJ (h0.length:Int) 1)) (sheetmetalref06_Line.mk (Segment.mk a0.At.X1 a0.At.Y1 x1.At.X2 a0.At.Y2) a0.Low a0.High)) (Int.toNat (aJ (h0.length:Int) 1)) (sheetmetalref06_Line.mk (Segment.mk a1.At.X1 a1.At.Y1 a1.At.X2 x1.At.Y2) a1.Low a1.High)))]⟩ fun u k=>?_)
 refine aO ?_
 obtain rfl:=osi h
 exact qW k [(4,ro 0 165)] (sp [] [(500000,0)])
 refine y4 [0,3] [500000,500001] (z7 (zA 3 ?_))
 obtain ⟨b9,b5,h⟩:=aA h
 refine qA aL 6 b5 (y1 1 [4] [500000] (zN fun u k=>?_))
 obtain rfl:=osi h
 exact qW k [(4,ro 0 165)] (sp [] [(500000,0)])
theorem W.Hu {regions r} (h:kM regions=some r):PC G.P 112 [(.sl (List.map (cS aD) regions))] [] (.row (.top 0) 165) [(0,.row 165 [] (List.map aL r))]:=by
 refine zU G Tryz.func112 (yK [0] [] (y3 1 [0] [] (y3 1 [0,3] [3] (zB (y3 1 [0,3,4] [3] (zC ?_))))))
 obtain ⟨f6,d6,h⟩:=aA h
 refine ql d6 (fun d7=>⟨[(0,.sl (List.map (cS aD) regions)),(3,ro 500000 98),(4,vI d7.1)],[(500000,kJ 98 d7.2)]⟩) (fun f6=>(.exit 0,⟨[(0,.sl (List.map (cS aD) regions)),(3,ro 500000 98)],[(500000,kJ 98 f6)]⟩)) (sp [] [(3,500000)]) (fun d7 r h=>?_) fun u k=>?_
 refine zB (z7 (zA 2 (qL (cS aD) regions (y1 1 [0,3,4,16] [500000] (qc h (fun h=>?_) fun h=>?_)))))
 refine y4 [0,3,4] [500000] (zB (zC (zD (zA 3 ?_))))
 obtain ⟨f8,d5,h⟩:=aA h
 refine qX (cS aD) d5 (zA 1 ?_)
 obtain ⟨f7,d2,h⟩:=aA h
 refine qA aD 4 d2 (z6 1 fun u k=>?_)
 refine aF (yE k [0,3,4] [500000] (zD (z6 3 fun u k=>?_)))
 cases h
 exact zH k
 refine zL 0 fun u k=>?_
 refine aR ?_
 cases h
 exact zF k
 refine zQ (yE k [0,3] [500000] (z7 (zA 1 ?_)))
 obtain ⟨a0,d3,h⟩:=aA h
 refine zK [] [(0,700050),(1,700051)] [500000] (by kernel_rfl) (W.Nh d3) (by kernel_rfl) (by kernel_rfl) (.inr ⟨rfl,fun _ _=>Qf (Vl fun _=>rfl) (fun _ _=>Qf (Vl fun _=>rfl) (fun _ _=>Vk))⟩) (y1 5 [0,5,6] [700050,700051] (z7 (zA 3 (xV [.frz 700050,.frz 700051] (by kernel_rfl) ?_))))
 obtain ⟨d1,d4,h⟩:=aA h
 refine qC [] [(0,700150)] (W.Ik d4) (xV [.frz 700150] (by kernel_rfl) (y1 1 [5,6,7] [] (y3 1 [5,6,7,8] [8] (zB (y3 1 [5,6,7,8,9] [8] (zC ?_))))))
 obtain ⟨a7,c0,h⟩:=aA h
 refine ql c0 (fun a1=>⟨[(5,sI a0.1),(6,sI a0.2),(7,.sl (List.map (cS cI) d1)),(8,ro 500000 165),(9,vI a1.1)],[(500000,aX 165 a1.2)]⟩) (fun a7=>(.exit 2,⟨[(5,sI a0.1),(6,sI a0.2),(7,.sl (List.map (cS cI) d1)),(8,ro 500000 165)],[(500000,aX 165 a7)]⟩)) (sp [] [(8,500000)]) (fun a1 r h=>?_) fun u k=>?_
 refine zB (z7 (zA 2 (qL cI a0.2 (y1 1 [5,6,7,8,9,37] [500000] (qc h (fun h=>?_) fun h=>?_)))))
 refine y4 [5,6,7,8,9] [500000] (zB (zC (y3 1 [5,6,7,8,9,10] [500000] (zC ?_))))
 obtain ⟨a6,b9,h⟩:=aA h
 refine ql b9 (fun a3=>⟨[(5,sI a0.1),(6,sI a0.2),(7,.sl (List.map (cS cI) d1)),(8,ro 500000 165),(9,vI a1.1),(10,vI a3.1)],[(500000,aX 165 a3.2)]⟩) (fun a6=>(.exit 4,⟨[(5,sI a0.1),(6,sI a0.2),(7,.sl (List.map (cS cI) d1)),(8,ro 500000 165),(9,vI a1.1)],[(500000,aX 165 a6)]⟩)) qH (fun a3 r h=>?_) fun u k=>?_
 refine zB (z7 (zA 3 (qL cI a0.1 (y1 1 [5,6,7,8,9,10,44] [500000] (qc h (fun h=>?_) fun h=>?_)))))
 refine y4 [5,6,7,8,9,10] [500000] (zB (zC (qM 37 (dN 3 ?_))))
 obtain ⟨e0,b1,h⟩:=aA h
 refine dX cI b1 (dN 3 ?_)
 obtain ⟨e1,b2,h⟩:=aA h
 refine dX cI b2 (dN 4 ?_)
 obtain ⟨e2,b3,h⟩:=aA h
 refine dX cI b3 (dN 3 ?_)
 obtain ⟨e3,b4,h⟩:=aA h
 refine dX cI b4 (dN 5 ?_)
 obtain ⟨e4,b5,h⟩:=aA h
 refine dX (cS cI) b5 (dN 2 ?_)
 obtain ⟨e5,b6,h⟩:=aA h
 refine dX cI b6 (dN 4 ?_)
 obtain ⟨e6,b7,h⟩:=aA h
 refine dX (cS cI) b7 (dN 3 ?_)
 obtain ⟨e7,b8,h⟩:=aA h
 refine dX cI b8 (dN 2 (dE ?_))
 obtain ⟨d8,a9,h⟩:=aA h
 refine oC [(300000,500000)] [(0,701850)] (W.zZ a9) (oN 1 (zO fun u k=>?_))
 refine aF (yE k [5,6,7,8,9,10] [701850] (zD (z6 3 fun u k=>?_)))
 cases h
 exact Lx k (sp [] [(701850,500000)])
 refine zL 4 fun u k=>?_
 refine aR ?_
 cases h
 exact zF k
 refine zQ (aF (yE k [5,6,7,8,9] [500000] (zD (z6 3 fun u k=>?_))))
 cases h
 exact zH k
 refine zL 2 fun u k=>?_
 refine aR ?_
 cases h
 exact zF k
 refine zQ (yE k [5,6,7,8] [500000] (zB (y3 1 [5,6,7,8,11] [500000] (zC ?_))))
 obtain ⟨a5,d0,h⟩:=aA h
 refine ql d0 (fun a2=>⟨[(5,sI a0.1),(6,sI a0.2),(7,.sl (List.map (cS cI) d1)),(8,ro 500000 165),(11,vI a2.1)],[(500000,aX 165 a2.2)]⟩) (fun a5=>(.exit 6,⟨[(8,ro 500000 165)],[(500000,aX 165 a5)]⟩)) qH (fun a2 r h=>?_) fun u k=>?_
 refine zB (z7 (zA 2 (qL cI a0.1 (y1 1 [5,6,7,8,11,88] [500000] (qc h (fun h=>?_) fun h=>?_)))))
 refine y4 [5,6,7,8,11] [500000] (zB (zC (y3 1 [5,6,7,8,11,12] [500000] (zC ?_))))
 obtain ⟨a8,c9,h⟩:=aA h
 refine ql c9 (fun a4=>⟨[(5,sI a0.1),(6,sI a0.2),(7,.sl (List.map (cS cI) d1)),(8,ro 500000 165),(11,vI a2.1),(12,vI a4.1)],[(500000,aX 165 a4.2)]⟩) (fun a8=>(.exit 8,⟨[(5,sI a0.1),(6,sI a0.2),(7,.sl (List.map (cS cI) d1)),(8,ro 500000 165),(11,vI a2.1)],[(500000,aX 165 a8)]⟩)) qH (fun a4 r h=>?_) fun u k=>?_
 refine zB (z7 (zA 3 (qL cI a0.2 (y1 1 [5,6,7,8,11,12,95] [500000] (qc h (fun h=>?_) fun h=>?_)))))
 refine y4 [5,6,7,8,11,12] [500000] (zB (zC (qM 37 (dN 3 ?_))))
 obtain ⟨e8,c1,h⟩:=aA h
 refine dX cI c1 (dN 3 ?_)
 obtain ⟨e9,c2,h⟩:=aA h
 refine dX cI c2 (dN 3 ?_)
 obtain ⟨f0,c3,h⟩:=aA h
 refine dX cI c3 (dN 4 ?_)
 obtain ⟨f1,c4,h⟩:=aA h
 refine dX cI c4 (dN 4 ?_)
 obtain ⟨f2,c5,h⟩:=aA h
 refine dX (cS cI) c5 (dN 3 ?_)
 obtain ⟨f3,c6,h⟩:=aA h
 refine dX cI c6 (dN 4 ?_)
 obtain ⟨f4,c7,h⟩:=aA h
 refine dX (cS cI) c7 (dN 3 ?_)
 obtain ⟨f5,c8,h⟩:=aA h
 refine dX cI c8 (dN 2 (dE ?_))
 obtain ⟨d9,b0,h⟩:=aA h
 refine oC [(300000,500000)] [(0,701850)] (W.zZ b0) (oN 1 (zO fun u k=>?_))
 refine aF (yE k [5,6,7,8,11,12] [701850] (zD (z6 3 fun u k=>?_)))
 cases h
 exact Lx k (sp [] [(701850,500000)])
 refine zL 8 fun u k=>?_
 refine aR ?_
 cases h
 exact zF k
 refine zQ (aF (yE k [5,6,7,8,11] [500000] (zD (z6 3 fun u k=>?_))))
 cases h
 exact zH k
 refine zL 6 fun u k=>?_
 refine aR ?_
 cases h
 exact zF k
 refine zQ (yE k [8] [500000] (z8 2 ⟨[(2,ro 500000 165)],[(500000,aX 165 a5)]⟩ fun u k=>?_))
 obtain rfl:=osi h
 exact qW k [(2,ro 0 165)] (sp [] [(500000,0)])
theorem W.yG {l r} (h:dY l=some r):PC G.P 50 [(.agg (aQ l))] [] (.row (.top 0) 74) [(0,.row 74 [] (List.map bF r))]:=by
 refine zU G Tryz.func50 (yK [0] [] (y3 2 [1] [1] (y3 1 [1,3] [1,3] (zB (y3 1 [1,3,4] [1,3] (zC ?_))))))
 obtain ⟨c0,b8,h⟩:=aA h
 refine ql b8 (fun b9=>⟨[(1,.ptr 500000 0),(3,ro 500001 22),(4,vI b9.1)],[(500000,.box (aQ l)),(500001,.row 22 [] (List.map (cS aD) b9.2))]⟩) (fun c0=>(.exit 0,⟨[(3,ro 500000 22)],[(500000,.row 22 [] (List.map (cS aD) c0))]⟩)) (sp [] [(1,500000),(3,500001)]) (fun b9 r h=>?_) fun u k=>?_
 refine zB (z7 (zA 3 (qL aU l.Pieces (y1 1 [1,3,4,14] [500000,500001] (qc h (fun h=>?_) fun h=>?_)))))
 refine y4 [1,3,4] [500000,500001] (zB (zC (zD (zA 4 ?_))))
 obtain ⟨c4,b7,h⟩:=aA h
 refine qX aU b7 (zA 3 ?_)
 obtain ⟨c3,b5,h⟩:=aA h
 refine qA (cS aD) 1 b5 (z6 1 fun u k=>?_)
 refine aF (yE k [1,3,4] [500000,500001] (zD (z6 3 fun u k=>?_)))
 cases h
 exact zH k
 refine zL 0 fun u k=>?_
 refine aR ?_
 cases h
 exact sP k rfl (sp [] [(500001,500000)])
 refine zQ (yE k [3] [500000] (z7 (zA 1 ?_)))
 obtain ⟨b4,b6,h⟩:=aA h
 refine zK [] [(0,700050)] [500000] (by kernel_rfl) (W.Hu b6) (by kernel_rfl) (by kernel_rfl) (.inr ⟨rfl,fun _ _=>Qf (Vl fun _=>rfl) (fun _ _=>Vk)⟩) (y1 1 [5] [700050] (y3 1 [5,6] [6,700050] (zB (y3 1 [5,6,7] [6,700050] (zC ?_)))))
 obtain ⟨a7,a9,h⟩:=aA h
 refine ql a9 (fun a0=>⟨[(5,ro 500000 165),(6,ro 500001 74),(7,vI a0.1)],[(500000,aX 165 b4),(500001,iJ 74 a0.2)]⟩) (fun a7=>(.exit 2,⟨[(6,ro 500000 74)],[(500000,iJ 74 a7)]⟩)) (sp [] [(6,500001),(700050,500000)]) (fun a0 r h=>?_) fun u k=>?_
 refine zB (z7 (zA 2 (qL aL b4 (y1 1 [5,6,7,31] [500000,500001] (qc h (fun h=>?_) fun h=>?_)))))
 refine y4 [5,6,7] [500000,500001] (zB (zC (zB (qM 23 (dN 2 ?_)))))
 obtain ⟨b0,a1,h⟩:=aA h
 refine dI aL a1 (dN 1 (dR aL a1 (dN 2 ?_)))
 obtain ⟨b1,a2,h⟩:=aA h
 refine dI aL a2 (dN 1 (dR aL a2 (dN 3 ?_)))
 obtain ⟨b2,a3,h⟩:=aA h
 refine dI aL a3 (dN 1 (dR aL a3 (dN 2 ?_)))
 obtain ⟨b3,a4,h⟩:=aA h
 refine dI aL a4 (dN 1 (dR aL a4 (dN 2 (dE (oN 1 (zO fun u k=>?_))))))
 refine yE k [5,6,7,8,9] [500000,500001] (bV (fun (a6:Int×Int)=>⟨[(5,ro 500000 165),(6,ro 500001 74),(7,vI a0.1),(8,vI a6.1),(9,vI a6.2)],[(500000,aX 165 b4),(500001,iJ 74 a0.2)]⟩) (nR b4 a0) r (by kernel_rfl) (fun a6 h=>?_) ?_)
 refine zD (zA 3 ?_)
 obtain ⟨c2,a5,h⟩:=aA h
 refine qI aL a5 (zA 1 (qR aL a5 (zA 4 ?_)))
 obtain ⟨c1,a8,h⟩:=aA h
 refine qA bF 6 a8 (z6 1 fun u k=>?_)
 refine aF (yE k [5,6,7] [500000,500001] (zD (z6 3 fun u k=>?_)))
 cases h
 exact zH k
 refine y3 2 [5,6,7,8,9,57] [500000,500001] (qc h (fun h=>?_) fun h=>?_)
 refine zD (z6 4 fun u k=>?_)
 exact aV ((fA b2.Low b3.High),(nH b0.Low b1.High)) h k (here (by kernel_rfl))
 refine zM fun u k=>?_
 exact aV ((nH b0.Low b1.High),(fA b2.Low b3.High)) h k (here (by kernel_rfl))
 refine zL 2 fun u k=>?_
 refine aR ?_
 cases h
 exact sP k rfl (sp [] [(500001,500000)])
 refine zQ (yE k [6] [500000] (z8 2 ⟨[(2,ro 500000 74)],[(500000,iJ 74 a7)]⟩ fun u k=>?_))
 obtain rfl:=osi h
 exact qW k [(2,ro 0 74)] (sp [] [(500000,0)])
theorem W.Vd {l edges r} (h:Bv l edges=some r):PC G.P 51 [(.agg (aQ l)),(vI edges)] [] (.agg [(.row (.top 1) 4),(.row (.top 2) 36),(.row (.top 3) 4),(.row (.top 4) 3),(.row (.top 5) 4)]) [(0,.box [(.row (.top 1) 4),(.row (.top 2) 36),(.row (.top 3) 4),(.row (.top 4) 3),(.row (.top 5) 4)]),(1,.row 4 [] (List.map cB r.Cut)),(2,.row 36 [] (List.map (cS cB) r.Holes)),(3,.row 4 [] (List.map cB r.Done)),(4,.row 3 [] (List.map cI r.Joints)),(5,.row 4 [] (List.map cB r.Fallen))]:=by
 refine zU G Tryz.func51 (yK [0,1] [] (y3 2 [1,2,4] [2,4] (z7 (zA 2 (qL aU l.Pieces (y1 1 [1,2,4,5] [2,4] ?_))))))
 refine zB (sV [(1,[13]),(3,[15]),(5,[17]),(7,[19]),(9,[6])] [(1,[13]),(3,[15]),(5,[17]),(7,[19]),(9,[6])] [] [(0,[15,17,19,6]),(1,[15,17,19,6]),(2,[13,17,19,6]),(3,[13,17,19,6]),(4,[13,15,19,6]),(5,[13,15,19,6]),(6,[13,15,17,6]),(7,[13,15,17,6]),(8,[6]),(9,[13,15,17,19])] [(0,[13,15,17,19,6]),(1,[15,17,19,6]),(2,[13,15,17,19,6]),(3,[13,17,19,6]),(4,[13,15,17,19,6]),(5,[13,15,19,6]),(6,[13,15,17,19,6]),(7,[13,15,17,6]),(8,[6]),(9,[13,15,17,19])] 10 (by kernel_rfl) (by kernel_rfl) [6,19,17,15,13] (by kernel_rfl) (by kernel_rfl) (dN 1 ?_))
 obtain ⟨l9,b4,h⟩:=aA h
 refine wJ (by kernel_rfl) (Ji (c:=cB) (z:=false) (n:=edges) (e:=4) (d:=13) (zs:=[(vB false)]) (k1:=.i64) (k2:=.i64) (by kernel_rfl) rfl b4) (by kernel_rfl) (by kernel_rfl) (by kernel_rfl) (by kernel_rfl) (dN 1 ?_)
 obtain ⟨a9,a6,h⟩:=aA h
 refine wJ (by kernel_rfl) (Ji (c:=cB) (z:=false) (n:=(l.Pieces.length:Int)) (e:=4) (d:=15) (zs:=[(vB false)]) (k1:=.i64) (k2:=.i64) (by kernel_rfl) rfl a6) (by kernel_rfl) (by kernel_rfl) (by kernel_rfl) (by kernel_rfl) (dN 1 ?_)
 obtain ⟨b0,a7,h⟩:=aA h
 refine wJ (by kernel_rfl) (Ji (c:=cI) (z:=0) (n:=(l.Pieces.length:Int)) (e:=3) (d:=17) (zs:=[(vI 0)]) (k1:=.i64) (k2:=.i64) (by kernel_rfl) rfl a7) (by kernel_rfl) (by kernel_rfl) (by kernel_rfl) (by kernel_rfl) (dN 1 ?_)
 obtain ⟨b2,a8,h⟩:=aA h
 refine wJ (by kernel_rfl) (Ji (c:=cB) (z:=false) (n:=(l.Pieces.length:Int)) (e:=4) (d:=19) (zs:=[(vB false)]) (k1:=.i64) (k2:=.i64) (by kernel_rfl) rfl a8) (by kernel_rfl) (by kernel_rfl) (by kernel_rfl) (by kernel_rfl) (dN 1 (wJ (g:=6) (ob:=.box [.nl,.nl,.nl,.nl,.nl]) (v:=(.ptr 6 0)) (by kernel_rfl) (by kernel_rfl) (by kernel_rfl) (by kernel_rfl) (by kernel_rfl) (by kernel_rfl) (dE (oN 1 (zO fun u k=>?_)))))
 refine yE k [2,4,6] [2,4,6,13,15,17,19] (zB (z7 (zA 2 (qL aU l.Pieces (y1 1 [4,6,22,23,24] [4,6,13,15,17,19] (zC ?_))))))
 obtain ⟨a0,a4,h⟩:=aA h
 refine ql a4 (fun b3=>⟨[(4,.ptr 500000 0),(6,.ptr 500001 0),(22,dB l.Pieces),(23,vI (l.Pieces.length:Int)),(24,vI b3.1)],[(500000,.box [.nl,.nl,.nl,.nl,.nl]),(500001,.box [(ro 500002 4),(ro 500003 36),(ro 500004 4),(ro 500005 3),(ro 500006 4)]),(500002,wB 4 l9),(500003,.row 36 [] (List.map (cS cB) b3.2)),(500004,wB 4 a9),(500005,wI 3 b0),(500006,wB 4 b2)]⟩) (fun a0=>(.exit 0,⟨[(4,.ptr 500000 0),(6,.ptr 500001 0)],[(500000,.box [.nl,.nl,.nl,.nl,.nl]),(500001,.box [(ro 500002 4),(ro 500003 36),(ro 500004 4),(ro 500005 3),(ro 500006 4)]),(500002,wB 4 l9),(500003,.row 36 [] (List.map (cS cB) a0)),(500004,wB 4 a9),(500005,wI 3 b0),(500006,wB 4 b2)]⟩)) (sp [.row (.box 6 1) 800000 36 []] [(4,500000),(6,500001),(13,500002),(15,500004),(17,500005),(19,500006),(800000,500003)]) (fun b3 r h=>?_) fun u k=>?_
 refine y3 1 [4,6,22,23,24,25] [500000,500001,500002,500003,500004,500005,500006] (zB (qc h (fun h=>?_) fun h=>?_))
 refine y4 [4,6,22,23,24] [500000,500001,500002,500003,500004,500005,500006] (zB (zC (z7 ?_)))
 obtain ⟨a5,a3,h⟩:=aA h
 refine qX aU a3 (y1 3 [4,6,8,22,23,24] [8,500000,500001,500002,500003,500004,500005,500006] (sV [] [(5,[33])] [] [] [(0,[33]),(1,[33]),(2,[33]),(3,[33]),(4,[33])] 7 (by kernel_rfl) (by kernel_rfl) [33] (by kernel_rfl) (by kernel_rfl) (dN 4 (dL aD a5.Cuts ?_))))
 obtain ⟨b1,a1,h⟩:=aA h
 refine OH (d:=33) (e:=4) (es:=(List.map cB b1)) (by kernel_rfl) (Ji (c:=cB) (z:=false) (n:=(a5.Cuts.length:Int)) (e:=4) (d:=33) (zs:=[(vB false)]) (k1:=.i64) (k2:=.i64) (by kernel_rfl) rfl a1) (by kernel_rfl) (by kernel_rfl) (by kernel_rfl) (by kernel_rfl) (dN 1 (dE ?_))
 obtain ⟨b5,a2,h⟩:=aA h
 refine oA (cS cB) 1 a2 (oN 2 (zO fun u k=>?_))
 refine aF (yE k [4,6,22,23,24] [500000,500001,500002,500003,500004,500005,500006] (zD (z6 2 fun u k=>?_)))
 cases h
 exact zH k
 refine zL 0 fun u k=>?_
 refine aR ?_
 cases h
 exact zF k
 refine zQ (yE k [4,6] [500000,500001,500002,500003,500004,500005,500006] (z8 2 ⟨[(4,.ptr 500000 0)],[(500000,.box [(ro 500002 4),(ro 500003 36),(ro 500004 4),(ro 500005 3),(ro 500006 4)]),(500002,wB 4 l9),(500003,.row 36 [] (List.map (cS cB) a0)),(500004,wB 4 a9),(500005,wI 3 b0),(500006,wB 4 b2)]⟩ fun u k=>?_))
 obtain rfl:=osi h
 exact qW k [(4,.ptr 0 0)] (sp [] [(500000,0),(500002,1),(500003,2),(500004,3),(500005,4),(500006,5)])
theorem W.yI {l r} (h:jR l=some r):PC G.P 52 [(.agg (aQ l))] [] (.agg [(.row (.top 1) 4),(.row (.top 2) 36),(.row (.top 3) 4),(.row (.top 4) 3),(.row (.top 5) 4)]) [(0,.box [(.row (.top 1) 4),(.row (.top 2) 36),(.row (.top 3) 4),(.row (.top 4) 3),(.row (.top 5) 4)]),(1,.row 4 [] (List.map cB r.Cut)),(2,.row 36 [] (List.map (cS cB) r.Holes)),(3,.row 4 [] (List.map cB r.Done)),(4,.row 3 [] (List.map cI r.Joints)),(5,.row 4 [] (List.map cB r.Fallen))]:=by
 refine zU G Tryz.func52 (yK [0] [] (y3 2 [1,2] [1,2] (z7 (zA 2 (qL aU l.Pieces (y1 1 [1,2,3] [1,2] ?_))))))
 refine zB (sV [(1,[700050]),(3,[12]),(5,[14]),(7,[16]),(9,[18]),(11,[4])] [(1,[700050]),(3,[12]),(5,[14]),(7,[16]),(9,[18]),(11,[4])] [] [(0,[14,16,18,4]),(1,[14,16,18,4]),(2,[14,16,18,4]),(3,[14,16,18,4]),(4,[700050,12,16,18,4]),(5,[700050,12,16,18,4]),(6,[700050,12,14,18,4]),(7,[700050,12,14,18,4]),(8,[700050,12,14,16,4]),(9,[700050,12,14,16,4]),(10,[4]),(11,[700050,12,14,16,18])] [(0,[700050,12,14,16,18,4]),(1,[12,14,16,18,4]),(2,[12,14,16,18,4]),(3,[14,16,18,4]),(4,[700050,12,14,16,18,4]),(5,[700050,12,16,18,4]),(6,[700050,12,14,16,18,4]),(7,[700050,12,14,18,4]),(8,[700050,12,14,16,18,4]),(9,[700050,12,14,16,4]),(10,[4]),(11,[700050,12,14,16,18])] 12 (by kernel_rfl) (by kernel_rfl) [700050,4,18,16,14,12] (by kernel_rfl) (by kernel_rfl) (dN 1 ?_))
 obtain ⟨b7,b0,h⟩:=aA h
 refine dC [(0,700050)] (W.yG b0) (dL bF b7 ?_)
 obtain ⟨b1,a6,h⟩:=aA h
 refine wJ (by kernel_rfl) (Ji (c:=cB) (z:=false) (n:=(b7.length:Int)) (e:=4) (d:=12) (zs:=[(vB false)]) (k1:=.i64) (k2:=.i64) (by kernel_rfl) rfl a6) (by kernel_rfl) (by kernel_rfl) (by kernel_rfl) (by kernel_rfl) (dN 1 ?_)
 obtain ⟨b3,a7,h⟩:=aA h
 refine wJ (by kernel_rfl) (Ji (c:=cB) (z:=false) (n:=(l.Pieces.length:Int)) (e:=4) (d:=14) (zs:=[(vB false)]) (k1:=.i64) (k2:=.i64) (by kernel_rfl) rfl a7) (by kernel_rfl) (by kernel_rfl) (by kernel_rfl) (by kernel_rfl) (dN 1 ?_)
 obtain ⟨b4,a8,h⟩:=aA h
 refine wJ (by kernel_rfl) (Ji (c:=cI) (z:=0) (n:=(l.Pieces.length:Int)) (e:=3) (d:=16) (zs:=[(vI 0)]) (k1:=.i64) (k2:=.i64) (by kernel_rfl) rfl a8) (by kernel_rfl) (by kernel_rfl) (by kernel_rfl) (by kernel_rfl) (dN 1 ?_)
 obtain ⟨b5,a9,h⟩:=aA h
 refine wJ (by kernel_rfl) (Ji (c:=cB) (z:=false) (n:=(l.Pieces.length:Int)) (e:=4) (d:=18) (zs:=[(vB false)]) (k1:=.i64) (k2:=.i64) (by kernel_rfl) rfl a9) (by kernel_rfl) (by kernel_rfl) (by kernel_rfl) (by kernel_rfl) (dN 1 (wJ (g:=4) (ob:=.box [.nl,.nl,.nl,.nl,.nl]) (v:=(.ptr 4 0)) (by kernel_rfl) (by kernel_rfl) (by kernel_rfl) (by kernel_rfl) (by kernel_rfl) (by kernel_rfl) (dE (oN 1 (zO fun u k=>?_)))))
 refine yE k [1,2,3,4] [1,2,4,12,14,16,18] (zB (y3 1 [1,2,3,4,5] [1,2,4,12,14,16,18] (zC ?_)))
 obtain ⟨a0,a4,h⟩:=aA h
 refine ql a4 (fun b6=>⟨[(1,.ptr 500000 0),(2,.ptr 500001 0),(3,vI (l.Pieces.length:Int)),(4,.ptr 500002 0),(5,vI b6.1)],[(500000,.box (aQ l)),(500001,.box [.nl,.nl,.nl,.nl,.nl]),(500002,.box [(ro 500003 4),(ro 500004 36),(ro 500005 4),(ro 500006 3),(ro 500007 4)]),(500003,wB 4 b1),(500004,.row 36 [] (List.map (cS cB) b6.2)),(500005,wB 4 b3),(500006,wI 3 b4),(500007,wB 4 b5)]⟩) (fun a0=>(.exit 0,⟨[(2,.ptr 500000 0),(4,.ptr 500001 0)],[(500000,.box [.nl,.nl,.nl,.nl,.nl]),(500001,.box [(ro 500002 4),(ro 500003 36),(ro 500004 4),(ro 500005 3),(ro 500006 4)]),(500002,wB 4 b1),(500003,.row 36 [] (List.map (cS cB) a0)),(500004,wB 4 b3),(500005,wI 3 b4),(500006,wB 4 b5)]⟩)) (sp [.row (.box 4 1) 800000 36 []] [(1,500000),(2,500001),(4,500002),(12,500003),(14,500005),(16,500006),(18,500007),(800000,500004)]) (fun b6 r h=>?_) fun u k=>?_
 refine zB (y3 3 [1,2,3,4,5,22] [500000,500001,500002,500003,500004,500005,500006,500007] (qc h (fun h=>?_) fun h=>?_))
 refine y4 [1,2,3,4,5] [500000,500001,500002,500003,500004,500005,500006,500007] (zB (zC (sV [] [(9,[34])] [] [] [(0,[34]),(1,[34]),(2,[34]),(3,[34]),(4,[34]),(5,[34]),(6,[34]),(7,[34]),(8,[34])] 11 (by kernel_rfl) (by kernel_rfl) [34] (by kernel_rfl) (by kernel_rfl) (dN 5 ?_))))
 obtain ⟨a5,a3,h⟩:=aA h
 refine dX aU a3 (dN 2 (dL aD a5.Cuts ?_))
 obtain ⟨b2,a1,h⟩:=aA h
 refine OH (d:=34) (e:=4) (es:=(List.map cB b2)) (by kernel_rfl) (Ji (c:=cB) (z:=false) (n:=(a5.Cuts.length:Int)) (e:=4) (d:=34) (zs:=[(vB false)]) (k1:=.i64) (k2:=.i64) (by kernel_rfl) rfl a1) (by kernel_rfl) (by kernel_rfl) (by kernel_rfl) (by kernel_rfl) (dN 1 (dE ?_))
 obtain ⟨b8,a2,h⟩:=aA h
 refine oA (cS cB) 1 a2 (oN 2 (zO fun u k=>?_))
 refine aF (yE k [1,2,3,4,5] [500000,500001,500002,500003,500004,500005,500006,500007] (zD (z6 3 fun u k=>?_)))
 cases h
 exact zH k
 refine zL 0 fun u k=>?_
 refine aR ?_
 cases h
 exact sP k rfl (sp [] [(500001,500000),(500002,500001),(500003,500002),(500004,500003),(500005,500004),(500006,500005),(500007,500006)])
 refine zQ (yE k [2,4] [500000,500001,500002,500003,500004,500005,500006] (z8 2 ⟨[(2,.ptr 500000 0)],[(500000,.box [(ro 500002 4),(ro 500003 36),(ro 500004 4),(ro 500005 3),(ro 500006 4)]),(500002,wB 4 b1),(500003,.row 36 [] (List.map (cS cB) a0)),(500004,wB 4 b3),(500005,wI 3 b4),(500006,wB 4 b5)]⟩ fun u k=>?_))
 obtain rfl:=osi h
 exact qW k [(2,.ptr 0 0)] (sp [] [(500000,0),(500002,1),(500003,2),(500004,3),(500005,4),(500006,5)])
theorem W.kF {a b r} (h:eG a b=some r):PC G.P 113 [(.sl (List.map cB a)),(.sl (List.map cB b))] [] (vB r) []:=by
 refine zU G Tryz.func113 (yK [0,1] [] (y3 1 [0,1] [] (zB (z7 (zA 1 (qL cB a ?_))))))
 refine zA 1 (qL cB b (y1 1 [0,1,10] [] (qc h (fun h=>?_) fun h=>?_)))
 refine z8 1 ⟨[(4,vB false)],[]⟩ fun u k=>?_
 refine aO ?_
 obtain rfl:=osi h
 exact zV k [(4,vB false)]
 refine y4 [0,1] [] (zB (y3 1 [0,1,5] [] (zC ?_)))
 obtain ⟨a3,a2,h⟩:=aA h
 refine ql a2 (fun a4=>⟨[(0,sB a),(1,sB b),(5,vI a4)],[]⟩) (fun a3=>match a3 with | .inl a5=>(.ret,⟨[(4,vB false)],[]⟩) | .inr a6=>(.exit 0,⟨[],[]⟩)) qH (fun a4 r h=>?_) (fun u k=>?_) (hout:=(by intro x;rcases x with _ | _ <;> rfl))
 refine zB (z7 (zA 2 (qL cB a (y1 1 [0,1,5,14] [] (qc h (fun h=>?_) fun h=>?_)))))
 refine y4 [0,1,5] [] (zB (zC (zB (qM 8 (dN 2 ?_)))))
 obtain ⟨a7,a0,h⟩:=aA h
 refine dX cB a0 (dN 3 ?_)
 obtain ⟨a8,a1,h⟩:=aA h
 refine dX cB a1 (dN 1 (dE (oN 1 (zO fun u k=>?_))))
 refine yE k [0,1,5,25] [] (qc h (fun h=>?_) fun h=>?_)
 refine z8 1 ⟨[(4,vB false)],[]⟩ fun u k=>?_
 refine aT (aO ?_)
 cases h
 exact zF k
 refine zM fun u k=>?_
 refine aF (yE k [0,1,5] [] (zD (z6 3 fun u k=>?_)))
 cases h
 exact zH k
 refine zL 0 fun u k=>?_
 refine aR ?_
 cases h
 exact zF k
 rcases a3 with a5 | a6
 refine aT (aO ?_)
 obtain rfl:=osi h
 exact zV k [(4,vB false)]
 refine zQ (yE k [] [] (z8 1 ⟨[(4,vB true)],[]⟩ fun u k=>?_))
 obtain rfl:=osi h
 exact zV k [(4,vB true)]
theorem W.pE {a b r} (h:gX a b=some r):PC G.P 30 [(.sl (List.map cI a)),(.sl (List.map cI b))] [] (vB r) []:=by
 refine zU G Tryz.func30 (yK [0,1] [] (y3 1 [0,1] [] (zB (z7 (zA 1 (qL cI a ?_))))))
 refine zA 1 (qL cI b (y1 1 [0,1,10] [] (qc h (fun h=>?_) fun h=>?_)))
 refine z8 1 ⟨[(4,vB false)],[]⟩ fun u k=>?_
 refine aO ?_
 obtain rfl:=osi h
 exact zV k [(4,vB false)]
 refine y4 [0,1] [] (zB (y3 1 [0,1,5] [] (zC ?_)))
 obtain ⟨a3,a2,h⟩:=aA h
 refine ql a2 (fun a4=>⟨[(0,sI a),(1,sI b),(5,vI a4)],[]⟩) (fun a3=>match a3 with | .inl a5=>(.ret,⟨[(4,vB false)],[]⟩) | .inr a6=>(.exit 0,⟨[],[]⟩)) qH (fun a4 r h=>?_) (fun u k=>?_) (hout:=(by intro x;rcases x with _ | _ <;> rfl))
 refine zB (z7 (zA 2 (qL cI a (y1 1 [0,1,5,14] [] (qc h (fun h=>?_) fun h=>?_)))))
 refine y4 [0,1,5] [] (zB (zC (zB (qM 8 (dN 2 ?_)))))
 obtain ⟨a7,a0,h⟩:=aA h
 refine dX cI a0 (dN 3 ?_)
 obtain ⟨a8,a1,h⟩:=aA h
 refine dX cI a1 (dN 1 (dE (oN 1 (zO fun u k=>?_))))
 refine yE k [0,1,5,25] [] (qc h (fun h=>?_) fun h=>?_)
 refine z8 1 ⟨[(4,vB false)],[]⟩ fun u k=>?_
 refine aT (aO ?_)
 cases h
 exact zF k
 refine zM fun u k=>?_
 refine aF (yE k [0,1,5] [] (zD (z6 3 fun u k=>?_)))
 cases h
 exact zH k
 refine zL 0 fun u k=>?_
 refine aR ?_
 cases h
 exact zF k
 rcases a3 with a5 | a6
 refine aT (aO ?_)
 obtain rfl:=osi h
 exact zV k [(4,vB false)]
 refine zQ (yE k [] [] (z8 1 ⟨[(4,vB true)],[]⟩ fun u k=>?_))
 obtain rfl:=osi h
 exact zV k [(4,vB true)]
theorem W.Nl {a b r} (h:tH a b=some r):PC G.P 53 [(.agg (aB a)),(.agg (aB b))] [] (vB r) []:=by
 refine zU G Tryz.func53 (yK [0,1] [] (y3 3 [2,3] [2,3] (zB (zB ?_))))
 obtain ⟨b4,a5,h⟩:=aA h
 refine zT ⟨[(2,.ptr 500000 0),(3,.ptr 500001 0),(44,vB b4)],[(500000,.box (aB a)),(500001,.box (aB b))]⟩ ?_ fun u k=>?_
 replace h:=a5
 refine zA 4 ?_
 obtain ⟨b6,a6,h⟩:=aA h
 refine qP (W.kF a6) (zA 2 (zS b6 (fun b0=>⟨[(2,.ptr 2 0),(3,.ptr 3 0),(12,vB (!b0))],[(2,.box (aB a)),(3,.box (aB b))]⟩) (fun hb=>?_) fun hb=>?_))
 replace h:=iD hb h
 refine zA 4 ?_
 obtain ⟨b7,a7,h⟩:=aA h
 refine qP (W.kF a7) (zA 3 (zS b7 (fun b0=>⟨[(2,.ptr 2 0),(3,.ptr 3 0),(20,vB (!b0))],[(2,.box (aB a)),(3,.box (aB b))]⟩) (fun hb=>?_) fun hb=>?_))
 replace h:=iD hb h
 refine zA 4 ?_
 obtain ⟨b8,a8,h⟩:=aA h
 refine qP (W.kF a8) (zA 3 (zS b8 (fun b0=>⟨[(2,.ptr 2 0),(3,.ptr 3 0),(28,vB (!b0))],[(2,.box (aB a)),(3,.box (aB b))]⟩) (fun hb=>?_) fun hb=>?_))
 replace h:=iD hb h
 refine zA 4 ?_
 obtain ⟨b9,a9,h⟩:=aA h
 refine qP (W.pE a9) (zA 3 (zS b9 (fun b0=>⟨[(2,.ptr 2 0),(3,.ptr 3 0),(36,vB (!b0))],[(2,.box (aB a)),(3,.box (aB b))]⟩) (fun hb=>?_) fun hb=>?_))
 replace h:=iD hb h
 refine zA 2 (qL (cS cB) a.Holes (zA 2 (qL (cS cB) b.Holes (z6 2 fun u k=>?_))))
 cases h
 exact bJ k (sp [] [(2,500000),(3,500001)])
 replace h:=iB hb h
 refine z6 8 fun u k=>?_
 cases h
 exact bJ k (sp [] [(2,500000),(3,500001)])
 replace h:=iB hb h
 refine z6 16 fun u k=>?_
 cases h
 exact bJ k (sp [] [(2,500000),(3,500001)])
 replace h:=iB hb h
 refine z6 24 fun u k=>?_
 cases h
 exact bJ k (sp [] [(2,500000),(3,500001)])
 replace h:=iB hb h
 refine z6 32 fun u k=>?_
 cases h
 exact bJ k (sp [] [(2,500000),(3,500001)])
 refine yE k [2,3,44] [500000,500001] (qc h (fun h=>?_) fun h=>?_)
 refine z8 1 ⟨[(4,vB false)],[]⟩ fun u k=>?_
 refine aO ?_
 obtain rfl:=osi h
 exact zV k [(4,vB false)]
 refine y4 [2,3] [500000,500001] (zB (y3 1 [2,3,5] [500000,500001] (zC ?_)))
 obtain ⟨a0,a4,h⟩:=aA h
 refine ql a4 (fun b3=>⟨[(2,.ptr 500000 0),(3,.ptr 500001 0),(5,vI b3)],[(500000,.box (aB a)),(500001,.box (aB b))]⟩) (fun a0=>match a0 with | .inl b1=>(.ret,⟨[(4,vB false)],[]⟩) | .inr b2=>(.exit 0,⟨[],[]⟩)) qH (fun b3 r h=>?_) (fun u k=>?_) (hout:=(by intro x;rcases x with _ | _ <;> rfl))
 refine zB (z7 (zA 3 (qL (cS cB) a.Holes (y1 1 [2,3,5,49] [500000,500001] (qc h (fun h=>?_) fun h=>?_)))))
 refine y4 [2,3,5] [500000,500001] (zB (zC (zB (qM 10 (dN 3 ?_)))))
 obtain ⟨c0,a2,h⟩:=aA h
 refine dX (cS cB) a2 (dN 4 ?_)
 obtain ⟨c1,a3,h⟩:=aA h
 refine dX (cS cB) a3 (dN 1 (dE ?_))
 obtain ⟨b5,a1,h⟩:=aA h
 refine oP (W.kF a1) (oN 1 (zO fun u k=>?_))
 refine yE k [2,3,5,63] [500000,500001] (qc h (fun h=>?_) fun h=>?_)
 refine z8 1 ⟨[(4,vB false)],[]⟩ fun u k=>?_
 refine aT (aO ?_)
 cases h
 exact zF k
 refine zM fun u k=>?_
 refine aF (yE k [2,3,5] [500000,500001] (zD (z6 3 fun u k=>?_)))
 cases h
 exact zH k
 refine zL 0 fun u k=>?_
 refine aR ?_
 cases h
 exact zF k
 rcases a0 with b1 | b2
 refine aT (aO ?_)
 obtain rfl:=osi h
 exact zV k [(4,vB false)]
 refine zQ (yE k [] [] (z8 1 ⟨[(4,vB true)],[]⟩ fun u k=>?_))
 obtain rfl:=osi h
 exact zV k [(4,vB true)]
theorem W.Nc {a b r} (h:sW a b=some r):PC G.P 19 [(.agg (bG a)),(.agg (aB b))] [] (vB r) []:=by
 refine zU G Tryz.func19 (yK [0,1] [] (y3 3 [2,3] [2,3] (z7 (zA 12 ?_))))
 obtain ⟨r2,a0,h⟩:=aA h
 refine qP (W.Nl a0) (y1 1 [4] [] (zN fun u k=>?_))
 obtain rfl:=osi h
 exact zV k [(4,vB r2)]
theorem W.Uy {st l edges r} (h:lF st l edges=some r):PC G.P 114 [(.agg (bG st)),(.agg (aQ l)),(vI edges)] [] (vB r) []:=by
 refine zU G Tryz.func114 (yK [0,1,2] [] (y3 3 [2,3,4] [3,4] (z7 (zA 2 (qL aU l.Pieces (y1 1 [2,3,4,7] [3,4] ?_))))))
 refine zB (zB ?_)
 obtain ⟨j2,a5,h⟩:=aA h
 refine zT ⟨[(3,.ptr 500000 0),(4,.ptr 500001 0),(45,vB j2)],[(500000,.box (bG st)),(500001,.box (aQ l))]⟩ ?_ fun u k=>?_
 replace h:=a5
 refine zA 2 (qL cB st.Cut (zA 3 (qB h [3,4,7,18] [3,4] [18] (fun h=>?_) fun h=>?_)))
 refine z6 27 fun u k=>?_
 cases h
 exact bJ k (sp [] [(3,500000),(4,500001)])
 refine zA 2 (qL (cS cB) st.Holes (zA 4 (qB h [3,4,7,25] [3,4] [25] (fun h=>?_) fun h=>?_)))
 refine z6 20 fun u k=>?_
 cases h
 exact bJ k (sp [] [(3,500000),(4,500001)])
 refine zA 2 (qL cB st.Done (zA 4 (qB h [3,4,7,32] [3,4] [32] (fun h=>?_) fun h=>?_)))
 refine z6 13 fun u k=>?_
 cases h
 exact bJ k (sp [] [(3,500000),(4,500001)])
 refine zA 2 (qL cI st.Joints (zA 4 (qB h [3,4,7,39] [3,4] [39] (fun h=>?_) fun h=>?_)))
 refine z6 6 fun u k=>?_
 cases h
 exact bJ k (sp [] [(3,500000),(4,500001)])
 refine zA 2 (qL cB st.Fallen (z6 3 fun u k=>?_))
 cases h
 exact bJ k (sp [] [(3,500000),(4,500001)])
 refine yE k [3,4,45] [500000,500001] (qc h (fun h=>?_) fun h=>?_)
 refine z8 1 ⟨[(6,vB false)],[]⟩ fun u k=>?_
 refine aO ?_
 obtain rfl:=osi h
 exact zV k [(6,vB false)]
 refine y4 [3,4] [500000,500001] (zB (z7 (zA 2 (qL aU l.Pieces (y1 1 [3,47,48,49] [500000] (zC ?_))))))
 obtain ⟨a3,a2,h⟩:=aA h
 refine ql a2 (fun a4=>⟨[(3,.ptr 500000 0),(47,dB l.Pieces),(48,vI (l.Pieces.length:Int)),(49,vI a4)],[(500000,.box (bG st))]⟩) (fun a3=>match a3 with | .inl a6=>(.ret,⟨[(6,vB false)],[]⟩) | .inr a7=>(.exit 0,⟨[],[]⟩)) qH (fun a4 r h=>?_) (fun u k=>?_) (hout:=(by intro x;rcases x with _ | _ <;> rfl))
 refine y3 1 [3,47,48,49,50] [500000] (zB (qc h (fun h=>?_) fun h=>?_))
 refine y4 [3,47,48,49] [500000] (zB (zC (z7 (zA 1 ?_))))
 obtain ⟨a8,a0,h⟩:=aA h
 refine qX aU a0 (y1 4 [3,8,9,47,48,49] [9,500000] (zB (qM 9 (dN 3 ?_))))
 obtain ⟨a9,a1,h⟩:=aA h
 refine dX (cS cB) a1 (dN 1 (dL cB a9 (dN 2 (dL aD a8.Cuts (dE (oN 1 ?_))))))
 refine zO fun u k=>?_
 refine yE k [3,47,48,49,63] [500000] (qc h (fun h=>?_) fun h=>?_)
 refine z8 1 ⟨[(6,vB false)],[]⟩ fun u k=>?_
 refine aT (aO ?_)
 cases h
 exact zF k
 refine zM fun u k=>?_
 refine aF (yE k [3,47,48,49] [500000] (zD (z6 2 fun u k=>?_)))
 cases h
 exact zH k
 refine zL 0 fun u k=>?_
 refine aR ?_
 cases h
 exact zF k
 rcases a3 with a6 | a7
 refine aT (aO ?_)
 obtain rfl:=osi h
 exact zV k [(6,vB false)]
 refine zQ (yE k [] [] (z8 1 ⟨[(6,vB true)],[]⟩ fun u k=>?_))
 obtain rfl:=osi h
 exact zV k [(6,vB true)]
theorem W.Ib {s0 v r} (h:uV s0 v=some r):PC G.P 124 [(.sl (List.map cB s0)),(vB v)] [] (vI r) []:=by
 refine zU G Tryz.func124 (yK [0,1] [] (y3 1 [0,1] [] (zB (z7 (zA 1 (qL cB s0 ?_))))))
 refine y1 1 [0,1,7,8] [] (zC ?_)
 obtain ⟨a4,a1,h⟩:=aA h
 refine ql a1 (fun a3=>⟨[(0,sB s0),(1,vB v),(7,vI (s0.length:Int)),(8,vI a3)],[]⟩) (fun a4=>match a4 with | .inl a2=>(.ret,⟨[(4,vI a2)],[]⟩) | .inr a5=>(.exit 0,⟨[],[]⟩)) qH (fun a3 r h=>?_) (fun u k=>?_) (hout:=(by intro x;rcases x with _ | _ <;> rfl))
 refine y3 1 [0,1,7,8,9] [] (zB (qc h (fun h=>?_) fun h=>?_))
 refine y4 [0,1,7,8] [] (zB (zC (y3 2 [0,1,5,7,8] [] (z7 (zA 3 ?_)))))
 obtain ⟨a6,a0,h⟩:=aA h
 refine qX cB a0 (y1 2 [0,1,5,7,8,16] [] (qc h (fun h=>?_) fun h=>?_))
 refine z8 2 ⟨[(4,vI a3)],[]⟩ fun u k=>?_
 refine aT (aO ?_)
 cases h
 exact zF k
 refine zM fun u k=>?_
 refine aF (yE k [0,1,7,8] [] (zD (z6 2 fun u k=>?_)))
 cases h
 exact zH k
 refine zL 0 fun u k=>?_
 refine aR ?_
 cases h
 exact zF k
 rcases a4 with a2 | a5
 refine aT (aO ?_)
 obtain rfl:=osi h
 exact zV k [(4,vI a2)]
 refine zQ (yE k [] [] (z8 1 ⟨[(4,vI (-1))],[]⟩ fun u k=>?_))
 obtain rfl:=osi h
 exact zV k [(4,vI (-1))]
theorem W.nW {s0 v r} (h:dW s0 v=some r):PC G.P 60 [(.sl (List.map cB s0)),(vB v)] [] (vB r) []:=by
 refine zU G Tryz.func60 (yK [0,1] [] (y3 1 [0,1] [] (z7 (zA 2 ?_))))
 obtain ⟨r2,a0,h⟩:=aA h
 refine qP (W.Ib a0) (y1 2 [4] [] (zN fun u k=>?_))
 obtain rfl:=osi h
 exact zV k [(4,vB (decide (r2 ≥ 0)))]
theorem W.Wv {e piece r} (h:Wu e piece=some r):PC G.P 66 [(.agg (bF e)),(vI piece)] [] (vB r) []:=by
 refine zU G Tryz.func66 (yK [0,1] [] (y3 2 [1,2] [2] (zB ?_)))
 obtain ⟨j1,a0,h⟩:=aA h
 refine zT ⟨[(4,vB j1)],[]⟩ ?_ fun u k=>?_
 replace h:=a0
 refine zA 5 (qB h [1,2,9] [2] [9] (fun h=>?_) fun h=>?_)
 refine z6 6 fun u k=>?_
 cases h
 exact zG k
 refine z6 6 fun u k=>?_
 cases h
 exact zG k
 refine yE k [4] [] (zN fun u k=>?_)
 obtain rfl:=osi h
 exact zV k [(4,vB j1)]
theorem W.Iq {st all piece r} (h:uN st all piece=some r):PC G.P 118 [(.agg (bG st)),(.sl (List.map bF all)),(vI piece)] [] (vB r) []:=by
 refine zU G Tryz.func118 (yK [0,1,2] [] (y3 2 [1,2,3] [3] (zB (z7 (zA 1 (qL bF all ?_))))))
 refine y1 1 [2,3,9,10,11] [3] (zC ?_)
 obtain ⟨a6,a4,h⟩:=aA h
 refine ql a4 (fun a5=>⟨[(2,vI piece),(3,.ptr 500000 0),(9,bC all),(10,vI (all.length:Int)),(11,vI a5)],[(500000,.box (bG st))]⟩) (fun a6=>match a6 with | .inl a8=>(.ret,⟨[(6,vB false)],[]⟩) | .inr a9=>(.exit 0,⟨[],[]⟩)) (sp [] [(3,500000)]) (fun a5 r h=>?_) (fun u k=>?_) (hout:=(by intro x;rcases x with _ | _ <;> rfl))
 refine y3 1 [2,3,9,10,11,12] [500000] (zB (qc h (fun h=>?_) fun h=>?_))
 refine y4 [2,3,9,10,11] [500000] (zB (zC (z7 (zA 1 ?_))))
 obtain ⟨b1,a2,h⟩:=aA h
 refine qX bF a2 (y1 4 [2,3,7,8,9,10,11] [8,500000] (zB ?_))
 obtain ⟨a7,a0,h⟩:=aA h
 refine zT ⟨[(2,vI piece),(3,.ptr 500000 0),(9,bC all),(10,vI (all.length:Int)),(11,vI a5),(26,vB a7)],[(500000,.box (bG st))]⟩ ?_ fun u k=>?_
 replace h:=a0
 refine zA 2 ?_
 obtain ⟨b0,a1,h⟩:=aA h
 refine qP (W.Wv a1) (zA 1 (qB h [2,3,7,9,10,11,19] [500000] [19] (fun h=>?_) fun h=>?_))
 refine zA 3 ?_
 obtain ⟨b2,a3,h⟩:=aA h
 refine qX cB a3 (z6 3 fun u k=>?_)
 cases h
 exact zG k
 refine z6 7 fun u k=>?_
 cases h
 exact zG k
 refine yE k [2,3,9,10,11,26] [500000] (qc h (fun h=>?_) fun h=>?_)
 refine z8 1 ⟨[(6,vB false)],[]⟩ fun u k=>?_
 refine aT (aO ?_)
 cases h
 exact zF k
 refine zM fun u k=>?_
 refine aF (yE k [2,3,9,10,11] [500000] (zD (z6 2 fun u k=>?_)))
 cases h
 exact zH k
 refine zL 0 fun u k=>?_
 refine aR ?_
 cases h
 exact zF k
 rcases a6 with a8 | a9
 refine aT (aO ?_)
 obtain rfl:=osi h
 exact zV k [(6,vB false)]
 refine zQ (yE k [] [] (z8 1 ⟨[(6,vB true)],[]⟩ fun u k=>?_))
 obtain rfl:=osi h
 exact zV k [(6,vB true)]
theorem W.Tq {st all x2 r} (h:yO st all x2=some r):PC G.P 115 [(.agg (bG st)),(.sl (List.map bF all)),(.agg [(vI x2.Piece),(vI x2.Hole),(vI x2.Joints),(vI x2.Lead.X),(vI x2.Lead.Y)])] [] (vB r) []:=by
 refine zU G Tryz.func115 (yK [0,1,2] [] (y3 3 [1,3,5] [3,5] (zB (zC (z7 (zA 4 ?_))))))
 obtain ⟨b4,a3,h⟩:=aA h
 refine qX cB a3 (y1 2 [1,3,5,7] [3,5] (qc h (fun h=>?_) fun h=>?_))
 refine z8 1 ⟨[(6,vB false)],[]⟩ fun u k=>?_
 refine aT (aO ?_)
 obtain rfl:=osi h
 exact zV k [(6,vB false)]
 refine y3 4 [1,3,5,14] [3,5] (qc h (fun h=>?_) fun h=>?_)
 refine zB (qM 8 (dN 4 ?_))
 obtain ⟨b5,a4,h⟩:=aA h
 refine dX (cS cB) a4 (dN 3 (dE ?_))
 obtain ⟨b1,a5,h⟩:=aA h
 refine oX cB a5 (oN 3 (zO fun u k=>?_))
 refine yE k [6] [] (zN fun u k=>?_)
 refine aT (aO ?_)
 obtain rfl:=osi h
 exact zV k [(6,vB (!b1))]
 refine zM fun u k=>?_
 refine aF (yE k [1,3,5] [3,5] (zB ?_))
 obtain ⟨a8,a0,h⟩:=aA h
 refine zT ⟨[(6,vB a8)],[]⟩ ?_ fun u k=>?_
 replace h:=a0
 refine zA 4 ?_
 obtain ⟨b2,a6,h⟩:=aA h
 refine qX cB a6 (zA 3 (zS b2 (fun b0=>⟨[(1,bC all),(3,.ptr 3 0),(5,.ptr 5 0),(36,vB (!b0))],[(3,.box (bG st)),(5,.box [(vI x2.Piece),(vI x2.Hole),(vI x2.Joints),(vI x2.Lead.X),(vI x2.Lead.Y)])]⟩) (fun hb=>?_) fun hb=>?_))
 replace h:=iD hb h
 refine z6 18 fun u k=>?_
 cases h
 exact zG k
 replace h:=iB hb h
 refine zA 4 ?_
 obtain ⟨b6,a7,h⟩:=aA h
 refine qX (cS cB) a7 (zA 1 ?_)
 obtain ⟨a9,a1,h⟩:=aA h
 refine qP (W.nW a1) (zA 3 (zS a9 (fun b0=>⟨[(1,bC all),(3,.ptr 3 0),(5,.ptr 5 0),(46,vB (!b0))],[(3,.box (bG st)),(5,.box [(vI x2.Piece),(vI x2.Hole),(vI x2.Joints),(vI x2.Lead.X),(vI x2.Lead.Y)])]⟩) (fun hb=>?_) fun hb=>?_))
 replace h:=iD hb h
 refine z6 8 fun u k=>?_
 cases h
 exact zG k
 replace h:=iB hb h
 refine zA 4 ?_
 obtain ⟨b3,a2,h⟩:=aA h
 refine qP (W.Iq a2) (z6 3 fun u k=>?_)
 cases h
 exact zG k
 refine yE k [6] [] (zN fun u k=>?_)
 obtain rfl:=osi h
 exact zV k [(6,vB a8)]
end Go.Proofs.YtgfjbgoehhnaeaaGreat
