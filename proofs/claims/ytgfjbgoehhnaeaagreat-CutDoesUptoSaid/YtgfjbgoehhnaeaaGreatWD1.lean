/- Each Go function does what its model says; written by a program out of the translation. -/
import Derived.Test.YtgfjbgoehhnaeaaGreatWD
import Derived.Test.YtgfjbgoehhnaeaaGreatCzMD
set_option linter.unusedVariables false
set_option linter.unusedSimpArgs false
set_option linter.unusedSectionVars false
namespace Go.Proofs.YtgfjbgoehhnaeaaGreat
open Go Go.VI Go.SM Go.Proofs
set_option maxRecDepth 100000
set_option maxHeartbeats 4000000
theorem W.fI {data a b h0_0 r} (h:dQ data a b h0_0=some r):PC G.P 220 [(.sl (List.map cI data)),(vI a),(vI b),(.ptr 1000000 0),(.fn 129 [])] [(1000000,.box [(vI h0_0)])] (.tup [(vI r.1),(vI r.2.1)]) [(1000000,.box [(vI r.2.2)])]:=by
 refine zU G Tryz.func220 (yK [0,1,2,3,4] [1000000] (y3 2 [0,1,2,3,4] [1000000] (zB (zB (qM 9 (dN 3 ?_))))))
 obtain ⟨x16,hx16,h⟩:=aA h
 refine dX cI hx16 (dN 3 ?_)
 obtain ⟨x17,hx17,h⟩:=aA h
 refine dX cI hx17 (dN 1 (dE ?_))
 obtain ⟨r18,hr18,h⟩:=aA h
 refine oP (W.bL hr18) (oN 1 (zO fun u k=>?_))
 refine yE k [1,2,3,22] [1000000] (qc h (fun h=>?_) fun h=>?_)
 refine y3 6 [1,2] [1000000] (z8 4 ⟨[(10,vI b),(11,vI a)],[(1000000,.box [(vI (aL h0_0 1))])]⟩ fun u k=>?_)
 refine aO ?_
 obtain rfl:=osi h
 exact zV k [(10,vI b),(11,vI a)]
 refine y4 [1,2] [1000000] (z8 4 ⟨[(10,vI a),(11,vI b)],[(1000000,.box [(vI h0_0)])]⟩ fun u k=>?_)
 obtain rfl:=osi h
 exact zV k [(10,vI a),(11,vI b)]
theorem W.kP {data a b c h0_0 r} (h:gH data a b c h0_0=some r):PC G.P 216 [(.sl (List.map cI data)),(vI a),(vI b),(vI c),(.ptr 1000000 0),(.fn 129 [])] [(1000000,.box [(vI h0_0)])] (vI r.1) [(1000000,.box [(vI r.2)])]:=by
 refine zU G Tryz.func216 (yK [0,1,2,3,4,5] [1000000] (y3 1 [0,1,2,3,4,5] [1000000] (z7 (zA 5 ?_))))
 obtain ⟨r2,hr2,h⟩:=aA h
 refine qC [(1000000,1000000)] [] (W.fI hr2) (y1 5 [0,1,2,3,4,5] [1000000] (z7 (zA 5 ?_)))
 obtain ⟨r4,hr4,h⟩:=aA h
 refine qC [(1000000,1000000)] [] (W.fI hr4) (y1 5 [0,1,2,4,5] [1000000] (z7 (zA 5 ?_)))
 obtain ⟨r6,hr6,h⟩:=aA h
 refine qC [(1000000,1000000)] [] (W.fI hr6) (y1 5 [2] [1000000] (z8 2 ⟨[(12,vI r6.2.1)],[(1000000,.box [(vI r6.2.2)])]⟩ fun u k=>?_))
 obtain rfl:=osi h
 exact zV k [(12,vI r6.2.1)]
theorem W.dB {data a h0_0 r} (h:bN data a h0_0=some r):PC G.P 215 [(.sl (List.map cI data)),(vI a),(.ptr 1000000 0),(.fn 129 [])] [(1000000,.box [(vI h0_0)])] (vI r.1) [(1000000,.box [(vI r.2)])]:=by
 refine zU G Tryz.func215 (yK [0,1,2,3] [1000000] (y3 1 [0,1,2,3] [1000000] (z7 (zA 8 ?_))))
 obtain ⟨r2,hr2,h⟩:=aA h
 refine qC [(1000000,1000000)] [] (W.kP hr2) (y1 1 [8] [1000000] (zN fun u k=>?_))
 obtain rfl:=osi h
 exact zV k [(8,vI r2.1)]
theorem W.qQ {data a b r} (h:jR data a b=some r):PC G.P 193 [(.sl (List.map cI data)),(vI a),(vI b),(.fn 129 [])] [] (.tup [(vI r.1),(vI r.2)]) []:=by
 refine zU G Tryz.func193 (yK [0,1,2,3] [] (y3 2 [0,1,2,3] [] (y3 4 [0,1,3,10] [] (y3 1 [0,1,3,10,11] [11] (y3 6 [0,1,3,10,11,12] [11] (y3 6 [0,1,3,10,11,12,13] [11] ?_))))))
 refine y3 6 [0,3,10,11,12,13,14] [11] (bU (fun (j16:Int×Int)=>⟨[(11,.ptr 500000 0),(13,vI j16.1)],[(500000,.box [(vI j16.2)])]⟩) (dV) r (by kernel_rfl) (fun j16 h=>?_) ?_)
 refine y3 1 [13,55] [] (zC (y3 2 [13,55,57] [] (qc h (fun h=>?_) fun h=>?_)))
 refine z8 3 ⟨[(8,vI j16.1),(9,vI 1)],[]⟩ fun u k=>?_
 refine aT ?_
 obtain rfl:=osi h
 exact zV k [(8,vI j16.1),(9,vI 1)]
 refine y3 2 [13,60] [] (qc h (fun h=>?_) fun h=>?_)
 refine z8 3 ⟨[(8,vI j16.1),(9,vI 2)],[]⟩ fun u k=>?_
 refine aT ?_
 obtain rfl:=osi h
 exact zV k [(8,vI j16.1),(9,vI 2)]
 refine z8 3 ⟨[(8,vI j16.1),(9,vI 0)],[]⟩ fun u k=>?_
 refine aT ?_
 obtain rfl:=osi h
 exact zV k [(8,vI j16.1),(9,vI 0)]
 refine y3 2 [0,3,10,11,12,13,14,34] [11] (qc h (fun h=>?_) fun h=>?_)
 refine bU (fun (j23:Int×Int×Int×Int)=>⟨[(0,sI data),(3,.fn 129 []),(11,.ptr 500000 0),(12,vI j23.1),(13,vI j23.2.1),(14,vI j23.2.2.1)],[(500000,.box [(vI j23.2.2.2)])]⟩) (dW data) r (by kernel_rfl) (fun j23 h=>?_) ?_
 refine zD (zA 5 ?_)
 obtain ⟨r25,hr25,h⟩:=aA h
 refine qC [(1000000,500000)] [] (W.kP hr25) (z6 1 fun u k=>?_)
 exact aV (r25.1,r25.2) h k (here (by kernel_rfl))
 refine y3 2 [0,3,11,12,13,14,36] [11] (qc h (fun h=>?_) fun h=>?_)
 refine z7 (zA 3 ?_)
 obtain ⟨r27,hr27,h⟩:=aA h
 refine qC [(1000000,11)] [] (W.dB hr27) (y1 1 [0,3,11,12,13,14] [11] (z7 (zA 3 ?_)))
 obtain ⟨r29,hr29,h⟩:=aA h
 refine qC [(1000000,11)] [] (W.dB hr29) (y1 1 [0,3,11,12,13,14] [11] (zD (zA 3 ?_)))
 obtain ⟨r31,hr31,h⟩:=aA h
 refine qC [(1000000,11)] [] (W.dB hr31) (z6 1 fun u k=>?_)
 exact aV (r27.1,r29.1,r31.1,r31.2) h k (sp [] [(11,500000)])
 refine zM fun u k=>?_
 exact aV ((aL a (mZ (xN (aJ b a) 4) 1)),(aL a (mZ (xN (aJ b a) 4) 2)),(aL a (mZ (xN (aJ b a) 4) 3)),0) h k (sp [] [(11,500000)])
 refine zM fun u k=>?_
 exact aV ((aL a (mZ (xN (aJ b a) 4) 2)),0) h k (sp [] [(11,500000)])
theorem W.qD {a b h0 r} (h:jI a b h0=some r):PC G.P 194 [(.row (.top 1000000) 3),(vI a),(vI b),(.fn 129 [])] [(1000000,.row 3 [] (List.map cI h0))] (.tup []) [(1000000,.row 3 [] (List.map cI r))]:=by
 refine zU G Tryz.func194 (yK [0,1,2] [1000000] (y3 2 [0,2,8] [1000000] (y3 3 [0,8,9] [1000000] (zC ?_))))
 obtain ⟨x39,hx39,h⟩:=aA h
 refine ql hx39 (fun s14=>⟨[(0,ro 1000000 3),(8,vI s14.1),(9,vI s14.2.1)],[(1000000,wI 3 s14.2.2)]⟩) (fun x39=>(.exit 0,⟨[],[(1000000,wI 3 x39)]⟩)) qH (fun s14 r h=>?_) fun u k=>?_
 refine zB (y3 3 [0,8,9,15] [1000000] (qc h (fun h=>?_) fun h=>?_))
 refine y4 [0,8,9] [1000000] (zC (zB (qN [(13,[1000000])] [] [] [(2,[1000000]),(3,[1000000])] [] 14 (dN 6 ?_))))
 obtain ⟨x35,hx35,h⟩:=aA h
 refine dI cI hx35 (dR cI hx35 (dN 2 ?_))
 obtain ⟨x36,hx36,h⟩:=aA h
 refine dI cI hx36 (dR cI hx36 ?_)
 obtain ⟨x37,hx37,h⟩:=aA h
 refine dI cI hx37 (dS cI x35 hx37 (dE ?_))
 obtain ⟨x38,hx38,h⟩:=aA h
 refine oI cI hx38 (oS cI x36 hx38 (zO fun u k=>?_))
 refine yE k [0,8,9] [1000000] (y3 3 [0,8,9] [1000000] (zD (z6 3 fun u k=>?_)))
 refine aH ?_
 cases h
 exact zH k
 refine zL 0 fun u k=>?_
 refine aQ ?_
 cases h
 exact zF k
 refine zQ ?_
 obtain rfl:=osi h
 exact yU k [] (here (by kernel_rfl)) (by kernel_rfl)
theorem W.mU {a b h0 r} (h:gF a b h0=some r):PC G.P 195 [(.row (.top 1000000) 3),(vI a),(vI b),(.fn 129 [])] [(1000000,.row 3 [] (List.map cI h0))] (vB r.1) [(1000000,.row 3 [] (List.map cI r.2))]:=by
 refine zU G Tryz.func195 (yK [0,1,2,3] [1000000] (y3 1 [0,1,2,3] [1000000] (y3 3 [0,1,2,3,9] [1000000] (zB (y3 1 [0,1,2,3,9,10] [1000000] (zC ?_))))))
 obtain ⟨x8270,hx8270,h⟩:=aA h
 refine ql hx8270 (fun s5515=>⟨[(0,ro 1000000 3),(1,vI a),(2,vI b),(3,.fn 129 []),(9,vI s5515.1),(10,vI s5515.2.1)],[(1000000,wI 3 s5515.2.2)]⟩) (fun x8270=>match x8270 with | .inl j8271=>(.ret,⟨[(8,vB j8271.1)],[(1000000,wI 3 j8271.2)]⟩) | .inr j8272=>(.exit 0,⟨[],[(1000000,wI 3 j8272)]⟩)) qH (fun s5515 r h=>?_) (fun u k=>?_) (hout:=(by intro x;rcases x with _ | _ <;> rfl))
 refine zB (y3 2 [0,1,2,3,9,10,16] [1000000] (qc h (fun h=>?_) fun h=>?_))
 refine y4 [0,1,2,3,9,10] [1000000] (bU (fun (j7581:Int×(List Int))=>⟨[(0,ro 1000000 3),(1,vI a),(2,vI b),(3,.fn 129 []),(9,vI j7581.1),(10,vI s5515.2.1)],[(1000000,wI 3 j7581.2)]⟩) (bS s5515) r (by kernel_rfl) (fun j7581 h=>?_) ?_)
 refine zD (z6 3 fun u k=>?_)
 cases h
 exact zH k
 refine zC (zB (zC ?_))
 obtain ⟨x7707,hx7707,h⟩:=aA h
 refine ql hx7707 (fun s7666=>⟨[(0,ro 1000000 3),(1,vI a),(2,vI b),(3,.fn 129 []),(9,vI s7666),(10,vI s5515.2.1)],[(1000000,wI 3 s5515.2.2)]⟩) (fun x7707=>(.exit 2,⟨[(0,ro 1000000 3),(1,vI a),(2,vI b),(3,.fn 129 []),(9,vI x7707),(10,vI s5515.2.1)],[(1000000,wI 3 s5515.2.2)]⟩)) qH (fun s7666 r h=>?_) fun u k=>?_
 refine zB (zB ?_)
 obtain ⟨j7703,hj7703,h⟩:=aA h
 refine gK ⟨[(0,ro 1000000 3),(1,vI a),(2,vI b),(3,.fn 129 []),(9,vI s7666),(10,vI s5515.2.1),(36,vB j7703)],[(1000000,wI 3 s5515.2.2)]⟩ [] [] [] [] [] 14 (by kernel_rfl) (by kernel_rfl) (by kernel_rfl) ?_ fun u k=>?_
 replace h:=hj7703
 refine dN 4 (bI (decide (s7666<b)) (fun b0=>⟨[(22,vB b0),(21,vB b0),(20,vI b),(19,vI s7666),(0,ro 1000000 3),(1,vI a),(2,vI b),(3,.fn 129 []),(9,vI s7666),(10,vI s5515.2.1)],[(1000000,wI 3 s5515.2.2)]⟩) (by kernel_rfl) (fun hb=>?_) fun hb=>?_)
 replace h:=iK hb h
 refine dN 3 ?_
 obtain ⟨x7704,hx7704,h⟩:=aA h
 refine dI cI hx7704 (dR cI hx7704 (dN 3 ?_))
 obtain ⟨x7705,hx7705,h⟩:=aA h
 refine dI cI hx7705 (dR cI hx7705 (dE ?_))
 obtain ⟨r7706,hr7706,h⟩:=aA h
 refine oP (W.bL hr7706) (oN 3 (zO fun u k=>?_))
 cases h
 exact zG k
 replace h:=iJ hb h
 refine dN 10 (dE (oN 4 (zO fun u k=>?_)))
 cases h
 exact zG k
 refine yE k [0,1,2,3,9,10,36] [1000000] (qc h (fun h=>?_) fun h=>?_)
 refine y4 [0,1,2,3,9,10] [1000000] (zC (zD (z6 3 fun u k=>?_)))
 refine aH ?_
 cases h
 exact zH k
 refine zL 2 fun u k=>?_
 refine aQ ?_
 cases h
 exact zF k
 refine zQ (yE k [0,1,2,3,9,10] [1000000] (zB (y3 3 [0,1,2,3,9,10,41] [1000000] (qc h (fun h=>?_) fun h=>?_))))
 refine z8 1 ⟨[(8,vB true)],[(1000000,wI 3 s5515.2.2)]⟩ fun u k=>?_
 refine aO (aT (LD ?_))
 cases h
 exact zF k
 refine y4 [0,1,2,3,9,10] [1000000] (zB (y3 4 [0,1,2,3,9,10,45] [1000000] (qc h (fun h=>?_) fun h=>?_)))
 refine z8 1 ⟨[(8,vB false)],[(1000000,wI 3 s5515.2.2)]⟩ fun u k=>?_
 refine aO (aT (LD ?_))
 cases h
 exact zF k
 refine y4 [0,1,2,3,9,10] [1000000] (zB (qN [(15,[1000000])] [] [] [(2,[1000000]),(3,[1000000]),(4,[1000000])] [] 16 (dN 8 ?_)))
 obtain ⟨x7716,hx7716,h⟩:=aA h
 refine dI cI hx7716 (dR cI hx7716 (dN 2 ?_))
 obtain ⟨x7717,hx7717,h⟩:=aA h
 refine dI cI hx7717 (dR cI hx7717 ?_)
 obtain ⟨x7718,hx7718,h⟩:=aA h
 refine dI cI hx7718 (dS cI x7716 hx7718 (dE ?_))
 obtain ⟨x7719,hx7719,h⟩:=aA h
 refine oI cI hx7719 (oS cI x7717 hx7719 (zO fun u k=>?_))
 refine yE k [0,1,2,3,9,10] [1000000] (bU (fun (j7903:(List Int))=>⟨[(0,ro 1000000 3),(1,vI a),(2,vI b),(3,.fn 129 []),(9,vI x7707),(10,vI s5515.2.1)],[(1000000,wI 3 j7903)]⟩) (bT b s5515 x7707) r (by kernel_rfl) (fun j7903 h=>?_) ?_)
 refine y3 4 [0,1,2,3,9,10,104] [1000000] (qc h (fun h=>?_) fun h=>?_)
 refine y3 3 [0,1,2,3,9,10,12] [1000000] (zC ?_)
 obtain ⟨x8086,hx8086,h⟩:=aA h
 refine ql hx8086 (fun s7965=>⟨[(0,ro 1000000 3),(1,vI a),(2,vI b),(3,.fn 129 []),(9,vI x7707),(10,vI s5515.2.1),(12,vI s7965.1)],[(1000000,wI 3 s7965.2)]⟩) (fun x8086=>(.exit 6,⟨[(0,ro 1000000 3),(1,vI a),(2,vI b),(3,.fn 129 []),(9,vI x7707),(10,vI s5515.2.1)],[(1000000,wI 3 x8086)]⟩)) qH (fun s7965 r h=>?_) fun u k=>?_
 refine zB (y3 3 [0,1,2,3,9,10,12,109] [1000000] (qc h (fun h=>?_) fun h=>?_))
 refine y4 [0,1,2,3,9,10,12] [1000000] (zB (zC (zB (zB (qM 10 (dN 3 ?_))))))
 obtain ⟨x8071,hx8071,h⟩:=aA h
 refine dI cI hx8071 (dR cI hx8071 (dN 3 ?_))
 obtain ⟨x8072,hx8072,h⟩:=aA h
 refine dI cI hx8072 (dR cI hx8072 (dE ?_))
 obtain ⟨r8073,hr8073,h⟩:=aA h
 refine oP (W.bL hr8073) (oN 2 (zO fun u k=>?_))
 refine yE k [0,1,2,3,9,10,12,124] [1000000] (qc h (fun h=>?_) fun h=>?_)
 refine zL 6 fun u k=>?_
 refine aQ (Ue (by kernel_rfl) (aQ ?_))
 cases h
 exact zF k
 refine y4 [0,1,2,3,9,10,12] [1000000] (qN [(15,[1000000])] [] [] [(2,[1000000]),(3,[1000000]),(4,[1000000])] [] 16 (dN 8 ?_))
 obtain ⟨x8082,hx8082,h⟩:=aA h
 refine dI cI hx8082 (dR cI hx8082 (dN 2 ?_))
 obtain ⟨x8083,hx8083,h⟩:=aA h
 refine dI cI hx8083 (dR cI hx8083 ?_)
 obtain ⟨x8084,hx8084,h⟩:=aA h
 refine dI cI hx8084 (dS cI x8082 hx8084 (dE ?_))
 obtain ⟨x8085,hx8085,h⟩:=aA h
 refine oI cI hx8085 (oS cI x8083 hx8085 (zO fun u k=>?_))
 refine aH (yE k [0,1,2,3,9,10,12] [1000000] (zD (z6 3 fun u k=>?_)))
 cases h
 exact zH k
 refine zL 6 fun u k=>?_
 refine aQ ?_
 cases h
 exact zF k
 exact zQ (aH (aV (x7707,x8086) h k (here (by kernel_rfl))))
 refine zM fun u k=>?_
 exact aH (aV (x7707,j7903) h k (here (by kernel_rfl)))
 refine y3 4 [0,1,2,3,9,10,65] [1000000] (qc h (fun h=>?_) fun h=>?_)
 refine y3 3 [0,1,2,3,9,10,11] [1000000] (zC ?_)
 obtain ⟨x8269,hx8269,h⟩:=aA h
 refine ql hx8269 (fun s8148=>⟨[(0,ro 1000000 3),(1,vI a),(2,vI b),(3,.fn 129 []),(9,vI x7707),(10,vI s5515.2.1),(11,vI s8148.1)],[(1000000,wI 3 s8148.2)]⟩) (fun x8269=>(.exit 4,⟨[(0,ro 1000000 3),(1,vI a),(2,vI b),(3,.fn 129 []),(9,vI x7707),(10,vI s5515.2.1)],[(1000000,wI 3 x8269)]⟩)) qH (fun s8148 r h=>?_) fun u k=>?_
 refine zB (y3 2 [0,1,2,3,9,10,11,69] [1000000] (qc h (fun h=>?_) fun h=>?_))
 refine y4 [0,1,2,3,9,10,11] [1000000] (zB (zC (zB (zB (qM 10 (dN 3 ?_))))))
 obtain ⟨x8254,hx8254,h⟩:=aA h
 refine dI cI hx8254 (dR cI hx8254 (dN 3 ?_))
 obtain ⟨x8255,hx8255,h⟩:=aA h
 refine dI cI hx8255 (dR cI hx8255 (dE ?_))
 obtain ⟨r8256,hr8256,h⟩:=aA h
 refine oP (W.bL hr8256) (oN 2 (zO fun u k=>?_))
 refine yE k [0,1,2,3,9,10,11,84] [1000000] (qc h (fun h=>?_) fun h=>?_)
 refine zL 4 fun u k=>?_
 refine aQ (Ue (by kernel_rfl) (aQ ?_))
 cases h
 exact zF k
 refine y4 [0,1,2,3,9,10,11] [1000000] (qN [(15,[1000000])] [] [] [(2,[1000000]),(3,[1000000]),(4,[1000000])] [] 16 (dN 8 ?_))
 obtain ⟨x8265,hx8265,h⟩:=aA h
 refine dI cI hx8265 (dR cI hx8265 (dN 2 ?_))
 obtain ⟨x8266,hx8266,h⟩:=aA h
 refine dI cI hx8266 (dR cI hx8266 ?_)
 obtain ⟨x8267,hx8267,h⟩:=aA h
 refine dI cI hx8267 (dS cI x8265 hx8267 (dE ?_))
 obtain ⟨x8268,hx8268,h⟩:=aA h
 refine oI cI hx8268 (oS cI x8266 hx8268 (zO fun u k=>?_))
 refine aH (yE k [0,1,2,3,9,10,11] [1000000] (zD (z6 3 fun u k=>?_)))
 cases h
 exact zH k
 refine zL 4 fun u k=>?_
 refine aQ ?_
 cases h
 exact zF k
 exact zQ (aV x8269 h k (here (by kernel_rfl)))
 refine zM fun u k=>?_
 exact aV (List.set (List.set s5515.2.2 (Int.toNat x7707) x7716) (Int.toNat (aJ x7707 1)) x7717) h k (here (by kernel_rfl))
 refine zL 0 fun u k=>?_
 refine aQ ?_
 cases h
 exact zF k
 rcases x8270 with j8271 | j8272
 refine aT (aO ?_)
 obtain rfl:=osi h
 exact zV k [(8,vB j8271.1)]
 refine zQ (yE k [] [1000000] (z8 1 ⟨[(8,vB false)],[(1000000,wI 3 j8272)]⟩ fun u k=>?_))
 obtain rfl:=osi h
 exact zV k [(8,vB false)]
theorem W.oZ {a b pivot h0 r} (h:iR a b pivot h0=some r):PC G.P 196 [(.row (.top 1000000) 3),(vI a),(vI b),(vI pivot),(.fn 129 [])] [(1000000,.row 3 [] (List.map cI h0))] (vI r.1) [(1000000,.row 3 [] (List.map cI r.2))]:=by
 refine zU G Tryz.func196 (yK [0,1,2,3,4] [1000000] (y3 1 [0,1,2,3,4] [1000000] (zB (qN [(13,[1000000])] [] [] [(2,[1000000]),(3,[1000000])] [] 14 (dN 6 ?_)))))
 obtain ⟨x9,hx9,h⟩:=aA h
 refine dI cI hx9 (dR cI hx9 (dN 2 ?_))
 obtain ⟨x10,hx10,h⟩:=aA h
 refine dI cI hx10 (dR cI hx10 ?_)
 obtain ⟨x11,hx11,h⟩:=aA h
 refine dI cI hx11 (dS cI x9 hx11 (dE ?_))
 obtain ⟨x12,hx12,h⟩:=aA h
 refine oI cI hx12 (oS cI x10 hx12 (zO fun u k=>?_))
 refine yE k [0,1,2,4] [1000000] (y3 6 [0,1,4,11,12] [1000000] (zB (zC ?_)))
 obtain ⟨x1602,hx1602,h⟩:=aA h
 refine ql hx1602 (fun s1073=>⟨[(0,ro 1000000 3),(1,vI a),(4,.fn 129 []),(11,vI s1073.1),(12,vI s1073.2.1)],[(1000000,wI 3 s1073.2.2)]⟩) (fun x1602=>(.exit 0,⟨[(11,vI x1602.1)],[(1000000,wI 3 x1602.2)]⟩)) qH (fun s1073 r h=>?_) fun u k=>?_
 refine zC (zB (zC ?_))
 obtain ⟨x1463,hx1463,h⟩:=aA h
 refine ql hx1463 (fun s1422=>⟨[(0,ro 1000000 3),(1,vI a),(4,.fn 129 []),(11,vI s1422),(12,vI s1073.2.1)],[(1000000,wI 3 s1073.2.2)]⟩) (fun x1463=>(.exit 2,⟨[(0,ro 1000000 3),(1,vI a),(4,.fn 129 []),(11,vI x1463),(12,vI s1073.2.1)],[(1000000,wI 3 s1073.2.2)]⟩)) qH (fun s1422 r h=>?_) fun u k=>?_
 refine zB (zB ?_)
 obtain ⟨j1459,hj1459,h⟩:=aA h
 refine gK ⟨[(0,ro 1000000 3),(1,vI a),(4,.fn 129 []),(11,vI s1422),(12,vI s1073.2.1),(47,vB j1459)],[(1000000,wI 3 s1073.2.2)]⟩ [] [] [] [] [] 13 (by kernel_rfl) (by kernel_rfl) (by kernel_rfl) ?_ fun u k=>?_
 replace h:=hj1459
 refine dN 4 (bI (decide (s1422≤s1073.2.1)) (fun b0=>⟨[(34,vB b0),(33,vB b0),(32,vI s1073.2.1),(31,vI s1422),(0,ro 1000000 3),(1,vI a),(4,.fn 129 []),(11,vI s1422),(12,vI s1073.2.1)],[(1000000,wI 3 s1073.2.2)]⟩) (by kernel_rfl) (fun hb=>?_) fun hb=>?_)
 replace h:=iK hb h
 refine dN 3 ?_
 obtain ⟨x1460,hx1460,h⟩:=aA h
 refine dI cI hx1460 (dR cI hx1460 (dN 2 ?_))
 obtain ⟨x1461,hx1461,h⟩:=aA h
 refine dI cI hx1461 (dR cI hx1461 (dE ?_))
 obtain ⟨r1462,hr1462,h⟩:=aA h
 refine oP (W.bL hr1462) (oN 3 (zO fun u k=>?_))
 cases h
 exact zG k
 replace h:=iJ hb h
 refine dN 9 (dE (oN 4 (zO fun u k=>?_)))
 cases h
 exact zG k
 refine yE k [0,1,4,11,12,47] [1000000] (qc h (fun h=>?_) fun h=>?_)
 refine y4 [0,1,4,11,12] [1000000] (zC (zD (z6 3 fun u k=>?_)))
 refine aH ?_
 cases h
 exact zH k
 refine zL 2 fun u k=>?_
 refine aQ ?_
 cases h
 exact zF k
 refine zQ (yE k [0,1,4,11,12] [1000000] (zB (zC ?_)))
 obtain ⟨x1589,hx1589,h⟩:=aA h
 refine ql hx1589 (fun s1548=>⟨[(0,ro 1000000 3),(1,vI a),(4,.fn 129 []),(11,vI x1463),(12,vI s1548)],[(1000000,wI 3 s1073.2.2)]⟩) (fun x1589=>(.exit 4,⟨[(0,ro 1000000 3),(1,vI a),(4,.fn 129 []),(11,vI x1463),(12,vI x1589)],[(1000000,wI 3 s1073.2.2)]⟩)) qH (fun s1548 r h=>?_) fun u k=>?_
 refine zB (zB ?_)
 obtain ⟨j1585,hj1585,h⟩:=aA h
 refine gK ⟨[(0,ro 1000000 3),(1,vI a),(4,.fn 129 []),(11,vI x1463),(12,vI s1548),(65,vB j1585)],[(1000000,wI 3 s1073.2.2)]⟩ [] [] [] [] [] 13 (by kernel_rfl) (by kernel_rfl) (by kernel_rfl) ?_ fun u k=>?_
 replace h:=hj1585
 refine dN 4 (bI (decide (x1463≤s1548)) (fun b0=>⟨[(53,vB b0),(52,vB b0),(51,vI s1548),(50,vI x1463),(0,ro 1000000 3),(1,vI a),(4,.fn 129 []),(11,vI x1463),(12,vI s1548)],[(1000000,wI 3 s1073.2.2)]⟩) (by kernel_rfl) (fun hb=>?_) fun hb=>?_)
 replace h:=iK hb h
 refine dN 3 ?_
 obtain ⟨x1586,hx1586,h⟩:=aA h
 refine dI cI hx1586 (dR cI hx1586 (dN 2 ?_))
 obtain ⟨x1587,hx1587,h⟩:=aA h
 refine dI cI hx1587 (dR cI hx1587 (dE ?_))
 obtain ⟨r1588,hr1588,h⟩:=aA h
 refine oP (W.bL hr1588) (oN 2 (zO fun u k=>?_))
 cases h
 exact zG k
 replace h:=iJ hb h
 refine dN 9 (dE (oN 3 (zO fun u k=>?_)))
 cases h
 exact zG k
 refine yE k [0,1,4,11,12,65] [1000000] (qc h (fun h=>?_) fun h=>?_)
 refine y4 [0,1,4,11,12] [1000000] (zC (zD (z6 3 fun u k=>?_)))
 refine aH ?_
 cases h
 exact zH k
 refine zL 4 fun u k=>?_
 refine aQ ?_
 cases h
 exact zF k
 refine zQ (yE k [0,1,4,11,12] [1000000] (zB (y3 3 [0,1,4,11,12,70] [1000000] (qc h (fun h=>?_) fun h=>?_))))
 refine zL 0 fun u k=>?_
 refine aQ (Ue (by kernel_rfl) ?_)
 cases h
 exact zF k
 refine y4 [0,1,4,11,12] [1000000] (zB (qN [(13,[1000000])] [] [] [(2,[1000000]),(3,[1000000])] [] 14 (dN 6 ?_)))
 obtain ⟨x1598,hx1598,h⟩:=aA h
 refine dI cI hx1598 (dR cI hx1598 (dN 2 ?_))
 obtain ⟨x1599,hx1599,h⟩:=aA h
 refine dI cI hx1599 (dR cI hx1599 ?_)
 obtain ⟨x1600,hx1600,h⟩:=aA h
 refine dI cI hx1600 (dS cI x1598 hx1600 (dE ?_))
 obtain ⟨x1601,hx1601,h⟩:=aA h
 refine oI cI hx1601 (oS cI x1599 hx1601 (zO fun u k=>?_))
 refine yE k [0,1,4,11,12] [1000000] (y3 3 [0,1,4,11,12] [1000000] (zD (z6 3 fun u k=>?_)))
 refine aH ?_
 cases h
 exact zH k
 refine zQ (yE k [11] [1000000] (z8 2 ⟨[(10,vI x1602.1)],[(1000000,wI 3 x1602.2)]⟩ fun u k=>?_))
 obtain rfl:=osi h
 exact zV k [(10,vI x1602.1)]
theorem W.tF {a b pivot h0 r} (h:kQ a b pivot h0=some r):PC G.P 197 [(.row (.top 1000000) 3),(vI a),(vI b),(vI pivot),(.fn 129 [])] [(1000000,.row 3 [] (List.map cI h0))] (.tup [(vI r.1),(vB r.2.1)]) [(1000000,.row 3 [] (List.map cI r.2.2))]:=by
 refine zU G Tryz.func197 (yK [0,1,2,3,4] [1000000] (y3 2 [0,1,2,3,4] [1000000] (zB (qN [(13,[1000000])] [] [] [(2,[1000000]),(3,[1000000])] [] 14 (dN 6 ?_)))))
 obtain ⟨x9,hx9,h⟩:=aA h
 refine dI cI hx9 (dR cI hx9 (dN 2 ?_))
 obtain ⟨x10,hx10,h⟩:=aA h
 refine dI cI hx10 (dR cI hx10 ?_)
 obtain ⟨x11,hx11,h⟩:=aA h
 refine dI cI hx11 (dS cI x9 hx11 (dE ?_))
 obtain ⟨x12,hx12,h⟩:=aA h
 refine oI cI hx12 (oS cI x10 hx12 (zO fun u k=>?_))
 refine yE k [0,1,2,4] [1000000] (y3 6 [0,1,4,12,13] [1000000] (zB (zC ?_)))
 obtain ⟨x138,hx138,h⟩:=aA h
 refine ql hx138 (fun s97=>⟨[(0,ro 1000000 3),(1,vI a),(4,.fn 129 []),(12,vI s97),(13,vI (aJ b 1))],[(1000000,wI 3 (List.set (List.set h0 (Int.toNat a) x9) (Int.toNat pivot) x10))]⟩) (fun x138=>(.exit 0,⟨[(0,ro 1000000 3),(1,vI a),(4,.fn 129 []),(12,vI x138),(13,vI (aJ b 1))],[(1000000,wI 3 (List.set (List.set h0 (Int.toNat a) x9) (Int.toNat pivot) x10))]⟩)) qH (fun s97 r h=>?_) fun u k=>?_
 refine zB (zB ?_)
 obtain ⟨j134,hj134,h⟩:=aA h
 refine gK ⟨[(0,ro 1000000 3),(1,vI a),(4,.fn 129 []),(12,vI s97),(13,vI (aJ b 1)),(47,vB j134)],[(1000000,wI 3 (List.set (List.set h0 (Int.toNat a) x9) (Int.toNat pivot) x10))]⟩ [] [] [] [] [] 13 (by kernel_rfl) (by kernel_rfl) (by kernel_rfl) ?_ fun u k=>?_
 replace h:=hj134
 refine dN 4 (bI (decide (s97≤(aJ b 1))) (fun b0=>⟨[(35,vB b0),(34,vB b0),(33,vI (aJ b 1)),(32,vI s97),(0,ro 1000000 3),(1,vI a),(4,.fn 129 []),(12,vI s97),(13,vI (aJ b 1))],[(1000000,wI 3 (List.set (List.set h0 (Int.toNat a) x9) (Int.toNat pivot) x10))]⟩) (by kernel_rfl) (fun hb=>?_) fun hb=>?_)
 replace h:=iK hb h
 refine dN 3 ?_
 obtain ⟨x135,hx135,h⟩:=aA h
 refine dI cI hx135 (dR cI hx135 (dN 2 ?_))
 obtain ⟨x136,hx136,h⟩:=aA h
 refine dI cI hx136 (dR cI hx136 (dE ?_))
 obtain ⟨r137,hr137,h⟩:=aA h
 refine oP (W.bL hr137) (oN 2 (zO fun u k=>?_))
 cases h
 exact zG k
 replace h:=iJ hb h
 refine dN 9 (dE (oN 3 (zO fun u k=>?_)))
 cases h
 exact zG k
 refine yE k [0,1,4,12,13,47] [1000000] (qc h (fun h=>?_) fun h=>?_)
 refine y4 [0,1,4,12,13] [1000000] (zC (zD (z6 3 fun u k=>?_)))
 refine aH ?_
 cases h
 exact zH k
 refine zL 0 fun u k=>?_
 refine aQ ?_
 cases h
 exact zF k
 refine zQ (yE k [0,1,4,12,13] [1000000] (zB (zC ?_)))
 obtain ⟨x264,hx264,h⟩:=aA h
 refine ql hx264 (fun s223=>⟨[(0,ro 1000000 3),(1,vI a),(4,.fn 129 []),(12,vI x138),(13,vI s223)],[(1000000,wI 3 (List.set (List.set h0 (Int.toNat a) x9) (Int.toNat pivot) x10))]⟩) (fun x264=>(.exit 2,⟨[(0,ro 1000000 3),(1,vI a),(4,.fn 129 []),(12,vI x138),(13,vI x264)],[(1000000,wI 3 (List.set (List.set h0 (Int.toNat a) x9) (Int.toNat pivot) x10))]⟩)) qH (fun s223 r h=>?_) fun u k=>?_
 refine zB (zB ?_)
 obtain ⟨j260,hj260,h⟩:=aA h
 refine gK ⟨[(0,ro 1000000 3),(1,vI a),(4,.fn 129 []),(12,vI x138),(13,vI s223),(66,vB j260)],[(1000000,wI 3 (List.set (List.set h0 (Int.toNat a) x9) (Int.toNat pivot) x10))]⟩ [] [] [] [] [] 13 (by kernel_rfl) (by kernel_rfl) (by kernel_rfl) ?_ fun u k=>?_
 replace h:=hj260
 refine dN 4 (bI (decide (x138≤s223)) (fun b0=>⟨[(53,vB b0),(52,vB b0),(51,vI s223),(50,vI x138),(0,ro 1000000 3),(1,vI a),(4,.fn 129 []),(12,vI x138),(13,vI s223)],[(1000000,wI 3 (List.set (List.set h0 (Int.toNat a) x9) (Int.toNat pivot) x10))]⟩) (by kernel_rfl) (fun hb=>?_) fun hb=>?_)
 replace h:=iK hb h
 refine dN 3 ?_
 obtain ⟨x261,hx261,h⟩:=aA h
 refine dI cI hx261 (dR cI hx261 (dN 2 ?_))
 obtain ⟨x262,hx262,h⟩:=aA h
 refine dI cI hx262 (dR cI hx262 (dE ?_))
 obtain ⟨r263,hr263,h⟩:=aA h
 refine oP (W.bL hr263) (oN 3 (zO fun u k=>?_))
 cases h
 exact zG k
 replace h:=iJ hb h
 refine dN 9 (dE (oN 4 (zO fun u k=>?_)))
 cases h
 exact zG k
 refine yE k [0,1,4,12,13,66] [1000000] (qc h (fun h=>?_) fun h=>?_)
 refine y4 [0,1,4,12,13] [1000000] (zC (zD (z6 3 fun u k=>?_)))
 refine aH ?_
 cases h
 exact zH k
 refine zL 2 fun u k=>?_
 refine aQ ?_
 cases h
 exact zF k
 refine zQ (yE k [0,1,4,12,13] [1000000] (zB (y3 3 [0,1,4,12,13,71] [1000000] (qc h (fun h=>?_) fun h=>?_))))
 refine zB (qN [(13,[1000000])] [] [] [(2,[1000000]),(3,[1000000])] [] 14 (dN 6 ?_))
 obtain ⟨x285,hx285,h⟩:=aA h
 refine dI cI hx285 (dR cI hx285 (dN 2 ?_))
 obtain ⟨x286,hx286,h⟩:=aA h
 refine dI cI hx286 (dR cI hx286 ?_)
 obtain ⟨x287,hx287,h⟩:=aA h
 refine dI cI hx287 (dS cI x285 hx287 (dE ?_))
 obtain ⟨x288,hx288,h⟩:=aA h
 refine oI cI hx288 (oS cI x286 hx288 (zO fun u k=>?_))
 refine yE k [13] [1000000] (z8 3 ⟨[(10,vI x264),(11,vB true)],[(1000000,wI 3 (List.set (List.set (List.set (List.set h0 (Int.toNat a) x9) (Int.toNat pivot) x10) (Int.toNat x264) x285) (Int.toNat a) x286))]⟩ fun u k=>?_)
 refine aO ?_
 obtain rfl:=osi h
 exact zV k [(10,vI x264),(11,vB true)]
 refine y4 [0,1,4,12,13] [1000000] (zB (qN [(13,[1000000])] [] [] [(2,[1000000]),(3,[1000000])] [] 14 (dN 6 ?_)))
 obtain ⟨x297,hx297,h⟩:=aA h
 refine dI cI hx297 (dR cI hx297 (dN 2 ?_))
 obtain ⟨x298,hx298,h⟩:=aA h
 refine dI cI hx298 (dR cI hx298 ?_)
 obtain ⟨x299,hx299,h⟩:=aA h
 refine dI cI hx299 (dS cI x297 hx299 (dE ?_))
 obtain ⟨x300,hx300,h⟩:=aA h
 refine oI cI hx300 (oS cI x298 hx300 (zO fun u k=>?_))
 refine yE k [0,1,4,12,13] [1000000] (y3 3 [0,1,4,12,13] [1000000] (y3 3 [0,1,4,12,13] [1000000] (zB (zC ?_))))
 obtain ⟨x1890,hx1890,h⟩:=aA h
 refine ql hx1890 (fun s1361=>⟨[(0,ro 1000000 3),(1,vI a),(4,.fn 129 []),(12,vI s1361.1),(13,vI s1361.2.1)],[(1000000,wI 3 s1361.2.2)]⟩) (fun x1890=>(.exit 4,⟨[(0,ro 1000000 3),(1,vI a),(13,vI x1890.1)],[(1000000,wI 3 x1890.2)]⟩)) qH (fun s1361 r h=>?_) fun u k=>?_
 refine zC (zB (zC ?_))
 obtain ⟨x1751,hx1751,h⟩:=aA h
 refine ql hx1751 (fun s1710=>⟨[(0,ro 1000000 3),(1,vI a),(4,.fn 129 []),(12,vI s1710),(13,vI s1361.2.1)],[(1000000,wI 3 s1361.2.2)]⟩) (fun x1751=>(.exit 6,⟨[(0,ro 1000000 3),(1,vI a),(4,.fn 129 []),(12,vI x1751),(13,vI s1361.2.1)],[(1000000,wI 3 s1361.2.2)]⟩)) qH (fun s1710 r h=>?_) fun u k=>?_
 refine zB (zB ?_)
 obtain ⟨j1747,hj1747,h⟩:=aA h
 refine gK ⟨[(0,ro 1000000 3),(1,vI a),(4,.fn 129 []),(12,vI s1710),(13,vI s1361.2.1),(120,vB j1747)],[(1000000,wI 3 s1361.2.2)]⟩ [] [] [] [] [] 13 (by kernel_rfl) (by kernel_rfl) (by kernel_rfl) ?_ fun u k=>?_
 replace h:=hj1747
 refine dN 4 (bI (decide (s1710≤s1361.2.1)) (fun b0=>⟨[(108,vB b0),(107,vB b0),(106,vI s1361.2.1),(105,vI s1710),(0,ro 1000000 3),(1,vI a),(4,.fn 129 []),(12,vI s1710),(13,vI s1361.2.1)],[(1000000,wI 3 s1361.2.2)]⟩) (by kernel_rfl) (fun hb=>?_) fun hb=>?_)
 replace h:=iK hb h
 refine dN 3 ?_
 obtain ⟨x1748,hx1748,h⟩:=aA h
 refine dI cI hx1748 (dR cI hx1748 (dN 2 ?_))
 obtain ⟨x1749,hx1749,h⟩:=aA h
 refine dI cI hx1749 (dR cI hx1749 (dE ?_))
 obtain ⟨r1750,hr1750,h⟩:=aA h
 refine oP (W.bL hr1750) (oN 2 (zO fun u k=>?_))
 cases h
 exact zG k
 replace h:=iJ hb h
 refine dN 9 (dE (oN 3 (zO fun u k=>?_)))
 cases h
 exact zG k
 refine yE k [0,1,4,12,13,120] [1000000] (qc h (fun h=>?_) fun h=>?_)
 refine y4 [0,1,4,12,13] [1000000] (zC (zD (z6 3 fun u k=>?_)))
 refine aH ?_
 cases h
 exact zH k
 refine zL 6 fun u k=>?_
 refine aQ ?_
 cases h
 exact zF k
 refine zQ (yE k [0,1,4,12,13] [1000000] (zB (zC ?_)))
 obtain ⟨x1877,hx1877,h⟩:=aA h
 refine ql hx1877 (fun s1836=>⟨[(0,ro 1000000 3),(1,vI a),(4,.fn 129 []),(12,vI x1751),(13,vI s1836)],[(1000000,wI 3 s1361.2.2)]⟩) (fun x1877=>(.exit 8,⟨[(0,ro 1000000 3),(1,vI a),(4,.fn 129 []),(12,vI x1751),(13,vI x1877)],[(1000000,wI 3 s1361.2.2)]⟩)) qH (fun s1836 r h=>?_) fun u k=>?_
 refine zB (zB ?_)
 obtain ⟨j1873,hj1873,h⟩:=aA h
 refine gK ⟨[(0,ro 1000000 3),(1,vI a),(4,.fn 129 []),(12,vI x1751),(13,vI s1836),(139,vB j1873)],[(1000000,wI 3 s1361.2.2)]⟩ [] [] [] [] [] 13 (by kernel_rfl) (by kernel_rfl) (by kernel_rfl) ?_ fun u k=>?_
 replace h:=hj1873
 refine dN 4 (bI (decide (x1751≤s1836)) (fun b0=>⟨[(126,vB b0),(125,vB b0),(124,vI s1836),(123,vI x1751),(0,ro 1000000 3),(1,vI a),(4,.fn 129 []),(12,vI x1751),(13,vI s1836)],[(1000000,wI 3 s1361.2.2)]⟩) (by kernel_rfl) (fun hb=>?_) fun hb=>?_)
 replace h:=iK hb h
 refine dN 3 ?_
 obtain ⟨x1874,hx1874,h⟩:=aA h
 refine dI cI hx1874 (dR cI hx1874 (dN 2 ?_))
 obtain ⟨x1875,hx1875,h⟩:=aA h
 refine dI cI hx1875 (dR cI hx1875 (dE ?_))
 obtain ⟨r1876,hr1876,h⟩:=aA h
 refine oP (W.bL hr1876) (oN 3 (zO fun u k=>?_))
 cases h
 exact zG k
 replace h:=iJ hb h
 refine dN 9 (dE (oN 4 (zO fun u k=>?_)))
 cases h
 exact zG k
 refine yE k [0,1,4,12,13,139] [1000000] (qc h (fun h=>?_) fun h=>?_)
 refine y4 [0,1,4,12,13] [1000000] (zC (zD (z6 3 fun u k=>?_)))
 refine aH ?_
 cases h
 exact zH k
 refine zL 8 fun u k=>?_
 refine aQ ?_
 cases h
 exact zF k
 refine zQ (yE k [0,1,4,12,13] [1000000] (zB (y3 3 [0,1,4,12,13,144] [1000000] (qc h (fun h=>?_) fun h=>?_))))
 refine zL 4 fun u k=>?_
 refine aQ (Ue (by kernel_rfl) ?_)
 cases h
 exact zF k
 refine y4 [0,1,4,12,13] [1000000] (zB (qN [(13,[1000000])] [] [] [(2,[1000000]),(3,[1000000])] [] 14 (dN 6 ?_)))
 obtain ⟨x1886,hx1886,h⟩:=aA h
 refine dI cI hx1886 (dR cI hx1886 (dN 2 ?_))
 obtain ⟨x1887,hx1887,h⟩:=aA h
 refine dI cI hx1887 (dR cI hx1887 ?_)
 obtain ⟨x1888,hx1888,h⟩:=aA h
 refine dI cI hx1888 (dS cI x1886 hx1888 (dE ?_))
 obtain ⟨x1889,hx1889,h⟩:=aA h
 refine oI cI hx1889 (oS cI x1887 hx1889 (zO fun u k=>?_))
 refine yE k [0,1,4,12,13] [1000000] (y3 3 [0,1,4,12,13] [1000000] (zD (z6 3 fun u k=>?_)))
 refine aH ?_
 cases h
 exact zH k
 refine zQ (yE k [0,1,13] [1000000] (zB (qN [(13,[1000000])] [] [] [(2,[1000000]),(3,[1000000])] [] 14 (dN 6 ?_))))
 obtain ⟨x1899,hx1899,h⟩:=aA h
 refine dI cI hx1899 (dR cI hx1899 (dN 2 ?_))
 obtain ⟨x1900,hx1900,h⟩:=aA h
 refine dI cI hx1900 (dR cI hx1900 ?_)
 obtain ⟨x1901,hx1901,h⟩:=aA h
 refine dI cI hx1901 (dS cI x1899 hx1901 (dE ?_))
 obtain ⟨x1902,hx1902,h⟩:=aA h
 refine oI cI hx1902 (oS cI x1900 hx1902 (zO fun u k=>?_))
 refine yE k [13] [1000000] (z8 3 ⟨[(10,vI x1890.1),(11,vB false)],[(1000000,wI 3 (List.set (List.set x1890.2 (Int.toNat x1890.1) x1899) (Int.toNat a) x1900))]⟩ fun u k=>?_)
 obtain rfl:=osi h
 exact zV k [(10,vI x1890.1),(11,vB false)]
theorem W.pX (self:Int→Int→Int→(List Int)→Option ((List Int))) (hself:∀ {a:Int} {b:Int} {limit:Int} {h0:(List Int)} {r:(List Int)},self a b limit h0=some r→PC G.P 180 [(.row (.top 1000000) 3),(vI a),(vI b),(vI limit),(.fn 129 [])] [(1000000,.row 3 [] (List.map cI h0))] (.tup []) [(1000000,.row 3 [] (List.map cI r))]) {a:Int} {b:Int} {limit:Int} {h0:(List Int)} {r:(List Int)} (h:jG self a b limit h0=some r):PC G.P 180 [(.row (.top 1000000) 3),(vI a),(vI b),(vI limit),(.fn 129 [])] [(1000000,.row 3 [] (List.map cI h0))] (.tup []) [(1000000,.row 3 [] (List.map cI r))]:=by
 refine zU G Tryz.func180 (yK [0,1,2,3,4] [1000000] (y3 1 [0,1,2,3,4,10] [1000000] (y3 1 [0,1,2,3,4,10,11] [1000000] (zC ?_))))
 obtain ⟨x174,hx174,h⟩:=aA h
 refine ql hx174 (fun s59=>⟨[(0,ro 1000000 3),(1,vI s59.1),(2,vI s59.2.1),(3,vI s59.2.2.1),(4,.fn 129 []),(10,vB s59.2.2.2.1),(11,vB s59.2.2.2.2.1)],[(1000000,wI 3 s59.2.2.2.2.2)]⟩) (fun x174=>(.ret,⟨[],[(1000000,wI 3 x174)]⟩)) qH (fun s59 r h=>?_) fun u k=>?_
 refine zC (y3 4 [0,1,2,3,4,10,11,12] [1000000] (zB (y3 2 [0,1,2,3,4,10,11,12,25] [1000000] (qc h (fun h=>?_) fun h=>?_))))
 refine z7 (zA 4 ?_)
 obtain ⟨r120,hr120,h⟩:=aA h
 refine qC [(1000000,1000000)] [] (W.pK hr120) (zP fun u k=>?_)
 refine yE k [] [1000000] (zN fun u k=>?_)
 refine aO (aT ?_)
 cases h
 exact zF k
 refine y4 [0,1,2,3,4,10,11,12] [1000000] (zB (y3 2 [0,1,2,3,4,10,11,12,32] [1000000] (qc h (fun h=>?_) fun h=>?_)))
 refine z7 (zA 4 ?_)
 obtain ⟨r124,hr124,h⟩:=aA h
 refine qC [(1000000,1000000)] [] (W.tZ hr124) (zP fun u k=>?_)
 refine yE k [] [1000000] (zN fun u k=>?_)
 refine aO (aT ?_)
 cases h
 exact zF k
 refine y4 [0,1,2,3,4,10,11,12] [1000000] (bU (fun (j127:Int×(List Int))=>⟨[(0,ro 1000000 3),(1,vI s59.1),(2,vI s59.2.1),(3,vI j127.1),(4,.fn 129 []),(10,vB s59.2.2.2.1),(11,vB s59.2.2.2.2.1),(12,vI (aJ s59.2.1 s59.1))],[(1000000,wI 3 j127.2)]⟩) (fD self s59) r (by kernel_rfl) (fun j127 h=>?_) ?_)
 refine z7 (zA 4 ?_)
 obtain ⟨r129,hr129,h⟩:=aA h
 refine qV [1000000] (W.qQ hr129) (y1 5 [0,1,2,3,4,10,11,12,13,14] [1000000] (bU (fun (j132:Int×Int×(List Int))=>⟨[(0,ro 1000000 3),(1,vI s59.1),(2,vI s59.2.1),(3,vI j127.1),(4,.fn 129 []),(10,vB s59.2.2.2.1),(11,vB s59.2.2.2.2.1),(12,vI (aJ s59.2.1 s59.1)),(13,vI j132.1),(14,vI j132.2.1)],[(1000000,wI 3 j132.2.2)]⟩) (fC self s59 j127) r (by kernel_rfl) (fun j132 h=>?_) ?_))
 refine bU (fun (j136:Bool×Bool×(List Int))=>⟨[(0,ro 1000000 3),(1,vI s59.1),(2,vI s59.2.1),(3,vI j127.1),(4,.fn 129 []),(10,vB j136.1),(11,vB j136.2.1),(12,vI (aJ s59.2.1 s59.1)),(13,vI j132.1)],[(1000000,wI 3 j136.2.2)]⟩) (fB self s59 j127 j132) r (by kernel_rfl) (fun j136 h=>?_) ?_
 refine zB (zB ?_)
 obtain ⟨j155,hj155,h⟩:=aA h
 refine gK ⟨[(0,ro 1000000 3),(1,vI s59.1),(2,vI s59.2.1),(3,vI j127.1),(4,.fn 129 []),(10,vB j136.1),(11,vB j136.2.1),(12,vI (aJ s59.2.1 s59.1)),(13,vI j132.1),(97,vB j155)],[(1000000,wI 3 j136.2.2)]⟩ [] [] [] [] [] 13 (by kernel_rfl) (by kernel_rfl) (by kernel_rfl) ?_ fun u k=>?_
 replace h:=hj155
 refine dN 3 (bI (decide (s59.1>0)) (fun b0=>⟨[(83,vB b0),(82,vB b0),(81,vI s59.1),(0,ro 1000000 3),(1,vI s59.1),(2,vI s59.2.1),(3,vI j127.1),(4,.fn 129 []),(10,vB j136.1),(11,vB j136.2.1),(12,vI (aJ s59.2.1 s59.1)),(13,vI j132.1)],[(1000000,wI 3 j136.2.2)]⟩) (by kernel_rfl) (fun hb=>?_) fun hb=>?_)
 replace h:=iK hb h
 refine dN 4 ?_
 obtain ⟨x156,hx156,h⟩:=aA h
 refine dI cI hx156 (dR cI hx156 (dN 2 ?_))
 obtain ⟨x157,hx157,h⟩:=aA h
 refine dI cI hx157 (dR cI hx157 (dE ?_))
 obtain ⟨r158,hr158,h⟩:=aA h
 refine oP (W.bL hr158) (oN 3 (zO fun u k=>?_))
 cases h
 exact zG k
 replace h:=iJ hb h
 refine dN 10 (dE (oN 4 (zO fun u k=>?_)))
 cases h
 exact zG k
 refine yE k [0,1,2,3,4,10,11,12,13,97] [1000000] (qc h (fun h=>?_) fun h=>?_)
 refine z7 (zA 5 ?_)
 obtain ⟨r160,hr160,h⟩:=aA h
 refine qC [(1000000,1000000)] [] (W.oZ hr160) (y1 1 [0,2,3,4,10,11,15] [1000000] (y3 2 [0,1,2,3,4,10,11] [1000000] (zL 1 fun u k=>?_)))
 refine aQ (zQ ?_)
 cases h
 exact zH k
 refine y4 [0,1,2,3,4,12,13] [1000000] (z7 (zA 5 ?_))
 obtain ⟨r162,hr162,h⟩:=aA h
 refine qC [(1000000,1000000)] [] (W.tF hr162) (y1 5 [0,1,2,3,4,12,16,17] [1000000] (y3 2 [0,1,2,3,4,11,12,16] [1000000] (y3 8 [0,1,2,3,4,11,12,16,18,19] [1000000] (y3 3 [0,1,2,3,4,11,16,18,19,20] [1000000] (y3 3 [0,1,2,3,4,11,16,18,19,20,125] [1000000] (qc h (fun h=>?_) fun h=>?_))))))
 refine y3 4 [0,1,2,3,4,10,11,16] [1000000] (z7 (zA 5 ?_))
 obtain ⟨r164,hr164,h⟩:=aA h
 refine yR [(1000000,1000000)] [] [] (by kernel_rfl) (hself hr164) (by kernel_rfl) (by kernel_rfl) (.inl rfl) (zP fun u k=>?_)
 refine yE k [0,2,3,4,10,11,16] [1000000] (zD (z6 3 fun u k=>?_))
 refine aH ?_
 cases h
 exact zH k
 refine y3 4 [0,1,2,3,4,10,11,16] [1000000] (z7 (zA 6 ?_))
 obtain ⟨r166,hr166,h⟩:=aA h
 refine yR [(1000000,1000000)] [] [] (by kernel_rfl) (hself hr166) (by kernel_rfl) (by kernel_rfl) (.inl rfl) (zP fun u k=>?_)
 refine yE k [0,1,3,4,10,11,16] [1000000] (zD (z6 2 fun u k=>?_))
 refine aH ?_
 cases h
 exact zH k
 refine zB ?_
 obtain ⟨j167,hj167,h⟩:=aA h
 refine zT ⟨[(0,ro 1000000 3),(1,vI s59.1),(2,vI s59.2.1),(3,vI j127.1),(4,.fn 129 []),(10,vB j167.1),(11,vB j167.2.1),(12,vI (aJ s59.2.1 s59.1)),(13,vI j132.1),(75,vB j167.2.2)],[(1000000,wI 3 j132.2.2)]⟩ ?_ fun u k=>?_
 replace h:=hj167
 refine zA 2 (qB h [0,1,2,3,4,10,11,12,13,14,69] [1000000] [10,69] (fun h=>?_) fun h=>?_)
 refine zA 3 (qB h [0,1,2,3,4,10,11,12,13,14,72] [1000000] [11,72] (fun h=>?_) fun h=>?_)
 refine z6 3 fun u k=>?_
 cases h
 exact zG k
 refine z6 3 fun u k=>?_
 cases h
 exact zG k
 refine z6 6 fun u k=>?_
 cases h
 exact zG k
 refine yE k [0,1,2,3,4,10,11,12,13,75] [1000000] (qc h (fun h=>?_) fun h=>?_)
 refine z7 (zA 4 ?_)
 obtain ⟨r169,hr169,h⟩:=aA h
 refine qC [(1000000,1000000)] [] (W.mU hr169) (zP fun u k=>?_)
 refine yE k [0,1,2,3,4,10,11,12,13,80] [1000000] (qc h (fun h=>?_) fun h=>?_)
 refine zN fun u k=>?_
 refine LD (aT ?_)
 cases h
 exact zF k
 refine zM fun u k=>?_
 exact aV (j167.1,j167.2.1,r169.2) h k (here (by kernel_rfl))
 refine zM fun u k=>?_
 exact aV (j167.1,j167.2.1,j132.2.2) h k (here (by kernel_rfl))
 refine y3 2 [0,1,2,3,4,10,11,12,13,14,56] [1000000] (qc h (fun h=>?_) fun h=>?_)
 refine z7 (zA 4 ?_)
 obtain ⟨r171,hr171,h⟩:=aA h
 refine qC [(1000000,1000000)] [] (W.qD hr171) (zP fun u k=>?_)
 refine yE k [0,1,2,3,4,10,11,12,13] [1000000] (y3 7 [0,1,2,3,4,10,11,12,13] [1000000] (zD (z6 1 fun u k=>?_)))
 exact aV ((aJ (aJ s59.2.1 1) (aJ r129.1 s59.1)),1,r171) h k (here (by kernel_rfl))
 refine zM fun u k=>?_
 exact aV (r129.1,r129.2,j127.2) h k (here (by kernel_rfl))
 refine y3 2 [0,1,2,3,4,10,11,12,39] [1000000] (qc h (fun h=>?_) fun h=>?_)
 refine z7 (zA 4 ?_)
 obtain ⟨r173,hr173,h⟩:=aA h
 refine qC [(1000000,1000000)] [] (W.pG hr173) (zP fun u k=>?_)
 refine yE k [0,1,2,3,4,10,11,12] [1000000] (zD (z6 3 fun u k=>?_))
 exact aV ((aJ s59.2.2.1 1),r173) h k (here (by kernel_rfl))
 refine zM fun u k=>?_
 exact aV (s59.2.2.1,s59.2.2.2.2.2) h k (here (by kernel_rfl))
 refine aT ?_
 obtain rfl:=osi h
 exact zV k []
theorem W.jH:∀ (n:Nat) {a:Int} {b:Int} {limit:Int} {h0:(List Int)} {r:(List Int)},bK n a b limit h0=some r→PC G.P 180 [(.row (.top 1000000) 3),(vI a),(vI b),(vI limit),(.fn 129 [])] [(1000000,.row 3 [] (List.map cI h0))] (.tup []) [(1000000,.row 3 [] (List.map cI r))]
  | 0,_,_,_,_,_,h=>by simp [bK] at h
  | n+1,_,_,_,_,_,h=>W.pX (bK n) (W.jH n) h
theorem W.uC {a:Int} {b:Int} {limit:Int} {h0:(List Int)} {r:(List Int)} (h:lI a b limit h0=some r):PC G.P 180 [(.row (.top 1000000) 3),(vI a),(vI b),(vI limit),(.fn 129 [])] [(1000000,.row 3 [] (List.map cI h0))] (.tup []) [(1000000,.row 3 [] (List.map cI r))]:=W.jH 1000 h
theorem W.uP {h0 r} (h:dP h0=some r):PC G.P 151 [(.row (.top 1000000) 3),(.fn 129 [])] [(1000000,.row 3 [] (List.map cI h0))] (.tup []) [(1000000,.row 3 [] (List.map cI r))]:=by
 refine zU G Tryz.func151 (yK [0,1] [1000000] (z7 (zA 1 (qL cI h0 (y1 1 [0,1,4] [1000000] (zD ?_))))))
 refine zA 4 ?_
 obtain ⟨r3,hr3,h⟩:=aA h
 refine qP (W.Xg hr3) (zA 1 ?_)
 obtain ⟨r4,hr4,h⟩:=aA h
 refine qC [(1000000,1000000)] [] (W.uC hr4) (zP fun u k=>?_)
 obtain rfl:=osi h
 exact yU k [] (here (by kernel_rfl)) (by kernel_rfl)
theorem W.Hf {h0 r} (h:uN h0=some r):PC G.P 152 [(.row (.top 300000) 3)] [(300000,.row 3 [] (List.map cI h0))] (.row (.top 0) 3) [(0,.row 3 [] (List.map cI r))]:=by
 refine zU G Tryz.func152 (yK [0] [300000] (y3 1 [0] [300000] (zB (z7 (zA 1 (qL cI h0 ?_))))))
 refine y1 1 [0,8] [300000] (qc h (fun h=>?_) fun h=>?_)
 refine z8 2 ⟨[(2,ro 300000 3)],[(300000,wI 3 h0)]⟩ fun u k=>?_
 refine aO ?_
 obtain rfl:=osi h
 exact qW k [(2,ro 0 3)] (sp [] [(300000,0)])
 refine y4 [0] [300000] (zB (y3 1 [0,3] [300000] (zC ?_)))
 obtain ⟨x1688,hx1688,h⟩:=aA h
 refine ql hx1688 (fun s1127=>⟨[(0,ro 500000 3),(3,vI s1127)],[(500000,wI 3 h0)]⟩) (fun x1688=>match x1688 with | .inl j1689=>(.ret,⟨[(2,ro 500000 3)],[(500000,wI 3 j1689)]⟩) | .inr j1690=>(.exit 0,⟨[(0,ro 500000 3)],[(500000,wI 3 h0)]⟩)) (sp [] [(300000,500000)]) (fun s1127 r h=>?_) (fun u k=>?_) (hout:=(by intro x;rcases x with _ | _ <;> rfl))
 refine zB (z7 (zA 2 (qL cI h0 (y1 1 [0,3,13] [500000] (qc h (fun h=>?_) fun h=>?_)))))
 refine y4 [0,3] [500000] (zB (zC (zB (qM 9 (dN 2 ?_)))))
 obtain ⟨x1552,hx1552,h⟩:=aA h
 refine dI cI hx1552 (dR cI hx1552 (dN 3 ?_))
 obtain ⟨x1553,hx1553,h⟩:=aA h
 refine dI cI hx1553 (dR cI hx1553 (dE (oN 1 (zO fun u k=>?_))))
 refine yE k [0,3,25] [500000] (qc h (fun h=>?_) fun h=>?_)
 refine z7 (zA 2 ?_)
 obtain ⟨hp2,h⟩:=XV h
 refine iI (OP (c:=cI) (l:=h0) (kk:=(.top 500000)) (e:=3) (sz:=1) (lo:=s1127) (k1:=.i64) (by kernel_rfl) (by kernel_rfl) (fun _=>rfl) hp2) (y1 1 [0,3,4] [500000] (zB (y3 1 [0,3,4,5] [500000] (zC ?_))))
 obtain ⟨x1685,hx1685,h⟩:=aA h
 refine ql hx1685 (fun s1642=>⟨[(0,ro 500000 3),(3,vI s1642.1),(4,.part (.top 500000) 3 (Int.toNat s1127) (Int.toNat (h0.length:Int)-Int.toNat s1127)),(5,vI s1642.2.1)],[(500000,wI 3 s1642.2.2)]⟩) (fun x1685=>(.exit 2,⟨[(0,ro 500000 3),(3,vI x1685.1)],[(500000,wI 3 x1685.2)]⟩)) qH (fun s1642 r h=>?_) fun u k=>?_
 refine zB (z7 (zA 2 (iI (YS (kk:=(.top 500000)) (e:=3) (lo:=(Int.toNat s1127)) (n:=(Int.toNat (h0.length:Int)-Int.toNat s1127)) (by kernel_rfl)) (y1 1 [0,3,4,5,32] [500000] (qc h (fun h=>?_) fun h=>?_)))))
 refine y4 [0,3,4,5] [500000] (bU (fun (j1674:Int×(List Int))=>⟨[(0,ro 500000 3),(3,vI j1674.1),(4,.part (.top 500000) 3 (Int.toNat s1127) (Int.toNat (h0.length:Int)-Int.toNat s1127)),(5,vI s1642.2.1)],[(500000,wI 3 j1674.2)]⟩) (pW s1642) r (by kernel_rfl) (fun j1674 h=>?_) ?_)
 refine zD (z6 3 fun u k=>?_)
 cases h
 exact zH k
 refine zC (zB (qM 9 (dN 2 ?_)))
 obtain ⟨x1679,hx1679,h⟩:=aA h
 refine xG (by kernel_rfl) (FY (c:=cI) (l:=s1642.2.2) (i:=s1642.2.1) (kd:=.i64) (kk:=(.top 500000)) (e:=3) (sz:=1) (lo:=(Int.toNat s1127)) (n:=(Int.toNat (h0.length:Int)-Int.toNat s1127)) (by kernel_rfl) (by kernel_rfl) hx1679 rfl) (by kernel_rfl) (by kernel_rfl) (xG (by kernel_rfl) (Jo (c:=cI) (l:=s1642.2.2) (i:=((Int.toNat s1127)+Int.toNat s1642.2.1)) (v:=(vI x1679)) (agg:=false) (sz:=1) (kk:=(.top 500000)) (e:=3) (off:=0) (J:=[]) (by kernel_rfl) (by kernel_rfl) (by kernel_rfl) (AU hx1679) (by kernel_rfl)) (by kernel_rfl) (by kernel_rfl) (dN 3 ?_))
 obtain ⟨x1680,hx1680,h⟩:=aA h
 refine xG (by kernel_rfl) (FY (c:=cI) (l:=s1642.2.2) (i:=(aJ s1642.2.1 1)) (kd:=.i64) (kk:=(.top 500000)) (e:=3) (sz:=1) (lo:=(Int.toNat s1127)) (n:=(Int.toNat (h0.length:Int)-Int.toNat s1127)) (by kernel_rfl) (by kernel_rfl) hx1680 rfl) (by kernel_rfl) (by kernel_rfl) (xG (by kernel_rfl) (Jo (c:=cI) (l:=s1642.2.2) (i:=((Int.toNat s1127)+Int.toNat (aJ s1642.2.1 1))) (v:=(vI x1680)) (agg:=false) (sz:=1) (kk:=(.top 500000)) (e:=3) (off:=0) (J:=[]) (by kernel_rfl) (by kernel_rfl) (by kernel_rfl) (AU hx1680) (by kernel_rfl)) (by kernel_rfl) (by kernel_rfl) (dE (oN 1 (zO fun u k=>?_))))
 refine yE k [0,3,4,5,44] [500000] (qc h (fun h=>?_) fun h=>?_)
 refine z7 (zA 4 ?_)
 obtain ⟨x1683,hx1683,h⟩:=aA h
 refine iI (FY (c:=cI) (l:=s1642.2.2) (i:=s1642.2.1) (kd:=.i64) (kk:=(.top 500000)) (e:=3) (sz:=1) (lo:=(Int.toNat s1127)) (n:=(Int.toNat (h0.length:Int)-Int.toNat s1127)) (by kernel_rfl) (by kernel_rfl) hx1683 rfl) (iI (Jo (c:=cI) (l:=s1642.2.2) (i:=((Int.toNat s1127)+Int.toNat s1642.2.1)) (v:=(vI x1683)) (agg:=false) (sz:=1) (kk:=(.top 500000)) (e:=3) (off:=0) (J:=[]) (by kernel_rfl) (by kernel_rfl) (by kernel_rfl) (AU hx1683) (by kernel_rfl)) ?_)
 obtain ⟨x1684,hx1684,h⟩:=aA h
 refine qI cI hx1684 (qS cI x1683 hx1684 (zP fun u k=>?_))
 refine yE k [0,3,4,5] [500000] (zD (z6 3 fun u k=>?_))
 exact aH (aV ((aL s1642.1 1),(List.set s1642.2.2 (Int.toNat s1642.1) x1683)) h k (here (by kernel_rfl)))
 refine zM fun u k=>?_
 exact aH (aV (s1642.1,s1642.2.2) h k (here (by kernel_rfl)))
 refine zL 2 fun u k=>?_
 refine aQ ?_
 cases h
 exact zF k
 refine zQ (yE k [0,3] [500000] (z7 (zA 2 ?_)))
 obtain ⟨hp2,h⟩:=XV h
 refine iI (OP (c:=cI) (l:=x1685.2) (kk:=(.top 500000)) (e:=3) (sz:=1) (lo:=x1685.1) (k1:=.i64) (by kernel_rfl) (by kernel_rfl) (fun _=>rfl) hp2) (fF (SG (c:=cI) (l:=x1685.2) (z:=0) (d:=(.part (.top 500000) 3 (Int.toNat x1685.1) (Int.toNat (x1685.2.length:Int)-Int.toNat x1685.1))) (e:=3) (g:=500000) (lo:=(Int.toNat x1685.1)) (n:=(Int.toNat (x1685.2.length:Int)-Int.toNat x1685.1)) (zs:=[(vI 0)]) (by kernel_rfl) (by kernel_rfl) (by kernel_rfl) (VJ hp2) rfl) (zP fun u k=>?_))
 refine yE k [0,3] [500000] (z7 (zA 2 ?_))
 obtain ⟨l1687,hl1687,h⟩:=aA h
 refine fF (ZX (J:=[]) (c:=cI) (l:=(cpy x1685.2 (Int.toNat x1685.1) (List.replicate (Int.toNat (x1685.2.length:Int)-Int.toNat x1685.1) 0))) (e:=3) (g:=500000) (hi:=x1685.1) (k2:=.i64) (by kernel_rfl) (by kernel_rfl) rfl hl1687) (y1 1 [2] [500000] (zN fun u k=>?_))
 refine aT (aO ?_)
 cases h
 exact zF k
 refine zM fun u k=>?_
 refine aH (yE k [0,3] [500000] (zD (z6 3 fun u k=>?_)))
 cases h
 exact zH k
 refine zL 0 fun u k=>?_
 refine aQ ?_
 cases h
 exact zF k
 rcases x1688 with j1689 | j1690
 refine aT (aO ?_)
 obtain rfl:=osi h
 exact qW k [(2,ro 0 3)] (sp [] [(500000,0)])
 refine zQ (yE k [0] [500000] (z8 2 ⟨[(2,ro 500000 3)],[(500000,wI 3 h0)]⟩ fun u k=>?_))
 obtain rfl:=osi h
 exact qW k [(2,ro 0 3)] (sp [] [(500000,0)])
theorem W.Zv {h0 r} (h:Um h0=some r):PC G.P 105 [(.row (.top 300000) 3)] [(300000,.row 3 [] (List.map cI h0))] (.row (.top 0) 3) [(0,.row 3 [] (List.map cI r))]:=by
 refine zU G Tryz.func105 (yK [0] [300000] (y3 1 [0] [300000] (z7 (zA 1 ?_))))
 obtain ⟨r2,hr2,h⟩:=aA h
 refine qC [(1000000,300000)] [] (W.uP hr2) (zP fun u k=>?_)
 refine yE k [0] [300000] (z7 (zA 1 ?_))
 obtain ⟨r4,hr4,h⟩:=aA h
 refine qC [(300000,300000)] [(0,700050)] (W.Hf hr4) (y1 1 [2] [700050] (zN fun u k=>?_))
 obtain rfl:=osi h
 exact qW k [(2,ro 0 3)] (sp [] [(700050,0)])
theorem W.Qj {l x1 y r} (h:Fv l x1 y=some r):PC G.P 108 [(.agg (aR l)),(vI x1),(vI y)] [] (vF 198 194 r) []:=by
 refine zU G Tryz.func108 (yK [0,1,2] [] (y3 2 [1,2,3] [3] (zB (z7 (zA 2 (qL aU l.Pieces ?_))))))
 refine y1 1 [1,2,12,13,14] [] (zC ?_)
 obtain ⟨x308,hx308,h⟩:=aA h
 refine ql hx308 (fun s207=>⟨[(1,vI x1),(2,vI y),(12,cZ l.Pieces),(13,vI (l.Pieces.length:Int)),(14,vI s207)],[]⟩) (fun x308=>match x308 with | .inl j309=>(.ret,⟨[(6,vF 198 194 j309)],[]⟩) | .inr j310=>(.exit 0,⟨[],[]⟩)) qH (fun s207 r h=>?_) (fun u k=>?_) (hout:=(by intro x;rcases x with _ | _ <;> rfl))
 refine y3 1 [1,2,12,13,14,15] [] (zB (qc h (fun h=>?_) fun h=>?_))
 refine y4 [1,2,12,13,14] [] (zB (zC (z7 (zA 1 ?_))))
 obtain ⟨x284,hx284,h⟩:=aA h
 refine qX aU hx284 (y1 4 [1,2,7,8,12,13,14] [8] (z7 (zA 2 (qL aB x284.Rects (y1 1 [1,2,7,12,13,14,20,21,22] [] (zC ?_))))))
 obtain ⟨x305,hx305,h⟩:=aA h
 refine ql hx305 (fun s292=>⟨[(1,vI x1),(2,vI y),(7,vI s207),(12,cZ l.Pieces),(13,vI (l.Pieces.length:Int)),(14,vI s207),(20,aW x284.Rects),(21,vI (x284.Rects.length:Int)),(22,vI s292)],[]⟩) (fun x305=>match x305 with | .inl j306=>(.ret,⟨[(6,vF 198 194 (some s207))],[]⟩) | .inr j307=>(.exit 2,⟨[(1,vI x1),(2,vI y),(12,cZ l.Pieces),(13,vI (l.Pieces.length:Int)),(14,vI s207)],[]⟩)) qH (fun s292 r h=>?_) (fun u k=>?_) (hout:=(by intro x;rcases x with _ | _ <;> rfl))
 refine y3 1 [1,2,7,12,13,14,20,21,22,23] [] (zB (qc h (fun h=>?_) fun h=>?_))
 refine y4 [1,2,7,12,13,14,20,21,22] [] (zB (zC (z7 ?_)))
 obtain ⟨x303,hx303,h⟩:=aA h
 refine qX aB hx303 (y1 3 [1,2,7,10,12,13,14,20,21,22] [10] (zB ?_))
 obtain ⟨j304,hj304,h⟩:=aA h
 refine zT ⟨[(1,vI x1),(2,vI y),(7,vI s207),(12,cZ l.Pieces),(13,vI (l.Pieces.length:Int)),(14,vI s207),(20,aW x284.Rects),(21,vI (x284.Rects.length:Int)),(22,vI s292),(53,vB j304)],[]⟩ ?_ fun u k=>?_
 replace h:=hj304
 refine zA 5 (qB h [1,2,7,10,12,13,14,20,21,22,30] [10] [30] (fun h=>?_) fun h=>?_)
 refine zA 9 (qB h [1,2,7,10,12,13,14,20,21,22,39] [10] [39] (fun h=>?_) fun h=>?_)
 refine zA 6 (qB h [1,2,7,10,12,13,14,20,21,22,45] [10] [45] (fun h=>?_) fun h=>?_)
 refine z6 8 fun u k=>?_
 cases h
 exact zG k
 refine z6 8 fun u k=>?_
 cases h
 exact zG k
 refine z6 14 fun u k=>?_
 cases h
 exact zG k
 refine z6 23 fun u k=>?_
 cases h
 exact zG k
 refine yE k [1,2,7,12,13,14,20,21,22,53] [] (qc h (fun h=>?_) fun h=>?_)
 refine z7 (zA 1 (fF (Cf (x:=(some s207)) Jb (by kernel_rfl)) (y1 1 [6] [] (zN fun u k=>?_))))
 refine aT (aO ?_)
 cases h
 exact zF k
 refine zM fun u k=>?_
 refine aH (yE k [1,2,7,12,13,14,20,21,22] [] (zD (z6 2 fun u k=>?_)))
 cases h
 exact zH k
 refine zL 2 fun u k=>?_
 refine aQ ?_
 cases h
 exact zF k
 rcases x305 with j306 | j307
 refine aT (aT (aO ?_))
 cases h
 exact zF k
 refine zQ (aH (yE k [1,2,12,13,14] [] (zD (z6 2 fun u k=>?_))))
 cases h
 exact zH k
 refine zL 0 fun u k=>?_
 refine aQ ?_
 cases h
 exact zF k
 rcases x308 with j309 | j310
 refine aT (aO ?_)
 obtain rfl:=osi h
 exact zV k [(6,vF 198 194 j309)]
 refine zQ (yE k [] [] (z7 (zA 1 (fF (Cf (x:=none) Jb (by kernel_rfl)) (y1 1 [6] [] (zN fun u k=>?_))))))
 obtain rfl:=osi h
 exact zV k [(6,vF 198 194 none)]
theorem W.Zo {x0 a_0 a_1 a_2 a_3 a_4 a_5 a_6 a_7 a_8 a2_0 r} (h:Ic x0 a_0 a_1 a_2 a_3 a_4 a_5 a_6 a_7 a_8 a2_0=some r):PC G.P 107 [(vI x0),(.vptr [(vS a_0),(vS a_1),(vI a_2),(vI a_3),(vI a_4),(vI a_5),(.sl (List.map aB a_6)),(.sl (List.map aB a_7)),(.sl (List.map aU a_8))] 0),(.vptr [(vI a2_0)] 0)] [] (.tup [(vF 198 194 r.1),(vF 198 194 r.2)]) []:=by
 refine zU G Tryz.func107 (yK [0,1,2] [] (y3 2 [0,1,2] [] (zB (qM 8 (dN 3 ?_)))))
 obtain ⟨r5,hr5,h⟩:=aA h
 refine dC [] (W.Qj hr5) (dN 4 (dE ?_))
 obtain ⟨r6,hr6,h⟩:=aA h
 refine oP (W.Qj hr6) (oN 2 (zO fun u k=>?_))
 refine yE k [4,5] [] (zN fun u k=>?_)
 obtain rfl:=osi h
 exact zV k [(4,vF 198 194 r5),(5,vF 198 194 r6)]
theorem W.rQ {a r} (h:fP a=some r):PC G.P 237 [(vI a)] [] (vB r) []:=by
 refine zU G Tryz.func237 (yK [] [] (y3 1 [] [] (z8 1 ⟨[(2,vB true)],[]⟩ fun u k=>?_)))
 obtain rfl:=osi h
 exact zV k [(2,vB true)]
theorem W.rO {a r} (h:fM a=some r):PC G.P 236 [(.agg [])] [] (vB r) []:=by
 refine zU G Tryz.func236 (yK [0] [] (y3 2 [] [] (z8 1 ⟨[(2,vB false)],[]⟩ fun u k=>?_)))
 obtain rfl:=osi h
 exact zV k [(2,vB false)]
theorem W.Zp {from0 to1 a_0 r} (h:Ie from0 to1 a_0=some r):PC G.P 109 [(vI from0),(vI to1),(.vptr [(vI a_0)] 0)] [] (.agg (Bc r)) [(0,.box [(vI from0),(vI a_0),(vI to1),(vI a_0)])]:=by
 refine zU G Tryz.func109 (yK [0,1,2] [] (y3 1 [0,1,2,5] [5] (z8 6 ⟨[(5,.ptr 5 0)],[(5,.box [(vI from0),(vI a_0),(vI to1),(vI a_0)])]⟩ fun u k=>?_)))
 obtain rfl:=osi h
 exact qW k [(5,.ptr 0 0)] (sp [] [(5,0)])
theorem W.Cj {t r} (h:wP t=some r):PC G.P 154 [(vF 198 194 t)] [] (vI r) []:=by
 refine zU G Tryz.func154 (yK [0] [] (y3 1 [0] [] (y3 1 [5] [] (zC (z7 (fF (A7 (x:=t) Jb (by kernel_rfl)) ?_))))))
 refine y1 2 [5,7,8] [] (qc h (fun h=>?_) fun h=>?_)
 refine y3 1 [3] [] (z8 2 ⟨[(2,vI (Option.getD t 0))],[]⟩ fun u k=>?_)
 refine aT ?_
 obtain rfl:=osi h
 exact zV k [(2,vI (Option.getD t 0))]
 refine y3 1 [] [] (z8 1 ⟨[(2,vI (-1))],[]⟩ fun u k=>?_)
 refine aT ?_
 obtain rfl:=osi h
 exact zV k [(2,vI (-1))]
theorem W.Xi {s0 a b r} (h:Jy s0 a b=some r):PC G.P 153 [(.agg (Bc s0)),(vI a),(vI b)] [] (.agg (bF r.1)) [(0,.box [(vI s0.X1),(vI s0.Y1),(vI s0.X2),(vI s0.Y2),(vI r.2.1),(vI r.2.2)])]:=by
 refine zU G Tryz.func153 (yK [0,1,2] [] (y3 2 [1,2,3,6] [3,6] (bU (fun (j2:Int×Int)=>⟨[(1,vI j2.1),(2,vI j2.2),(3,.ptr 500000 0),(6,.ptr 500001 0)],[(500000,.box (Bc s0)),(500001,.box [(vI 0),(vI 0),(vI 0),(vI 0),(vI 0),(vI 0)])]⟩) (Ib s0) r (by kernel_rfl) (fun j2 h=>?_) ?_)))
 refine z8 5 ⟨[(6,.ptr 500001 0)],[(500001,.box [(vI s0.X1),(vI s0.Y1),(vI s0.X2),(vI s0.Y2),(vI j2.1),(vI j2.2)])]⟩ fun u k=>?_
 obtain rfl:=osi h
 exact qW k [(6,.ptr 0 0)] (sp [] [(500001,0)])
 refine zB ?_
 obtain ⟨j3,hj3,h⟩:=aA h
 refine zT ⟨[(1,vI a),(2,vI b),(3,.ptr 500000 0),(6,.ptr 500001 0),(17,vB j3)],[(500000,.box (Bc s0)),(500001,.box [(vI 0),(vI 0),(vI 0),(vI 0),(vI 0),(vI 0)])]⟩ ?_ fun u k=>?_
 replace h:=hj3
 refine zA 3 (qB h [1,2,3,6,9] [3,6] [9] (fun h=>?_) fun h=>?_)
 refine z6 8 fun u k=>?_
 cases h
 exact bH k (sp [] [(3,500000),(6,500001)])
 refine zA 3 (qB h [1,2,3,6,9,12] [3,6] [12] (fun h=>?_) fun h=>?_)
 refine z6 5 fun u k=>?_
 cases h
 exact bH k (sp [] [(3,500000),(6,500001)])
 refine z6 5 fun u k=>?_
 cases h
 exact bH k (sp [] [(3,500000),(6,500001)])
 refine yE k [1,2,3,6,17] [500000,500001] (qc h (fun h=>?_) fun h=>?_)
 refine zD (z6 4 fun u k=>?_)
 exact aV (b,a) h k (here (by kernel_rfl))
 refine zM fun u k=>?_
 exact aV (a,b) h k (here (by kernel_rfl))
theorem W.wM {ends sides_0_0 sides_0_1 sides_0_2 sides_0_3 sides_0_4 sides_0_5 sides_0_6 sides_0_7 sides_0_8 sides_1_0 line_0_0 r} (h:fJ ends sides_0_0 sides_0_1 sides_0_2 sides_0_3 sides_0_4 sides_0_5 sides_0_6 sides_0_7 sides_0_8 sides_1_0 line_0_0=some r):PC G.P 106 [(.sl (List.map cI ends)),(.fn 107 [(.vptr [(vS sides_0_0),(vS sides_0_1),(vI sides_0_2),(vI sides_0_3),(vI sides_0_4),(vI sides_0_5),(.sl (List.map aB sides_0_6)),(.sl (List.map aB sides_0_7)),(.sl (List.map aU sides_0_8))] 0),(.vptr [(vI sides_1_0)] 0)]),(.fn 109 [(.vptr [(vI line_0_0)] 0)])] [] (.row (.top 0) 74) [(0,.row 74 [] (List.map bF r))]:=by
 refine zU G Tryz.func106 (yK [0,1,2] [] (y3 1 [0,1,2] [] (y3 1 [0,1,2,7] [7] (y3 1 [0,1,2,7,8] [7] (z7 (zA 1 ?_))))))
 refine fF (Cf (x:=none) Jb (by kernel_rfl)) (zA 1 (fF (Cf (x:=none) Jb (by kernel_rfl)) (y1 2 [0,1,2,7,8,9,10] [7] (zB (z7 (zA 1 ?_))))))
 refine qL cI ends (y1 1 [0,1,2,7,8,9,10,19,20,21] [7] (zC ?_))
 obtain ⟨x492,hx492,h⟩:=aA h
 refine ql hx492 (fun s329=>⟨[(0,sI ends),(1,.fn 107 [(.vptr [(vS sides_0_0),(vS sides_0_1),(vI sides_0_2),(vI sides_0_3),(vI sides_0_4),(vI sides_0_5),(aW sides_0_6),(aW sides_0_7),(cZ sides_0_8)] 0),(.vptr [(vI sides_1_0)] 0)]),(2,.fn 109 [(.vptr [(vI line_0_0)] 0)]),(7,ro 500000 74),(8,vI s329.1),(9,vF 198 194 s329.2.1),(10,vF 198 194 s329.2.2.1),(19,sI ends),(20,vI (ends.length:Int)),(21,vI s329.2.2.2.1)],[(500000,iA 74 s329.2.2.2.2)]⟩) (fun x492=>(.exit 0,⟨[(7,ro 500000 74)],[(500000,iA 74 x492)]⟩)) (sp [] [(7,500000)]) (fun s329 r h=>?_) fun u k=>?_
 refine y3 1 [0,1,2,7,8,9,10,19,20,21,22] [500000] (zB (qc h (fun h=>?_) fun h=>?_))
 refine y4 [0,1,2,7,8,9,10,19,20,21] [500000] (bU (fun (j451:Int×(Option Int)×(Option Int)×(List EdgeT))=>⟨[(0,sI ends),(1,.fn 107 [(.vptr [(vS sides_0_0),(vS sides_0_1),(vI sides_0_2),(vI sides_0_3),(vI sides_0_4),(vI sides_0_5),(aW sides_0_6),(aW sides_0_7),(cZ sides_0_8)] 0),(.vptr [(vI sides_1_0)] 0)]),(2,.fn 109 [(.vptr [(vI line_0_0)] 0)]),(7,ro 500000 74),(8,vI j451.1),(9,vF 198 194 j451.2.1),(10,vF 198 194 j451.2.2.1),(19,sI ends),(20,vI (ends.length:Int)),(21,vI s329.2.2.2.1)],[(500000,iA 74 j451.2.2.2)]⟩) (iB s329) r (by kernel_rfl) (fun j451 h=>?_) ?_)
 refine zD (z6 2 fun u k=>?_)
 cases h
 exact zH k
 refine zC (z7 (zA 1 ?_))
 obtain ⟨x453,hx453,h⟩:=aA h
 refine qX cI hx453 (y1 3 [0,1,2,7,8,9,10,11,12,19,20,21] [500000] (z7 (zA 1 (fF (Cf (x:=none) Jb (by kernel_rfl)) (zA 1 (fF (Cf (x:=none) Jb (by kernel_rfl)) ?_))))))
 refine y1 2 [0,1,2,7,8,9,10,11,12,13,14,19,20,21] [500000] (bU (fun (j456:(Option Int)×(Option Int))=>⟨[(0,sI ends),(1,.fn 107 [(.vptr [(vS sides_0_0),(vS sides_0_1),(vI sides_0_2),(vI sides_0_3),(vI sides_0_4),(vI sides_0_5),(aW sides_0_6),(aW sides_0_7),(cZ sides_0_8)] 0),(.vptr [(vI sides_1_0)] 0)]),(2,.fn 109 [(.vptr [(vI line_0_0)] 0)]),(7,ro 500000 74),(8,vI s329.1),(9,vF 198 194 s329.2.1),(10,vF 198 194 s329.2.2.1),(12,vI x453),(13,vF 198 194 j456.1),(14,vF 198 194 j456.2),(19,sI ends),(20,vI (ends.length:Int)),(21,vI s329.2.2.2.1)],[(500000,iA 74 s329.2.2.2.2)]⟩) (iE line_0_0 s329 x453) r (by kernel_rfl) (fun j456 h=>?_) ?_)
 refine zB (zB ?_)
 obtain ⟨j458,hj458,h⟩:=aA h
 refine zT ⟨[(0,sI ends),(1,.fn 107 [(.vptr [(vS sides_0_0),(vS sides_0_1),(vI sides_0_2),(vI sides_0_3),(vI sides_0_4),(vI sides_0_5),(aW sides_0_6),(aW sides_0_7),(cZ sides_0_8)] 0),(.vptr [(vI sides_1_0)] 0)]),(2,.fn 109 [(.vptr [(vI line_0_0)] 0)]),(7,ro 500000 74),(8,vI s329.1),(9,vF 198 194 s329.2.1),(10,vF 198 194 s329.2.2.1),(12,vI x453),(13,vF 198 194 j456.1),(14,vF 198 194 j456.2),(19,sI ends),(20,vI (ends.length:Int)),(21,vI s329.2.2.2.1),(48,vB j458)],[(500000,iA 74 s329.2.2.2.2)]⟩ ?_ fun u k=>?_
 replace h:=hj458
 refine zA 2 (fF (EO (x:=j456.1) (y:=s329.2.1) Jb (by kernel_rfl)) (zA 1 (qB h [0,1,2,7,8,9,10,12,13,14,19,20,21,44] [500000] [44] (fun h=>?_) fun h=>?_)))
 refine zA 2 (fF (EO (x:=j456.2) (y:=s329.2.2.1) Jb (by kernel_rfl)) (z6 1 fun u k=>?_))
 cases h
 exact zG k
 refine z6 4 fun u k=>?_
 cases h
 exact zG k
 refine yE k [0,1,2,7,8,9,10,12,13,14,19,20,21,48] [500000] (qc h (fun h=>?_) fun h=>?_)
 refine zL 1 fun u k=>?_
 exact aQ (zQ (aV (s329.1,s329.2.1,s329.2.2.1,s329.2.2.2.2) h k (here (by kernel_rfl))))
 refine y4 [0,1,2,7,8,9,10,12,13,14,19,20,21] [500000] (bU (fun (j474:(List EdgeT))=>⟨[(0,sI ends),(1,.fn 107 [(.vptr [(vS sides_0_0),(vS sides_0_1),(vI sides_0_2),(vI sides_0_3),(vI sides_0_4),(vI sides_0_5),(aW sides_0_6),(aW sides_0_7),(cZ sides_0_8)] 0),(.vptr [(vI sides_1_0)] 0)]),(2,.fn 109 [(.vptr [(vI line_0_0)] 0)]),(7,ro 500000 74),(12,vI x453),(13,vF 198 194 j456.1),(14,vF 198 194 j456.2),(19,sI ends),(20,vI (ends.length:Int)),(21,vI s329.2.2.2.1)],[(500000,iA 74 j474)]⟩) (iD s329 x453 j456) r (by kernel_rfl) (fun j474 h=>?_) ?_)
 refine zD (z6 6 fun u k=>?_)
 exact aH (aV (x453,j456.1,j456.2,j474) h k (here (by kernel_rfl)))
 refine zB ?_
 obtain ⟨j477,hj477,h⟩:=aA h
 refine zT ⟨[(0,sI ends),(1,.fn 107 [(.vptr [(vS sides_0_0),(vS sides_0_1),(vI sides_0_2),(vI sides_0_3),(vI sides_0_4),(vI sides_0_5),(aW sides_0_6),(aW sides_0_7),(cZ sides_0_8)] 0),(.vptr [(vI sides_1_0)] 0)]),(2,.fn 109 [(.vptr [(vI line_0_0)] 0)]),(7,ro 500000 74),(8,vI s329.1),(9,vF 198 194 s329.2.1),(10,vF 198 194 s329.2.2.1),(12,vI x453),(13,vF 198 194 j456.1),(14,vF 198 194 j456.2),(19,sI ends),(20,vI (ends.length:Int)),(21,vI s329.2.2.2.1),(59,vB j477)],[(500000,iA 74 s329.2.2.2.2)]⟩ ?_ fun u k=>?_
 replace h:=hj477
 refine zA 2 (fF (SI (x:=s329.2.1) (y:=s329.2.2.1) Jb (by kernel_rfl)) (zA 1 (zS (s329.2.1==s329.2.2.1) (fun b0=>⟨[(0,sI ends),(1,.fn 107 [(.vptr [(vS sides_0_0),(vS sides_0_1),(vI sides_0_2),(vI sides_0_3),(vI sides_0_4),(vI sides_0_5),(aW sides_0_6),(aW sides_0_7),(cZ sides_0_8)] 0),(.vptr [(vI sides_1_0)] 0)]),(2,.fn 109 [(.vptr [(vI line_0_0)] 0)]),(7,ro 500000 74),(8,vI s329.1),(9,vF 198 194 s329.2.1),(10,vF 198 194 s329.2.2.1),(12,vI x453),(13,vF 198 194 j456.1),(14,vF 198 194 j456.2),(19,sI ends),(20,vI (ends.length:Int)),(21,vI s329.2.2.2.1),(52,vB (!b0))],[(500000,iA 74 s329.2.2.2.2)]⟩) (fun hb=>?_) fun hb=>?_)))
 replace h:=iK hb h
 refine z6 7 fun u k=>?_
 cases h
 exact zG k
 replace h:=iJ hb h
 refine zA 1 ?_
 obtain ⟨b478,hb478,h⟩:=aA h
 refine Yh (x:=s329.2.1) (r:=b478) Jb (by kernel_rfl) (FK hb478 (fun n h=>W.rQ h) (fun h=>W.rO h)) (zA 1 (qB h [0,1,2,7,8,9,10,12,13,14,19,20,21,52,55] [500000] [55] (fun h=>?_) fun h=>?_))
 refine z6 4 fun u k=>?_
 cases h
 exact zG k
 refine zA 1 ?_
 obtain ⟨b479,hb479,h⟩:=aA h
 refine Yh (x:=s329.2.2.1) (r:=b479) Jb (by kernel_rfl) (FK hb479 (fun n h=>W.rQ h) (fun h=>W.rO h)) (z6 2 fun u k=>?_)
 cases h
 exact zG k
 refine yE k [0,1,2,7,8,9,10,12,13,14,19,20,21,59] [500000] (qc h (fun h=>?_) fun h=>?_)
 refine zD (zA 4 ?_)
 obtain ⟨r485,hr485,h⟩:=aA h
 refine qC [] [(0,700200)] (W.Zp hr485) (zA 1 ?_)
 obtain ⟨r486,hr486,h⟩:=aA h
 refine qP (W.Cj hr486) (zA 1 ?_)
 obtain ⟨r487,hr487,h⟩:=aA h
 refine qP (W.Cj hr487) ?_
 obtain ⟨r488,hr488,h⟩:=aA h
 refine qC [] [(0,700450)] (W.Xi hr488) (zA 1 ?_)
 obtain ⟨l489,hl489,h⟩:=aA h
 refine qA bF 6 hl489 (z6 1 fun u k=>?_)
 exact aV l489 h k (here (by kernel_rfl))
 refine zM fun u k=>?_
 exact aV s329.2.2.2.2 h k (here (by kernel_rfl))
 refine z7 (zA 3 (qL cI ends (y1 1 [0,1,2,7,8,9,10,12,13,14,19,20,21,34] [500000] (qc h (fun h=>?_) fun h=>?_))))
 refine zD (zA 2 ?_)
 obtain ⟨r491,hr491,h⟩:=aA h
 refine qP (W.Zo hr491) (z6 5 fun u k=>?_)
 exact aV (r491.1,r491.2) h k (here (by kernel_rfl))
 refine zM fun u k=>?_
 exact aV (none,none) h k (here (by kernel_rfl))
 refine zL 0 fun u k=>?_
 refine aQ ?_
 cases h
 exact zF k
 refine zQ (yE k [7] [500000] (z8 2 ⟨[(6,ro 500000 74)],[(500000,iA 74 x492)]⟩ fun u k=>?_))
 obtain rfl:=osi h
 exact qW k [(6,ro 0 74)] (sp [] [(500000,0)])
theorem W.Zq {y a_0 a_1 a_2 a_3 a_4 a_5 a_6 a_7 a_8 a2_0 r} (h:Ig y a_0 a_1 a_2 a_3 a_4 a_5 a_6 a_7 a_8 a2_0=some r):PC G.P 110 [(vI y),(.vptr [(vS a_0),(vS a_1),(vI a_2),(vI a_3),(vI a_4),(vI a_5),(.sl (List.map aB a_6)),(.sl (List.map aB a_7)),(.sl (List.map aU a_8))] 0),(.vptr [(vI a2_0)] 0)] [] (.tup [(vF 198 194 r.1),(vF 198 194 r.2)]) []:=by
 refine zU G Tryz.func110 (yK [0,1,2] [] (y3 2 [0,1,2] [] (zB (qM 8 (dN 3 ?_)))))
 obtain ⟨r5,hr5,h⟩:=aA h
 refine dC [] (W.Qj hr5) (dN 4 (dE ?_))
 obtain ⟨r6,hr6,h⟩:=aA h
 refine oP (W.Qj hr6) (oN 2 (zO fun u k=>?_))
 refine yE k [4,5] [] (zN fun u k=>?_)
 obtain rfl:=osi h
 exact zV k [(4,vF 198 194 r5),(5,vF 198 194 r6)]
theorem W.Zr {from0 to1 a_0 r} (h:Ih from0 to1 a_0=some r):PC G.P 111 [(vI from0),(vI to1),(.vptr [(vI a_0)] 0)] [] (.agg (Bc r)) [(0,.box [(vI a_0),(vI from0),(vI a_0),(vI to1)])]:=by
 refine zU G Tryz.func111 (yK [0,1,2] [] (y3 1 [0,1,2,5] [5] (z8 6 ⟨[(5,.ptr 5 0)],[(5,.box [(vI a_0),(vI from0),(vI a_0),(vI to1)])]⟩ fun u k=>?_)))
 obtain rfl:=osi h
 exact qW k [(5,.ptr 0 0)] (sp [] [(5,0)])
theorem W.wO {ends sides_0_0 sides_0_1 sides_0_2 sides_0_3 sides_0_4 sides_0_5 sides_0_6 sides_0_7 sides_0_8 sides_1_0 line_0_0 r} (h:fK ends sides_0_0 sides_0_1 sides_0_2 sides_0_3 sides_0_4 sides_0_5 sides_0_6 sides_0_7 sides_0_8 sides_1_0 line_0_0=some r):PC G.P 106 [(.sl (List.map cI ends)),(.fn 110 [(.vptr [(vS sides_0_0),(vS sides_0_1),(vI sides_0_2),(vI sides_0_3),(vI sides_0_4),(vI sides_0_5),(.sl (List.map aB sides_0_6)),(.sl (List.map aB sides_0_7)),(.sl (List.map aU sides_0_8))] 0),(.vptr [(vI sides_1_0)] 0)]),(.fn 111 [(.vptr [(vI line_0_0)] 0)])] [] (.row (.top 0) 74) [(0,.row 74 [] (List.map bF r))]:=by
 refine zU G Tryz.func106 (yK [0,1,2] [] (y3 1 [0,1,2] [] (y3 1 [0,1,2,7] [7] (y3 1 [0,1,2,7,8] [7] (z7 (zA 1 ?_))))))
 refine fF (Cf (x:=none) Jb (by kernel_rfl)) (zA 1 (fF (Cf (x:=none) Jb (by kernel_rfl)) (y1 2 [0,1,2,7,8,9,10] [7] (zB (z7 (zA 1 ?_))))))
 refine qL cI ends (y1 1 [0,1,2,7,8,9,10,19,20,21] [7] (zC ?_))
 obtain ⟨x492,hx492,h⟩:=aA h
 refine ql hx492 (fun s329=>⟨[(0,sI ends),(1,.fn 110 [(.vptr [(vS sides_0_0),(vS sides_0_1),(vI sides_0_2),(vI sides_0_3),(vI sides_0_4),(vI sides_0_5),(aW sides_0_6),(aW sides_0_7),(cZ sides_0_8)] 0),(.vptr [(vI sides_1_0)] 0)]),(2,.fn 111 [(.vptr [(vI line_0_0)] 0)]),(7,ro 500000 74),(8,vI s329.1),(9,vF 198 194 s329.2.1),(10,vF 198 194 s329.2.2.1),(19,sI ends),(20,vI (ends.length:Int)),(21,vI s329.2.2.2.1)],[(500000,iA 74 s329.2.2.2.2)]⟩) (fun x492=>(.exit 0,⟨[(7,ro 500000 74)],[(500000,iA 74 x492)]⟩)) (sp [] [(7,500000)]) (fun s329 r h=>?_) fun u k=>?_
 refine y3 1 [0,1,2,7,8,9,10,19,20,21,22] [500000] (zB (qc h (fun h=>?_) fun h=>?_))
 refine y4 [0,1,2,7,8,9,10,19,20,21] [500000] (bU (fun (j451:Int×(Option Int)×(Option Int)×(List EdgeT))=>⟨[(0,sI ends),(1,.fn 110 [(.vptr [(vS sides_0_0),(vS sides_0_1),(vI sides_0_2),(vI sides_0_3),(vI sides_0_4),(vI sides_0_5),(aW sides_0_6),(aW sides_0_7),(cZ sides_0_8)] 0),(.vptr [(vI sides_1_0)] 0)]),(2,.fn 111 [(.vptr [(vI line_0_0)] 0)]),(7,ro 500000 74),(8,vI j451.1),(9,vF 198 194 j451.2.1),(10,vF 198 194 j451.2.2.1),(19,sI ends),(20,vI (ends.length:Int)),(21,vI s329.2.2.2.1)],[(500000,iA 74 j451.2.2.2)]⟩) (iF s329) r (by kernel_rfl) (fun j451 h=>?_) ?_)
 refine zD (z6 2 fun u k=>?_)
 cases h
 exact zH k
 refine zC (z7 (zA 1 ?_))
 obtain ⟨x453,hx453,h⟩:=aA h
 refine qX cI hx453 (y1 3 [0,1,2,7,8,9,10,11,12,19,20,21] [500000] (z7 (zA 1 (fF (Cf (x:=none) Jb (by kernel_rfl)) (zA 1 (fF (Cf (x:=none) Jb (by kernel_rfl)) ?_))))))
 refine y1 2 [0,1,2,7,8,9,10,11,12,13,14,19,20,21] [500000] (bU (fun (j456:(Option Int)×(Option Int))=>⟨[(0,sI ends),(1,.fn 110 [(.vptr [(vS sides_0_0),(vS sides_0_1),(vI sides_0_2),(vI sides_0_3),(vI sides_0_4),(vI sides_0_5),(aW sides_0_6),(aW sides_0_7),(cZ sides_0_8)] 0),(.vptr [(vI sides_1_0)] 0)]),(2,.fn 111 [(.vptr [(vI line_0_0)] 0)]),(7,ro 500000 74),(8,vI s329.1),(9,vF 198 194 s329.2.1),(10,vF 198 194 s329.2.2.1),(12,vI x453),(13,vF 198 194 j456.1),(14,vF 198 194 j456.2),(19,sI ends),(20,vI (ends.length:Int)),(21,vI s329.2.2.2.1)],[(500000,iA 74 s329.2.2.2.2)]⟩) (iH line_0_0 s329 x453) r (by kernel_rfl) (fun j456 h=>?_) ?_)
 refine zB (zB ?_)
 obtain ⟨j458,hj458,h⟩:=aA h
 refine zT ⟨[(0,sI ends),(1,.fn 110 [(.vptr [(vS sides_0_0),(vS sides_0_1),(vI sides_0_2),(vI sides_0_3),(vI sides_0_4),(vI sides_0_5),(aW sides_0_6),(aW sides_0_7),(cZ sides_0_8)] 0),(.vptr [(vI sides_1_0)] 0)]),(2,.fn 111 [(.vptr [(vI line_0_0)] 0)]),(7,ro 500000 74),(8,vI s329.1),(9,vF 198 194 s329.2.1),(10,vF 198 194 s329.2.2.1),(12,vI x453),(13,vF 198 194 j456.1),(14,vF 198 194 j456.2),(19,sI ends),(20,vI (ends.length:Int)),(21,vI s329.2.2.2.1),(48,vB j458)],[(500000,iA 74 s329.2.2.2.2)]⟩ ?_ fun u k=>?_
 replace h:=hj458
 refine zA 2 (fF (EO (x:=j456.1) (y:=s329.2.1) Jb (by kernel_rfl)) (zA 1 (qB h [0,1,2,7,8,9,10,12,13,14,19,20,21,44] [500000] [44] (fun h=>?_) fun h=>?_)))
 refine zA 2 (fF (EO (x:=j456.2) (y:=s329.2.2.1) Jb (by kernel_rfl)) (z6 1 fun u k=>?_))
 cases h
 exact zG k
 refine z6 4 fun u k=>?_
 cases h
 exact zG k
 refine yE k [0,1,2,7,8,9,10,12,13,14,19,20,21,48] [500000] (qc h (fun h=>?_) fun h=>?_)
 refine zL 1 fun u k=>?_
 exact aQ (zQ (aV (s329.1,s329.2.1,s329.2.2.1,s329.2.2.2.2) h k (here (by kernel_rfl))))
 refine y4 [0,1,2,7,8,9,10,12,13,14,19,20,21] [500000] (bU (fun (j474:(List EdgeT))=>⟨[(0,sI ends),(1,.fn 110 [(.vptr [(vS sides_0_0),(vS sides_0_1),(vI sides_0_2),(vI sides_0_3),(vI sides_0_4),(vI sides_0_5),(aW sides_0_6),(aW sides_0_7),(cZ sides_0_8)] 0),(.vptr [(vI sides_1_0)] 0)]),(2,.fn 111 [(.vptr [(vI line_0_0)] 0)]),(7,ro 500000 74),(12,vI x453),(13,vF 198 194 j456.1),(14,vF 198 194 j456.2),(19,sI ends),(20,vI (ends.length:Int)),(21,vI s329.2.2.2.1)],[(500000,iA 74 j474)]⟩) (iG s329 x453 j456) r (by kernel_rfl) (fun j474 h=>?_) ?_)
 refine zD (z6 6 fun u k=>?_)
 exact aH (aV (x453,j456.1,j456.2,j474) h k (here (by kernel_rfl)))
 refine zB ?_
 obtain ⟨j477,hj477,h⟩:=aA h
 refine zT ⟨[(0,sI ends),(1,.fn 110 [(.vptr [(vS sides_0_0),(vS sides_0_1),(vI sides_0_2),(vI sides_0_3),(vI sides_0_4),(vI sides_0_5),(aW sides_0_6),(aW sides_0_7),(cZ sides_0_8)] 0),(.vptr [(vI sides_1_0)] 0)]),(2,.fn 111 [(.vptr [(vI line_0_0)] 0)]),(7,ro 500000 74),(8,vI s329.1),(9,vF 198 194 s329.2.1),(10,vF 198 194 s329.2.2.1),(12,vI x453),(13,vF 198 194 j456.1),(14,vF 198 194 j456.2),(19,sI ends),(20,vI (ends.length:Int)),(21,vI s329.2.2.2.1),(59,vB j477)],[(500000,iA 74 s329.2.2.2.2)]⟩ ?_ fun u k=>?_
 replace h:=hj477
 refine zA 2 (fF (SI (x:=s329.2.1) (y:=s329.2.2.1) Jb (by kernel_rfl)) (zA 1 (zS (s329.2.1==s329.2.2.1) (fun b0=>⟨[(0,sI ends),(1,.fn 110 [(.vptr [(vS sides_0_0),(vS sides_0_1),(vI sides_0_2),(vI sides_0_3),(vI sides_0_4),(vI sides_0_5),(aW sides_0_6),(aW sides_0_7),(cZ sides_0_8)] 0),(.vptr [(vI sides_1_0)] 0)]),(2,.fn 111 [(.vptr [(vI line_0_0)] 0)]),(7,ro 500000 74),(8,vI s329.1),(9,vF 198 194 s329.2.1),(10,vF 198 194 s329.2.2.1),(12,vI x453),(13,vF 198 194 j456.1),(14,vF 198 194 j456.2),(19,sI ends),(20,vI (ends.length:Int)),(21,vI s329.2.2.2.1),(52,vB (!b0))],[(500000,iA 74 s329.2.2.2.2)]⟩) (fun hb=>?_) fun hb=>?_)))
 replace h:=iK hb h
 refine z6 7 fun u k=>?_
 cases h
 exact zG k
 replace h:=iJ hb h
 refine zA 1 ?_
 obtain ⟨b478,hb478,h⟩:=aA h
 refine Yh (x:=s329.2.1) (r:=b478) Jb (by kernel_rfl) (FK hb478 (fun n h=>W.rQ h) (fun h=>W.rO h)) (zA 1 (qB h [0,1,2,7,8,9,10,12,13,14,19,20,21,52,55] [500000] [55] (fun h=>?_) fun h=>?_))
 refine z6 4 fun u k=>?_
 cases h
 exact zG k
 refine zA 1 ?_
 obtain ⟨b479,hb479,h⟩:=aA h
 refine Yh (x:=s329.2.2.1) (r:=b479) Jb (by kernel_rfl) (FK hb479 (fun n h=>W.rQ h) (fun h=>W.rO h)) (z6 2 fun u k=>?_)
 cases h
 exact zG k
 refine yE k [0,1,2,7,8,9,10,12,13,14,19,20,21,59] [500000] (qc h (fun h=>?_) fun h=>?_)
 refine zD (zA 4 ?_)
 obtain ⟨r485,hr485,h⟩:=aA h
 refine qC [] [(0,700200)] (W.Zr hr485) (zA 1 ?_)
 obtain ⟨r486,hr486,h⟩:=aA h
 refine qP (W.Cj hr486) (zA 1 ?_)
 obtain ⟨r487,hr487,h⟩:=aA h
 refine qP (W.Cj hr487) ?_
 obtain ⟨r488,hr488,h⟩:=aA h
 refine qC [] [(0,700450)] (W.Xi hr488) (zA 1 ?_)
 obtain ⟨l489,hl489,h⟩:=aA h
 refine qA bF 6 hl489 (z6 1 fun u k=>?_)
 exact aV l489 h k (here (by kernel_rfl))
 refine zM fun u k=>?_
 exact aV s329.2.2.2.2 h k (here (by kernel_rfl))
 refine z7 (zA 3 (qL cI ends (y1 1 [0,1,2,7,8,9,10,12,13,14,19,20,21,34] [500000] (qc h (fun h=>?_) fun h=>?_))))
 refine zD (zA 2 ?_)
 obtain ⟨r491,hr491,h⟩:=aA h
 refine qP (W.Zq hr491) (z6 5 fun u k=>?_)
 exact aV (r491.1,r491.2) h k (here (by kernel_rfl))
 refine zM fun u k=>?_
 exact aV (none,none) h k (here (by kernel_rfl))
 refine zL 0 fun u k=>?_
 refine aQ ?_
 cases h
 exact zF k
 refine zQ (yE k [7] [500000] (z8 2 ⟨[(6,ro 500000 74)],[(500000,iA 74 x492)]⟩ fun u k=>?_))
 obtain rfl:=osi h
 exact qW k [(6,ro 0 74)] (sp [] [(500000,0)])
theorem W.EY {l r} (h:Jz l=some r):PC G.P 49 [(.agg (aR l))] [] (.row (.top 0) 74) [(0,.row 74 [] (List.map bF r))]:=by
 refine zU G Tryz.func49 (yK [0] [] (y3 2 [1] [1] (y3 2 [1,3,4] [1,3,4] (zB (z7 (zA 2 ?_))))))
 refine qL aU l.Pieces (y1 1 [1,3,4,15,16,17] [1,3,4] (zC ?_))
 obtain ⟨x498,hx498,h⟩:=aA h
 refine ql hx498 (fun s333=>⟨[(1,.ptr 500000 0),(3,ro 500001 3),(4,ro 500002 3),(15,cZ l.Pieces),(16,vI (l.Pieces.length:Int)),(17,vI s333.1)],[(500000,.box (aR l)),(500001,wI 3 s333.2.1),(500002,wI 3 s333.2.2)]⟩) (fun x498=>(.exit 0,⟨[(1,.ptr 500000 0),(3,ro 500001 3),(4,ro 500002 3)],[(500000,.box (aR l)),(500001,wI 3 x498.1),(500002,wI 3 x498.2)]⟩)) (sp [] [(1,500000),(3,500001),(4,500002)]) (fun s333 r h=>?_) fun u k=>?_
 refine y3 1 [1,3,4,15,16,17,18] [500000,500001,500002] (zB (qc h (fun h=>?_) fun h=>?_))
 refine y4 [1,3,4,15,16,17] [500000,500001,500002] (zB (zC (z7 ?_)))
 obtain ⟨x458,hx458,h⟩:=aA h
 refine qX aU hx458 (y1 3 [1,3,4,6,15,16,17] [6,500000,500001,500002] (z7 (zA 2 (qL aB x458.Rects (y1 1 [1,3,4,15,16,17,22,23,24] [500000,500001,500002] (zC ?_))))))
 obtain ⟨x497,hx497,h⟩:=aA h
 refine ql hx497 (fun s472=>⟨[(1,.ptr 500000 0),(3,ro 500001 3),(4,ro 500002 3),(15,cZ l.Pieces),(16,vI (l.Pieces.length:Int)),(17,vI s333.1),(22,aW x458.Rects),(23,vI (x458.Rects.length:Int)),(24,vI s472.1)],[(500000,.box (aR l)),(500001,wI 3 s472.2.1),(500002,wI 3 s472.2.2)]⟩) (fun x497=>(.exit 2,⟨[(1,.ptr 500000 0),(3,ro 500001 3),(4,ro 500002 3),(15,cZ l.Pieces),(16,vI (l.Pieces.length:Int)),(17,vI s333.1)],[(500000,.box (aR l)),(500001,wI 3 x497.1),(500002,wI 3 x497.2)]⟩)) qH (fun s472 r h=>?_) fun u k=>?_
 refine y3 1 [1,3,4,15,16,17,22,23,24,25] [500000,500001,500002] (zB (qc h (fun h=>?_) fun h=>?_))
 refine y4 [1,3,4,15,16,17,22,23,24] [500000,500001,500002] (zB (zC (z7 ?_)))
 obtain ⟨x492,hx492,h⟩:=aA h
 refine qX aB hx492 (y1 3 [1,3,4,8,15,16,17,22,23,24] [8,500000,500001,500002] (z7 (zA 9 ?_)))
 obtain ⟨l494,hl494,h⟩:=aA h
 refine qA cI 1 hl494 (y1 1 [1,3,4,8,15,16,17,22,23,24] [8,500000,500001,500002] (zD (zA 9 ?_)))
 obtain ⟨l496,hl496,h⟩:=aA h
 refine qA cI 1 hl496 (z6 1 fun u k=>?_)
 refine aH (yE k [1,3,4,15,16,17,22,23,24] [500000,500001,500002] (zD (z6 2 fun u k=>?_)))
 cases h
 exact zH k
 refine zL 2 fun u k=>?_
 refine aQ ?_
 cases h
 exact zF k
 refine zQ (aH (yE k [1,3,4,15,16,17] [500000,500001,500002] (zD (z6 2 fun u k=>?_))))
 cases h
 exact zH k
 refine zL 0 fun u k=>?_
 refine aQ ?_
 cases h
 exact zF k
 refine zQ (yE k [1,3,4] [500000,500001,500002] (z7 (zA 1 ?_)))
 obtain ⟨r501,hr501,h⟩:=aA h
 refine qC [(300000,500001)] [(0,700050)] (W.Zv hr501) (zA 1 ?_)
 obtain ⟨r502,hr502,h⟩:=aA h
 refine qC [(300000,500002)] [(0,700150)] (W.Zv hr502) (y1 2 [1,3,4] [500000,700050,700150] (y3 1 [1,3,4,9] [9,500000,700050,700150] (zB (z7 (zA 1 (qL cI r502 ?_))))))
 refine y1 1 [1,3,4,9,54,55,56] [9,500000,700050,700150] (zC ?_)
 obtain ⟨x580,hx580,h⟩:=aA h
 refine ql hx580 (fun s555=>⟨[(1,.ptr 500000 0),(3,ro 500001 3),(4,ro 500002 3),(9,ro 500003 74),(54,ro 500002 3),(55,vI (r502.length:Int)),(56,vI s555.1)],[(500000,.box (aR l)),(500001,wI 3 r501),(500002,wI 3 r502),(500003,iA 74 s555.2)]⟩) (fun x580=>(.exit 4,⟨[(1,.ptr 500000 0),(3,ro 500001 3),(4,ro 500002 3),(9,ro 500003 74)],[(500000,.box (aR l)),(500001,wI 3 r501),(500002,wI 3 r502),(500003,iA 74 x580)]⟩)) (sp [] [(9,500003),(500000,500000),(700050,500001),(700150,500002)]) (fun s555 r h=>?_) fun u k=>?_
 refine y3 1 [1,3,4,9,54,55,56,57] [500000,500001,500002,500003] (zB (qc h (fun h=>?_) fun h=>?_))
 refine y4 [1,3,4,9,54,55,56] [500000,500001,500002,500003] (zB (zC (z7 ?_)))
 obtain ⟨x575,hx575,h⟩:=aA h
 refine qI cI hx575 (qR cI hx575 (y1 2 [1,3,4,9,11,54,55,56] [11,500000,500001,500002,500003] (zD (zA 4 ?_))))
 obtain ⟨r578,hr578,h⟩:=aA h
 refine yR [] [(0,700200)] [500001,500000,11] (by kernel_rfl) (W.wM hr578) (by kernel_rfl) (by kernel_rfl) (.inr ⟨rfl,fun _ _=>Po (Ux fun _=>rfl) (fun _ _=>Ym)⟩) ?_
 obtain ⟨l579,hl579,h⟩:=aA h
 refine qA bF 6 hl579 (z6 1 fun u k=>?_)
 refine aH (yE k [1,3,4,9,54,55,56] [500000,500001,500002,500003] (zD (z6 2 fun u k=>?_)))
 cases h
 exact zH k
 refine zL 4 fun u k=>?_
 refine aQ ?_
 cases h
 exact zF k
 refine zQ (yE k [1,3,4,9] [500000,500001,500002,500003] (zB (z7 (zA 1 (qL cI r501 (y1 1 [1,4,9,67,68,69] [500000,500001,500002,500003] ?_))))))
 refine zC ?_
 obtain ⟨x658,hx658,h⟩:=aA h
 refine ql hx658 (fun s633=>⟨[(1,.ptr 500000 0),(4,ro 500001 3),(9,ro 500002 74),(67,ro 500003 3),(68,vI (r501.length:Int)),(69,vI s633.1)],[(500000,.box (aR l)),(500001,wI 3 r502),(500002,iA 74 s633.2),(500003,wI 3 r501)]⟩) (fun x658=>(.exit 6,⟨[(9,ro 500000 74)],[(500000,iA 74 x658)]⟩)) (sp [] [(500000,500000),(500001,500003),(500002,500001),(500003,500002)]) (fun s633 r h=>?_) fun u k=>?_
 refine y3 1 [1,4,9,67,68,69,70] [500000,500001,500002,500003] (zB (qc h (fun h=>?_) fun h=>?_))
 refine y4 [1,4,9,67,68,69] [500000,500001,500002,500003] (zB (zC (z7 ?_)))
 obtain ⟨x653,hx653,h⟩:=aA h
 refine qI cI hx653 (qR cI hx653 (y1 2 [1,4,9,13,67,68,69] [13,500000,500001,500002,500003] (zD (zA 4 ?_))))
 obtain ⟨r656,hr656,h⟩:=aA h
 refine yR [] [(0,700200)] [500001,500000,13] (by kernel_rfl) (W.wO hr656) (by kernel_rfl) (by kernel_rfl) (.inr ⟨rfl,fun _ _=>Po (Ux fun _=>rfl) (fun _ _=>Ym)⟩) ?_
 obtain ⟨l657,hl657,h⟩:=aA h
 refine qA bF 6 hl657 (z6 1 fun u k=>?_)
 refine aH (yE k [1,4,9,67,68,69] [500000,500001,500002,500003] (zD (z6 2 fun u k=>?_)))
 cases h
 exact zH k
 refine zL 6 fun u k=>?_
 refine aQ ?_
 cases h
 exact xI k rfl (sp [] [(500002,500000)])
 refine zQ (yE k [9] [500000] (z8 2 ⟨[(2,ro 500000 74)],[(500000,iA 74 x658)]⟩ fun u k=>?_))
 obtain rfl:=osi h
 exact qW k [(2,ro 0 74)] (sp [] [(500000,0)])
theorem W.Eb {l r} (h:Bd l=some r):PC G.P 14 [(.agg (aR l))] [] (.tup [(.row (.top 0) 74),(vI r.2)]) [(0,.row 74 [] (List.map bF r.1))]:=by
 refine zU G Tryz.func14 (yK [0] [] (y3 3 [1] [1] (zB (z7 (zA 1 ?_)))))
 obtain ⟨r4,hr4,h⟩:=aA h
 refine qP (W.Xy hr4) (y1 1 [1,4] [1] (y3 2 [1,4,8] [1] (qc h (fun h=>?_) fun h=>?_)))
 refine z8 3 ⟨[(2,ro 2 74),(3,vI r4)],[(2,iA 74 [])]⟩ fun u k=>?_
 refine aO ?_
 obtain rfl:=osi h
 exact qW k [(2,ro 0 74),(3,vI r4)] (sp [] [(2,0)])
 refine y4 [1] [1] (z7 (zA 1 ?_))
 obtain ⟨r6,hr6,h⟩:=aA h
 refine qC [] [(0,700050)] (W.EY hr6) (y1 2 [2,3] [700050] (zN fun u k=>?_))
 obtain rfl:=osi h
 exact qW k [(2,ro 0 74),(3,vI 0)] (sp [] [(700050,0)])
theorem W.lV {n h0 r} (h:fZ n h0=some r):PC G.P 182 [(.row (.top 300000) 3),(vI n)] [(300000,.row 3 [] (List.map cI h0))] (.row (.top 0) 3) [(0,.row 3 [] (List.map cI r))]:=by
 refine zU G Tryz.func182 (yK [0,1] [300000] (y3 1 [0,1] [300000] (z7 (zA 1 (qL cI h0 (y1 1 [0,1,5] [300000] ?_))))))
 refine zB (zC ?_)
 obtain ⟨x42,hx42,h⟩:=aA h
 refine ql hx42 (fun s29=>⟨[(0,ro 500000 3),(1,vI n),(5,vI s29)],[(500000,wI 3 h0)]⟩) (fun x42=>(.exit 0,⟨[(0,ro 500000 3),(1,vI n),(5,vI x42)],[(500000,wI 3 h0)]⟩)) (sp [] [(300000,500000)]) (fun s29 r h=>?_) fun u k=>?_
 refine zB (zB ?_)
 obtain ⟨j40,hj40,h⟩:=aA h
 refine zT ⟨[(0,ro 500000 3),(1,vI n),(5,vI s29),(19,vB j40)],[(500000,wI 3 h0)]⟩ ?_ fun u k=>?_
 replace h:=hj40
 refine zA 3 (qB h [0,1,5,11] [500000] [11] (fun h=>?_) fun h=>?_)
 refine zA 3 ?_
 obtain ⟨x41,hx41,h⟩:=aA h
 refine qI cI hx41 (qR cI hx41 (z6 3 fun u k=>?_))
 cases h
 exact zG k
 refine z6 8 fun u k=>?_
 cases h
 exact zG k
 refine yE k [0,1,5,19] [500000] (qc h (fun h=>?_) fun h=>?_)
 refine y4 [0,1,5] [500000] (zC (zD (z6 3 fun u k=>?_)))
 refine aH ?_
 cases h
 exact zH k
 refine zL 0 fun u k=>?_
 refine aQ ?_
 cases h
 exact zF k
 refine zQ (yE k [0,1,5] [500000] (zB (zB ?_)))
 obtain ⟨j47,hj47,h⟩:=aA h
 refine zT ⟨[(0,ro 500000 3),(1,vI n),(5,vI x42),(32,vB j47)],[(500000,wI 3 h0)]⟩ ?_ fun u k=>?_
 replace h:=hj47
 refine zA 3 (qB h [0,1,5,24] [500000] [24] (fun h=>?_) fun h=>?_)
 refine zA 3 ?_
 obtain ⟨x48,hx48,h⟩:=aA h
 refine qI cI hx48 (qR cI hx48 (z6 3 fun u k=>?_))
 cases h
 exact zG k
 refine z6 8 fun u k=>?_
 cases h
 exact zG k
 refine yE k [0,1,5,32] [500000] (qc h (fun h=>?_) fun h=>?_)
 refine z8 2 ⟨[(4,ro 500000 3)],[(500000,wI 3 h0)]⟩ fun u k=>?_
 refine aO ?_
 obtain rfl:=osi h
 exact qW k [(4,ro 0 3)] (sp [] [(500000,0)])
 refine y4 [0,1,5] [500000] (z7 (zA 2 ?_))
 obtain ⟨l50,hl50,h⟩:=aA h
 refine qA cI 1 hl50 (y1 1 [0,1,5] [500000] (zB (z7 (zA 1 (qL cI l50 (y1 2 [0,1,5,6] [500000] ?_))))))
 refine zC ?_
 obtain ⟨x104,hx104,h⟩:=aA h
 refine ql hx104 (fun s87=>⟨[(0,ro 500000 3),(1,vI n),(5,vI x42),(6,vI s87.1)],[(500000,wI 3 s87.2)]⟩) (fun x104=>(.exit 2,⟨[(0,ro 500000 3),(1,vI n),(5,vI x42)],[(500000,wI 3 x104)]⟩)) qH (fun s87 r h=>?_) fun u k=>?_
 refine zB (y3 3 [0,1,5,6,42] [500000] (qc h (fun h=>?_) fun h=>?_))
 refine y4 [0,1,5,6] [500000] (zB (zC (zD (zA 5 ?_))))
 obtain ⟨x102,hx102,h⟩:=aA h
 refine qI cI hx102 (qR cI hx102 ?_)
 obtain ⟨x103,hx103,h⟩:=aA h
 refine qI cI hx103 (qS cI x102 hx103 (zP fun u k=>?_))
 refine aH (yE k [0,1,5,6] [500000] (zD (z6 3 fun u k=>?_)))
 cases h
 exact zH k
 refine zL 2 fun u k=>?_
 refine aQ ?_
 cases h
 exact zF k
 refine zQ (yE k [0,1,5] [500000] (z7 (zA 3 ?_)))
 obtain ⟨x106,hx106,h⟩:=aA h
 refine qI cI hx106 (qS cI n hx106 (zP fun u k=>?_))
 refine yE k [0] [500000] (z8 2 ⟨[(4,ro 500000 3)],[(500000,wI 3 (List.set x104 (Int.toNat x42) n))]⟩ fun u k=>?_)
 obtain rfl:=osi h
 exact qW k [(4,ro 0 3)] (sp [] [(500000,0)])
theorem W.Lr {l r} (h:sM l=some r):PC G.P 155 [(.sl (List.map aB l))] [] (.tup [(.row (.top 0) 3),(.row (.top 1) 3)]) [(0,.row 3 [] (List.map cI r.1)),(1,.row 3 [] (List.map cI r.2))]:=by
 refine zU G Tryz.func155 (yK [0] [] (y3 2 [0] [] (y3 2 [0,4,5] [4,5] (zB (y3 1 [0,4,5,6] [4,5] (zC ?_))))))
 obtain ⟨x318,hx318,h⟩:=aA h
 refine ql hx318 (fun s213=>⟨[(0,aW l),(4,ro 500000 3),(5,ro 500001 3),(6,vI s213.1)],[(500000,wI 3 s213.2.1),(500001,wI 3 s213.2.2)]⟩) (fun x318=>(.exit 0,⟨[(4,ro 500000 3),(5,ro 500001 3)],[(500000,wI 3 x318.1),(500001,wI 3 x318.2)]⟩)) (sp [] [(4,500000),(5,500001)]) (fun s213 r h=>?_) fun u k=>?_
 refine zB (z7 (zA 2 (qL aB l (y1 1 [0,4,5,6,10] [500000,500001] (qc h (fun h=>?_) fun h=>?_)))))
 refine y4 [0,4,5,6] [500000,500001] (zB (zC (z7 (zA 3 ?_))))
 obtain ⟨x294,hx294,h⟩:=aA h
 refine qX aB hx294 (zA 2 ?_)
 obtain ⟨r295,hr295,h⟩:=aA h
 refine qC [(300000,500000)] [(0,700300)] (W.lV hr295) (y1 1 [0,4,5,6] [500001,700300] (zB (qM 12 (dN 3 ?_))))
 obtain ⟨x302,hx302,h⟩:=aA h
 refine dX aB hx302 (dN 4 ?_)
 obtain ⟨x303,hx303,h⟩:=aA h
 refine dX aB hx303 (dN 3 (dE ?_))
 obtain ⟨r304,hr304,h⟩:=aA h
 refine oC [(300000,700300)] [(0,700600)] (W.lV hr304) (oN 1 (zO fun u k=>?_))
 refine yE k [0,4,5,6] [500001,700600] (z7 (zA 3 ?_))
 obtain ⟨x307,hx307,h⟩:=aA h
 refine qX aB hx307 (zA 2 ?_)
 obtain ⟨r308,hr308,h⟩:=aA h
 refine qC [(300000,500001)] [(0,700300)] (W.lV hr308) (y1 1 [0,4,5,6] [700300,700600] (qM 12 (dN 3 ?_)))
 obtain ⟨x315,hx315,h⟩:=aA h
 refine dX aB hx315 (dN 4 ?_)
 obtain ⟨x316,hx316,h⟩:=aA h
 refine dX aB hx316 (dN 3 (dE ?_))
 obtain ⟨r317,hr317,h⟩:=aA h
 refine oC [(300000,700300)] [(0,700601)] (W.lV hr317) (oN 1 (zO fun u k=>?_))
 refine aH (yE k [0,4,5,6] [700600,700601] (zD (z6 3 fun u k=>?_)))
 cases h
 exact Px k (sp [] [(700600,500000),(700601,500001)])
 refine zL 0 fun u k=>?_
 refine aQ ?_
 cases h
 exact zF k
 refine zQ (yE k [4,5] [500000,500001] (z8 4 ⟨[(2,ro 500000 3),(3,ro 500001 3)],[(500000,wI 3 x318.1),(500001,wI 3 x318.2)]⟩ fun u k=>?_))
 obtain rfl:=osi h
 exact qW k [(2,ro 0 3),(3,ro 1 3)] (sp [] [(500000,0),(500001,1)])
theorem W.Ht {l x1 y r} (h:oL l x1 y=some r):PC G.P 200 [(.sl (List.map aB l)),(vI x1),(vI y)] [] (vB r) []:=by
 refine zU G Tryz.func200 (yK [0,1,2] [] (y3 1 [0,1,2] [] (zB (y3 1 [0,1,2,7] [] (zC ?_)))))
 obtain ⟨x44,hx44,h⟩:=aA h
 refine ql hx44 (fun s31=>⟨[(0,aW l),(1,vI x1),(2,vI y),(7,vI s31)],[]⟩) (fun x44=>match x44 with | .inl j45=>(.ret,⟨[(6,vB true)],[]⟩) | .inr j46=>(.exit 0,⟨[],[]⟩)) qH (fun s31 r h=>?_) (fun u k=>?_) (hout:=(by intro x;rcases x with _ | _ <;> rfl))
 refine zB (z7 (zA 2 (qL aB l (y1 1 [0,1,2,7,12] [] (qc h (fun h=>?_) fun h=>?_)))))
 refine y4 [0,1,2,7] [] (zB (zC (z7 (zA 2 ?_))))
 obtain ⟨x42,hx42,h⟩:=aA h
 refine qX aB hx42 (y1 3 [0,1,2,7,8] [8] (zB ?_))
 obtain ⟨j43,hj43,h⟩:=aA h
 refine zT ⟨[(0,aW l),(1,vI x1),(2,vI y),(7,vI s31),(46,vB j43)],[]⟩ ?_ fun u k=>?_
 replace h:=hj43
 refine zA 5 (qB h [0,1,2,7,8,23] [8] [23] (fun h=>?_) fun h=>?_)
 refine zA 9 (qB h [0,1,2,7,8,32] [8] [32] (fun h=>?_) fun h=>?_)
 refine zA 6 (qB h [0,1,2,7,8,38] [8] [38] (fun h=>?_) fun h=>?_)
 refine z6 8 fun u k=>?_
 cases h
 exact zG k
 refine z6 8 fun u k=>?_
 cases h
 exact zG k
 refine z6 14 fun u k=>?_
 cases h
 exact zG k
 refine z6 23 fun u k=>?_
 cases h
 exact zG k
 refine yE k [0,1,2,7,46] [] (qc h (fun h=>?_) fun h=>?_)
 refine z8 1 ⟨[(6,vB true)],[]⟩ fun u k=>?_
 refine aT (aO ?_)
 cases h
 exact zF k
 refine zM fun u k=>?_
 refine aH (yE k [0,1,2,7] [] (zD (z6 3 fun u k=>?_)))
 cases h
 exact zH k
 refine zL 0 fun u k=>?_
 refine aQ ?_
 cases h
 exact zF k
 rcases x44 with j45 | j46
 refine aT (aO ?_)
 obtain rfl:=osi h
 exact zV k [(6,vB true)]
 refine zQ (yE k [] [] (z8 1 ⟨[(6,vB false)],[]⟩ fun u k=>?_))
 obtain rfl:=osi h
 exact zV k [(6,vB false)]
theorem W.Jg {regions x1 y r} (h:qF regions x1 y=some r):PC G.P 183 [(.sl (List.map (cS aB) regions)),(vI x1),(vI y)] [] (vI r) []:=by
 refine zU G Tryz.func183 (yK [0,1,2] [] (y3 1 [0,1,2] [] (zB (y3 1 [0,1,2,7] [] (zC ?_)))))
 obtain ⟨x56,hx56,h⟩:=aA h
 refine ql hx56 (fun s39=>⟨[(0,.sl (List.map (cS aB) regions)),(1,vI x1),(2,vI y),(7,vI s39)],[]⟩) (fun x56=>match x56 with | .inl j57=>(.ret,⟨[(6,vI j57)],[]⟩) | .inr j58=>(.exit 0,⟨[],[]⟩)) qH (fun s39 r h=>?_) (fun u k=>?_) (hout:=(by intro x;rcases x with _ | _ <;> rfl))
 refine zB (z7 (zA 2 (qL (cS aB) regions (y1 1 [0,1,2,7,11] [] (qc h (fun h=>?_) fun h=>?_)))))
 refine y4 [0,1,2,7] [] (zB (zC (z7 (zA 2 ?_))))
 obtain ⟨x54,hx54,h⟩:=aA h
 refine qX (cS aB) hx54 (zA 3 ?_)
 obtain ⟨r55,hr55,h⟩:=aA h
 refine qP (W.Ht hr55) (zP fun u k=>?_)
 refine yE k [0,1,2,7,20] [] (qc h (fun h=>?_) fun h=>?_)
 refine z8 2 ⟨[(6,vI s39)],[]⟩ fun u k=>?_
 refine aT (aO ?_)
 cases h
 exact zF k
 refine zM fun u k=>?_
 refine aH (yE k [0,1,2,7] [] (zD (z6 3 fun u k=>?_)))
 cases h
 exact zH k
 refine zL 0 fun u k=>?_
 refine aQ ?_
 cases h
 exact zF k
 rcases x56 with j57 | j58
 refine aT (aO ?_)
 obtain rfl:=osi h
 exact zV k [(6,vI j57)]
 refine zQ (yE k [] [] (z8 1 ⟨[(6,vI (-1))],[]⟩ fun u k=>?_))
 obtain rfl:=osi h
 exact zV k [(6,vI (-1))]
theorem W.Hu {regions xs ys r} (h:oO regions xs ys=some r):PC G.P 156 [(.sl (List.map (cS aB) regions)),(.sl (List.map cI xs)),(.sl (List.map cI ys))] [] (.row (.top 0) 38) [(0,.row 38 [(0,3)] (List.map (cS cI) r))]:=by
 refine zU G Tryz.func156 (yK [0,1,2] [] (y3 1 [0,1,2] [] (z7 (zA 1 (qL cI xs (zA 1 ?_))))))
 obtain ⟨l2,hl2,h⟩:=aA h
 refine fF (ZY (c:=(cS cI)) (z:=[]) (n:=(aL (xs.length:Int) 1)) (e:=38) (e2:=3) (d:=13) (k1:=.i64) (k2:=.i64) (by kernel_rfl) rfl (by kernel_rfl) hl2) (y1 1 [0,1,2,7] [13] (zB (y3 1 [0,1,2,7,8] [13] (zC ?_))))
 obtain ⟨x1172,hx1172,h⟩:=aA h
 refine ql hx1172 (fun s651=>⟨[(0,.sl (List.map (cS aB) regions)),(1,sI xs),(2,sI ys),(7,ro 500000 38),(8,vI s651.1)],[(500000,.row 38 [(0,3)] (List.map (cS cI) s651.2))]⟩) (fun x1172=>(.exit 0,⟨[(7,ro 500000 38)],[(500000,.row 38 [(0,3)] (List.map (cS cI) x1172))]⟩)) (sp [] [(13,500000)]) (fun s651 r h=>?_) fun u k=>?_
 refine zB (z7 (zA 2 (qL cI xs (y1 1 [0,1,2,7,8,17] [500000] (qc h (fun h=>?_) fun h=>?_)))))
 refine y4 [0,1,2,7,8] [500000] (zB (zC (z7 (zA 3 (qL cI ys (zA 1 ?_))))))
 obtain ⟨l1044,hl1044,h⟩:=aA h
 refine iI (Ir (c:=cI) (z:=0) (n:=(aL (ys.length:Int) 1)) (e:=3) (d:=25) (zs:=[(vI 0)]) (k1:=.i64) (k2:=.i64) (by kernel_rfl) rfl hl1044) ?_
 obtain ⟨x1045,hx1045,h⟩:=aA h
 refine qI (cS cI) hx1045 (fF (SK (c:=(cS cI)) (c2:=cI) (l:=s651.2) (x:=x1045) (x':=l1044) (l2:=l1044) (g:=500000) (d:=25) (e:=38) (e':=3) (i:=(Int.toNat s651.1)) (off:=0) (J:=[(0,3)]) (by kernel_rfl) (by kernel_rfl) (by kernel_rfl) (by kernel_rfl) rfl ((Ap hx1045).2) rfl) (zP fun u k=>?_))
 refine yE k [0,1,2,7,8] [500000] (y3 1 [0,1,2,7,8,9] [500000] (zC ?_))
 obtain ⟨x1171,hx1171,h⟩:=aA h
 refine ql hx1171 (fun s1088=>⟨[(0,.sl (List.map (cS aB) regions)),(1,sI xs),(2,sI ys),(7,ro 500000 38),(8,vI s651.1),(9,vI s1088.1)],[(500000,.row 38 [(0,3)] (List.map (cS cI) s1088.2))]⟩) (fun x1171=>(.exit 2,⟨[(0,.sl (List.map (cS aB) regions)),(1,sI xs),(2,sI ys),(7,ro 500000 38),(8,vI s651.1)],[(500000,.row 38 [(0,3)] (List.map (cS cI) x1171))]⟩)) qH (fun s1088 r h=>?_) fun u k=>?_
 refine zB (z7 (zA 2 (qL cI ys (y1 1 [0,1,2,7,8,9,30] [500000] (qc h (fun h=>?_) fun h=>?_)))))
 refine y4 [0,1,2,7,8,9] [500000] (bU (fun (j1150:(List (List Int)))=>⟨[(0,.sl (List.map (cS aB) regions)),(1,sI xs),(2,sI ys),(7,ro 500000 38),(8,vI s651.1),(9,vI s1088.1)],[(500000,.row 38 [(0,3)] (List.map (cS cI) j1150))]⟩) (iY s1088) r (by kernel_rfl) (fun j1150 h=>?_) ?_)
 refine zD (z6 3 fun u k=>?_)
 cases h
 exact zH k
 refine zC (z7 (zA 2 ?_))
 obtain ⟨x1153,hx1153,h⟩:=aA h
 refine qI (cS cI) hx1153 (iI (Jo (c:=(cS cI)) (l:=s1088.2) (i:=(Int.toNat s651.1)) (v:=(.row (.sub 500000 (Int.toNat s651.1) 0) 3)) (agg:=false) (sz:=1) (kk:=(.top 500000)) (e:=38) (off:=0) (J:=[(0,3)]) (by kernel_rfl) (by kernel_rfl) (by kernel_rfl) ((Ap hx1153).2) (by kernel_rfl)) (zA 1 ?_))
 obtain ⟨x1154,hx1154,h⟩:=aA h
 refine iI (Vp (c:=cI) (l:=x1153) (i:=s1088.1) (kd:=.i64) (kk:=(.sub 500000 (Int.toNat s651.1) 0)) (e:=3) (sz:=1) (by kernel_rfl) (yV (g:=500000) (i:=(Int.toNat s651.1)) (j:=0) (c:=(cS cI)) (c2:=cI) (e:=38) (J:=[(0,3)]) (l:=s1088.2) (x:=x1153) (l2:=x1153) (by kernel_rfl) rfl ((Ap hx1153).2) rfl) hx1154 rfl) (iI (Qe (c:=cI) (l:=x1153) (i:=(Int.toNat s1088.1)) (x:=x1154) (x':=(-1)) (v:=(vI (-1))) (agg:=false) (sz:=1) (kk:=(.sub 500000 (Int.toNat s651.1) 0)) (e:=3) (off:=0) (J:=[]) (o:=.row 38 [(0,3)] (List.map (cS cI) (List.set s1088.2 (Int.toNat s651.1) (List.set x1153 (Int.toNat s1088.1) (-1))))) (by kernel_rfl) (yV (g:=500000) (i:=(Int.toNat s651.1)) (j:=0) (c:=(cS cI)) (c2:=cI) (e:=38) (J:=[(0,3)]) (l:=s1088.2) (x:=x1153) (l2:=x1153) (by kernel_rfl) rfl ((Ap hx1153).2) rfl) (by kernel_rfl) ((Ap hx1154).2) (by kernel_rfl) (by kernel_rfl) (Ny (g:=500000) (i:=(Int.toNat s651.1)) (j:=0) (c:=(cS cI)) (e:=38) (J:=[(0,3)]) (l:=s1088.2) (x:=x1153) (x':=(List.set x1153 (Int.toNat s1088.1) (-1))) (by kernel_rfl) ((Ap hx1153).2) rfl)) (zP fun u k=>?_))
 refine yE k [0,1,2,7,8,9] [500000] (zB ?_)
 obtain ⟨j1155,hj1155,h⟩:=aA h
 refine zT ⟨[(0,.sl (List.map (cS aB) regions)),(1,sI xs),(2,sI ys),(7,ro 500000 38),(8,vI s651.1),(9,vI s1088.1),(56,vB j1155)],[(500000,.row 38 [(0,3)] (List.map (cS cI) (List.set s1088.2 (Int.toNat s651.1) (List.set x1153 (Int.toNat s1088.1) (-1)))))]⟩ ?_ fun u k=>?_
 replace h:=hj1155
 refine zA 3 (qB h [0,1,2,7,8,9,41] [500000] [41] (fun h=>?_) fun h=>?_)
 refine zA 4 (qB h [0,1,2,7,8,9,45] [500000] [45] (fun h=>?_) fun h=>?_)
 refine zA 2 (qL cI xs (zA 3 (qB h [0,1,2,7,8,9,51] [500000] [51] (fun h=>?_) fun h=>?_)))
 refine zA 2 (qL cI ys (z6 2 fun u k=>?_))
 cases h
 exact zG k
 refine z6 5 fun u k=>?_
 cases h
 exact zG k
 refine z6 11 fun u k=>?_
 cases h
 exact zG k
 refine z6 15 fun u k=>?_
 cases h
 exact zG k
 refine yE k [0,1,2,7,8,9,56] [500000] (qc h (fun h=>?_) fun h=>?_)
 refine qM 17 (dN 2 ?_)
 obtain ⟨x1166,hx1166,h⟩:=aA h
 refine dI (cS cI) hx1166 (xG (by kernel_rfl) (Jo (c:=(cS cI)) (l:=(List.set s1088.2 (Int.toNat s651.1) (List.set x1153 (Int.toNat s1088.1) (-1)))) (i:=(Int.toNat s651.1)) (v:=(.row (.sub 500000 (Int.toNat s651.1) 0) 3)) (agg:=false) (sz:=1) (kk:=(.top 500000)) (e:=38) (off:=0) (J:=[(0,3)]) (by kernel_rfl) (by kernel_rfl) (by kernel_rfl) ((Ap hx1166).2) (by kernel_rfl)) (by kernel_rfl) (by kernel_rfl) (dN 5 ?_))
 obtain ⟨x1167,hx1167,h⟩:=aA h
 refine dX cI hx1167 (dN 4 ?_)
 obtain ⟨x1168,hx1168,h⟩:=aA h
 refine dX cI hx1168 (dN 1 ?_)
 obtain ⟨r1169,hr1169,h⟩:=aA h
 refine dC [] (W.Jg hr1169) (dE ?_)
 obtain ⟨x1170,hx1170,h⟩:=aA h
 refine Du (Vp (c:=cI) (l:=x1166) (i:=s1088.1) (kd:=.i64) (kk:=(.sub 500000 (Int.toNat s651.1) 0)) (e:=3) (sz:=1) (by kernel_rfl) (yV (g:=500000) (i:=(Int.toNat s651.1)) (j:=0) (c:=(cS cI)) (c2:=cI) (e:=38) (J:=[(0,3)]) (l:=(List.set s1088.2 (Int.toNat s651.1) (List.set x1153 (Int.toNat s1088.1) (-1)))) (x:=x1166) (l2:=x1166) (by kernel_rfl) rfl ((Ap hx1166).2) rfl) hx1170 rfl) (Du (Qe (c:=cI) (l:=x1166) (i:=(Int.toNat s1088.1)) (x:=x1170) (x':=r1169) (v:=(vI r1169)) (agg:=false) (sz:=1) (kk:=(.sub 500000 (Int.toNat s651.1) 0)) (e:=3) (off:=0) (J:=[]) (o:=.row 38 [(0,3)] (List.map (cS cI) (List.set (List.set s1088.2 (Int.toNat s651.1) (List.set x1153 (Int.toNat s1088.1) (-1))) (Int.toNat s651.1) (List.set x1166 (Int.toNat s1088.1) r1169)))) (by kernel_rfl) (yV (g:=500000) (i:=(Int.toNat s651.1)) (j:=0) (c:=(cS cI)) (c2:=cI) (e:=38) (J:=[(0,3)]) (l:=(List.set s1088.2 (Int.toNat s651.1) (List.set x1153 (Int.toNat s1088.1) (-1)))) (x:=x1166) (l2:=x1166) (by kernel_rfl) rfl ((Ap hx1166).2) rfl) (by kernel_rfl) ((Ap hx1170).2) (by kernel_rfl) (by kernel_rfl) (Ny (g:=500000) (i:=(Int.toNat s651.1)) (j:=0) (c:=(cS cI)) (e:=38) (J:=[(0,3)]) (l:=(List.set s1088.2 (Int.toNat s651.1) (List.set x1153 (Int.toNat s1088.1) (-1)))) (x:=x1166) (x':=(List.set x1166 (Int.toNat s1088.1) r1169)) (by kernel_rfl) ((Ap hx1166).2) rfl)) (zO fun u k=>?_))
 exact aH (aV (List.set (List.set s1088.2 (Int.toNat s651.1) (List.set x1153 (Int.toNat s1088.1) (-1))) (Int.toNat s651.1) (List.set x1166 (Int.toNat s1088.1) r1169)) h k (here (by kernel_rfl)))
 refine zM fun u k=>?_
 exact aH (aV (List.set s1088.2 (Int.toNat s651.1) (List.set x1153 (Int.toNat s1088.1) (-1))) h k (here (by kernel_rfl)))
 refine zL 2 fun u k=>?_
 refine aQ ?_
 cases h
 exact zF k
 refine zQ (aH (yE k [0,1,2,7,8] [500000] (zD (z6 3 fun u k=>?_))))
 cases h
 exact zH k
 refine zL 0 fun u k=>?_
 refine aQ ?_
 cases h
 exact zF k
 refine zQ (yE k [7] [500000] (z8 2 ⟨[(6,ro 500000 38)],[(500000,.row 38 [(0,3)] (List.map (cS cI) x1172))]⟩ fun u k=>?_))
 obtain rfl:=osi h
 exact qW k [(6,ro 0 38)] (sp [] [(500000,0)])
theorem W.yY {x1 h0 r} (h:bO x1 h0=some r):PC G.P 157 [(.row (.top 300000) 165),(.agg (aK x1))] [(300000,.row 165 [] (List.map aK h0))] (.row (.top 0) 165) [(0,.row 165 [] (List.map aK r))]:=by
 refine zU G Tryz.func157 (yK [0,1] [300000] (y3 2 [0,3] [3,300000] (zB (y3 5 [0,3,10] [3,300000] (qc h (fun h=>?_) fun h=>?_)))))
 refine z8 2 ⟨[(4,ro 300000 165)],[(300000,aX 165 h0)]⟩ fun u k=>?_
 refine aO ?_
 obtain rfl:=osi h
 exact qW k [(4,ro 0 165)] (sp [] [(300000,0)])
 refine y4 [0,3] [3,300000] (z7 (zA 1 (qL aK h0 (y1 2 [0,3,5] [3,300000] (zB (zB ?_))))))
 obtain ⟨j36,hj36,h⟩:=aA h
 refine gK ⟨[(0,ro 500000 165),(3,.ptr 500001 0),(5,vI (aJ (h0.length:Int) 1)),(84,vB j36)],[(500000,aX 165 h0),(500001,.box (aK x1))]⟩ [] [] [] [] [] 67 (by kernel_rfl) (by kernel_rfl) (by kernel_rfl) ?_ fun u k=>?_
 replace h:=hj36
 refine dN 3 (bI (decide ((aJ (h0.length:Int) 1) ≥ 0)) (fun b0=>⟨[(17,vB b0),(16,vB b0),(15,vI (aJ (h0.length:Int) 1)),(0,ro 300000 165),(3,.ptr 3 0),(5,vI (aJ (h0.length:Int) 1))],[(3,.box (aK x1)),(300000,aX 165 h0)]⟩) (by kernel_rfl) (fun hb=>?_) fun hb=>?_)
 replace h:=iK hb h
 refine dN 2 ?_
 obtain ⟨x37,hx37,h⟩:=aA h
 refine dI aK hx37 (dN 1 (dR aK hx37 (dN 5 (bI (x37.Low==x1.Low) (fun b0=>⟨[(27,vB b0),(26,vB b0),(25,vB b0),(24,vI x1.Low),(23,.ptr 3 4),(22,vI x37.Low),(21,.rptr (.top 300000) 165 (Int.toNat (aJ (h0.length:Int) 1)) 4),(20,.rptr (.top 300000) 165 (Int.toNat (aJ (h0.length:Int) 1)) 0),(19,vI (aJ (h0.length:Int) 1)),(18,ro 300000 165),(17,vB true),(16,vB true),(15,vI (aJ (h0.length:Int) 1)),(0,ro 300000 165),(3,.ptr 3 0),(5,vI (aJ (h0.length:Int) 1))],[(3,.box (aK x1)),(300000,aX 165 h0)]⟩) (by kernel_rfl) (fun hb=>?_) fun hb=>?_))))
 replace h:=iK hb h
 refine dN 2 ?_
 obtain ⟨x38,hx38,h⟩:=aA h
 refine dI aK hx38 (dN 1 (dR aK hx38 (dN 5 (bI (x38.High==x1.High) (fun b0=>⟨[(37,vB b0),(36,vB b0),(35,vB b0),(34,vI x1.High),(33,.ptr 3 5),(32,vI x38.High),(31,.rptr (.top 300000) 165 (Int.toNat (aJ (h0.length:Int) 1)) 5),(30,.rptr (.top 300000) 165 (Int.toNat (aJ (h0.length:Int) 1)) 0),(29,vI (aJ (h0.length:Int) 1)),(28,ro 300000 165),(27,vB true),(26,vB true),(25,vB true),(24,vI x1.Low),(23,.ptr 3 4),(22,vI x37.Low),(21,.rptr (.top 300000) 165 (Int.toNat (aJ (h0.length:Int) 1)) 4),(20,.rptr (.top 300000) 165 (Int.toNat (aJ (h0.length:Int) 1)) 0),(19,vI (aJ (h0.length:Int) 1)),(18,ro 300000 165),(17,vB true),(16,vB true),(15,vI (aJ (h0.length:Int) 1)),(0,ro 300000 165),(3,.ptr 3 0),(5,vI (aJ (h0.length:Int) 1))],[(3,.box (aK x1)),(300000,aX 165 h0)]⟩) (by kernel_rfl) (fun hb=>?_) fun hb=>?_))))
 replace h:=iK hb h
 refine dN 2 ?_
 obtain ⟨x39,hx39,h⟩:=aA h
 refine dI aK hx39 (dN 2 (dR aK hx39 (dN 6 (bI (x39.At.X2==x1.At.X1) (fun b0=>⟨[(49,vB b0),(48,vB b0),(47,vB b0),(46,vI x1.At.X1),(45,.ptr 3 0),(44,.ptr 3 0),(43,vI x39.At.X2),(42,.rptr (.top 300000) 165 (Int.toNat (aJ (h0.length:Int) 1)) 2),(41,.rptr (.top 300000) 165 (Int.toNat (aJ (h0.length:Int) 1)) 0),(40,.rptr (.top 300000) 165 (Int.toNat (aJ (h0.length:Int) 1)) 0),(39,vI (aJ (h0.length:Int) 1)),(38,ro 300000 165),(37,vB true),(36,vB true),(35,vB true),(34,vI x1.High),(33,.ptr 3 5),(32,vI x38.High),(31,.rptr (.top 300000) 165 (Int.toNat (aJ (h0.length:Int) 1)) 5),(30,.rptr (.top 300000) 165 (Int.toNat (aJ (h0.length:Int) 1)) 0),(29,vI (aJ (h0.length:Int) 1)),(28,ro 300000 165),(27,vB true),(26,vB true),(25,vB true),(24,vI x1.Low),(23,.ptr 3 4),(22,vI x37.Low),(21,.rptr (.top 300000) 165 (Int.toNat (aJ (h0.length:Int) 1)) 4),(20,.rptr (.top 300000) 165 (Int.toNat (aJ (h0.length:Int) 1)) 0),(19,vI (aJ (h0.length:Int) 1)),(18,ro 300000 165),(17,vB true),(16,vB true),(15,vI (aJ (h0.length:Int) 1)),(0,ro 300000 165),(3,.ptr 3 0),(5,vI (aJ (h0.length:Int) 1))],[(3,.box (aK x1)),(300000,aX 165 h0)]⟩) (by kernel_rfl) (fun hb=>?_) fun hb=>?_))))
 replace h:=iK hb h
 refine dN 2 ?_
 obtain ⟨x40,hx40,h⟩:=aA h
 refine dI aK hx40 (dN 2 (dR aK hx40 (dN 6 (bI (x40.At.Y2==x1.At.Y1) (fun b0=>⟨[(61,vB b0),(60,vB b0),(59,vB b0),(58,vI x1.At.Y1),(57,.ptr 3 1),(56,.ptr 3 0),(55,vI x40.At.Y2),(54,.rptr (.top 300000) 165 (Int.toNat (aJ (h0.length:Int) 1)) 3),(53,.rptr (.top 300000) 165 (Int.toNat (aJ (h0.length:Int) 1)) 0),(52,.rptr (.top 300000) 165 (Int.toNat (aJ (h0.length:Int) 1)) 0),(51,vI (aJ (h0.length:Int) 1)),(50,ro 300000 165),(49,vB true),(48,vB true),(47,vB true),(46,vI x1.At.X1),(45,.ptr 3 0),(44,.ptr 3 0),(43,vI x39.At.X2),(42,.rptr (.top 300000) 165 (Int.toNat (aJ (h0.length:Int) 1)) 2),(41,.rptr (.top 300000) 165 (Int.toNat (aJ (h0.length:Int) 1)) 0),(40,.rptr (.top 300000) 165 (Int.toNat (aJ (h0.length:Int) 1)) 0),(39,vI (aJ (h0.length:Int) 1)),(38,ro 300000 165),(37,vB true),(36,vB true),(35,vB true),(34,vI x1.High),(33,.ptr 3 5),(32,vI x38.High),(31,.rptr (.top 300000) 165 (Int.toNat (aJ (h0.length:Int) 1)) 5),(30,.rptr (.top 300000) 165 (Int.toNat (aJ (h0.length:Int) 1)) 0),(29,vI (aJ (h0.length:Int) 1)),(28,ro 300000 165),(27,vB true),(26,vB true),(25,vB true),(24,vI x1.Low),(23,.ptr 3 4),(22,vI x37.Low),(21,.rptr (.top 300000) 165 (Int.toNat (aJ (h0.length:Int) 1)) 4),(20,.rptr (.top 300000) 165 (Int.toNat (aJ (h0.length:Int) 1)) 0),(19,vI (aJ (h0.length:Int) 1)),(18,ro 300000 165),(17,vB true),(16,vB true),(15,vI (aJ (h0.length:Int) 1)),(0,ro 300000 165),(3,.ptr 3 0),(5,vI (aJ (h0.length:Int) 1))],[(3,.box (aK x1)),(300000,aX 165 h0)]⟩) (by kernel_rfl) (fun hb=>?_) fun hb=>?_))))
 replace h:=iK hb h
 refine dN 2 ?_
 obtain ⟨x41,hx41,h⟩:=aA h
 refine dI aK hx41 (dN 2 (dR aK hx41 (dN 5 (bI (x41.At.Y1==x1.At.Y2) (fun b0=>⟨[(72,vB b0),(71,vB b0),(70,vI x1.At.Y2),(69,.ptr 3 3),(68,.ptr 3 0),(67,vI x41.At.Y1),(66,.rptr (.top 300000) 165 (Int.toNat (aJ (h0.length:Int) 1)) 1),(65,.rptr (.top 300000) 165 (Int.toNat (aJ (h0.length:Int) 1)) 0),(64,.rptr (.top 300000) 165 (Int.toNat (aJ (h0.length:Int) 1)) 0),(63,vI (aJ (h0.length:Int) 1)),(62,ro 300000 165),(61,vB true),(60,vB true),(59,vB true),(58,vI x1.At.Y1),(57,.ptr 3 1),(56,.ptr 3 0),(55,vI x40.At.Y2),(54,.rptr (.top 300000) 165 (Int.toNat (aJ (h0.length:Int) 1)) 3),(53,.rptr (.top 300000) 165 (Int.toNat (aJ (h0.length:Int) 1)) 0),(52,.rptr (.top 300000) 165 (Int.toNat (aJ (h0.length:Int) 1)) 0),(51,vI (aJ (h0.length:Int) 1)),(50,ro 300000 165),(49,vB true),(48,vB true),(47,vB true),(46,vI x1.At.X1),(45,.ptr 3 0),(44,.ptr 3 0),(43,vI x39.At.X2),(42,.rptr (.top 300000) 165 (Int.toNat (aJ (h0.length:Int) 1)) 2),(41,.rptr (.top 300000) 165 (Int.toNat (aJ (h0.length:Int) 1)) 0),(40,.rptr (.top 300000) 165 (Int.toNat (aJ (h0.length:Int) 1)) 0),(39,vI (aJ (h0.length:Int) 1)),(38,ro 300000 165),(37,vB true),(36,vB true),(35,vB true),(34,vI x1.High),(33,.ptr 3 5),(32,vI x38.High),(31,.rptr (.top 300000) 165 (Int.toNat (aJ (h0.length:Int) 1)) 5),(30,.rptr (.top 300000) 165 (Int.toNat (aJ (h0.length:Int) 1)) 0),(29,vI (aJ (h0.length:Int) 1)),(28,ro 300000 165),(27,vB true),(26,vB true),(25,vB true),(24,vI x1.Low),(23,.ptr 3 4),(22,vI x37.Low),(21,.rptr (.top 300000) 165 (Int.toNat (aJ (h0.length:Int) 1)) 4),(20,.rptr (.top 300000) 165 (Int.toNat (aJ (h0.length:Int) 1)) 0),(19,vI (aJ (h0.length:Int) 1)),(18,ro 300000 165),(17,vB true),(16,vB true),(15,vI (aJ (h0.length:Int) 1)),(0,ro 300000 165),(3,.ptr 3 0),(5,vI (aJ (h0.length:Int) 1))],[(3,.box (aK x1)),(300000,aX 165 h0)]⟩) (by kernel_rfl) (fun hb=>?_) fun hb=>?_))))
 replace h:=iK hb h
 refine dN 9 (dE (oN 3 (zO fun u k=>?_)))
 cases h
 exact bH k (sp [] [(3,500001),(300000,500000)])
 replace h:=iJ hb h
 refine dN 2 ?_
 obtain ⟨x42,hx42,h⟩:=aA h
 refine dI aK hx42 (dN 2 (dR aK hx42 (dN 3 (dE (oN 3 (zO fun u k=>?_))))))
 cases h
 exact bH k (sp [] [(3,500001),(300000,500000)])
 replace h:=iJ hb h
 refine dN 20 (dE (oN 3 (zO fun u k=>?_)))
 cases h
 exact bH k (sp [] [(3,500001),(300000,500000)])
 replace h:=iJ hb h
 refine dN 32 (dE (oN 3 (zO fun u k=>?_)))
 cases h
 exact bH k (sp [] [(3,500001),(300000,500000)])
 replace h:=iJ hb h
 refine dN 44 (dE (oN 3 (zO fun u k=>?_)))
 cases h
 exact bH k (sp [] [(3,500001),(300000,500000)])
 replace h:=iJ hb h
 refine dN 54 (dE (oN 3 (zO fun u k=>?_)))
 cases h
 exact bH k (sp [] [(3,500001),(300000,500000)])
 replace h:=iJ hb h
 refine dN 64 (dE (oN 3 (zO fun u k=>?_)))
 cases h
 exact bH k (sp [] [(3,500001),(300000,500000)])
 refine yE k [0,3,5,84] [500000,500001] (qc h (fun h=>?_) fun h=>?_)
 refine z7 (zA 5 ?_)
 obtain ⟨x44,hx44,h⟩:=aA h
 refine qI aK hx44 (zA 2 (qS aK (sheetmetalref06_Line.mk (Segment.mk x44.At.X1 x44.At.Y1 x1.At.X2 x44.At.Y2) x44.Low x44.High) hx44 (zP fun u k=>?_)))
 refine yE k [0,3,5] [500000,500001] (z7 (zA 5 ?_))
 obtain ⟨x46,hx46,h⟩:=aA h
 refine qI aK hx46 (zA 2 (qS aK (sheetmetalref06_Line.mk (Segment.mk x46.At.X1 x46.At.Y1 x46.At.X2 x1.At.Y2) x46.Low x46.High) hx46 (zP fun u k=>?_)))
 refine yE k [0] [500000] (z8 2 ⟨[(4,ro 500000 165)],[(500000,aX 165 (List.set (List.set h0 (Int.toNat (aJ (h0.length:Int) 1)) (sheetmetalref06_Line.mk (Segment.mk x44.At.X1 x44.At.Y1 x1.At.X2 x44.At.Y2) x44.Low x44.High)) (Int.toNat (aJ (h0.length:Int) 1)) (sheetmetalref06_Line.mk (Segment.mk x46.At.X1 x46.At.Y1 x46.At.X2 x1.At.Y2) x46.Low x46.High)))]⟩ fun u k=>?_)
 refine aO ?_
 obtain rfl:=osi h
 exact qW k [(4,ro 0 165)] (sp [] [(500000,0)])
 refine y4 [0,3] [500000,500001] (z7 (zA 3 ?_))
 obtain ⟨l48,hl48,h⟩:=aA h
 refine qA aK 6 hl48 (y1 1 [4] [500000] (zN fun u k=>?_))
 obtain rfl:=osi h
 exact qW k [(4,ro 0 165)] (sp [] [(500000,0)])
theorem W.Gy {regions r} (h:kE regions=some r):PC G.P 112 [(.sl (List.map (cS aB) regions))] [] (.row (.top 0) 165) [(0,.row 165 [] (List.map aK r))]:=by
 refine zU G Tryz.func112 (yK [0] [] (y3 1 [0] [] (y3 1 [0,3] [3] (zB (y3 1 [0,3,4] [3] (zC ?_))))))
 obtain ⟨x54,hx54,h⟩:=aA h
 refine ql hx54 (fun s37=>⟨[(0,.sl (List.map (cS aB) regions)),(3,ro 500000 98),(4,vI s37.1)],[(500000,jZ 98 s37.2)]⟩) (fun x54=>(.exit 0,⟨[(0,.sl (List.map (cS aB) regions)),(3,ro 500000 98)],[(500000,jZ 98 x54)]⟩)) (sp [] [(3,500000)]) (fun s37 r h=>?_) fun u k=>?_
 refine zB (z7 (zA 2 (qL (cS aB) regions (y1 1 [0,3,4,16] [500000] (qc h (fun h=>?_) fun h=>?_)))))
 refine y4 [0,3,4] [500000] (zB (zC (zD (zA 3 ?_))))
 obtain ⟨x52,hx52,h⟩:=aA h
 refine qX (cS aB) hx52 (zA 1 ?_)
 obtain ⟨l53,hl53,h⟩:=aA h
 refine qA aB 4 hl53 (z6 1 fun u k=>?_)
 refine aH (yE k [0,3,4] [500000] (zD (z6 3 fun u k=>?_)))
 cases h
 exact zH k
 refine zL 0 fun u k=>?_
 refine aQ ?_
 cases h
 exact zF k
 refine zQ (yE k [0,3] [500000] (z7 (zA 1 ?_)))
 obtain ⟨r56,hr56,h⟩:=aA h
 refine yR [] [(0,700050),(1,700051)] [500000] (by kernel_rfl) (W.Lr hr56) (by kernel_rfl) (by kernel_rfl) (.inr ⟨rfl,fun _ _=>Po (Ux fun _=>rfl) (fun _ _=>Po (Ux fun _=>rfl) (fun _ _=>Ym))⟩) (y1 5 [0,5,6] [700050,700051] (z7 (zA 3 (wQ [.frz 700050,.frz 700051] (by kernel_rfl) ?_))))
 obtain ⟨r58,hr58,h⟩:=aA h
 refine qC [] [(0,700150)] (W.Hu hr58) (wQ [.frz 700150] (by kernel_rfl) (y1 1 [5,6,7] [] (y3 1 [5,6,7,8] [8] (zB (y3 1 [5,6,7,8,9] [8] (zC ?_))))))
 obtain ⟨x2044,hx2044,h⟩:=aA h
 refine ql hx2044 (fun s1383=>⟨[(5,sI r56.1),(6,sI r56.2),(7,.sl (List.map (cS cI) r58)),(8,ro 500000 165),(9,vI s1383.1)],[(500000,aX 165 s1383.2)]⟩) (fun x2044=>(.exit 2,⟨[(5,sI r56.1),(6,sI r56.2),(7,.sl (List.map (cS cI) r58)),(8,ro 500000 165)],[(500000,aX 165 x2044)]⟩)) (sp [] [(8,500000)]) (fun s1383 r h=>?_) fun u k=>?_
 refine zB (z7 (zA 2 (qL cI r56.2 (y1 1 [5,6,7,8,9,37] [500000] (qc h (fun h=>?_) fun h=>?_)))))
 refine y4 [5,6,7,8,9] [500000] (zB (zC (y3 1 [5,6,7,8,9,10] [500000] (zC ?_))))
 obtain ⟨x2043,hx2043,h⟩:=aA h
 refine ql hx2043 (fun s1934=>⟨[(5,sI r56.1),(6,sI r56.2),(7,.sl (List.map (cS cI) r58)),(8,ro 500000 165),(9,vI s1383.1),(10,vI s1934.1)],[(500000,aX 165 s1934.2)]⟩) (fun x2043=>(.exit 4,⟨[(5,sI r56.1),(6,sI r56.2),(7,.sl (List.map (cS cI) r58)),(8,ro 500000 165),(9,vI s1383.1)],[(500000,aX 165 x2043)]⟩)) qH (fun s1934 r h=>?_) fun u k=>?_
 refine zB (z7 (zA 3 (qL cI r56.1 (y1 1 [5,6,7,8,9,10,44] [500000] (qc h (fun h=>?_) fun h=>?_)))))
 refine y4 [5,6,7,8,9,10] [500000] (zB (zC (qM 37 (dN 3 ?_))))
 obtain ⟨x2034,hx2034,h⟩:=aA h
 refine dX cI hx2034 (dN 3 ?_)
 obtain ⟨x2035,hx2035,h⟩:=aA h
 refine dX cI hx2035 (dN 4 ?_)
 obtain ⟨x2036,hx2036,h⟩:=aA h
 refine dX cI hx2036 (dN 3 ?_)
 obtain ⟨x2037,hx2037,h⟩:=aA h
 refine dX cI hx2037 (dN 5 ?_)
 obtain ⟨x2038,hx2038,h⟩:=aA h
 refine dX (cS cI) hx2038 (dN 2 ?_)
 obtain ⟨x2039,hx2039,h⟩:=aA h
 refine dX cI hx2039 (dN 4 ?_)
 obtain ⟨x2040,hx2040,h⟩:=aA h
 refine dX (cS cI) hx2040 (dN 3 ?_)
 obtain ⟨x2041,hx2041,h⟩:=aA h
 refine dX cI hx2041 (dN 2 (dE ?_))
 obtain ⟨r2042,hr2042,h⟩:=aA h
 refine oC [(300000,500000)] [(0,701850)] (W.yY hr2042) (oN 1 (zO fun u k=>?_))
 refine aH (yE k [5,6,7,8,9,10] [701850] (zD (z6 3 fun u k=>?_)))
 cases h
 exact Px k (sp [] [(701850,500000)])
 refine zL 4 fun u k=>?_
 refine aQ ?_
 cases h
 exact zF k
 refine zQ (aH (yE k [5,6,7,8,9] [500000] (zD (z6 3 fun u k=>?_))))
 cases h
 exact zH k
 refine zL 2 fun u k=>?_
 refine aQ ?_
 cases h
 exact zF k
 refine zQ (yE k [5,6,7,8] [500000] (zB (y3 1 [5,6,7,8,11] [500000] (zC ?_))))
 obtain ⟨x4030,hx4030,h⟩:=aA h
 refine ql hx4030 (fun s3369=>⟨[(5,sI r56.1),(6,sI r56.2),(7,.sl (List.map (cS cI) r58)),(8,ro 500000 165),(11,vI s3369.1)],[(500000,aX 165 s3369.2)]⟩) (fun x4030=>(.exit 6,⟨[(8,ro 500000 165)],[(500000,aX 165 x4030)]⟩)) qH (fun s3369 r h=>?_) fun u k=>?_
 refine zB (z7 (zA 2 (qL cI r56.1 (y1 1 [5,6,7,8,11,88] [500000] (qc h (fun h=>?_) fun h=>?_)))))
 refine y4 [5,6,7,8,11] [500000] (zB (zC (y3 1 [5,6,7,8,11,12] [500000] (zC ?_))))
 obtain ⟨x4029,hx4029,h⟩:=aA h
 refine ql hx4029 (fun s3920=>⟨[(5,sI r56.1),(6,sI r56.2),(7,.sl (List.map (cS cI) r58)),(8,ro 500000 165),(11,vI s3369.1),(12,vI s3920.1)],[(500000,aX 165 s3920.2)]⟩) (fun x4029=>(.exit 8,⟨[(5,sI r56.1),(6,sI r56.2),(7,.sl (List.map (cS cI) r58)),(8,ro 500000 165),(11,vI s3369.1)],[(500000,aX 165 x4029)]⟩)) qH (fun s3920 r h=>?_) fun u k=>?_
 refine zB (z7 (zA 3 (qL cI r56.2 (y1 1 [5,6,7,8,11,12,95] [500000] (qc h (fun h=>?_) fun h=>?_)))))
 refine y4 [5,6,7,8,11,12] [500000] (zB (zC (qM 37 (dN 3 ?_))))
 obtain ⟨x4020,hx4020,h⟩:=aA h
 refine dX cI hx4020 (dN 3 ?_)
 obtain ⟨x4021,hx4021,h⟩:=aA h
 refine dX cI hx4021 (dN 3 ?_)
 obtain ⟨x4022,hx4022,h⟩:=aA h
 refine dX cI hx4022 (dN 4 ?_)
 obtain ⟨x4023,hx4023,h⟩:=aA h
 refine dX cI hx4023 (dN 4 ?_)
 obtain ⟨x4024,hx4024,h⟩:=aA h
 refine dX (cS cI) hx4024 (dN 3 ?_)
 obtain ⟨x4025,hx4025,h⟩:=aA h
 refine dX cI hx4025 (dN 4 ?_)
 obtain ⟨x4026,hx4026,h⟩:=aA h
 refine dX (cS cI) hx4026 (dN 3 ?_)
 obtain ⟨x4027,hx4027,h⟩:=aA h
 refine dX cI hx4027 (dN 2 (dE ?_))
 obtain ⟨r4028,hr4028,h⟩:=aA h
 refine oC [(300000,500000)] [(0,701850)] (W.yY hr4028) (oN 1 (zO fun u k=>?_))
 refine aH (yE k [5,6,7,8,11,12] [701850] (zD (z6 3 fun u k=>?_)))
 cases h
 exact Px k (sp [] [(701850,500000)])
 refine zL 8 fun u k=>?_
 refine aQ ?_
 cases h
 exact zF k
 refine zQ (aH (yE k [5,6,7,8,11] [500000] (zD (z6 3 fun u k=>?_))))
 cases h
 exact zH k
 refine zL 6 fun u k=>?_
 refine aQ ?_
 cases h
 exact zF k
 refine zQ (yE k [8] [500000] (z8 2 ⟨[(2,ro 500000 165)],[(500000,aX 165 x4030)]⟩ fun u k=>?_))
 obtain rfl:=osi h
 exact qW k [(2,ro 0 165)] (sp [] [(500000,0)])
theorem W.xY {l r} (h:fE l=some r):PC G.P 50 [(.agg (aR l))] [] (.row (.top 0) 74) [(0,.row 74 [] (List.map bF r))]:=by
 refine zU G Tryz.func50 (yK [0] [] (y3 2 [1] [1] (y3 1 [1,3] [1,3] (zB (y3 1 [1,3,4] [1,3] (zC ?_))))))
 obtain ⟨x54,hx54,h⟩:=aA h
 refine ql hx54 (fun s37=>⟨[(1,.ptr 500000 0),(3,ro 500001 22),(4,vI s37.1)],[(500000,.box (aR l)),(500001,.row 22 [] (List.map (cS aB) s37.2))]⟩) (fun x54=>(.exit 0,⟨[(3,ro 500000 22)],[(500000,.row 22 [] (List.map (cS aB) x54))]⟩)) (sp [] [(1,500000),(3,500001)]) (fun s37 r h=>?_) fun u k=>?_
 refine zB (z7 (zA 3 (qL aU l.Pieces (y1 1 [1,3,4,14] [500000,500001] (qc h (fun h=>?_) fun h=>?_)))))
 refine y4 [1,3,4] [500000,500001] (zB (zC (zD (zA 4 ?_))))
 obtain ⟨x52,hx52,h⟩:=aA h
 refine qX aU hx52 (zA 3 ?_)
 obtain ⟨l53,hl53,h⟩:=aA h
 refine qA (cS aB) 1 hl53 (z6 1 fun u k=>?_)
 refine aH (yE k [1,3,4] [500000,500001] (zD (z6 3 fun u k=>?_)))
 cases h
 exact zH k
 refine zL 0 fun u k=>?_
 refine aQ ?_
 cases h
 exact xI k rfl (sp [] [(500001,500000)])
 refine zQ (yE k [3] [500000] (z7 (zA 1 ?_)))
 obtain ⟨r56,hr56,h⟩:=aA h
 refine yR [] [(0,700050)] [500000] (by kernel_rfl) (W.Gy hr56) (by kernel_rfl) (by kernel_rfl) (.inr ⟨rfl,fun _ _=>Po (Ux fun _=>rfl) (fun _ _=>Ym)⟩) (y1 1 [5] [700050] (y3 1 [5,6] [6,700050] (zB (y3 1 [5,6,7] [6,700050] (zC ?_)))))
 obtain ⟨x266,hx266,h⟩:=aA h
 refine ql hx266 (fun s197=>⟨[(5,ro 500000 165),(6,ro 500001 74),(7,vI s197.1)],[(500000,aX 165 r56),(500001,iA 74 s197.2)]⟩) (fun x266=>(.exit 2,⟨[(6,ro 500000 74)],[(500000,iA 74 x266)]⟩)) (sp [] [(6,500001),(700050,500000)]) (fun s197 r h=>?_) fun u k=>?_
 refine zB (z7 (zA 2 (qL aK r56 (y1 1 [5,6,7,31] [500000,500001] (qc h (fun h=>?_) fun h=>?_)))))
 refine y4 [5,6,7] [500000,500001] (zB (zC (zB (qM 23 (dN 2 ?_)))))
 obtain ⟨x257,hx257,h⟩:=aA h
 refine dI aK hx257 (dN 1 (dR aK hx257 (dN 2 ?_)))
 obtain ⟨x258,hx258,h⟩:=aA h
 refine dI aK hx258 (dN 1 (dR aK hx258 (dN 3 ?_)))
 obtain ⟨x259,hx259,h⟩:=aA h
 refine dI aK hx259 (dN 1 (dR aK hx259 (dN 2 ?_)))
 obtain ⟨x260,hx260,h⟩:=aA h
 refine dI aK hx260 (dN 1 (dR aK hx260 (dN 2 (dE (oN 1 (zO fun u k=>?_))))))
 refine yE k [5,6,7,8,9] [500000,500001] (bU (fun (j261:Int×Int)=>⟨[(5,ro 500000 165),(6,ro 500001 74),(7,vI s197.1),(8,vI j261.1),(9,vI j261.2)],[(500000,aX 165 r56),(500001,iA 74 s197.2)]⟩) (nK r56 s197) r (by kernel_rfl) (fun j261 h=>?_) ?_)
 refine zD (zA 3 ?_)
 obtain ⟨x264,hx264,h⟩:=aA h
 refine qI aK hx264 (zA 1 (qR aK hx264 (zA 4 ?_)))
 obtain ⟨l265,hl265,h⟩:=aA h
 refine qA bF 6 hl265 (z6 1 fun u k=>?_)
 refine aH (yE k [5,6,7] [500000,500001] (zD (z6 3 fun u k=>?_)))
 cases h
 exact zH k
 refine y3 2 [5,6,7,8,9,57] [500000,500001] (qc h (fun h=>?_) fun h=>?_)
 refine zD (z6 4 fun u k=>?_)
 exact aV ((eU x259.Low x260.High),(mY x257.Low x258.High)) h k (here (by kernel_rfl))
 refine zM fun u k=>?_
 exact aV ((mY x257.Low x258.High),(eU x259.Low x260.High)) h k (here (by kernel_rfl))
 refine zL 2 fun u k=>?_
 refine aQ ?_
 cases h
 exact xI k rfl (sp [] [(500001,500000)])
 refine zQ (yE k [6] [500000] (z8 2 ⟨[(2,ro 500000 74)],[(500000,iA 74 x266)]⟩ fun u k=>?_))
 obtain rfl:=osi h
 exact qW k [(2,ro 0 74)] (sp [] [(500000,0)])
theorem W.Un {l edges r} (h:Ko l edges=some r):PC G.P 51 [(.agg (aR l)),(vI edges)] [] (.agg [(.row (.top 1) 4),(.row (.top 2) 36),(.row (.top 3) 4),(.row (.top 4) 3),(.row (.top 5) 4)]) [(0,.box [(.row (.top 1) 4),(.row (.top 2) 36),(.row (.top 3) 4),(.row (.top 4) 3),(.row (.top 5) 4)]),(1,.row 4 [] (List.map cB r.Cut)),(2,.row 36 [] (List.map (cS cB) r.Holes)),(3,.row 4 [] (List.map cB r.Done)),(4,.row 3 [] (List.map cI r.Joints)),(5,.row 4 [] (List.map cB r.Fallen))]:=by
 refine zU G Tryz.func51 (yK [0,1] [] (y3 2 [1,2,4] [2,4] (z7 (zA 2 (qL aU l.Pieces (y1 1 [1,2,4,5] [2,4] ?_))))))
 refine zB (sK [(1,[13]),(3,[15]),(5,[17]),(7,[19]),(9,[6])] [(1,[13]),(3,[15]),(5,[17]),(7,[19]),(9,[6])] [] [(0,[15,17,19,6]),(1,[15,17,19,6]),(2,[13,17,19,6]),(3,[13,17,19,6]),(4,[13,15,19,6]),(5,[13,15,19,6]),(6,[13,15,17,6]),(7,[13,15,17,6]),(8,[6]),(9,[13,15,17,19])] [(0,[13,15,17,19,6]),(1,[15,17,19,6]),(2,[13,15,17,19,6]),(3,[13,17,19,6]),(4,[13,15,17,19,6]),(5,[13,15,19,6]),(6,[13,15,17,19,6]),(7,[13,15,17,6]),(8,[6]),(9,[13,15,17,19])] 10 (by kernel_rfl) (by kernel_rfl) [6,19,17,15,13] (by kernel_rfl) (by kernel_rfl) (dN 1 ?_))
 obtain ⟨l9,hl9,h⟩:=aA h
 refine vW (by kernel_rfl) (Ir (c:=cB) (z:=false) (n:=edges) (e:=4) (d:=13) (zs:=[(vB false)]) (k1:=.i64) (k2:=.i64) (by kernel_rfl) rfl hl9) (by kernel_rfl) (by kernel_rfl) (by kernel_rfl) (by kernel_rfl) (dN 1 ?_)
 obtain ⟨l10,hl10,h⟩:=aA h
 refine vW (by kernel_rfl) (Ir (c:=cB) (z:=false) (n:=(l.Pieces.length:Int)) (e:=4) (d:=15) (zs:=[(vB false)]) (k1:=.i64) (k2:=.i64) (by kernel_rfl) rfl hl10) (by kernel_rfl) (by kernel_rfl) (by kernel_rfl) (by kernel_rfl) (dN 1 ?_)
 obtain ⟨l11,hl11,h⟩:=aA h
 refine vW (by kernel_rfl) (Ir (c:=cI) (z:=0) (n:=(l.Pieces.length:Int)) (e:=3) (d:=17) (zs:=[(vI 0)]) (k1:=.i64) (k2:=.i64) (by kernel_rfl) rfl hl11) (by kernel_rfl) (by kernel_rfl) (by kernel_rfl) (by kernel_rfl) (dN 1 ?_)
 obtain ⟨l12,hl12,h⟩:=aA h
 refine vW (by kernel_rfl) (Ir (c:=cB) (z:=false) (n:=(l.Pieces.length:Int)) (e:=4) (d:=19) (zs:=[(vB false)]) (k1:=.i64) (k2:=.i64) (by kernel_rfl) rfl hl12) (by kernel_rfl) (by kernel_rfl) (by kernel_rfl) (by kernel_rfl) (dN 1 (vW (g:=6) (ob:=.box [.nl,.nl,.nl,.nl,.nl]) (v:=(.ptr 6 0)) (by kernel_rfl) (by kernel_rfl) (by kernel_rfl) (by kernel_rfl) (by kernel_rfl) (by kernel_rfl) (dE (oN 1 (zO fun u k=>?_)))))
 refine yE k [2,4,6] [2,4,6,13,15,17,19] (zB (z7 (zA 2 (qL aU l.Pieces (y1 1 [4,6,22,23,24] [4,6,13,15,17,19] (zC ?_))))))
 obtain ⟨x114,hx114,h⟩:=aA h
 refine ql hx114 (fun s81=>⟨[(4,.ptr 500000 0),(6,.ptr 500001 0),(22,cZ l.Pieces),(23,vI (l.Pieces.length:Int)),(24,vI s81.1)],[(500000,.box [.nl,.nl,.nl,.nl,.nl]),(500001,.box [(ro 500002 4),(ro 500003 36),(ro 500004 4),(ro 500005 3),(ro 500006 4)]),(500002,wB 4 l9),(500003,.row 36 [] (List.map (cS cB) s81.2)),(500004,wB 4 l10),(500005,wI 3 l11),(500006,wB 4 l12)]⟩) (fun x114=>(.exit 0,⟨[(4,.ptr 500000 0),(6,.ptr 500001 0)],[(500000,.box [.nl,.nl,.nl,.nl,.nl]),(500001,.box [(ro 500002 4),(ro 500003 36),(ro 500004 4),(ro 500005 3),(ro 500006 4)]),(500002,wB 4 l9),(500003,.row 36 [] (List.map (cS cB) x114)),(500004,wB 4 l10),(500005,wI 3 l11),(500006,wB 4 l12)]⟩)) (sp [.row (.box 6 1) 800000 36 []] [(4,500000),(6,500001),(13,500002),(15,500004),(17,500005),(19,500006),(800000,500003)]) (fun s81 r h=>?_) fun u k=>?_
 refine y3 1 [4,6,22,23,24,25] [500000,500001,500002,500003,500004,500005,500006] (zB (qc h (fun h=>?_) fun h=>?_))
 refine y4 [4,6,22,23,24] [500000,500001,500002,500003,500004,500005,500006] (zB (zC (z7 ?_)))
 obtain ⟨x107,hx107,h⟩:=aA h
 refine qX aU hx107 (y1 3 [4,6,8,22,23,24] [8,500000,500001,500002,500003,500004,500005,500006] (sK [] [(5,[33])] [] [] [(0,[33]),(1,[33]),(2,[33]),(3,[33]),(4,[33])] 7 (by kernel_rfl) (by kernel_rfl) [33] (by kernel_rfl) (by kernel_rfl) (dN 4 (dL aB x107.Cuts ?_))))
 obtain ⟨l112,hl112,h⟩:=aA h
 refine NJ (d:=33) (e:=4) (es:=(List.map cB l112)) (by kernel_rfl) (Ir (c:=cB) (z:=false) (n:=(x107.Cuts.length:Int)) (e:=4) (d:=33) (zs:=[(vB false)]) (k1:=.i64) (k2:=.i64) (by kernel_rfl) rfl hl112) (by kernel_rfl) (by kernel_rfl) (by kernel_rfl) (by kernel_rfl) (dN 1 (dE ?_))
 obtain ⟨l113,hl113,h⟩:=aA h
 refine oA (cS cB) 1 hl113 (oN 2 (zO fun u k=>?_))
 refine aH (yE k [4,6,22,23,24] [500000,500001,500002,500003,500004,500005,500006] (zD (z6 2 fun u k=>?_)))
 cases h
 exact zH k
 refine zL 0 fun u k=>?_
 refine aQ ?_
 cases h
 exact zF k
 refine zQ (yE k [4,6] [500000,500001,500002,500003,500004,500005,500006] (z8 2 ⟨[(4,.ptr 500000 0)],[(500000,.box [(ro 500002 4),(ro 500003 36),(ro 500004 4),(ro 500005 3),(ro 500006 4)]),(500002,wB 4 l9),(500003,.row 36 [] (List.map (cS cB) x114)),(500004,wB 4 l10),(500005,wI 3 l11),(500006,wB 4 l12)]⟩ fun u k=>?_))
 obtain rfl:=osi h
 exact qW k [(4,.ptr 0 0)] (sp [] [(500000,0),(500002,1),(500003,2),(500004,3),(500005,4),(500006,5)])
theorem W.EX {l r} (h:Qh l=some r):PC G.P 17 [(.agg (aR l))] [] (.tup [(.agg [(.row (.top 1) 4),(.row (.top 2) 36),(.row (.top 3) 4),(.row (.top 4) 3),(.row (.top 5) 4)]),(vI r.2)]) [(0,.box [(.row (.top 1) 4),(.row (.top 2) 36),(.row (.top 3) 4),(.row (.top 4) 3),(.row (.top 5) 4)]),(1,.row 4 [] (List.map cB r.1.Cut)),(2,.row 36 [] (List.map (cS cB) r.1.Holes)),(3,.row 4 [] (List.map cB r.1.Done)),(4,.row 3 [] (List.map cI r.1.Joints)),(5,.row 4 [] (List.map cB r.1.Fallen))]:=by
 refine zU G Tryz.func17 (yK [0] [] (y3 3 [1,2] [1,2] (z7 (zA 1 ?_))))
 obtain ⟨r2,hr2,h⟩:=aA h
 refine qC [] [(0,700050)] (W.Eb hr2) (y1 5 [1,2,4,5] [1,2,700050] (zB (y3 2 [1,2,4,5,12] [1,2,700050] (qc h (fun h=>?_) fun h=>?_))))
 refine z8 4 ⟨[(2,.ptr 2 0),(3,vI r2.2)],[(2,.box [.nl,.nl,.nl,.nl,.nl])]⟩ fun u k=>?_
 refine aO ?_
 obtain rfl:=osi h
 exact qW k [(2,.ptr 0 0),(3,vI r2.2)] (sp [.row (.box 2 0) 800000 4 [],.row (.box 2 1) 800001 36 [],.row (.box 2 2) 800002 4 [],.row (.box 2 3) 800003 3 [],.row (.box 2 4) 800004 4 []] [(2,0),(800000,1),(800001,2),(800002,3),(800003,4),(800004,5)])
 refine y4 [1,2,4] [1,2,700050] (z7 (zA 2 (qL bF r2.1 ?_)))
 obtain ⟨r4,hr4,h⟩:=aA h
 refine qC [] [(0,700150),(1,700151),(2,700152),(3,700153),(4,700154),(5,700155)] (W.Un hr4) (y1 2 [2,3] [2,700151,700152,700153,700154,700155] (zN fun u k=>?_))
 obtain rfl:=osi h
 exact qW k [(2,.ptr 0 0),(3,vI 0)] (sp [] [(2,0),(700151,1),(700152,2),(700153,3),(700154,4),(700155,5)])
theorem W.Jl {l r} (h:qO l=some r):PC G.P 52 [(.agg (aR l))] [] (.agg [(.row (.top 1) 4),(.row (.top 2) 36),(.row (.top 3) 4),(.row (.top 4) 3),(.row (.top 5) 4)]) [(0,.box [(.row (.top 1) 4),(.row (.top 2) 36),(.row (.top 3) 4),(.row (.top 4) 3),(.row (.top 5) 4)]),(1,.row 4 [] (List.map cB r.Cut)),(2,.row 36 [] (List.map (cS cB) r.Holes)),(3,.row 4 [] (List.map cB r.Done)),(4,.row 3 [] (List.map cI r.Joints)),(5,.row 4 [] (List.map cB r.Fallen))]:=by
 refine zU G Tryz.func52 (yK [0] [] (y3 2 [1,2] [1,2] (z7 (zA 2 (qL aU l.Pieces (y1 1 [1,2,3] [1,2] ?_))))))
 refine zB (sK [(1,[700050]),(3,[12]),(5,[14]),(7,[16]),(9,[18]),(11,[4])] [(1,[700050]),(3,[12]),(5,[14]),(7,[16]),(9,[18]),(11,[4])] [] [(0,[14,16,18,4]),(1,[14,16,18,4]),(2,[14,16,18,4]),(3,[14,16,18,4]),(4,[700050,12,16,18,4]),(5,[700050,12,16,18,4]),(6,[700050,12,14,18,4]),(7,[700050,12,14,18,4]),(8,[700050,12,14,16,4]),(9,[700050,12,14,16,4]),(10,[4]),(11,[700050,12,14,16,18])] [(0,[700050,12,14,16,18,4]),(1,[12,14,16,18,4]),(2,[12,14,16,18,4]),(3,[14,16,18,4]),(4,[700050,12,14,16,18,4]),(5,[700050,12,16,18,4]),(6,[700050,12,14,16,18,4]),(7,[700050,12,14,18,4]),(8,[700050,12,14,16,18,4]),(9,[700050,12,14,16,4]),(10,[4]),(11,[700050,12,14,16,18])] 12 (by kernel_rfl) (by kernel_rfl) [700050,4,18,16,14,12] (by kernel_rfl) (by kernel_rfl) (dN 1 ?_))
 obtain ⟨r11,hr11,h⟩:=aA h
 refine dC [(0,700050)] (W.xY hr11) (dL bF r11 ?_)
 obtain ⟨l12,hl12,h⟩:=aA h
 refine vW (by kernel_rfl) (Ir (c:=cB) (z:=false) (n:=(r11.length:Int)) (e:=4) (d:=12) (zs:=[(vB false)]) (k1:=.i64) (k2:=.i64) (by kernel_rfl) rfl hl12) (by kernel_rfl) (by kernel_rfl) (by kernel_rfl) (by kernel_rfl) (dN 1 ?_)
 obtain ⟨l13,hl13,h⟩:=aA h
 refine vW (by kernel_rfl) (Ir (c:=cB) (z:=false) (n:=(l.Pieces.length:Int)) (e:=4) (d:=14) (zs:=[(vB false)]) (k1:=.i64) (k2:=.i64) (by kernel_rfl) rfl hl13) (by kernel_rfl) (by kernel_rfl) (by kernel_rfl) (by kernel_rfl) (dN 1 ?_)
 obtain ⟨l14,hl14,h⟩:=aA h
 refine vW (by kernel_rfl) (Ir (c:=cI) (z:=0) (n:=(l.Pieces.length:Int)) (e:=3) (d:=16) (zs:=[(vI 0)]) (k1:=.i64) (k2:=.i64) (by kernel_rfl) rfl hl14) (by kernel_rfl) (by kernel_rfl) (by kernel_rfl) (by kernel_rfl) (dN 1 ?_)
 obtain ⟨l15,hl15,h⟩:=aA h
 refine vW (by kernel_rfl) (Ir (c:=cB) (z:=false) (n:=(l.Pieces.length:Int)) (e:=4) (d:=18) (zs:=[(vB false)]) (k1:=.i64) (k2:=.i64) (by kernel_rfl) rfl hl15) (by kernel_rfl) (by kernel_rfl) (by kernel_rfl) (by kernel_rfl) (dN 1 (vW (g:=4) (ob:=.box [.nl,.nl,.nl,.nl,.nl]) (v:=(.ptr 4 0)) (by kernel_rfl) (by kernel_rfl) (by kernel_rfl) (by kernel_rfl) (by kernel_rfl) (by kernel_rfl) (dE (oN 1 (zO fun u k=>?_)))))
 refine yE k [1,2,3,4] [1,2,4,12,14,16,18] (zB (y3 1 [1,2,3,4,5] [1,2,4,12,14,16,18] (zC ?_)))
 obtain ⟨x129,hx129,h⟩:=aA h
 refine ql hx129 (fun s92=>⟨[(1,.ptr 500000 0),(2,.ptr 500001 0),(3,vI (l.Pieces.length:Int)),(4,.ptr 500002 0),(5,vI s92.1)],[(500000,.box (aR l)),(500001,.box [.nl,.nl,.nl,.nl,.nl]),(500002,.box [(ro 500003 4),(ro 500004 36),(ro 500005 4),(ro 500006 3),(ro 500007 4)]),(500003,wB 4 l12),(500004,.row 36 [] (List.map (cS cB) s92.2)),(500005,wB 4 l13),(500006,wI 3 l14),(500007,wB 4 l15)]⟩) (fun x129=>(.exit 0,⟨[(2,.ptr 500000 0),(4,.ptr 500001 0)],[(500000,.box [.nl,.nl,.nl,.nl,.nl]),(500001,.box [(ro 500002 4),(ro 500003 36),(ro 500004 4),(ro 500005 3),(ro 500006 4)]),(500002,wB 4 l12),(500003,.row 36 [] (List.map (cS cB) x129)),(500004,wB 4 l13),(500005,wI 3 l14),(500006,wB 4 l15)]⟩)) (sp [.row (.box 4 1) 800000 36 []] [(1,500000),(2,500001),(4,500002),(12,500003),(14,500005),(16,500006),(18,500007),(800000,500004)]) (fun s92 r h=>?_) fun u k=>?_
 refine zB (y3 3 [1,2,3,4,5,22] [500000,500001,500002,500003,500004,500005,500006,500007] (qc h (fun h=>?_) fun h=>?_))
 refine y4 [1,2,3,4,5] [500000,500001,500002,500003,500004,500005,500006,500007] (zB (zC (sK [] [(9,[34])] [] [] [(0,[34]),(1,[34]),(2,[34]),(3,[34]),(4,[34]),(5,[34]),(6,[34]),(7,[34]),(8,[34])] 11 (by kernel_rfl) (by kernel_rfl) [34] (by kernel_rfl) (by kernel_rfl) (dN 5 ?_))))
 obtain ⟨x126,hx126,h⟩:=aA h
 refine dX aU hx126 (dN 2 (dL aB x126.Cuts ?_))
 obtain ⟨l127,hl127,h⟩:=aA h
 refine NJ (d:=34) (e:=4) (es:=(List.map cB l127)) (by kernel_rfl) (Ir (c:=cB) (z:=false) (n:=(x126.Cuts.length:Int)) (e:=4) (d:=34) (zs:=[(vB false)]) (k1:=.i64) (k2:=.i64) (by kernel_rfl) rfl hl127) (by kernel_rfl) (by kernel_rfl) (by kernel_rfl) (by kernel_rfl) (dN 1 (dE ?_))
 obtain ⟨l128,hl128,h⟩:=aA h
 refine oA (cS cB) 1 hl128 (oN 2 (zO fun u k=>?_))
 refine aH (yE k [1,2,3,4,5] [500000,500001,500002,500003,500004,500005,500006,500007] (zD (z6 3 fun u k=>?_)))
 cases h
 exact zH k
 refine zL 0 fun u k=>?_
 refine aQ ?_
 cases h
 exact xI k rfl (sp [] [(500001,500000),(500002,500001),(500003,500002),(500004,500003),(500005,500004),(500006,500005),(500007,500006)])
 refine zQ (yE k [2,4] [500000,500001,500002,500003,500004,500005,500006] (z8 2 ⟨[(2,.ptr 500000 0)],[(500000,.box [(ro 500002 4),(ro 500003 36),(ro 500004 4),(ro 500005 3),(ro 500006 4)]),(500002,wB 4 l12),(500003,.row 36 [] (List.map (cS cB) x129)),(500004,wB 4 l13),(500005,wI 3 l14),(500006,wB 4 l15)]⟩ fun u k=>?_))
 obtain rfl:=osi h
 exact qW k [(2,.ptr 0 0)] (sp [] [(500000,0),(500002,1),(500003,2),(500004,3),(500005,4),(500006,5)])
theorem W.Jj {l r} (h:qJ l=some r):PC G.P 18 [(.agg (aR l))] [] (.tup [(.agg [(.row (.top 1) 4),(.row (.top 2) 36),(.row (.top 3) 4),(.row (.top 4) 3),(.row (.top 5) 4)]),(vI r.2)]) [(0,.box [(.row (.top 1) 4),(.row (.top 2) 36),(.row (.top 3) 4),(.row (.top 4) 3),(.row (.top 5) 4)]),(1,.row 4 [] (List.map cB r.1.Cut)),(2,.row 36 [] (List.map (cS cB) r.1.Holes)),(3,.row 4 [] (List.map cB r.1.Done)),(4,.row 3 [] (List.map cI r.1.Joints)),(5,.row 4 [] (List.map cB r.1.Fallen))]:=by
 refine zU G Tryz.func18 (yK [0] [] (y3 3 [1,2] [1,2] (z7 (zA 1 ?_))))
 obtain ⟨r2,hr2,h⟩:=aA h
 refine qP (W.wH hr2) (y1 1 [1,2,4] [1,2] (zB (y3 2 [1,2,4,8] [1,2] (qc h (fun h=>?_) fun h=>?_))))
 refine z8 4 ⟨[(2,.ptr 2 0),(3,vI r2)],[(2,.box [.nl,.nl,.nl,.nl,.nl])]⟩ fun u k=>?_
 refine aO ?_
 obtain rfl:=osi h
 exact qW k [(2,.ptr 0 0),(3,vI r2)] (sp [.row (.box 2 0) 800000 4 [],.row (.box 2 1) 800001 36 [],.row (.box 2 2) 800002 4 [],.row (.box 2 3) 800003 3 [],.row (.box 2 4) 800004 4 []] [(2,0),(800000,1),(800001,2),(800002,3),(800003,4),(800004,5)])
 refine y4 [1,2] [1,2] (z7 (zA 1 ?_))
 obtain ⟨r4,hr4,h⟩:=aA h
 refine qC [] [(0,700050),(1,700051),(2,700052),(3,700053),(4,700054),(5,700055)] (W.Jl hr4) (y1 2 [2,3] [2,700051,700052,700053,700054,700055] (zN fun u k=>?_))
 obtain rfl:=osi h
 exact qW k [(2,.ptr 0 0),(3,vI 0)] (sp [] [(2,0),(700051,1),(700052,2),(700053,3),(700054,4),(700055,5)])
theorem W.jV {a b r} (h:dZ a b=some r):PC G.P 113 [(.sl (List.map cB a)),(.sl (List.map cB b))] [] (vB r) []:=by
 refine zU G Tryz.func113 (yK [0,1] [] (y3 1 [0,1] [] (zB (z7 (zA 1 (qL cB a ?_))))))
 refine zA 1 (qL cB b (y1 1 [0,1,10] [] (qc h (fun h=>?_) fun h=>?_)))
 refine z8 1 ⟨[(4,vB false)],[]⟩ fun u k=>?_
 refine aO ?_
 obtain rfl:=osi h
 exact zV k [(4,vB false)]
 refine y4 [0,1] [] (zB (y3 1 [0,1,5] [] (zC ?_)))
 obtain ⟨x80,hx80,h⟩:=aA h
 refine ql hx80 (fun s55=>⟨[(0,sB a),(1,sB b),(5,vI s55)],[]⟩) (fun x80=>match x80 with | .inl j81=>(.ret,⟨[(4,vB false)],[]⟩) | .inr j82=>(.exit 0,⟨[],[]⟩)) qH (fun s55 r h=>?_) (fun u k=>?_) (hout:=(by intro x;rcases x with _ | _ <;> rfl))
 refine zB (z7 (zA 2 (qL cB a (y1 1 [0,1,5,14] [] (qc h (fun h=>?_) fun h=>?_)))))
 refine y4 [0,1,5] [] (zB (zC (zB (qM 8 (dN 2 ?_)))))
 obtain ⟨x78,hx78,h⟩:=aA h
 refine dX cB hx78 (dN 3 ?_)
 obtain ⟨x79,hx79,h⟩:=aA h
 refine dX cB hx79 (dN 1 (dE (oN 1 (zO fun u k=>?_))))
 refine yE k [0,1,5,25] [] (qc h (fun h=>?_) fun h=>?_)
 refine z8 1 ⟨[(4,vB false)],[]⟩ fun u k=>?_
 refine aT (aO ?_)
 cases h
 exact zF k
 refine zM fun u k=>?_
 refine aH (yE k [0,1,5] [] (zD (z6 3 fun u k=>?_)))
 cases h
 exact zH k
 refine zL 0 fun u k=>?_
 refine aQ ?_
 cases h
 exact zF k
 rcases x80 with j81 | j82
 refine aT (aO ?_)
 obtain rfl:=osi h
 exact zV k [(4,vB false)]
 refine zQ (yE k [] [] (z8 1 ⟨[(4,vB true)],[]⟩ fun u k=>?_))
 obtain rfl:=osi h
 exact zV k [(4,vB true)]
theorem W.oM {a b r} (h:gL a b=some r):PC G.P 30 [(.sl (List.map cI a)),(.sl (List.map cI b))] [] (vB r) []:=by
 refine zU G Tryz.func30 (yK [0,1] [] (y3 1 [0,1] [] (zB (z7 (zA 1 (qL cI a ?_))))))
 refine zA 1 (qL cI b (y1 1 [0,1,10] [] (qc h (fun h=>?_) fun h=>?_)))
 refine z8 1 ⟨[(4,vB false)],[]⟩ fun u k=>?_
 refine aO ?_
 obtain rfl:=osi h
 exact zV k [(4,vB false)]
 refine y4 [0,1] [] (zB (y3 1 [0,1,5] [] (zC ?_)))
 obtain ⟨x80,hx80,h⟩:=aA h
 refine ql hx80 (fun s55=>⟨[(0,sI a),(1,sI b),(5,vI s55)],[]⟩) (fun x80=>match x80 with | .inl j81=>(.ret,⟨[(4,vB false)],[]⟩) | .inr j82=>(.exit 0,⟨[],[]⟩)) qH (fun s55 r h=>?_) (fun u k=>?_) (hout:=(by intro x;rcases x with _ | _ <;> rfl))
 refine zB (z7 (zA 2 (qL cI a (y1 1 [0,1,5,14] [] (qc h (fun h=>?_) fun h=>?_)))))
 refine y4 [0,1,5] [] (zB (zC (zB (qM 8 (dN 2 ?_)))))
 obtain ⟨x78,hx78,h⟩:=aA h
 refine dX cI hx78 (dN 3 ?_)
 obtain ⟨x79,hx79,h⟩:=aA h
 refine dX cI hx79 (dN 1 (dE (oN 1 (zO fun u k=>?_))))
 refine yE k [0,1,5,25] [] (qc h (fun h=>?_) fun h=>?_)
 refine z8 1 ⟨[(4,vB false)],[]⟩ fun u k=>?_
 refine aT (aO ?_)
 cases h
 exact zF k
 refine zM fun u k=>?_
 refine aH (yE k [0,1,5] [] (zD (z6 3 fun u k=>?_)))
 cases h
 exact zH k
 refine zL 0 fun u k=>?_
 refine aQ ?_
 cases h
 exact zF k
 rcases x80 with j81 | j82
 refine aT (aO ?_)
 obtain rfl:=osi h
 exact zV k [(4,vB false)]
 refine zQ (yE k [] [] (z8 1 ⟨[(4,vB true)],[]⟩ fun u k=>?_))
 obtain rfl:=osi h
 exact zV k [(4,vB true)]
theorem W.Lx {a b r} (h:sP a b=some r):PC G.P 53 [(.agg (aD a)),(.agg (aD b))] [] (vB r) []:=by
 refine zU G Tryz.func53 (yK [0,1] [] (y3 3 [2,3] [2,3] (zB (zB ?_))))
 obtain ⟨j14,hj14,h⟩:=aA h
 refine zT ⟨[(2,.ptr 500000 0),(3,.ptr 500001 0),(44,vB j14)],[(500000,.box (aD a)),(500001,.box (aD b))]⟩ ?_ fun u k=>?_
 replace h:=hj14
 refine zA 4 ?_
 obtain ⟨r15,hr15,h⟩:=aA h
 refine qP (W.jV hr15) (zA 2 (zS r15 (fun b0=>⟨[(2,.ptr 2 0),(3,.ptr 3 0),(12,vB (!b0))],[(2,.box (aD a)),(3,.box (aD b))]⟩) (fun hb=>?_) fun hb=>?_))
 replace h:=iK hb h
 refine zA 4 ?_
 obtain ⟨r16,hr16,h⟩:=aA h
 refine qP (W.jV hr16) (zA 3 (zS r16 (fun b0=>⟨[(2,.ptr 2 0),(3,.ptr 3 0),(20,vB (!b0))],[(2,.box (aD a)),(3,.box (aD b))]⟩) (fun hb=>?_) fun hb=>?_))
 replace h:=iK hb h
 refine zA 4 ?_
 obtain ⟨r17,hr17,h⟩:=aA h
 refine qP (W.jV hr17) (zA 3 (zS r17 (fun b0=>⟨[(2,.ptr 2 0),(3,.ptr 3 0),(28,vB (!b0))],[(2,.box (aD a)),(3,.box (aD b))]⟩) (fun hb=>?_) fun hb=>?_))
 replace h:=iK hb h
 refine zA 4 ?_
 obtain ⟨r18,hr18,h⟩:=aA h
 refine qP (W.oM hr18) (zA 3 (zS r18 (fun b0=>⟨[(2,.ptr 2 0),(3,.ptr 3 0),(36,vB (!b0))],[(2,.box (aD a)),(3,.box (aD b))]⟩) (fun hb=>?_) fun hb=>?_))
 replace h:=iK hb h
 refine zA 2 (qL (cS cB) a.Holes (zA 2 (qL (cS cB) b.Holes (z6 2 fun u k=>?_))))
 cases h
 exact bH k (sp [] [(2,500000),(3,500001)])
 replace h:=iJ hb h
 refine z6 8 fun u k=>?_
 cases h
 exact bH k (sp [] [(2,500000),(3,500001)])
 replace h:=iJ hb h
 refine z6 16 fun u k=>?_
 cases h
 exact bH k (sp [] [(2,500000),(3,500001)])
 replace h:=iJ hb h
 refine z6 24 fun u k=>?_
 cases h
 exact bH k (sp [] [(2,500000),(3,500001)])
 replace h:=iJ hb h
 refine z6 32 fun u k=>?_
 cases h
 exact bH k (sp [] [(2,500000),(3,500001)])
 refine yE k [2,3,44] [500000,500001] (qc h (fun h=>?_) fun h=>?_)
 refine z8 1 ⟨[(4,vB false)],[]⟩ fun u k=>?_
 refine aO ?_
 obtain rfl:=osi h
 exact zV k [(4,vB false)]
 refine y4 [2,3] [500000,500001] (zB (y3 1 [2,3,5] [500000,500001] (zC ?_)))
 obtain ⟨x134,hx134,h⟩:=aA h
 refine ql hx134 (fun s97=>⟨[(2,.ptr 500000 0),(3,.ptr 500001 0),(5,vI s97)],[(500000,.box (aD a)),(500001,.box (aD b))]⟩) (fun x134=>match x134 with | .inl j135=>(.ret,⟨[(4,vB false)],[]⟩) | .inr j136=>(.exit 0,⟨[],[]⟩)) qH (fun s97 r h=>?_) (fun u k=>?_) (hout:=(by intro x;rcases x with _ | _ <;> rfl))
 refine zB (z7 (zA 3 (qL (cS cB) a.Holes (y1 1 [2,3,5,49] [500000,500001] (qc h (fun h=>?_) fun h=>?_)))))
 refine y4 [2,3,5] [500000,500001] (zB (zC (zB (qM 10 (dN 3 ?_)))))
 obtain ⟨x131,hx131,h⟩:=aA h
 refine dX (cS cB) hx131 (dN 4 ?_)
 obtain ⟨x132,hx132,h⟩:=aA h
 refine dX (cS cB) hx132 (dN 1 (dE ?_))
 obtain ⟨r133,hr133,h⟩:=aA h
 refine oP (W.jV hr133) (oN 1 (zO fun u k=>?_))
 refine yE k [2,3,5,63] [500000,500001] (qc h (fun h=>?_) fun h=>?_)
 refine z8 1 ⟨[(4,vB false)],[]⟩ fun u k=>?_
 refine aT (aO ?_)
 cases h
 exact zF k
 refine zM fun u k=>?_
 refine aH (yE k [2,3,5] [500000,500001] (zD (z6 3 fun u k=>?_)))
 cases h
 exact zH k
 refine zL 0 fun u k=>?_
 refine aQ ?_
 cases h
 exact zF k
 rcases x134 with j135 | j136
 refine aT (aO ?_)
 obtain rfl:=osi h
 exact zV k [(4,vB false)]
 refine zQ (yE k [] [] (z8 1 ⟨[(4,vB true)],[]⟩ fun u k=>?_))
 obtain rfl:=osi h
 exact zV k [(4,vB true)]
theorem W.yX {a b r} (h:nP a b=some r):PC G.P 19 [(.agg (bG a)),(.agg (aD b))] [] (vB r) []:=by
 refine zU G Tryz.func19 (yK [0,1] [] (y3 3 [2,3] [2,3] (z7 (zA 12 ?_))))
 obtain ⟨r2,hr2,h⟩:=aA h
 refine qP (W.Lx hr2) (y1 1 [4] [] (zN fun u k=>?_))
 obtain rfl:=osi h
 exact zV k [(4,vB r2)]
theorem W.Uj {st l edges r} (h:kU st l edges=some r):PC G.P 114 [(.agg (bG st)),(.agg (aR l)),(vI edges)] [] (vB r) []:=by
 refine zU G Tryz.func114 (yK [0,1,2] [] (y3 3 [2,3,4] [3,4] (z7 (zA 2 (qL aU l.Pieces (y1 1 [2,3,4,7] [3,4] ?_))))))
 refine zB (zB ?_)
 obtain ⟨j2,hj2,h⟩:=aA h
 refine zT ⟨[(3,.ptr 500000 0),(4,.ptr 500001 0),(45,vB j2)],[(500000,.box (bG st)),(500001,.box (aR l))]⟩ ?_ fun u k=>?_
 replace h:=hj2
 refine zA 2 (qL cB st.Cut (zA 3 (qB h [3,4,7,18] [3,4] [18] (fun h=>?_) fun h=>?_)))
 refine z6 27 fun u k=>?_
 cases h
 exact bH k (sp [] [(3,500000),(4,500001)])
 refine zA 2 (qL (cS cB) st.Holes (zA 4 (qB h [3,4,7,25] [3,4] [25] (fun h=>?_) fun h=>?_)))
 refine z6 20 fun u k=>?_
 cases h
 exact bH k (sp [] [(3,500000),(4,500001)])
 refine zA 2 (qL cB st.Done (zA 4 (qB h [3,4,7,32] [3,4] [32] (fun h=>?_) fun h=>?_)))
 refine z6 13 fun u k=>?_
 cases h
 exact bH k (sp [] [(3,500000),(4,500001)])
 refine zA 2 (qL cI st.Joints (zA 4 (qB h [3,4,7,39] [3,4] [39] (fun h=>?_) fun h=>?_)))
 refine z6 6 fun u k=>?_
 cases h
 exact bH k (sp [] [(3,500000),(4,500001)])
 refine zA 2 (qL cB st.Fallen (z6 3 fun u k=>?_))
 cases h
 exact bH k (sp [] [(3,500000),(4,500001)])
 refine yE k [3,4,45] [500000,500001] (qc h (fun h=>?_) fun h=>?_)
 refine z8 1 ⟨[(6,vB false)],[]⟩ fun u k=>?_
 refine aO ?_
 obtain rfl:=osi h
 exact zV k [(6,vB false)]
 refine y4 [3,4] [500000,500001] (zB (z7 (zA 2 (qL aU l.Pieces (y1 1 [3,47,48,49] [500000] (zC ?_))))))
 obtain ⟨x70,hx70,h⟩:=aA h
 refine ql hx70 (fun s49=>⟨[(3,.ptr 500000 0),(47,cZ l.Pieces),(48,vI (l.Pieces.length:Int)),(49,vI s49)],[(500000,.box (bG st))]⟩) (fun x70=>match x70 with | .inl j71=>(.ret,⟨[(6,vB false)],[]⟩) | .inr j72=>(.exit 0,⟨[],[]⟩)) qH (fun s49 r h=>?_) (fun u k=>?_) (hout:=(by intro x;rcases x with _ | _ <;> rfl))
 refine y3 1 [3,47,48,49,50] [500000] (zB (qc h (fun h=>?_) fun h=>?_))
 refine y4 [3,47,48,49] [500000] (zB (zC (z7 (zA 1 ?_))))
 obtain ⟨x66,hx66,h⟩:=aA h
 refine qX aU hx66 (y1 4 [3,8,9,47,48,49] [9,500000] (zB (qM 9 (dN 3 ?_))))
 obtain ⟨x69,hx69,h⟩:=aA h
 refine dX (cS cB) hx69 (dN 1 (dL cB x69 (dN 2 (dL aB x66.Cuts (dE (oN 1 ?_))))))
 refine zO fun u k=>?_
 refine yE k [3,47,48,49,63] [500000] (qc h (fun h=>?_) fun h=>?_)
 refine z8 1 ⟨[(6,vB false)],[]⟩ fun u k=>?_
 refine aT (aO ?_)
 cases h
 exact zF k
 refine zM fun u k=>?_
 refine aH (yE k [3,47,48,49] [500000] (zD (z6 2 fun u k=>?_)))
 cases h
 exact zH k
 refine zL 0 fun u k=>?_
 refine aQ ?_
 cases h
 exact zF k
 rcases x70 with j71 | j72
 refine aT (aO ?_)
 obtain rfl:=osi h
 exact zV k [(6,vB false)]
 refine zQ (yE k [] [] (z8 1 ⟨[(6,vB true)],[]⟩ fun u k=>?_))
 obtain rfl:=osi h
 exact zV k [(6,vB true)]
theorem W.Hg {s0 v r} (h:uO s0 v=some r):PC G.P 124 [(.sl (List.map cB s0)),(vB v)] [] (vI r) []:=by
 refine zU G Tryz.func124 (yK [0,1] [] (y3 1 [0,1] [] (zB (z7 (zA 1 (qL cB s0 ?_))))))
 refine y1 1 [0,1,7,8] [] (zC ?_)
 obtain ⟨x32,hx32,h⟩:=aA h
 refine ql hx32 (fun s23=>⟨[(0,sB s0),(1,vB v),(7,vI (s0.length:Int)),(8,vI s23)],[]⟩) (fun x32=>match x32 with | .inl j33=>(.ret,⟨[(4,vI j33)],[]⟩) | .inr j34=>(.exit 0,⟨[],[]⟩)) qH (fun s23 r h=>?_) (fun u k=>?_) (hout:=(by intro x;rcases x with _ | _ <;> rfl))
 refine y3 1 [0,1,7,8,9] [] (zB (qc h (fun h=>?_) fun h=>?_))
 refine y4 [0,1,7,8] [] (zB (zC (y3 2 [0,1,5,7,8] [] (z7 (zA 3 ?_)))))
 obtain ⟨x31,hx31,h⟩:=aA h
 refine qX cB hx31 (y1 2 [0,1,5,7,8,16] [] (qc h (fun h=>?_) fun h=>?_))
 refine z8 2 ⟨[(4,vI s23)],[]⟩ fun u k=>?_
 refine aT (aO ?_)
 cases h
 exact zF k
 refine zM fun u k=>?_
 refine aH (yE k [0,1,7,8] [] (zD (z6 2 fun u k=>?_)))
 cases h
 exact zH k
 refine zL 0 fun u k=>?_
 refine aQ ?_
 cases h
 exact zF k
 rcases x32 with j33 | j34
 refine aT (aO ?_)
 obtain rfl:=osi h
 exact zV k [(4,vI j33)]
 refine zQ (yE k [] [] (z8 1 ⟨[(4,vI (-1))],[]⟩ fun u k=>?_))
 obtain rfl:=osi h
 exact zV k [(4,vI (-1))]
theorem W.Dq {s0 v r} (h:lG s0 v=some r):PC G.P 60 [(.sl (List.map cB s0)),(vB v)] [] (vB r) []:=by
 refine zU G Tryz.func60 (yK [0,1] [] (y3 1 [0,1] [] (z7 (zA 2 ?_))))
 obtain ⟨r2,hr2,h⟩:=aA h
 refine qP (W.Hg hr2) (y1 2 [4] [] (zN fun u k=>?_))
 obtain rfl:=osi h
 exact zV k [(4,vB (decide (r2 ≥ 0)))]
theorem W.Wh {e piece r} (h:We e piece=some r):PC G.P 66 [(.agg (bF e)),(vI piece)] [] (vB r) []:=by
 refine zU G Tryz.func66 (yK [0,1] [] (y3 2 [1,2] [2] (zB ?_)))
 obtain ⟨j1,hj1,h⟩:=aA h
 refine zT ⟨[(4,vB j1)],[]⟩ ?_ fun u k=>?_
 replace h:=hj1
 refine zA 5 (qB h [1,2,9] [2] [9] (fun h=>?_) fun h=>?_)
 refine z6 6 fun u k=>?_
 cases h
 exact zG k
 refine z6 6 fun u k=>?_
 cases h
 exact zG k
 refine yE k [4] [] (zN fun u k=>?_)
 obtain rfl:=osi h
 exact zV k [(4,vB j1)]
theorem W.Hz {st all piece r} (h:uG st all piece=some r):PC G.P 118 [(.agg (bG st)),(.sl (List.map bF all)),(vI piece)] [] (vB r) []:=by
 refine zU G Tryz.func118 (yK [0,1,2] [] (y3 2 [1,2,3] [3] (zB (z7 (zA 1 (qL bF all ?_))))))
 refine y1 1 [2,3,9,10,11] [3] (zC ?_)
 obtain ⟨x92,hx92,h⟩:=aA h
 refine ql hx92 (fun s63=>⟨[(2,vI piece),(3,.ptr 500000 0),(9,bB all),(10,vI (all.length:Int)),(11,vI s63)],[(500000,.box (bG st))]⟩) (fun x92=>match x92 with | .inl j93=>(.ret,⟨[(6,vB false)],[]⟩) | .inr j94=>(.exit 0,⟨[],[]⟩)) (sp [] [(3,500000)]) (fun s63 r h=>?_) (fun u k=>?_) (hout:=(by intro x;rcases x with _ | _ <;> rfl))
 refine y3 1 [2,3,9,10,11,12] [500000] (zB (qc h (fun h=>?_) fun h=>?_))
 refine y4 [2,3,9,10,11] [500000] (zB (zC (z7 (zA 1 ?_))))
 obtain ⟨x86,hx86,h⟩:=aA h
 refine qX bF hx86 (y1 4 [2,3,7,8,9,10,11] [8,500000] (zB ?_))
 obtain ⟨j89,hj89,h⟩:=aA h
 refine zT ⟨[(2,vI piece),(3,.ptr 500000 0),(9,bB all),(10,vI (all.length:Int)),(11,vI s63),(26,vB j89)],[(500000,.box (bG st))]⟩ ?_ fun u k=>?_
 replace h:=hj89
 refine zA 2 ?_
 obtain ⟨r90,hr90,h⟩:=aA h
 refine qP (W.Wh hr90) (zA 1 (qB h [2,3,7,9,10,11,19] [500000] [19] (fun h=>?_) fun h=>?_))
 refine zA 3 ?_
 obtain ⟨x91,hx91,h⟩:=aA h
 refine qX cB hx91 (z6 3 fun u k=>?_)
 cases h
 exact zG k
 refine z6 7 fun u k=>?_
 cases h
 exact zG k
 refine yE k [2,3,9,10,11,26] [500000] (qc h (fun h=>?_) fun h=>?_)
 refine z8 1 ⟨[(6,vB false)],[]⟩ fun u k=>?_
 refine aT (aO ?_)
 cases h
 exact zF k
 refine zM fun u k=>?_
 refine aH (yE k [2,3,9,10,11] [500000] (zD (z6 2 fun u k=>?_)))
 cases h
 exact zH k
 refine zL 0 fun u k=>?_
 refine aQ ?_
 cases h
 exact zF k
 rcases x92 with j93 | j94
 refine aT (aO ?_)
 obtain rfl:=osi h
 exact zV k [(6,vB false)]
 refine zQ (yE k [] [] (z8 1 ⟨[(6,vB true)],[]⟩ fun u k=>?_))
 obtain rfl:=osi h
 exact zV k [(6,vB true)]
end Go.Proofs.YtgfjbgoehhnaeaaGreat
