/- Each Go function does what its model says; written by a program out of the translation. -/
import Derived.Test.YtgfjbgoehhnaeaaWE
import Derived.Test.YtgfjbgoehhnaeaaPl1
set_option linter.unusedVariables false
set_option linter.unusedSimpArgs false
set_option linter.unusedSectionVars false
namespace Go.Proofs.Ytgfjbgoehhnaeaa
open Go Go.VI Go.SM Go.Proofs
set_option maxRecDepth 100000
set_option maxHeartbeats 4000000
theorem W.Ve {s0 a b r} (h:Hu s0 a b=some r):PC G.P 73 [(.agg (Df s0)),(vI a),(vI b)] [] (.agg (gZ r.1)) [(0,.box [(vI s0.X1),(vI s0.Y1),(vI s0.X2),(vI s0.Y2),(vI r.2.1),(vI r.2.2)])]:=by
 refine zU G Try.func73 (yK [0,1,2] [] (y3 2 [1,2,3,6] [3,6] (eQ (fun (j2:Int×Int)=>⟨[(1,vI j2.1),(2,vI j2.2),(3,.ptr 500000 0),(6,.ptr 500001 0)],[(500000,.box (Df s0)),(500001,.box [(vI 0),(vI 0),(vI 0),(vI 0),(vI 0),(vI 0)])]⟩) (Fj s0) r (by kernel_rfl) (fun j2 h=>?_) ?_)))
 refine z8 5 ⟨[(6,.ptr 500001 0)],[(500001,.box [(vI s0.X1),(vI s0.Y1),(vI s0.X2),(vI s0.Y2),(vI j2.1),(vI j2.2)])]⟩ fun u k=>?_
 obtain rfl:=osi h
 exact qW k [(6,.ptr 0 0)] (sp [] [(500001,0)])
 refine zB ?_
 obtain ⟨j3,a0,h⟩:=aA h
 refine zT ⟨[(1,vI a),(2,vI b),(3,.ptr 500000 0),(6,.ptr 500001 0),(17,vB j3)],[(500000,.box (Df s0)),(500001,.box [(vI 0),(vI 0),(vI 0),(vI 0),(vI 0),(vI 0)])]⟩ ?_ fun u k=>?_
 replace h:=a0
 refine zA 3 (qB h [1,2,3,6,9] [3,6] [9] (fun h=>?_) fun h=>?_)
 refine z6 8 fun u k=>?_
 cases h
 exact nP k (sp [] [(3,500000),(6,500001)])
 refine zA 3 (qB h [1,2,3,6,9,12] [3,6] [12] (fun h=>?_) fun h=>?_)
 refine z6 5 fun u k=>?_
 cases h
 exact nP k (sp [] [(3,500000),(6,500001)])
 refine z6 5 fun u k=>?_
 cases h
 exact nP k (sp [] [(3,500000),(6,500001)])
 refine yE k [1,2,3,6,17] [500000,500001] (qc h (fun h=>?_) fun h=>?_)
 refine zD (z6 4 fun u k=>?_)
 exact aU (b,a) h k (here (by kernel_rfl))
 refine zM fun u k=>?_
 exact aU (a,b) h k (here (by kernel_rfl))
theorem W.uZ {ends sides_0_0 sides_0_1 sides_0_2 sides_0_3 sides_0_4 sides_0_5 sides_0_6 sides_0_7 sides_0_8 sides_1_0 line_0_0 r} (h:eX ends sides_0_0 sides_0_1 sides_0_2 sides_0_3 sides_0_4 sides_0_5 sides_0_6 sides_0_7 sides_0_8 sides_1_0 line_0_0=some r):PC G.P 52 [(.sl (List.map cI ends)),(.fn 53 [(.vptr [(vS sides_0_0),(vS sides_0_1),(vI sides_0_2),(vI sides_0_3),(vI sides_0_4),(vI sides_0_5),(.sl (List.map aM sides_0_6)),(.sl (List.map aM sides_0_7)),(.sl (List.map aX sides_0_8))] 0),(.vptr [(vI sides_1_0)] 0)]),(.fn 55 [(.vptr [(vI line_0_0)] 0)])] [] (.row (.top 0) 86) [(0,.row 86 [] (List.map gZ r))]:=by
 refine zU G Try.func52 (yK [0,1,2] [] (y3 1 [0,1,2] [] (y3 1 [0,1,2,7] [7] (y3 1 [0,1,2,7,8] [7] (z7 (zA 1 ?_))))))
 refine jL (Ae (x:=none) Gv (by kernel_rfl)) (zA 1 (jL (Ae (x:=none) Gv (by kernel_rfl)) (y1 2 [0,1,2,7,8,9,10] [7] (zB (z7 (zA 1 ?_))))))
 refine qL cI ends (y1 1 [0,1,2,7,8,9,10,19,20,21] [7] (zC ?_))
 obtain ⟨a5,b8,h⟩:=aA h
 refine ql b8 (fun a0=>⟨[(0,sI ends),(1,.fn 53 [(.vptr [(vS sides_0_0),(vS sides_0_1),(vI sides_0_2),(vI sides_0_3),(vI sides_0_4),(vI sides_0_5),(bB sides_0_6),(bB sides_0_7),(bY sides_0_8)] 0),(.vptr [(vI sides_1_0)] 0)]),(2,.fn 55 [(.vptr [(vI line_0_0)] 0)]),(7,ro 500000 86),(8,vI a0.1),(9,vF 116 112 a0.2.1),(10,vF 116 112 a0.2.2.1),(19,sI ends),(20,vI (ends.length:Int)),(21,vI a0.2.2.2.1)],[(500000,jZ 86 a0.2.2.2.2)]⟩) (fun a5=>(.exit 0,⟨[(7,ro 500000 86)],[(500000,jZ 86 a5)]⟩)) (sp [] [(7,500000)]) (fun a0 r h=>?_) fun u k=>?_
 refine y3 1 [0,1,2,7,8,9,10,19,20,21,22] [500000] (zB (qc h (fun h=>?_) fun h=>?_))
 refine y4 [0,1,2,7,8,9,10,19,20,21] [500000] (eQ (fun (a3:Int×(Option Int)×(Option Int)×(List EdgeT))=>⟨[(0,sI ends),(1,.fn 53 [(.vptr [(vS sides_0_0),(vS sides_0_1),(vI sides_0_2),(vI sides_0_3),(vI sides_0_4),(vI sides_0_5),(bB sides_0_6),(bB sides_0_7),(bY sides_0_8)] 0),(.vptr [(vI sides_1_0)] 0)]),(2,.fn 55 [(.vptr [(vI line_0_0)] 0)]),(7,ro 500000 86),(8,vI a3.1),(9,vF 116 112 a3.2.1),(10,vF 116 112 a3.2.2.1),(19,sI ends),(20,vI (ends.length:Int)),(21,vI a0.2.2.2.1)],[(500000,jZ 86 a3.2.2.2)]⟩) (gD a0) r (by kernel_rfl) (fun a3 h=>?_) ?_)
 refine zD (z6 2 fun u k=>?_)
 cases h
 exact zH k
 refine zC (z7 (zA 1 ?_))
 obtain ⟨a2,b7,h⟩:=aA h
 refine qX cI b7 (y1 3 [0,1,2,7,8,9,10,11,12,19,20,21] [500000] (z7 (zA 1 (jL (Ae (x:=none) Gv (by kernel_rfl)) (zA 1 (jL (Ae (x:=none) Gv (by kernel_rfl)) ?_))))))
 refine y1 2 [0,1,2,7,8,9,10,11,12,13,14,19,20,21] [500000] (eQ (fun (a1:(Option Int)×(Option Int))=>⟨[(0,sI ends),(1,.fn 53 [(.vptr [(vS sides_0_0),(vS sides_0_1),(vI sides_0_2),(vI sides_0_3),(vI sides_0_4),(vI sides_0_5),(bB sides_0_6),(bB sides_0_7),(bY sides_0_8)] 0),(.vptr [(vI sides_1_0)] 0)]),(2,.fn 55 [(.vptr [(vI line_0_0)] 0)]),(7,ro 500000 86),(8,vI a0.1),(9,vF 116 112 a0.2.1),(10,vF 116 112 a0.2.2.1),(12,vI a2),(13,vF 116 112 a1.1),(14,vF 116 112 a1.2),(19,sI ends),(20,vI (ends.length:Int)),(21,vI a0.2.2.2.1)],[(500000,jZ 86 a0.2.2.2.2)]⟩) (gG line_0_0 a0 a2) r (by kernel_rfl) (fun a1 h=>?_) ?_)
 refine zB (zB ?_)
 obtain ⟨c2,a8,h⟩:=aA h
 refine zT ⟨[(0,sI ends),(1,.fn 53 [(.vptr [(vS sides_0_0),(vS sides_0_1),(vI sides_0_2),(vI sides_0_3),(vI sides_0_4),(vI sides_0_5),(bB sides_0_6),(bB sides_0_7),(bY sides_0_8)] 0),(.vptr [(vI sides_1_0)] 0)]),(2,.fn 55 [(.vptr [(vI line_0_0)] 0)]),(7,ro 500000 86),(8,vI a0.1),(9,vF 116 112 a0.2.1),(10,vF 116 112 a0.2.2.1),(12,vI a2),(13,vF 116 112 a1.1),(14,vF 116 112 a1.2),(19,sI ends),(20,vI (ends.length:Int)),(21,vI a0.2.2.2.1),(48,vB c2)],[(500000,jZ 86 a0.2.2.2.2)]⟩ ?_ fun u k=>?_
 replace h:=a8
 refine zA 2 (jL (CW (x:=a1.1) (y:=a0.2.1) Gv (by kernel_rfl)) (zA 1 (qB h [0,1,2,7,8,9,10,12,13,14,19,20,21,44] [500000] [44] (fun h=>?_) fun h=>?_)))
 refine zA 2 (jL (CW (x:=a1.2) (y:=a0.2.2.1) Gv (by kernel_rfl)) (z6 1 fun u k=>?_))
 cases h
 exact zG k
 refine z6 4 fun u k=>?_
 cases h
 exact zG k
 refine yE k [0,1,2,7,8,9,10,12,13,14,19,20,21,48] [500000] (qc h (fun h=>?_) fun h=>?_)
 refine zL 1 fun u k=>?_
 exact aR (zQ (aU (a0.1,a0.2.1,a0.2.2.1,a0.2.2.2.2) h k (here (by kernel_rfl))))
 refine y4 [0,1,2,7,8,9,10,12,13,14,19,20,21] [500000] (eQ (fun (a4:(List EdgeT))=>⟨[(0,sI ends),(1,.fn 53 [(.vptr [(vS sides_0_0),(vS sides_0_1),(vI sides_0_2),(vI sides_0_3),(vI sides_0_4),(vI sides_0_5),(bB sides_0_6),(bB sides_0_7),(bY sides_0_8)] 0),(.vptr [(vI sides_1_0)] 0)]),(2,.fn 55 [(.vptr [(vI line_0_0)] 0)]),(7,ro 500000 86),(12,vI a2),(13,vF 116 112 a1.1),(14,vF 116 112 a1.2),(19,sI ends),(20,vI (ends.length:Int)),(21,vI a0.2.2.2.1)],[(500000,jZ 86 a4)]⟩) (gF a0 a2 a1) r (by kernel_rfl) (fun a4 h=>?_) ?_)
 refine zD (z6 6 fun u k=>?_)
 exact aK (aU (a2,a1.1,a1.2,a4) h k (here (by kernel_rfl)))
 refine zB ?_
 obtain ⟨c3,a9,h⟩:=aA h
 refine zT ⟨[(0,sI ends),(1,.fn 53 [(.vptr [(vS sides_0_0),(vS sides_0_1),(vI sides_0_2),(vI sides_0_3),(vI sides_0_4),(vI sides_0_5),(bB sides_0_6),(bB sides_0_7),(bY sides_0_8)] 0),(.vptr [(vI sides_1_0)] 0)]),(2,.fn 55 [(.vptr [(vI line_0_0)] 0)]),(7,ro 500000 86),(8,vI a0.1),(9,vF 116 112 a0.2.1),(10,vF 116 112 a0.2.2.1),(12,vI a2),(13,vF 116 112 a1.1),(14,vF 116 112 a1.2),(19,sI ends),(20,vI (ends.length:Int)),(21,vI a0.2.2.2.1),(59,vB c3)],[(500000,jZ 86 a0.2.2.2.2)]⟩ ?_ fun u k=>?_
 replace h:=a9
 refine zA 2 (jL (RI (x:=a0.2.1) (y:=a0.2.2.1) Gv (by kernel_rfl)) (zA 1 (zS (a0.2.1==a0.2.2.1) (fun b0=>⟨[(0,sI ends),(1,.fn 53 [(.vptr [(vS sides_0_0),(vS sides_0_1),(vI sides_0_2),(vI sides_0_3),(vI sides_0_4),(vI sides_0_5),(bB sides_0_6),(bB sides_0_7),(bY sides_0_8)] 0),(.vptr [(vI sides_1_0)] 0)]),(2,.fn 55 [(.vptr [(vI line_0_0)] 0)]),(7,ro 500000 86),(8,vI a0.1),(9,vF 116 112 a0.2.1),(10,vF 116 112 a0.2.2.1),(12,vI a2),(13,vF 116 112 a1.1),(14,vF 116 112 a1.2),(19,sI ends),(20,vI (ends.length:Int)),(21,vI a0.2.2.2.1),(52,vB (!b0))],[(500000,jZ 86 a0.2.2.2.2)]⟩) (fun hb=>?_) fun hb=>?_)))
 replace h:=wT hb h
 refine z6 7 fun u k=>?_
 cases h
 exact zG k
 replace h:=wS hb h
 refine zA 1 ?_
 obtain ⟨c0,a6,h⟩:=aA h
 refine Wt (x:=a0.2.1) (r:=c0) Gv (by kernel_rfl) (EA a6 (fun n h=>W.pW h) (fun h=>W.pU h)) (zA 1 (qB h [0,1,2,7,8,9,10,12,13,14,19,20,21,52,55] [500000] [55] (fun h=>?_) fun h=>?_))
 refine z6 4 fun u k=>?_
 cases h
 exact zG k
 refine zA 1 ?_
 obtain ⟨c1,a7,h⟩:=aA h
 refine Wt (x:=a0.2.2.1) (r:=c1) Gv (by kernel_rfl) (EA a7 (fun n h=>W.pW h) (fun h=>W.pU h)) (z6 2 fun u k=>?_)
 cases h
 exact zG k
 refine yE k [0,1,2,7,8,9,10,12,13,14,19,20,21,59] [500000] (qc h (fun h=>?_) fun h=>?_)
 refine zD (zA 4 ?_)
 obtain ⟨c5,b2,h⟩:=aA h
 refine qC [] [(0,700200)] (W.Yc b2) (zA 1 ?_)
 obtain ⟨c6,b3,h⟩:=aA h
 refine qP (W.Af b3) (zA 1 ?_)
 obtain ⟨c7,b4,h⟩:=aA h
 refine qP (W.Af b4) ?_
 obtain ⟨c8,b5,h⟩:=aA h
 refine qC [] [(0,700450)] (W.Ve b5) (zA 1 ?_)
 obtain ⟨c4,b1,h⟩:=aA h
 refine qA gZ 6 b1 (z6 1 fun u k=>?_)
 exact aU c4 h k (here (by kernel_rfl))
 refine zM fun u k=>?_
 exact aU a0.2.2.2.2 h k (here (by kernel_rfl))
 refine z7 (zA 3 (qL cI ends (y1 1 [0,1,2,7,8,9,10,12,13,14,19,20,21,34] [500000] (qc h (fun h=>?_) fun h=>?_))))
 refine zD (zA 2 ?_)
 obtain ⟨b9,b6,h⟩:=aA h
 refine qP (W.Yb b6) (z6 5 fun u k=>?_)
 exact aU (b9.1,b9.2) h k (here (by kernel_rfl))
 refine zM fun u k=>?_
 exact aU (none,none) h k (here (by kernel_rfl))
 refine zL 0 fun u k=>?_
 refine aR ?_
 cases h
 exact zF k
 refine zQ (yE k [7] [500000] (z8 2 ⟨[(6,ro 500000 86)],[(500000,jZ 86 a5)]⟩ fun u k=>?_))
 obtain rfl:=osi h
 exact qW k [(6,ro 0 86)] (sp [] [(500000,0)])
theorem W.Yd {y a_0 a_1 a_2 a_3 a_4 a_5 a_6 a_7 a_8 a2_0 r} (h:Fv y a_0 a_1 a_2 a_3 a_4 a_5 a_6 a_7 a_8 a2_0=some r):PC G.P 56 [(vI y),(.vptr [(vS a_0),(vS a_1),(vI a_2),(vI a_3),(vI a_4),(vI a_5),(.sl (List.map aM a_6)),(.sl (List.map aM a_7)),(.sl (List.map aX a_8))] 0),(.vptr [(vI a2_0)] 0)] [] (.tup [(vF 116 112 r.1),(vF 116 112 r.2)]) []:=by
 refine zU G Try.func56 (yK [0,1,2] [] (y3 2 [0,1,2] [] (zB (qM 8 (dN 3 ?_)))))
 obtain ⟨r5,a0,h⟩:=aA h
 refine dC [] (W.Nn a0) (dN 4 (dE ?_))
 obtain ⟨r6,a1,h⟩:=aA h
 refine oP (W.Nn a1) (oN 2 (zO fun u k=>?_))
 refine yE k [4,5] [] (zN fun u k=>?_)
 obtain rfl:=osi h
 exact zV k [(4,vF 116 112 r5),(5,vF 116 112 r6)]
theorem W.Ye {from0 to1 a_0 r} (h:Fz from0 to1 a_0=some r):PC G.P 57 [(vI from0),(vI to1),(.vptr [(vI a_0)] 0)] [] (.agg (Df r)) [(0,.box [(vI a_0),(vI from0),(vI a_0),(vI to1)])]:=by
 refine zU G Try.func57 (yK [0,1,2] [] (y3 1 [0,1,2,5] [5] (z8 6 ⟨[(5,.ptr 5 0)],[(5,.box [(vI a_0),(vI from0),(vI a_0),(vI to1)])]⟩ fun u k=>?_)))
 obtain rfl:=osi h
 exact qW k [(5,.ptr 0 0)] (sp [] [(5,0)])
theorem W.vD {ends sides_0_0 sides_0_1 sides_0_2 sides_0_3 sides_0_4 sides_0_5 sides_0_6 sides_0_7 sides_0_8 sides_1_0 line_0_0 r} (h:eY ends sides_0_0 sides_0_1 sides_0_2 sides_0_3 sides_0_4 sides_0_5 sides_0_6 sides_0_7 sides_0_8 sides_1_0 line_0_0=some r):PC G.P 52 [(.sl (List.map cI ends)),(.fn 56 [(.vptr [(vS sides_0_0),(vS sides_0_1),(vI sides_0_2),(vI sides_0_3),(vI sides_0_4),(vI sides_0_5),(.sl (List.map aM sides_0_6)),(.sl (List.map aM sides_0_7)),(.sl (List.map aX sides_0_8))] 0),(.vptr [(vI sides_1_0)] 0)]),(.fn 57 [(.vptr [(vI line_0_0)] 0)])] [] (.row (.top 0) 86) [(0,.row 86 [] (List.map gZ r))]:=by
 refine zU G Try.func52 (yK [0,1,2] [] (y3 1 [0,1,2] [] (y3 1 [0,1,2,7] [7] (y3 1 [0,1,2,7,8] [7] (z7 (zA 1 ?_))))))
 refine jL (Ae (x:=none) Gv (by kernel_rfl)) (zA 1 (jL (Ae (x:=none) Gv (by kernel_rfl)) (y1 2 [0,1,2,7,8,9,10] [7] (zB (z7 (zA 1 ?_))))))
 refine qL cI ends (y1 1 [0,1,2,7,8,9,10,19,20,21] [7] (zC ?_))
 obtain ⟨a5,b8,h⟩:=aA h
 refine ql b8 (fun a0=>⟨[(0,sI ends),(1,.fn 56 [(.vptr [(vS sides_0_0),(vS sides_0_1),(vI sides_0_2),(vI sides_0_3),(vI sides_0_4),(vI sides_0_5),(bB sides_0_6),(bB sides_0_7),(bY sides_0_8)] 0),(.vptr [(vI sides_1_0)] 0)]),(2,.fn 57 [(.vptr [(vI line_0_0)] 0)]),(7,ro 500000 86),(8,vI a0.1),(9,vF 116 112 a0.2.1),(10,vF 116 112 a0.2.2.1),(19,sI ends),(20,vI (ends.length:Int)),(21,vI a0.2.2.2.1)],[(500000,jZ 86 a0.2.2.2.2)]⟩) (fun a5=>(.exit 0,⟨[(7,ro 500000 86)],[(500000,jZ 86 a5)]⟩)) (sp [] [(7,500000)]) (fun a0 r h=>?_) fun u k=>?_
 refine y3 1 [0,1,2,7,8,9,10,19,20,21,22] [500000] (zB (qc h (fun h=>?_) fun h=>?_))
 refine y4 [0,1,2,7,8,9,10,19,20,21] [500000] (eQ (fun (a3:Int×(Option Int)×(Option Int)×(List EdgeT))=>⟨[(0,sI ends),(1,.fn 56 [(.vptr [(vS sides_0_0),(vS sides_0_1),(vI sides_0_2),(vI sides_0_3),(vI sides_0_4),(vI sides_0_5),(bB sides_0_6),(bB sides_0_7),(bY sides_0_8)] 0),(.vptr [(vI sides_1_0)] 0)]),(2,.fn 57 [(.vptr [(vI line_0_0)] 0)]),(7,ro 500000 86),(8,vI a3.1),(9,vF 116 112 a3.2.1),(10,vF 116 112 a3.2.2.1),(19,sI ends),(20,vI (ends.length:Int)),(21,vI a0.2.2.2.1)],[(500000,jZ 86 a3.2.2.2)]⟩) (gH a0) r (by kernel_rfl) (fun a3 h=>?_) ?_)
 refine zD (z6 2 fun u k=>?_)
 cases h
 exact zH k
 refine zC (z7 (zA 1 ?_))
 obtain ⟨a2,b7,h⟩:=aA h
 refine qX cI b7 (y1 3 [0,1,2,7,8,9,10,11,12,19,20,21] [500000] (z7 (zA 1 (jL (Ae (x:=none) Gv (by kernel_rfl)) (zA 1 (jL (Ae (x:=none) Gv (by kernel_rfl)) ?_))))))
 refine y1 2 [0,1,2,7,8,9,10,11,12,13,14,19,20,21] [500000] (eQ (fun (a1:(Option Int)×(Option Int))=>⟨[(0,sI ends),(1,.fn 56 [(.vptr [(vS sides_0_0),(vS sides_0_1),(vI sides_0_2),(vI sides_0_3),(vI sides_0_4),(vI sides_0_5),(bB sides_0_6),(bB sides_0_7),(bY sides_0_8)] 0),(.vptr [(vI sides_1_0)] 0)]),(2,.fn 57 [(.vptr [(vI line_0_0)] 0)]),(7,ro 500000 86),(8,vI a0.1),(9,vF 116 112 a0.2.1),(10,vF 116 112 a0.2.2.1),(12,vI a2),(13,vF 116 112 a1.1),(14,vF 116 112 a1.2),(19,sI ends),(20,vI (ends.length:Int)),(21,vI a0.2.2.2.1)],[(500000,jZ 86 a0.2.2.2.2)]⟩) (gJ line_0_0 a0 a2) r (by kernel_rfl) (fun a1 h=>?_) ?_)
 refine zB (zB ?_)
 obtain ⟨c2,a8,h⟩:=aA h
 refine zT ⟨[(0,sI ends),(1,.fn 56 [(.vptr [(vS sides_0_0),(vS sides_0_1),(vI sides_0_2),(vI sides_0_3),(vI sides_0_4),(vI sides_0_5),(bB sides_0_6),(bB sides_0_7),(bY sides_0_8)] 0),(.vptr [(vI sides_1_0)] 0)]),(2,.fn 57 [(.vptr [(vI line_0_0)] 0)]),(7,ro 500000 86),(8,vI a0.1),(9,vF 116 112 a0.2.1),(10,vF 116 112 a0.2.2.1),(12,vI a2),(13,vF 116 112 a1.1),(14,vF 116 112 a1.2),(19,sI ends),(20,vI (ends.length:Int)),(21,vI a0.2.2.2.1),(48,vB c2)],[(500000,jZ 86 a0.2.2.2.2)]⟩ ?_ fun u k=>?_
 replace h:=a8
 refine zA 2 (jL (CW (x:=a1.1) (y:=a0.2.1) Gv (by kernel_rfl)) (zA 1 (qB h [0,1,2,7,8,9,10,12,13,14,19,20,21,44] [500000] [44] (fun h=>?_) fun h=>?_)))
 refine zA 2 (jL (CW (x:=a1.2) (y:=a0.2.2.1) Gv (by kernel_rfl)) (z6 1 fun u k=>?_))
 cases h
 exact zG k
 refine z6 4 fun u k=>?_
 cases h
 exact zG k
 refine yE k [0,1,2,7,8,9,10,12,13,14,19,20,21,48] [500000] (qc h (fun h=>?_) fun h=>?_)
 refine zL 1 fun u k=>?_
 exact aR (zQ (aU (a0.1,a0.2.1,a0.2.2.1,a0.2.2.2.2) h k (here (by kernel_rfl))))
 refine y4 [0,1,2,7,8,9,10,12,13,14,19,20,21] [500000] (eQ (fun (a4:(List EdgeT))=>⟨[(0,sI ends),(1,.fn 56 [(.vptr [(vS sides_0_0),(vS sides_0_1),(vI sides_0_2),(vI sides_0_3),(vI sides_0_4),(vI sides_0_5),(bB sides_0_6),(bB sides_0_7),(bY sides_0_8)] 0),(.vptr [(vI sides_1_0)] 0)]),(2,.fn 57 [(.vptr [(vI line_0_0)] 0)]),(7,ro 500000 86),(12,vI a2),(13,vF 116 112 a1.1),(14,vF 116 112 a1.2),(19,sI ends),(20,vI (ends.length:Int)),(21,vI a0.2.2.2.1)],[(500000,jZ 86 a4)]⟩) (gI a0 a2 a1) r (by kernel_rfl) (fun a4 h=>?_) ?_)
 refine zD (z6 6 fun u k=>?_)
 exact aK (aU (a2,a1.1,a1.2,a4) h k (here (by kernel_rfl)))
 refine zB ?_
 obtain ⟨c3,a9,h⟩:=aA h
 refine zT ⟨[(0,sI ends),(1,.fn 56 [(.vptr [(vS sides_0_0),(vS sides_0_1),(vI sides_0_2),(vI sides_0_3),(vI sides_0_4),(vI sides_0_5),(bB sides_0_6),(bB sides_0_7),(bY sides_0_8)] 0),(.vptr [(vI sides_1_0)] 0)]),(2,.fn 57 [(.vptr [(vI line_0_0)] 0)]),(7,ro 500000 86),(8,vI a0.1),(9,vF 116 112 a0.2.1),(10,vF 116 112 a0.2.2.1),(12,vI a2),(13,vF 116 112 a1.1),(14,vF 116 112 a1.2),(19,sI ends),(20,vI (ends.length:Int)),(21,vI a0.2.2.2.1),(59,vB c3)],[(500000,jZ 86 a0.2.2.2.2)]⟩ ?_ fun u k=>?_
 replace h:=a9
 refine zA 2 (jL (RI (x:=a0.2.1) (y:=a0.2.2.1) Gv (by kernel_rfl)) (zA 1 (zS (a0.2.1==a0.2.2.1) (fun b0=>⟨[(0,sI ends),(1,.fn 56 [(.vptr [(vS sides_0_0),(vS sides_0_1),(vI sides_0_2),(vI sides_0_3),(vI sides_0_4),(vI sides_0_5),(bB sides_0_6),(bB sides_0_7),(bY sides_0_8)] 0),(.vptr [(vI sides_1_0)] 0)]),(2,.fn 57 [(.vptr [(vI line_0_0)] 0)]),(7,ro 500000 86),(8,vI a0.1),(9,vF 116 112 a0.2.1),(10,vF 116 112 a0.2.2.1),(12,vI a2),(13,vF 116 112 a1.1),(14,vF 116 112 a1.2),(19,sI ends),(20,vI (ends.length:Int)),(21,vI a0.2.2.2.1),(52,vB (!b0))],[(500000,jZ 86 a0.2.2.2.2)]⟩) (fun hb=>?_) fun hb=>?_)))
 replace h:=wT hb h
 refine z6 7 fun u k=>?_
 cases h
 exact zG k
 replace h:=wS hb h
 refine zA 1 ?_
 obtain ⟨c0,a6,h⟩:=aA h
 refine Wt (x:=a0.2.1) (r:=c0) Gv (by kernel_rfl) (EA a6 (fun n h=>W.pW h) (fun h=>W.pU h)) (zA 1 (qB h [0,1,2,7,8,9,10,12,13,14,19,20,21,52,55] [500000] [55] (fun h=>?_) fun h=>?_))
 refine z6 4 fun u k=>?_
 cases h
 exact zG k
 refine zA 1 ?_
 obtain ⟨c1,a7,h⟩:=aA h
 refine Wt (x:=a0.2.2.1) (r:=c1) Gv (by kernel_rfl) (EA a7 (fun n h=>W.pW h) (fun h=>W.pU h)) (z6 2 fun u k=>?_)
 cases h
 exact zG k
 refine yE k [0,1,2,7,8,9,10,12,13,14,19,20,21,59] [500000] (qc h (fun h=>?_) fun h=>?_)
 refine zD (zA 4 ?_)
 obtain ⟨c5,b2,h⟩:=aA h
 refine qC [] [(0,700200)] (W.Ye b2) (zA 1 ?_)
 obtain ⟨c6,b3,h⟩:=aA h
 refine qP (W.Af b3) (zA 1 ?_)
 obtain ⟨c7,b4,h⟩:=aA h
 refine qP (W.Af b4) ?_
 obtain ⟨c8,b5,h⟩:=aA h
 refine qC [] [(0,700450)] (W.Ve b5) (zA 1 ?_)
 obtain ⟨c4,b1,h⟩:=aA h
 refine qA gZ 6 b1 (z6 1 fun u k=>?_)
 exact aU c4 h k (here (by kernel_rfl))
 refine zM fun u k=>?_
 exact aU a0.2.2.2.2 h k (here (by kernel_rfl))
 refine z7 (zA 3 (qL cI ends (y1 1 [0,1,2,7,8,9,10,12,13,14,19,20,21,34] [500000] (qc h (fun h=>?_) fun h=>?_))))
 refine zD (zA 2 ?_)
 obtain ⟨b9,b6,h⟩:=aA h
 refine qP (W.Yd b6) (z6 5 fun u k=>?_)
 exact aU (b9.1,b9.2) h k (here (by kernel_rfl))
 refine zM fun u k=>?_
 exact aU (none,none) h k (here (by kernel_rfl))
 refine zL 0 fun u k=>?_
 refine aR ?_
 cases h
 exact zF k
 refine zQ (yE k [7] [500000] (z8 2 ⟨[(6,ro 500000 86)],[(500000,jZ 86 a5)]⟩ fun u k=>?_))
 obtain rfl:=osi h
 exact qW k [(6,ro 0 86)] (sp [] [(500000,0)])
theorem W.DN {l r} (h:Di l=some r):PC G.P 34 [(.agg (aV l))] [] (.row (.top 0) 86) [(0,.row 86 [] (List.map gZ r))]:=by
 refine zU G Try.func34 (yK [0] [] (y3 2 [1] [1] (y3 2 [1,3,4] [1,3,4] (zB (z7 (zA 2 ?_))))))
 refine qL aX l.Pieces (y1 1 [1,3,4,15,16,17] [1,3,4] (zC ?_))
 obtain ⟨b0,c3,h⟩:=aA h
 refine ql c3 (fun a0=>⟨[(1,.ptr 500000 0),(3,ro 500001 3),(4,ro 500002 3),(15,bY l.Pieces),(16,vI (l.Pieces.length:Int)),(17,vI a0.1)],[(500000,.box (aV l)),(500001,wI 3 a0.2.1),(500002,wI 3 a0.2.2)]⟩) (fun b0=>(.exit 0,⟨[(1,.ptr 500000 0),(3,ro 500001 3),(4,ro 500002 3)],[(500000,.box (aV l)),(500001,wI 3 b0.1),(500002,wI 3 b0.2)]⟩)) (sp [] [(1,500000),(3,500001),(4,500002)]) (fun a0 r h=>?_) fun u k=>?_
 refine y3 1 [1,3,4,15,16,17,18] [500000,500001,500002] (zB (qc h (fun h=>?_) fun h=>?_))
 refine y4 [1,3,4,15,16,17] [500000,500001,500002] (zB (zC (z7 ?_)))
 obtain ⟨a8,c0,h⟩:=aA h
 refine qX aX c0 (y1 3 [1,3,4,6,15,16,17] [6,500000,500001,500002] (z7 (zA 2 (qL aM a8.Rects (y1 1 [1,3,4,15,16,17,22,23,24] [500000,500001,500002] (zC ?_))))))
 obtain ⟨a9,c2,h⟩:=aA h
 refine ql c2 (fun a3=>⟨[(1,.ptr 500000 0),(3,ro 500001 3),(4,ro 500002 3),(15,bY l.Pieces),(16,vI (l.Pieces.length:Int)),(17,vI a0.1),(22,bB a8.Rects),(23,vI (a8.Rects.length:Int)),(24,vI a3.1)],[(500000,.box (aV l)),(500001,wI 3 a3.2.1),(500002,wI 3 a3.2.2)]⟩) (fun a9=>(.exit 2,⟨[(1,.ptr 500000 0),(3,ro 500001 3),(4,ro 500002 3),(15,bY l.Pieces),(16,vI (l.Pieces.length:Int)),(17,vI a0.1)],[(500000,.box (aV l)),(500001,wI 3 a9.1),(500002,wI 3 a9.2)]⟩)) qH (fun a3 r h=>?_) fun u k=>?_
 refine y3 1 [1,3,4,15,16,17,22,23,24,25] [500000,500001,500002] (zB (qc h (fun h=>?_) fun h=>?_))
 refine y4 [1,3,4,15,16,17,22,23,24] [500000,500001,500002] (zB (zC (z7 ?_)))
 obtain ⟨d3,c1,h⟩:=aA h
 refine qX aM c1 (y1 3 [1,3,4,8,15,16,17,22,23,24] [8,500000,500001,500002] (z7 (zA 9 ?_)))
 obtain ⟨c7,b2,h⟩:=aA h
 refine qA cI 1 b2 (y1 1 [1,3,4,8,15,16,17,22,23,24] [8,500000,500001,500002] (zD (zA 9 ?_)))
 obtain ⟨c8,b3,h⟩:=aA h
 refine qA cI 1 b3 (z6 1 fun u k=>?_)
 refine aK (yE k [1,3,4,15,16,17,22,23,24] [500000,500001,500002] (zD (z6 2 fun u k=>?_)))
 cases h
 exact zH k
 refine zL 2 fun u k=>?_
 refine aR ?_
 cases h
 exact zF k
 refine zQ (aK (yE k [1,3,4,15,16,17] [500000,500001,500002] (zD (z6 2 fun u k=>?_))))
 cases h
 exact zH k
 refine zL 0 fun u k=>?_
 refine aR ?_
 cases h
 exact zF k
 refine zQ (yE k [1,3,4] [500000,500001,500002] (z7 (zA 1 ?_)))
 obtain ⟨a1,b6,h⟩:=aA h
 refine qC [(300000,500001)] [(0,700050)] (W.Yh b6) (zA 1 ?_)
 obtain ⟨a2,b7,h⟩:=aA h
 refine qC [(300000,500002)] [(0,700150)] (W.Yh b7) (y1 2 [1,3,4] [500000,700050,700150] (y3 1 [1,3,4,9] [9,500000,700050,700150] (zB (z7 (zA 1 (qL cI a2 ?_))))))
 refine y1 1 [1,3,4,9,54,55,56] [9,500000,700050,700150] (zC ?_)
 obtain ⟨c6,c4,h⟩:=aA h
 refine ql c4 (fun a6=>⟨[(1,.ptr 500000 0),(3,ro 500001 3),(4,ro 500002 3),(9,ro 500003 86),(54,ro 500002 3),(55,vI (a2.length:Int)),(56,vI a6.1)],[(500000,.box (aV l)),(500001,wI 3 a1),(500002,wI 3 a2),(500003,jZ 86 a6.2)]⟩) (fun c6=>(.exit 4,⟨[(1,.ptr 500000 0),(3,ro 500001 3),(4,ro 500002 3),(9,ro 500003 86)],[(500000,.box (aV l)),(500001,wI 3 a1),(500002,wI 3 a2),(500003,jZ 86 c6)]⟩)) (sp [] [(9,500003),(500000,500000),(700050,500001),(700150,500002)]) (fun a6 r h=>?_) fun u k=>?_
 refine y3 1 [1,3,4,9,54,55,56,57] [500000,500001,500002,500003] (zB (qc h (fun h=>?_) fun h=>?_))
 refine y4 [1,3,4,9,54,55,56] [500000,500001,500002,500003] (zB (zC (z7 ?_)))
 obtain ⟨d4,a4,h⟩:=aA h
 refine qI cI a4 (qR cI a4 (y1 2 [1,3,4,9,11,54,55,56] [11,500000,500001,500002,500003] (zD (zA 4 ?_))))
 obtain ⟨d1,b8,h⟩:=aA h
 refine Dl [] [(0,700200)] [500001,500000,11] (by kernel_rfl) (W.uZ b8) (by kernel_rfl) (by kernel_rfl) (.inr ⟨rfl,fun _ _=>GM (ML fun _=>rfl) (fun _ _=>MK)⟩) ?_
 obtain ⟨c9,b4,h⟩:=aA h
 refine qA gZ 6 b4 (z6 1 fun u k=>?_)
 refine aK (yE k [1,3,4,9,54,55,56] [500000,500001,500002,500003] (zD (z6 2 fun u k=>?_)))
 cases h
 exact zH k
 refine zL 4 fun u k=>?_
 refine aR ?_
 cases h
 exact zF k
 refine zQ (yE k [1,3,4,9] [500000,500001,500002,500003] (zB (z7 (zA 1 (qL cI a1 (y1 1 [1,4,9,67,68,69] [500000,500001,500002,500003] ?_))))))
 refine zC ?_
 obtain ⟨b1,c5,h⟩:=aA h
 refine ql c5 (fun a7=>⟨[(1,.ptr 500000 0),(4,ro 500001 3),(9,ro 500002 86),(67,ro 500003 3),(68,vI (a1.length:Int)),(69,vI a7.1)],[(500000,.box (aV l)),(500001,wI 3 a2),(500002,jZ 86 a7.2),(500003,wI 3 a1)]⟩) (fun b1=>(.exit 6,⟨[(9,ro 500000 86)],[(500000,jZ 86 b1)]⟩)) (sp [] [(500000,500000),(500001,500003),(500002,500001),(500003,500002)]) (fun a7 r h=>?_) fun u k=>?_
 refine y3 1 [1,4,9,67,68,69,70] [500000,500001,500002,500003] (zB (qc h (fun h=>?_) fun h=>?_))
 refine y4 [1,4,9,67,68,69] [500000,500001,500002,500003] (zB (zC (z7 ?_)))
 obtain ⟨d5,a5,h⟩:=aA h
 refine qI cI a5 (qR cI a5 (y1 2 [1,4,9,13,67,68,69] [13,500000,500001,500002,500003] (zD (zA 4 ?_))))
 obtain ⟨d2,b9,h⟩:=aA h
 refine Dl [] [(0,700200)] [500001,500000,13] (by kernel_rfl) (W.vD b9) (by kernel_rfl) (by kernel_rfl) (.inr ⟨rfl,fun _ _=>GM (ML fun _=>rfl) (fun _ _=>MK)⟩) ?_
 obtain ⟨d0,b5,h⟩:=aA h
 refine qA gZ 6 b5 (z6 1 fun u k=>?_)
 refine aK (yE k [1,4,9,67,68,69] [500000,500001,500002,500003] (zD (z6 2 fun u k=>?_)))
 cases h
 exact zH k
 refine zL 6 fun u k=>?_
 refine aR ?_
 cases h
 exact Cf k rfl (sp [] [(500002,500000)])
 refine zQ (yE k [9] [500000] (z8 2 ⟨[(2,ro 500000 86)],[(500000,jZ 86 b1)]⟩ fun u k=>?_))
 obtain rfl:=osi h
 exact qW k [(2,ro 0 86)] (sp [] [(500000,0)])
theorem W.Jg {l r} (h:sH l=some r):PC G.P 18 [(.agg (aV l))] [] (.tup [(.row (.top 0) 86),(vI r.2)]) [(0,.row 86 [] (List.map gZ r.1))]:=by
 refine zU G Try.func18 (yK [0] [] (y3 3 [1] [1] (zB (z7 (zA 1 ?_)))))
 obtain ⟨r4,a0,h⟩:=aA h
 refine qP (W.Vy a0) (y1 1 [1,4] [1] (y3 2 [1,4,8] [1] (qc h (fun h=>?_) fun h=>?_)))
 refine z8 3 ⟨[(2,ro 2 86),(3,vI r4)],[(2,jZ 86 [])]⟩ fun u k=>?_
 refine aO ?_
 obtain rfl:=osi h
 exact qW k [(2,ro 0 86),(3,vI r4)] (sp [] [(2,0)])
 refine y4 [1] [1] (z7 (zA 1 ?_))
 obtain ⟨r6,a1,h⟩:=aA h
 refine qC [] [(0,700050)] (W.DN a1) (y1 2 [2,3] [700050] (zN fun u k=>?_))
 obtain rfl:=osi h
 exact qW k [(2,ro 0 86),(3,vI 0)] (sp [] [(700050,0)])
theorem W.Ri {l edges r} (h:yY l edges=some r):PC G.P 26 [(.agg (aV l)),(vI edges)] [] (.agg [(.row (.top 1) 4),(.row (.top 2) 37),(.row (.top 3) 4),(.row (.top 4) 3),(.row (.top 5) 4)]) [(0,.box [(.row (.top 1) 4),(.row (.top 2) 37),(.row (.top 3) 4),(.row (.top 4) 3),(.row (.top 5) 4)]),(1,.row 4 [] (List.map cB r.Cut)),(2,.row 37 [] (List.map (cS cB) r.Holes)),(3,.row 4 [] (List.map cB r.Done)),(4,.row 3 [] (List.map cI r.Joints)),(5,.row 4 [] (List.map cB r.Fallen))]:=by
 refine zU G Try.func26 (yK [0,1] [] (y3 2 [1,2,4] [2,4] (z7 (zA 2 (qL aX l.Pieces (y1 1 [1,2,4,5] [2,4] ?_))))))
 refine zB (yL [(1,[13]),(3,[15]),(5,[17]),(7,[19]),(9,[6])] [(1,[13]),(3,[15]),(5,[17]),(7,[19]),(9,[6])] [] [(0,[15,17,19,6]),(1,[15,17,19,6]),(2,[13,17,19,6]),(3,[13,17,19,6]),(4,[13,15,19,6]),(5,[13,15,19,6]),(6,[13,15,17,6]),(7,[13,15,17,6]),(8,[6]),(9,[13,15,17,19])] [(0,[13,15,17,19,6]),(1,[15,17,19,6]),(2,[13,15,17,19,6]),(3,[13,17,19,6]),(4,[13,15,17,19,6]),(5,[13,15,19,6]),(6,[13,15,17,19,6]),(7,[13,15,17,6]),(8,[6]),(9,[13,15,17,19])] 10 (by kernel_rfl) (by kernel_rfl) [6,19,17,15,13] (by kernel_rfl) (by kernel_rfl) (dN 1 ?_))
 obtain ⟨l9,b4,h⟩:=aA h
 refine Gg (by kernel_rfl) (Vq (c:=cB) (z:=false) (n:=edges) (e:=4) (d:=13) (zs:=[(vB false)]) (k1:=.i64) (k2:=.i64) (by kernel_rfl) rfl b4) (by kernel_rfl) (by kernel_rfl) (by kernel_rfl) (by kernel_rfl) (dN 1 ?_)
 obtain ⟨a9,a6,h⟩:=aA h
 refine Gg (by kernel_rfl) (Vq (c:=cB) (z:=false) (n:=(l.Pieces.length:Int)) (e:=4) (d:=15) (zs:=[(vB false)]) (k1:=.i64) (k2:=.i64) (by kernel_rfl) rfl a6) (by kernel_rfl) (by kernel_rfl) (by kernel_rfl) (by kernel_rfl) (dN 1 ?_)
 obtain ⟨b0,a7,h⟩:=aA h
 refine Gg (by kernel_rfl) (Vq (c:=cI) (z:=0) (n:=(l.Pieces.length:Int)) (e:=3) (d:=17) (zs:=[(vI 0)]) (k1:=.i64) (k2:=.i64) (by kernel_rfl) rfl a7) (by kernel_rfl) (by kernel_rfl) (by kernel_rfl) (by kernel_rfl) (dN 1 ?_)
 obtain ⟨b2,a8,h⟩:=aA h
 refine Gg (by kernel_rfl) (Vq (c:=cB) (z:=false) (n:=(l.Pieces.length:Int)) (e:=4) (d:=19) (zs:=[(vB false)]) (k1:=.i64) (k2:=.i64) (by kernel_rfl) rfl a8) (by kernel_rfl) (by kernel_rfl) (by kernel_rfl) (by kernel_rfl) (dN 1 (Gg (g:=6) (ob:=.box [.nl,.nl,.nl,.nl,.nl]) (v:=(.ptr 6 0)) (by kernel_rfl) (by kernel_rfl) (by kernel_rfl) (by kernel_rfl) (by kernel_rfl) (by kernel_rfl) (dE (oN 1 (zO fun u k=>?_)))))
 refine yE k [2,4,6] [2,4,6,13,15,17,19] (zB (z7 (zA 2 (qL aX l.Pieces (y1 1 [4,6,22,23,24] [4,6,13,15,17,19] (zC ?_))))))
 obtain ⟨a0,a4,h⟩:=aA h
 refine ql a4 (fun b3=>⟨[(4,.ptr 500000 0),(6,.ptr 500001 0),(22,bY l.Pieces),(23,vI (l.Pieces.length:Int)),(24,vI b3.1)],[(500000,.box [.nl,.nl,.nl,.nl,.nl]),(500001,.box [(ro 500002 4),(ro 500003 37),(ro 500004 4),(ro 500005 3),(ro 500006 4)]),(500002,wB 4 l9),(500003,.row 37 [] (List.map (cS cB) b3.2)),(500004,wB 4 a9),(500005,wI 3 b0),(500006,wB 4 b2)]⟩) (fun a0=>(.exit 0,⟨[(4,.ptr 500000 0),(6,.ptr 500001 0)],[(500000,.box [.nl,.nl,.nl,.nl,.nl]),(500001,.box [(ro 500002 4),(ro 500003 37),(ro 500004 4),(ro 500005 3),(ro 500006 4)]),(500002,wB 4 l9),(500003,.row 37 [] (List.map (cS cB) a0)),(500004,wB 4 a9),(500005,wI 3 b0),(500006,wB 4 b2)]⟩)) (sp [.row (.box 6 1) 800000 37 []] [(4,500000),(6,500001),(13,500002),(15,500004),(17,500005),(19,500006),(800000,500003)]) (fun b3 r h=>?_) fun u k=>?_
 refine y3 1 [4,6,22,23,24,25] [500000,500001,500002,500003,500004,500005,500006] (zB (qc h (fun h=>?_) fun h=>?_))
 refine y4 [4,6,22,23,24] [500000,500001,500002,500003,500004,500005,500006] (zB (zC (z7 ?_)))
 obtain ⟨a5,a3,h⟩:=aA h
 refine qX aX a3 (y1 3 [4,6,8,22,23,24] [8,500000,500001,500002,500003,500004,500005,500006] (yL [] [(5,[33])] [] [] [(0,[33]),(1,[33]),(2,[33]),(3,[33]),(4,[33])] 7 (by kernel_rfl) (by kernel_rfl) [33] (by kernel_rfl) (by kernel_rfl) (dN 4 (dL aM a5.Cuts ?_))))
 obtain ⟨b1,a1,h⟩:=aA h
 refine XB (d:=33) (e:=4) (es:=(List.map cB b1)) (by kernel_rfl) (Vq (c:=cB) (z:=false) (n:=(a5.Cuts.length:Int)) (e:=4) (d:=33) (zs:=[(vB false)]) (k1:=.i64) (k2:=.i64) (by kernel_rfl) rfl a1) (by kernel_rfl) (by kernel_rfl) (by kernel_rfl) (by kernel_rfl) (dN 1 (dE ?_))
 obtain ⟨b5,a2,h⟩:=aA h
 refine oA (cS cB) 1 a2 (oN 2 (zO fun u k=>?_))
 refine aK (yE k [4,6,22,23,24] [500000,500001,500002,500003,500004,500005,500006] (zD (z6 2 fun u k=>?_)))
 cases h
 exact zH k
 refine zL 0 fun u k=>?_
 refine aR ?_
 cases h
 exact zF k
 refine zQ (yE k [4,6] [500000,500001,500002,500003,500004,500005,500006] (z8 2 ⟨[(4,.ptr 500000 0)],[(500000,.box [(ro 500002 4),(ro 500003 37),(ro 500004 4),(ro 500005 3),(ro 500006 4)]),(500002,wB 4 l9),(500003,.row 37 [] (List.map (cS cB) a0)),(500004,wB 4 a9),(500005,wI 3 b0),(500006,wB 4 b2)]⟩ fun u k=>?_))
 obtain rfl:=osi h
 exact qW k [(4,.ptr 0 0)] (sp [] [(500000,0),(500002,1),(500003,2),(500004,3),(500005,4),(500006,5)])
theorem W.Qz {st l edges r} (h:kE st l edges=some r):PC G.P 40 [(.agg (bA st)),(.agg (aV l)),(vI edges)] [] (vB r) []:=by
 refine zU G Try.func40 (yK [0,1,2] [] (y3 3 [2,3,4] [3,4] (z7 (zA 2 (qL aX l.Pieces (y1 1 [2,3,4,7] [3,4] ?_))))))
 refine zB (zB ?_)
 obtain ⟨j2,a5,h⟩:=aA h
 refine zT ⟨[(3,.ptr 500000 0),(4,.ptr 500001 0),(45,vB j2)],[(500000,.box (bA st)),(500001,.box (aV l))]⟩ ?_ fun u k=>?_
 replace h:=a5
 refine zA 2 (qL cB st.Cut (zA 3 (qB h [3,4,7,18] [3,4] [18] (fun h=>?_) fun h=>?_)))
 refine z6 27 fun u k=>?_
 cases h
 exact nP k (sp [] [(3,500000),(4,500001)])
 refine zA 2 (qL (cS cB) st.Holes (zA 4 (qB h [3,4,7,25] [3,4] [25] (fun h=>?_) fun h=>?_)))
 refine z6 20 fun u k=>?_
 cases h
 exact nP k (sp [] [(3,500000),(4,500001)])
 refine zA 2 (qL cB st.Done (zA 4 (qB h [3,4,7,32] [3,4] [32] (fun h=>?_) fun h=>?_)))
 refine z6 13 fun u k=>?_
 cases h
 exact nP k (sp [] [(3,500000),(4,500001)])
 refine zA 2 (qL cI st.Joints (zA 4 (qB h [3,4,7,39] [3,4] [39] (fun h=>?_) fun h=>?_)))
 refine z6 6 fun u k=>?_
 cases h
 exact nP k (sp [] [(3,500000),(4,500001)])
 refine zA 2 (qL cB st.Fallen (z6 3 fun u k=>?_))
 cases h
 exact nP k (sp [] [(3,500000),(4,500001)])
 refine yE k [3,4,45] [500000,500001] (qc h (fun h=>?_) fun h=>?_)
 refine z8 1 ⟨[(6,vB false)],[]⟩ fun u k=>?_
 refine aO ?_
 obtain rfl:=osi h
 exact zV k [(6,vB false)]
 refine y4 [3,4] [500000,500001] (zB (z7 (zA 2 (qL aX l.Pieces (y1 1 [3,47,48,49] [500000] (zC ?_))))))
 obtain ⟨a3,a2,h⟩:=aA h
 refine ql a2 (fun a4=>⟨[(3,.ptr 500000 0),(47,bY l.Pieces),(48,vI (l.Pieces.length:Int)),(49,vI a4)],[(500000,.box (bA st))]⟩) (fun a3=>match a3 with | .inl a6=>(.ret,⟨[(6,vB false)],[]⟩) | .inr a7=>(.exit 0,⟨[],[]⟩)) qH (fun a4 r h=>?_) (fun u k=>?_) (hout:=(by intro x;rcases x with _ | _ <;> rfl))
 refine y3 1 [3,47,48,49,50] [500000] (zB (qc h (fun h=>?_) fun h=>?_))
 refine y4 [3,47,48,49] [500000] (zB (zC (z7 (zA 1 ?_))))
 obtain ⟨a8,a0,h⟩:=aA h
 refine qX aX a0 (y1 4 [3,8,9,47,48,49] [9,500000] (zB (qM 9 (dN 3 ?_))))
 obtain ⟨a9,a1,h⟩:=aA h
 refine dX (cS cB) a1 (dN 1 (dL cB a9 (dN 2 (dL aM a8.Cuts (dE (oN 1 ?_))))))
 refine zO fun u k=>?_
 refine yE k [3,47,48,49,63] [500000] (qc h (fun h=>?_) fun h=>?_)
 refine z8 1 ⟨[(6,vB false)],[]⟩ fun u k=>?_
 refine aQ (aO ?_)
 cases h
 exact zF k
 refine zM fun u k=>?_
 refine aK (yE k [3,47,48,49] [500000] (zD (z6 2 fun u k=>?_)))
 cases h
 exact zH k
 refine zL 0 fun u k=>?_
 refine aR ?_
 cases h
 exact zF k
 rcases a3 with a6 | a7
 refine aQ (aO ?_)
 obtain rfl:=osi h
 exact zV k [(6,vB false)]
 refine zQ (yE k [] [] (z8 1 ⟨[(6,vB true)],[]⟩ fun u k=>?_))
 obtain rfl:=osi h
 exact zV k [(6,vB true)]
theorem W.Eu {s0 v r} (h:sV s0 v=some r):PC G.P 47 [(.sl (List.map cB s0)),(vB v)] [] (vI r) []:=by
 refine zU G Try.func47 (yK [0,1] [] (y3 1 [0,1] [] (zB (z7 (zA 1 (qL cB s0 ?_))))))
 refine y1 1 [0,1,7,8] [] (zC ?_)
 obtain ⟨a4,a1,h⟩:=aA h
 refine ql a1 (fun a3=>⟨[(0,sB s0),(1,vB v),(7,vI (s0.length:Int)),(8,vI a3)],[]⟩) (fun a4=>match a4 with | .inl a2=>(.ret,⟨[(4,vI a2)],[]⟩) | .inr a5=>(.exit 0,⟨[],[]⟩)) qH (fun a3 r h=>?_) (fun u k=>?_) (hout:=(by intro x;rcases x with _ | _ <;> rfl))
 refine y3 1 [0,1,7,8,9] [] (zB (qc h (fun h=>?_) fun h=>?_))
 refine y4 [0,1,7,8] [] (zB (zC (y3 2 [0,1,5,7,8] [] (z7 (zA 3 ?_)))))
 obtain ⟨a6,a0,h⟩:=aA h
 refine qX cB a0 (y1 2 [0,1,5,7,8,16] [] (qc h (fun h=>?_) fun h=>?_))
 refine z8 2 ⟨[(4,vI a3)],[]⟩ fun u k=>?_
 refine aQ (aO ?_)
 cases h
 exact zF k
 refine zM fun u k=>?_
 refine aK (yE k [0,1,7,8] [] (zD (z6 2 fun u k=>?_)))
 cases h
 exact zH k
 refine zL 0 fun u k=>?_
 refine aR ?_
 cases h
 exact zF k
 rcases a4 with a2 | a5
 refine aQ (aO ?_)
 obtain rfl:=osi h
 exact zV k [(4,vI a2)]
 refine zQ (yE k [] [] (z8 1 ⟨[(4,vI (-1))],[]⟩ fun u k=>?_))
 obtain rfl:=osi h
 exact zV k [(4,vI (-1))]
theorem W.mM {s0 v r} (h:cO s0 v=some r):PC G.P 31 [(.sl (List.map cB s0)),(vB v)] [] (vB r) []:=by
 refine zU G Try.func31 (yK [0,1] [] (y3 1 [0,1] [] (z7 (zA 2 ?_))))
 obtain ⟨r2,a0,h⟩:=aA h
 refine qP (W.Eu a0) (y1 2 [4] [] (zN fun u k=>?_))
 obtain rfl:=osi h
 exact zV k [(4,vB (decide (r2 ≥ 0)))]
theorem W.Tu {e piece r} (h:Tt e piece=some r):PC G.P 44 [(.agg (gZ e)),(vI piece)] [] (vB r) []:=by
 refine zU G Try.func44 (yK [0,1] [] (y3 2 [1,2] [2] (zB ?_)))
 obtain ⟨j1,a0,h⟩:=aA h
 refine zT ⟨[(4,vB j1)],[]⟩ ?_ fun u k=>?_
 replace h:=a0
 refine zA 5 (qB h [1,2,9] [2] [9] (fun h=>?_) fun h=>?_)
 refine z6 6 fun u k=>?_
 cases h
 exact zG k
 refine z6 6 fun u k=>?_
 cases h
 exact zG k
 refine yE k [4] [] (zN fun u k=>?_)
 obtain rfl:=osi h
 exact zV k [(4,vB j1)]
theorem W.Fg {st all piece r} (h:sJ st all piece=some r):PC G.P 45 [(.agg (bA st)),(.sl (List.map gZ all)),(vI piece)] [] (vB r) []:=by
 refine zU G Try.func45 (yK [0,1,2] [] (y3 2 [1,2,3] [3] (zB (z7 (zA 1 (qL gZ all ?_))))))
 refine y1 1 [2,3,9,10,11] [3] (zC ?_)
 obtain ⟨a6,a4,h⟩:=aA h
 refine ql a4 (fun a5=>⟨[(2,vI piece),(3,.ptr 500000 0),(9,iP all),(10,vI (all.length:Int)),(11,vI a5)],[(500000,.box (bA st))]⟩) (fun a6=>match a6 with | .inl a8=>(.ret,⟨[(6,vB false)],[]⟩) | .inr a9=>(.exit 0,⟨[],[]⟩)) (sp [] [(3,500000)]) (fun a5 r h=>?_) (fun u k=>?_) (hout:=(by intro x;rcases x with _ | _ <;> rfl))
 refine y3 1 [2,3,9,10,11,12] [500000] (zB (qc h (fun h=>?_) fun h=>?_))
 refine y4 [2,3,9,10,11] [500000] (zB (zC (z7 (zA 1 ?_))))
 obtain ⟨b1,a2,h⟩:=aA h
 refine qX gZ a2 (y1 4 [2,3,7,8,9,10,11] [8,500000] (zB ?_))
 obtain ⟨a7,a0,h⟩:=aA h
 refine zT ⟨[(2,vI piece),(3,.ptr 500000 0),(9,iP all),(10,vI (all.length:Int)),(11,vI a5),(26,vB a7)],[(500000,.box (bA st))]⟩ ?_ fun u k=>?_
 replace h:=a0
 refine zA 2 ?_
 obtain ⟨b0,a1,h⟩:=aA h
 refine qP (W.Tu a1) (zA 1 (qB h [2,3,7,9,10,11,19] [500000] [19] (fun h=>?_) fun h=>?_))
 refine zA 3 ?_
 obtain ⟨b2,a3,h⟩:=aA h
 refine qX cB a3 (z6 3 fun u k=>?_)
 cases h
 exact zG k
 refine z6 7 fun u k=>?_
 cases h
 exact zG k
 refine yE k [2,3,9,10,11,26] [500000] (qc h (fun h=>?_) fun h=>?_)
 refine z8 1 ⟨[(6,vB false)],[]⟩ fun u k=>?_
 refine aQ (aO ?_)
 cases h
 exact zF k
 refine zM fun u k=>?_
 refine aK (yE k [2,3,9,10,11] [500000] (zD (z6 2 fun u k=>?_)))
 cases h
 exact zH k
 refine zL 0 fun u k=>?_
 refine aR ?_
 cases h
 exact zF k
 rcases a6 with a8 | a9
 refine aQ (aO ?_)
 obtain rfl:=osi h
 exact zV k [(6,vB false)]
 refine zQ (yE k [] [] (z8 1 ⟨[(6,vB true)],[]⟩ fun u k=>?_))
 obtain rfl:=osi h
 exact zV k [(6,vB true)]
theorem W.Py {st all x2 r} (h:xH st all x2=some r):PC G.P 41 [(.agg (bA st)),(.sl (List.map gZ all)),(.agg [(vI x2.Piece),(vI x2.Hole),(vI x2.Joints),(vI x2.Lead.X),(vI x2.Lead.Y)])] [] (vB r) []:=by
 refine zU G Try.func41 (yK [0,1,2] [] (y3 3 [1,3,5] [3,5] (zB (zC (z7 (zA 4 ?_))))))
 obtain ⟨b4,a3,h⟩:=aA h
 refine qX cB a3 (y1 2 [1,3,5,7] [3,5] (qc h (fun h=>?_) fun h=>?_))
 refine z8 1 ⟨[(6,vB false)],[]⟩ fun u k=>?_
 refine aQ (aO ?_)
 obtain rfl:=osi h
 exact zV k [(6,vB false)]
 refine y3 4 [1,3,5,14] [3,5] (qc h (fun h=>?_) fun h=>?_)
 refine zB (qM 8 (dN 4 ?_))
 obtain ⟨b5,a4,h⟩:=aA h
 refine dX (cS cB) a4 (dN 3 (dE ?_))
 obtain ⟨b1,a5,h⟩:=aA h
 refine oX cB a5 (oN 3 (zO fun u k=>?_))
 refine yE k [6] [] (zN fun u k=>?_)
 refine aQ (aO ?_)
 obtain rfl:=osi h
 exact zV k [(6,vB (!b1))]
 refine zM fun u k=>?_
 refine aK (yE k [1,3,5] [3,5] (zB ?_))
 obtain ⟨a8,a0,h⟩:=aA h
 refine zT ⟨[(6,vB a8)],[]⟩ ?_ fun u k=>?_
 replace h:=a0
 refine zA 4 ?_
 obtain ⟨b2,a6,h⟩:=aA h
 refine qX cB a6 (zA 3 (zS b2 (fun b0=>⟨[(1,iP all),(3,.ptr 3 0),(5,.ptr 5 0),(36,vB (!b0))],[(3,.box (bA st)),(5,.box [(vI x2.Piece),(vI x2.Hole),(vI x2.Joints),(vI x2.Lead.X),(vI x2.Lead.Y)])]⟩) (fun hb=>?_) fun hb=>?_))
 replace h:=wT hb h
 refine z6 18 fun u k=>?_
 cases h
 exact zG k
 replace h:=wS hb h
 refine zA 4 ?_
 obtain ⟨b6,a7,h⟩:=aA h
 refine qX (cS cB) a7 (zA 1 ?_)
 obtain ⟨a9,a1,h⟩:=aA h
 refine qP (W.mM a1) (zA 3 (zS a9 (fun b0=>⟨[(1,iP all),(3,.ptr 3 0),(5,.ptr 5 0),(46,vB (!b0))],[(3,.box (bA st)),(5,.box [(vI x2.Piece),(vI x2.Hole),(vI x2.Joints),(vI x2.Lead.X),(vI x2.Lead.Y)])]⟩) (fun hb=>?_) fun hb=>?_))
 replace h:=wT hb h
 refine z6 8 fun u k=>?_
 cases h
 exact zG k
 replace h:=wS hb h
 refine zA 4 ?_
 obtain ⟨b3,a2,h⟩:=aA h
 refine qP (W.Fg a2) (z6 3 fun u k=>?_)
 cases h
 exact zG k
 refine yE k [6] [] (zN fun u k=>?_)
 obtain rfl:=osi h
 exact zV k [(6,vB a8)]
theorem W.JM {s0 l r} (h:DR s0 l=some r):PC G.P 58 [(.agg [(vI s0.X),(vI s0.Y)]),(.agg (Df l))] [] (vI r) []:=by
 refine zU G Try.func58 (yK [0,1] [] (y3 3 [2,3] [2,3] (z8 22 ⟨[(4,vI (iU (iU (iU (iU 0 (aH l.X1 s0.X)) (aH s0.X l.X2)) (aH l.Y1 s0.Y)) (aH s0.Y l.Y2)))],[]⟩ fun u k=>?_)))
 obtain rfl:=osi h
 exact zV k [(4,vI (iU (iU (iU (iU 0 (aH l.X1 s0.X)) (aH s0.X l.X2)) (aH l.Y1 s0.Y)) (aH s0.Y l.Y2)))]
theorem W.Rb {st l all x3 r} (h:uX st l all x3=some r):PC G.P 42 [(.agg (bA st)),(.agg (aV l)),(.sl (List.map gZ all)),(.agg [(vI x3.Piece),(vI x3.Hole),(vI x3.Joints),(vI x3.Lead.X),(vI x3.Lead.Y)])] [] (vB r) []:=by
 refine zU G Try.func42 (yK [0,1,2,3] [] (y3 4 [2,4,5,7] [4,5,7] (y3 4 [2,4,5,7,9] [4,5,7,9] (zB (y3 3 [2,4,5,7,9,19] [4,5,7,9] (qc h (fun h=>?_) fun h=>?_))))))
 refine zB (yL [(11,[10])] [(11,[10])] [] [(0,[10]),(1,[10]),(2,[10]),(3,[10]),(4,[10]),(5,[10]),(6,[10]),(7,[10]),(8,[10]),(9,[10]),(10,[10])] [(0,[10]),(1,[10]),(2,[10]),(3,[10]),(4,[10]),(5,[10]),(6,[10]),(7,[10]),(8,[10]),(9,[10]),(10,[10])] 12 (by kernel_rfl) (by kernel_rfl) [10] (by kernel_rfl) (by kernel_rfl) (dN 4 ?_))
 obtain ⟨d2,b3,h⟩:=aA h
 refine dX aX b3 (dN 4 ?_)
 obtain ⟨d3,b4,h⟩:=aA h
 refine dX aM b4 (dN 1 (Gg (g:=10) (ob:=.box [(vI 0),(vI 0),(vI 0),(vI 0)]) (v:=(.ptr 10 0)) (by kernel_rfl) (by kernel_rfl) (by kernel_rfl) (by kernel_rfl) (by kernel_rfl) (by kernel_rfl) (dE (oN 1 (zO fun u k=>?_)))))
 refine yE k [9,10] [9,10] (zB ?_)
 obtain ⟨c3,a8,h⟩:=aA h
 refine zT ⟨[(8,vB c3)],[]⟩ ?_ fun u k=>?_
 replace h:=a8
 refine zA 6 (qB h [9,10,36] [9,10] [36] (fun h=>?_) fun h=>?_)
 refine zA 10 (qB h [9,10,46] [9,10] [46] (fun h=>?_) fun h=>?_)
 refine zA 7 (qB h [9,10,53] [9,10] [53] (fun h=>?_) fun h=>?_)
 refine z6 10 fun u k=>?_
 cases h
 exact zG k
 refine z6 10 fun u k=>?_
 cases h
 exact zG k
 refine z6 17 fun u k=>?_
 cases h
 exact zG k
 refine z6 27 fun u k=>?_
 cases h
 exact zG k
 refine yE k [8] [] (zN fun u k=>?_)
 refine aO ?_
 obtain rfl:=osi h
 exact zV k [(8,vB c3)]
 refine y4 [2,4,5,7,9] [4,5,7,9] (zB (zB ?_))
 obtain ⟨c5,a9,h⟩:=aA h
 refine zT ⟨[(2,iP all),(4,.ptr 500000 0),(5,.ptr 500001 0),(7,.ptr 500002 0),(9,.ptr 500003 0),(93,vB c5)],[(500000,.box (bA st)),(500001,.box (aV l)),(500002,.box [(vI x3.Piece),(vI x3.Hole),(vI x3.Joints),(vI x3.Lead.X),(vI x3.Lead.Y)]),(500003,.box [(vI x3.Lead.X),(vI x3.Lead.Y)])]⟩ ?_ fun u k=>?_
 replace h:=a9
 refine zA 4 (qB h [2,4,5,7,9,66] [4,5,7,9] [66] (fun h=>?_) fun h=>?_)
 refine z6 27 fun u k=>?_
 cases h
 exact nP k (sp [] [(4,500000),(5,500001),(7,500002),(9,500003)])
 refine zA 8 (qB h [2,4,5,7,9,74] [4,5,7,9] [74] (fun h=>?_) fun h=>?_)
 refine z6 19 fun u k=>?_
 cases h
 exact nP k (sp [] [(4,500000),(5,500001),(7,500002),(9,500003)])
 refine zA 5 (qB h [2,4,5,7,9,79] [4,5,7,9] [79] (fun h=>?_) fun h=>?_)
 refine z6 14 fun u k=>?_
 cases h
 exact nP k (sp [] [(4,500000),(5,500001),(7,500002),(9,500003)])
 refine zA 8 (qB h [2,4,5,7,9,87] [4,5,7,9] [87] (fun h=>?_) fun h=>?_)
 refine z6 6 fun u k=>?_
 cases h
 exact nP k (sp [] [(4,500000),(5,500001),(7,500002),(9,500003)])
 refine zA 4 ?_
 obtain ⟨d0,b1,h⟩:=aA h
 refine qP (W.Ko b1) (z6 1 fun u k=>?_)
 cases h
 exact nP k (sp [] [(4,500000),(5,500001),(7,500002),(9,500003)])
 refine yE k [2,4,5,7,9,93] [500000,500001,500002,500003] (qc h (fun h=>?_) fun h=>?_)
 refine z8 1 ⟨[(8,vB false)],[]⟩ fun u k=>?_
 refine aO ?_
 obtain rfl:=osi h
 exact zV k [(8,vB false)]
 refine y4 [2,4,5,7,9] [500000,500001,500002,500003] (zB (z7 (zA 2 (qL aX l.Pieces (y1 1 [2,4,7,9,95,96,97] [500000,500002,500003] (zC ?_))))))
 obtain ⟨c2,b6,h⟩:=aA h
 refine ql b6 (fun c4=>⟨[(2,iP all),(4,.ptr 500000 0),(7,.ptr 500001 0),(9,.ptr 500002 0),(95,bY l.Pieces),(96,vI (l.Pieces.length:Int)),(97,vI c4)],[(500000,.box (bA st)),(500001,.box [(vI x3.Piece),(vI x3.Hole),(vI x3.Joints),(vI x3.Lead.X),(vI x3.Lead.Y)]),(500002,.box [(vI x3.Lead.X),(vI x3.Lead.Y)])]⟩) (fun c2=>match c2 with | .inl c6=>(.ret,⟨[(8,vB false)],[]⟩) | .inr c7=>(.exit 0,⟨[(2,iP all),(4,.ptr 500000 0),(7,.ptr 500001 0),(9,.ptr 500002 0)],[(500000,.box (bA st)),(500001,.box [(vI x3.Piece),(vI x3.Hole),(vI x3.Joints),(vI x3.Lead.X),(vI x3.Lead.Y)]),(500002,.box [(vI x3.Lead.X),(vI x3.Lead.Y)])]⟩)) (sp [] [(500000,500000),(500002,500001),(500003,500002)]) (fun c4 r h=>?_) (fun u k=>?_) (hout:=(by intro x;rcases x with _ | _ <;> rfl))
 refine y3 1 [2,4,7,9,95,96,97,98] [500000,500001,500002] (zB (qc h (fun h=>?_) fun h=>?_))
 refine y4 [2,4,7,9,95,96,97] [500000,500001,500002] (zB (zC (z7 ?_)))
 obtain ⟨d4,b5,h⟩:=aA h
 refine qX aX b5 (y1 3 [2,4,7,9,12,95,96,97] [12,500000,500001,500002] (z7 (zA 3 ?_)))
 obtain ⟨d1,b2,h⟩:=aA h
 refine qP (W.Ko b2) (zP fun u k=>?_)
 refine yE k [2,4,7,9,95,96,97,104] [500000,500001,500002] (qc h (fun h=>?_) fun h=>?_)
 refine z8 1 ⟨[(8,vB false)],[]⟩ fun u k=>?_
 refine aQ (aO ?_)
 cases h
 exact zF k
 refine zM fun u k=>?_
 refine aK (yE k [2,4,7,9,95,96,97] [500000,500001,500002] (zD (z6 2 fun u k=>?_)))
 cases h
 exact zH k
 refine zL 0 fun u k=>?_
 refine aR ?_
 cases h
 exact zF k
 rcases c2 with c6 | c7
 refine aQ (aO ?_)
 obtain rfl:=osi h
 exact zV k [(8,vB false)]
 refine zQ (yE k [2,4,7,9] [500000,500001,500002] (zB (z7 (zA 1 (qL gZ all (y1 1 [4,7,9,106,107,108] [500000,500001,500002] ?_))))))
 refine zC ?_
 obtain ⟨a1,a7,h⟩:=aA h
 refine ql a7 (fun a0=>⟨[(4,.ptr 500000 0),(7,.ptr 500001 0),(9,.ptr 500002 0),(106,iP all),(107,vI (all.length:Int)),(108,vI a0)],[(500000,.box (bA st)),(500001,.box [(vI x3.Piece),(vI x3.Hole),(vI x3.Joints),(vI x3.Lead.X),(vI x3.Lead.Y)]),(500002,.box [(vI x3.Lead.X),(vI x3.Lead.Y)])]⟩) (fun a1=>match a1 with | .inl b8=>(.ret,⟨[(8,vB true)],[]⟩) | .inr b9=>(.exit 2,⟨[],[]⟩)) qH (fun a0 r h=>?_) (fun u k=>?_) (hout:=(by intro x;rcases x with _ | _ <;> rfl))
 refine y3 1 [4,7,9,106,107,108,109] [500000,500001,500002] (zB (qc h (fun h=>?_) fun h=>?_))
 refine y4 [4,7,9,106,107,108] [500000,500001,500002] (zB (zC (z7 (zA 1 ?_))))
 obtain ⟨c0,a5,h⟩:=aA h
 refine qX gZ a5 (y1 4 [4,7,9,13,14,106,107,108] [14,500000,500001,500002] (zB ?_))
 obtain ⟨b7,a2,h⟩:=aA h
 refine zT ⟨[(4,.ptr 500000 0),(7,.ptr 500001 0),(9,.ptr 500002 0),(106,iP all),(107,vI (all.length:Int)),(108,vI a0),(131,vB b7)],[(500000,.box (bA st)),(500001,.box [(vI x3.Piece),(vI x3.Hole),(vI x3.Joints),(vI x3.Lead.X),(vI x3.Lead.Y)]),(500002,.box [(vI x3.Lead.X),(vI x3.Lead.Y)])]⟩ ?_ fun u k=>?_
 replace h:=a2
 refine zA 3 ?_
 obtain ⟨c8,a3,h⟩:=aA h
 refine qP (W.Tu a3) (zA 1 (qB h [4,7,9,13,14,106,107,108,117] [14,500000,500001,500002] [117] (fun h=>?_) fun h=>?_))
 refine zA 3 ?_
 obtain ⟨c1,a6,h⟩:=aA h
 refine qX cB a6 (zA 4 (zS c1 (fun b0=>⟨[(4,.ptr 500000 0),(7,.ptr 500001 0),(9,.ptr 500002 0),(14,.ptr 14 0),(106,iP all),(107,vI (all.length:Int)),(108,vI a0),(125,vB (!b0))],[(14,.box (gZ c0)),(500000,.box (bA st)),(500001,.box [(vI x3.Piece),(vI x3.Hole),(vI x3.Joints),(vI x3.Lead.X),(vI x3.Lead.Y)]),(500002,.box [(vI x3.Lead.X),(vI x3.Lead.Y)])]⟩) (fun hb=>?_) fun hb=>?_))
 replace h:=wT hb h
 refine z6 6 fun u k=>?_
 cases h
 exact zG k
 replace h:=wS hb h
 refine zA 3 ?_
 obtain ⟨c9,a4,h⟩:=aA h
 refine qP (W.JM a4) (z6 2 fun u k=>?_)
 cases h
 exact zG k
 refine z6 14 fun u k=>?_
 cases h
 exact zG k
 refine yE k [4,7,9,106,107,108,131] [500000,500001,500002] (qc h (fun h=>?_) fun h=>?_)
 refine z8 1 ⟨[(8,vB true)],[]⟩ fun u k=>?_
 refine aQ (aO ?_)
 cases h
 exact zF k
 refine zM fun u k=>?_
 refine aK (yE k [4,7,9,106,107,108] [500000,500001,500002] (zD (z6 2 fun u k=>?_)))
 cases h
 exact zH k
 refine zL 2 fun u k=>?_
 refine aR ?_
 cases h
 exact zF k
 rcases a1 with b8 | b9
 refine aQ (aO ?_)
 obtain rfl:=osi h
 exact zV k [(8,vB true)]
 refine zQ (yE k [] [] (z8 1 ⟨[(8,vB false)],[]⟩ fun u k=>?_))
 obtain rfl:=osi h
 exact zV k [(8,vB false)]
theorem W.jY {s r} (h:jF s=some r):PC G.P 59 [.sl (List.map cB s)] [] (.row (.top 0) 4) [(0,.row 4 [] (List.map cB r))]:=by
 replace h:app [] s=some r:=h
 refine zU G Try.func59 (y3 1 [0] [] (zB (z7 (zA 1 (Tv (es:=List.map cB s) (by kernel_rfl) (fun hn=>?_) ?_)))))
 obtain rfl:s=[]:=List.map_eq_nil_iff.1 hn
 obtain rfl:[]=r:=Option.some.inj ((nA (by simp [LIM])).symm.trans h)
 refine zP fun u k=>?_
 refine yE k [0,4] [] (Us (by kernel_rfl) (by kernel_rfl) (z8 1 ⟨[(2,ro 2 4)],[(2,wB 4 [])]⟩ fun u k=>?_))
 exact aO (Mc k [(2,ro 0 4)] (Oj [(2,0)] rfl rfl (by kernel_rfl)) (by kernel_rfl))
 refine zP fun u k=>?_
 refine yE k [0,4] [] (Og (by kernel_rfl) (by kernel_rfl) (y4 [0] [] (z7 (jL (Qr (es:=List.map cB []) (e:=4) (d:=5) (by kernel_rfl)) (zA 1 (kF (EM (c:=cB) (l:=[]) (l2:=s) (x:=sB s) (g:=5) (e:=4) (sz:=1) (d:=7) (by kernel_rfl) (by kernel_rfl) (by kernel_rfl) (by kernel_rfl) (fun _=>rfl) rfl h) ?_))))))
 refine y1 1 [2] [5] (zN fun u k=>?_)
 exact Mc k [(2,ro 0 4)] (Oj [(5,0)] rfl rfl (by kernel_rfl)) (by kernel_rfl)
theorem W.Ez {s r} (h:yN s=some r):PC G.P 60 [.sl (List.map cI s)] [] (.row (.top 0) 3) [(0,.row 3 [] (List.map cI r))]:=by
 replace h:app [] s=some r:=h
 refine zU G Try.func60 (y3 1 [0] [] (zB (z7 (zA 1 (Tv (es:=List.map cI s) (by kernel_rfl) (fun hn=>?_) ?_)))))
 obtain rfl:s=[]:=List.map_eq_nil_iff.1 hn
 obtain rfl:[]=r:=Option.some.inj ((nA (by simp [LIM])).symm.trans h)
 refine zP fun u k=>?_
 refine yE k [0,4] [] (Us (by kernel_rfl) (by kernel_rfl) (z8 1 ⟨[(2,ro 2 3)],[(2,wI 3 [])]⟩ fun u k=>?_))
 exact aO (Mc k [(2,ro 0 3)] (Oj [(2,0)] rfl rfl (by kernel_rfl)) (by kernel_rfl))
 refine zP fun u k=>?_
 refine yE k [0,4] [] (Og (by kernel_rfl) (by kernel_rfl) (y4 [0] [] (z7 (jL (Qr (es:=List.map cI []) (e:=3) (d:=5) (by kernel_rfl)) (zA 1 (kF (EM (c:=cI) (l:=[]) (l2:=s) (x:=sI s) (g:=5) (e:=3) (sz:=1) (d:=7) (by kernel_rfl) (by kernel_rfl) (by kernel_rfl) (by kernel_rfl) (fun _=>rfl) rfl h) ?_))))))
 refine y1 1 [2] [5] (zN fun u k=>?_)
 exact Mc k [(2,ro 0 3)] (Oj [(5,0)] rfl rfl (by kernel_rfl)) (by kernel_rfl)
theorem W.Px {st r} (h:tY st=some r):PC G.P 43 [(.agg (bA st))] [] (.agg [(.row (.top 1) 4),(.row (.top 2) 37),(.row (.top 3) 4),(.row (.top 4) 3),(.row (.top 5) 4)]) [(0,.box [(.row (.top 1) 4),(.row (.top 2) 37),(.row (.top 3) 4),(.row (.top 4) 3),(.row (.top 5) 4)]),(1,.row 4 [] (List.map cB r.Cut)),(2,.row 37 [(0,4)] (List.map (cS cB) r.Holes)),(3,.row 4 [] (List.map cB r.Done)),(4,.row 3 [] (List.map cI r.Joints)),(5,.row 4 [] (List.map cB r.Fallen))]:=by
 refine zU G Try.func43 (yK [0] [] (y3 2 [1,2] [1,2] (zB (yL [(2,[700100]),(5,[700250]),(8,[700400]),(11,[700550]),(13,[3])] [(2,[700100]),(5,[700250]),(8,[700400]),(11,[700550]),(13,[3])] [] [(0,[3]),(1,[3]),(2,[3]),(3,[700100,3]),(4,[700100,3]),(5,[3]),(6,[700100,700250,3]),(7,[700100,700250,3]),(8,[3]),(9,[700100,700250,700400,3]),(10,[700100,700250,700400,3]),(11,[3]),(12,[3]),(13,[700100,700250,700400,700550])] [(0,[700100,700250,700400,700550,3]),(1,[700100,700250,700400,700550,3]),(2,[700250,700400,700550,3]),(3,[700100,700250,700400,700550,3]),(4,[700100,700250,700400,700550,3]),(5,[700400,700550,3]),(6,[700100,700250,700400,700550,3]),(7,[700100,700250,700400,700550,3]),(8,[700550,3]),(9,[700100,700250,700400,700550,3]),(10,[700100,700250,700400,700550,3]),(11,[3]),(12,[3]),(13,[700100,700250,700400,700550])] 14 (by kernel_rfl) (by kernel_rfl) [700100,700250,700400,700550,3] (by kernel_rfl) (by kernel_rfl) (dN 2 ?_)))))
 obtain ⟨r9,b3,h⟩:=aA h
 refine dC [(0,700100)] (W.jY b3) (dN 2 ?_)
 obtain ⟨b0,a7,h⟩:=aA h
 refine dC [(0,700250)] (W.jY a7) (dN 2 ?_)
 obtain ⟨b1,a8,h⟩:=aA h
 refine dC [(0,700400)] (W.Ez a8) (dN 2 ?_)
 obtain ⟨b2,a9,h⟩:=aA h
 refine dC [(0,700550)] (W.jY a9) (dN 1 (Gg (g:=3) (ob:=.box [.nl,.nl,.nl,.nl,.nl]) (v:=(.ptr 3 0)) (by kernel_rfl) (by kernel_rfl) (by kernel_rfl) (by kernel_rfl) (by kernel_rfl) (by kernel_rfl) (dE (oN 1 (zO fun u k=>?_)))))
 refine yE k [1,2,3] [1,2,3,700100,700250,700400,700550] (zB (z7 (zA 2 (qL (cS cB) st.Holes (y1 1 [2,3,20,21,22] [2,3,700100,700250,700400,700550] (zC ?_))))))
 obtain ⟨a1,a5,h⟩:=aA h
 refine ql a5 (fun a6=>⟨[(2,.ptr 500000 0),(3,.ptr 500001 0),(20,.sl (List.map (cS cB) st.Holes)),(21,vI (st.Holes.length:Int)),(22,vI a6.1)],[(500000,.box [.nl,.nl,.nl,.nl,.nl]),(500001,.box [(ro 500002 4),(ro 500003 37),(ro 500004 4),(ro 500005 3),(ro 500006 4)]),(500002,wB 4 r9),(500003,.row 37 [(0,4)] (List.map (cS cB) a6.2)),(500004,wB 4 b0),(500005,wI 3 b1),(500006,wB 4 b2)]⟩) (fun a1=>(.exit 0,⟨[(2,.ptr 500000 0),(3,.ptr 500001 0)],[(500000,.box [.nl,.nl,.nl,.nl,.nl]),(500001,.box [(ro 500002 4),(ro 500003 37),(ro 500004 4),(ro 500005 3),(ro 500006 4)]),(500002,wB 4 r9),(500003,.row 37 [(0,4)] (List.map (cS cB) a1)),(500004,wB 4 b0),(500005,wI 3 b1),(500006,wB 4 b2)]⟩)) (sp [.row (.box 3 1) 800000 37 [(0,4)]] [(2,500000),(3,500001),(700100,500002),(700250,500004),(700400,500005),(700550,500006),(800000,500003)]) (fun a6 r h=>?_) fun u k=>?_
 refine y3 1 [2,3,20,21,22,23] [500000,500001,500002,500003,500004,500005,500006] (zB (qc h (fun h=>?_) fun h=>?_))
 refine y4 [2,3,20,21,22] [500000,500001,500002,500003,500004,500005,500006] (zB (zC (z7 ?_)))
 obtain ⟨b5,a4,h⟩:=aA h
 refine qX (cS cB) a4 (y1 2 [2,3,5,20,21,22] [500000,500001,500002,500003,500004,500005,500006] (yL [(3,[700150]),(4,[700150,30])] [(3,[700150]),(4,[30])] [] [(0,[700150,30]),(1,[700150,30])] [(0,[700150,30]),(1,[700150,30]),(2,[700150,30]),(3,[30])] 5 (by kernel_rfl) (by kernel_rfl) [700150,30] (by kernel_rfl) (by kernel_rfl) (dN 3 ?_)))
 obtain ⟨a0,a3,h⟩:=aA h
 refine dC [(0,700150)] (W.jY a3) (JS (c:=(cS cB)) (c2:=cB) (e:=37) (e':=4) (d:=700150) (T:=30) (l:=a0) (x:=a0) (by kernel_rfl) (by kernel_rfl) (by kernel_rfl) (by kernel_rfl) rfl (by kernel_rfl) (by kernel_rfl) (by kernel_rfl) (by kernel_rfl) (dE ?_))
 obtain ⟨b4,a2,h⟩:=aA h
 refine ZX (WK (c:=(cS cB)) (l:=a6.2) (l2:=[a0]) (g:=500003) (T:=30) (e:=37) (J:=[(0,4)]) (sz:=1) (d:=31) (by kernel_rfl) (by kernel_rfl) (by kernel_rfl) (by kernel_rfl) a2) (oN 2 (zO fun u k=>?_))
 refine aK (yE k [2,3,20,21,22] [500000,500001,500002,500003,500004,500005,500006] (zD (z6 2 fun u k=>?_)))
 cases h
 exact zH k
 refine zL 0 fun u k=>?_
 refine aR ?_
 cases h
 exact zF k
 refine zQ (yE k [2,3] [500000,500001,500002,500003,500004,500005,500006] (z8 2 ⟨[(2,.ptr 500000 0)],[(500000,.box [(ro 500002 4),(ro 500003 37),(ro 500004 4),(ro 500005 3),(ro 500006 4)]),(500002,wB 4 r9),(500003,.row 37 [(0,4)] (List.map (cS cB) a1)),(500004,wB 4 b0),(500005,wI 3 b1),(500006,wB 4 b2)]⟩ fun u k=>?_))
 obtain rfl:=osi h
 exact qW k [(2,.ptr 0 0)] (sp [] [(500000,0),(500002,1),(500003,2),(500004,3),(500005,4),(500006,5)])
theorem W.BK {l all st x3 r} (h:Dv l all st x3=some r):PC G.P 29 [(.agg (aV l)),(.sl (List.map gZ all)),(.agg (bA st)),(.agg (iA x3))] [] (.tup [(.agg [(.row (.top 1) 4),(.row (.top 2) 37),(.row (.top 3) 4),(.row (.top 4) 3),(.row (.top 5) 4)]),(vI r.2)]) [(0,.box [(.row (.top 1) 4),(.row (.top 2) 37),(.row (.top 3) 4),(.row (.top 4) 3),(.row (.top 5) 4)]),(1,.row 4 [] (List.map cB r.1.Cut)),(2,.row 37 [(0,4)] (List.map (cS cB) r.1.Holes)),(3,.row 4 [] (List.map cB r.1.Done)),(4,.row 3 [] (List.map cI r.1.Joints)),(5,.row 4 [] (List.map cB r.1.Fallen))]:=by
 refine zU G Try.func29 (yK [0,1,2,3] [] (y3 5 [1,4,6,7,8] [4,6,7,8] (zB (zC (zB ?_)))))
 obtain ⟨d7,c5,h⟩:=aA h
 refine zT ⟨[(1,iP all),(4,.ptr 500000 0),(6,.ptr 500001 0),(7,.ptr 500002 0),(8,.ptr 500003 0),(14,vB d7)],[(500000,.box (aV l)),(500001,.box (bA st)),(500002,.box (iA x3)),(500003,.box [.nl,.nl,.nl,.nl,.nl])]⟩ ?_ fun u k=>?_
 replace h:=c5
 refine zA 3 (qL gZ all ?_)
 obtain ⟨e0,c8,h⟩:=aA h
 refine qP (W.Qz c8) (zA 2 (zS e0 (fun b0=>⟨[(1,iP all),(4,.ptr 4 0),(6,.ptr 6 0),(7,.ptr 7 0),(8,.ptr 8 0),(21,vB (!b0))],[(4,.box (aV l)),(6,.box (bA st)),(7,.box (iA x3)),(8,.box [.nl,.nl,.nl,.nl,.nl])]⟩) (fun hb=>?_) fun hb=>?_))
 replace h:=wT hb h
 refine zA 5 (qB h [1,4,6,7,8,26] [4,6,7,8] [26] (fun h=>?_) fun h=>?_)
 refine z6 8 fun u k=>?_
 cases h
 exact nP k (sp [] [(4,500000),(6,500001),(7,500002),(8,500003)])
 refine zA 4 (qL aX l.Pieces (z6 3 fun u k=>?_))
 cases h
 exact nP k (sp [] [(4,500000),(6,500001),(7,500002),(8,500003)])
 replace h:=wS hb h
 refine z6 13 fun u k=>?_
 cases h
 exact nP k (sp [] [(4,500000),(6,500001),(7,500002),(8,500003)])
 refine yE k [1,4,6,7,8,14] [500000,500001,500002,500003] (qc h (fun h=>?_) fun h=>?_)
 refine z8 3 ⟨[(8,.ptr 500003 0),(9,vI 1)],[(500003,.box [.nl,.nl,.nl,.nl,.nl])]⟩ fun u k=>?_
 refine aQ (aO ?_)
 obtain rfl:=osi h
 exact qW k [(8,.ptr 0 0),(9,vI 1)] (sp [.row (.box 500003 0) 800000 4 [],.row (.box 500003 1) 800001 37 [(0,4)],.row (.box 500003 2) 800002 4 [],.row (.box 500003 3) 800003 3 [],.row (.box 500003 4) 800004 4 []] [(500003,0),(800000,1),(800001,2),(800002,3),(800003,4),(800004,5)])
 refine zB ?_
 obtain ⟨d8,c6,h⟩:=aA h
 refine nQ ⟨[(1,iP all),(4,.ptr 500000 0),(6,.ptr 500001 0),(7,.ptr 500002 0),(8,.ptr 500003 0),(35,vB d8)],[(500000,.box (aV l)),(500001,.box (bA st)),(500002,.box (iA x3)),(500003,.box [.nl,.nl,.nl,.nl,.nl])]⟩ [] [] [] [] [] 14 (by kernel_rfl) (by kernel_rfl) (by kernel_rfl) ?_ fun u k=>?_
 replace h:=c6
 refine dN 4 (mO (decide (x3.Hole<(-1))) (fun b0=>⟨[(39,vB b0),(38,vB b0),(37,vI x3.Hole),(36,.ptr 500002 1),(1,iP all),(4,.ptr 500000 0),(6,.ptr 500001 0),(7,.ptr 500002 0),(8,.ptr 500003 0),(14,vB d7)],[(500000,.box (aV l)),(500001,.box (bA st)),(500002,.box (iA x3)),(500003,.box [.nl,.nl,.nl,.nl,.nl])]⟩) (by kernel_rfl) (fun hb=>?_) fun hb=>?_)
 replace h:=wT hb h
 refine dN 10 (dE (oN 23 (zO fun u k=>?_)))
 cases h
 exact zG k
 replace h:=wS hb h
 refine dN 6 ?_
 obtain ⟨e8,d3,h⟩:=aA h
 refine dX aX d3 (dN 2 (dL aM e8.Cuts (dE (oN 3 (oB h [1,4,6,7,8,52] [500000,500001,500002,500003] [52] (fun h=>?_) fun h=>?_)))))
 refine oN 20 (zO fun u k=>?_)
 cases h
 exact zG k
 refine oN 5 (oB h [1,4,6,7,8,57] [500000,500001,500002,500003] [57] (fun h=>?_) fun h=>?_)
 refine oN 15 (zO fun u k=>?_)
 cases h
 exact zG k
 refine oN 5 (oB h [1,4,6,7,8,62] [500000,500001,500002,500003] [62] (fun h=>?_) fun h=>?_)
 refine oN 10 (zO fun u k=>?_)
 cases h
 exact zG k
 refine oN 4 (oB h [1,4,6,7,8,62,66] [500000,500001,500002,500003] [66] (fun h=>?_) fun h=>?_)
 refine oN 6 (zO fun u k=>?_)
 cases h
 exact zG k
 refine oN 6 (zO fun u k=>?_)
 cases h
 exact zG k
 refine yE k [1,4,6,7,8,35] [500000,500001,500002,500003] (qc h (fun h=>?_) fun h=>?_)
 refine z8 3 ⟨[(8,.ptr 500003 0),(9,vI 1)],[(500003,.box [.nl,.nl,.nl,.nl,.nl])]⟩ fun u k=>?_
 refine aQ (aO ?_)
 obtain rfl:=osi h
 exact qW k [(8,.ptr 0 0),(9,vI 1)] (sp [.row (.box 500003 0) 800000 4 [],.row (.box 500003 1) 800001 37 [(0,4)],.row (.box 500003 2) 800002 4 [],.row (.box 500003 3) 800003 3 [],.row (.box 500003 4) 800004 4 []] [(500003,0),(800000,1),(800001,2),(800002,3),(800003,4),(800004,5)])
 refine z7 (zA 3 ?_)
 obtain ⟨f1,c9,h⟩:=aA h
 refine qP (W.Py c9) (y1 2 [1,4,6,7,8,73] [500000,500001,500002,500003] (qc h (fun h=>?_) fun h=>?_))
 refine z8 3 ⟨[(8,.ptr 500003 0),(9,vI 12)],[(500003,.box [.nl,.nl,.nl,.nl,.nl])]⟩ fun u k=>?_
 refine aQ (aO ?_)
 obtain rfl:=osi h
 exact qW k [(8,.ptr 0 0),(9,vI 12)] (sp [.row (.box 500003 0) 800000 4 [],.row (.box 500003 1) 800001 37 [(0,4)],.row (.box 500003 2) 800002 4 [],.row (.box 500003 3) 800003 3 [],.row (.box 500003 4) 800004 4 []] [(500003,0),(800000,1),(800001,2),(800002,3),(800003,4),(800004,5)])
 refine zB ?_
 obtain ⟨d9,c7,h⟩:=aA h
 refine zT ⟨[(1,iP all),(4,.ptr 500000 0),(6,.ptr 500001 0),(7,.ptr 500002 0),(8,.ptr 500003 0),(80,vB d9)],[(500000,.box (aV l)),(500001,.box (bA st)),(500002,.box (iA x3)),(500003,.box [.nl,.nl,.nl,.nl,.nl])]⟩ ?_ fun u k=>?_
 replace h:=c7
 refine zA 4 (qB h [1,4,6,7,8,84] [500000,500001,500002,500003] [84] (fun h=>?_) fun h=>?_)
 refine zA 5 (qB h [1,4,6,7,8,89] [500000,500001,500002,500003] [89] (fun h=>?_) fun h=>?_)
 refine zA 4 ?_
 obtain ⟨f4,d4,h⟩:=aA h
 refine qX aX d4 (zA 1 ?_)
 obtain ⟨f2,d0,h⟩:=aA h
 refine qP (W.DL d0) (z6 2 fun u k=>?_)
 cases h
 exact zG k
 refine z6 9 fun u k=>?_
 cases h
 exact zG k
 refine z6 14 fun u k=>?_
 cases h
 exact zG k
 refine yE k [1,4,6,7,8,80] [500000,500001,500002,500003] (qc h (fun h=>?_) fun h=>?_)
 refine z8 3 ⟨[(8,.ptr 500003 0),(9,vI 15)],[(500003,.box [.nl,.nl,.nl,.nl,.nl])]⟩ fun u k=>?_
 refine aQ (aO ?_)
 obtain rfl:=osi h
 exact qW k [(8,.ptr 0 0),(9,vI 15)] (sp [.row (.box 500003 0) 800000 4 [],.row (.box 500003 1) 800001 37 [(0,4)],.row (.box 500003 2) 800002 4 [],.row (.box 500003 3) 800003 3 [],.row (.box 500003 4) 800004 4 []] [(500003,0),(800000,1),(800001,2),(800002,3),(800003,4),(800004,5)])
 refine z7 (zA 4 ?_)
 obtain ⟨f3,d1,h⟩:=aA h
 refine qP (W.Rb d1) (y1 2 [1,4,6,7,8,99] [500000,500001,500002,500003] (qc h (fun h=>?_) fun h=>?_))
 refine z8 3 ⟨[(8,.ptr 500003 0),(9,vI 14)],[(500003,.box [.nl,.nl,.nl,.nl,.nl])]⟩ fun u k=>?_
 refine aQ (aO ?_)
 obtain rfl:=osi h
 exact qW k [(8,.ptr 0 0),(9,vI 14)] (sp [.row (.box 500003 0) 800000 4 [],.row (.box 500003 1) 800001 37 [(0,4)],.row (.box 500003 2) 800002 4 [],.row (.box 500003 3) 800003 3 [],.row (.box 500003 4) 800004 4 []] [(500003,0),(800000,1),(800001,2),(800002,3),(800003,4),(800004,5)])
 refine zM fun u k=>?_
 refine aK (yE k [1,4,6,7,8] [500000,500001,500002,500003] (z7 (zA 1 ?_)))
 obtain ⟨a0,d2,h⟩:=aA h
 refine qC [] [(0,700050),(1,700051),(2,700052),(3,700053),(4,700054),(5,700055)] (W.Px d2) (y1 2 [1,4,7,8,10] [10,500000,500002,500003,700051,700052,700053,700054,700055] (eQ (fun (a1:(List Bool)×(List (List Bool))×(List Bool)×(List Int))=>⟨[(1,iP all),(4,.ptr 500000 0),(8,.ptr 500001 0),(10,.ptr 500002 0)],[(500000,.box (aV l)),(500001,.box [.nl,.nl,.nl,.nl,.nl]),(500002,.box [(ro 500003 4),(ro 500004 37),(ro 500005 4),(ro 500006 3),(ro 500007 4)]),(500003,wB 4 a1.1),(500004,.row 37 [(0,4)] (List.map (cS cB) a1.2.1)),(500005,wB 4 a1.2.2.1),(500006,wI 3 a1.2.2.2),(500007,wB 4 a0.Fallen)]⟩) (yV l all a0) r (by kernel_rfl) (fun a1 h=>?_) ?_))
 refine zB (z7 (zA 2 (qL aX l.Pieces (y1 1 [1,8,10,151,152] [500001,500002,500003,500004,500005,500006,500007] (zC ?_)))))
 obtain ⟨b4,b9,h⟩:=aA h
 refine ql b9 (fun a2=>⟨[(1,iP all),(8,.ptr 500000 0),(10,.ptr 500001 0),(151,vI (l.Pieces.length:Int)),(152,vI a2.1)],[(500000,.box [.nl,.nl,.nl,.nl,.nl]),(500001,.box [(ro 500002 4),(ro 500003 37),(ro 500004 4),(ro 500005 3),(ro 500006 4)]),(500002,wB 4 a1.1),(500003,.row 37 [(0,4)] (List.map (cS cB) a1.2.1)),(500004,wB 4 a1.2.2.1),(500005,wI 3 a1.2.2.2),(500006,wB 4 a2.2)]⟩) (fun b4=>(.exit 3,⟨[(8,.ptr 500000 0),(10,.ptr 500001 0)],[(500000,.box [.nl,.nl,.nl,.nl,.nl]),(500001,.box [(ro 500002 4),(ro 500003 37),(ro 500004 4),(ro 500005 3),(ro 500006 4)]),(500002,wB 4 a1.1),(500003,.row 37 [(0,4)] (List.map (cS cB) a1.2.1)),(500004,wB 4 a1.2.2.1),(500005,wI 3 a1.2.2.2),(500006,wB 4 b4)]⟩)) (sp [] [(500001,500000),(500002,500001),(500003,500002),(500004,500003),(500005,500004),(500006,500005),(500007,500006)]) (fun a2 r h=>?_) fun u k=>?_
 refine y3 1 [1,8,10,151,152,153] [500000,500001,500002,500003,500004,500005,500006] (zB (qc h (fun h=>?_) fun h=>?_))
 refine y4 [1,8,10,151,152] [500000,500001,500002,500003,500004,500005,500006] (eQ (fun (c3:(List Bool))=>⟨[(1,iP all),(8,.ptr 500000 0),(10,.ptr 500001 0),(151,vI (l.Pieces.length:Int)),(152,vI a2.1)],[(500000,.box [.nl,.nl,.nl,.nl,.nl]),(500001,.box [(ro 500002 4),(ro 500003 37),(ro 500004 4),(ro 500005 3),(ro 500006 4)]),(500002,wB 4 a1.1),(500003,.row 37 [(0,4)] (List.map (cS cB) a1.2.1)),(500004,wB 4 a1.2.2.1),(500005,wI 3 a1.2.2.2),(500006,wB 4 c3)]⟩) (Np a2) r (by kernel_rfl) (fun c3 h=>?_) ?_)
 refine zD (z6 2 fun u k=>?_)
 cases h
 exact zH k
 refine zC (y3 2 [1,8,10,13,151,152] [500000,500001,500002,500003,500004,500005,500006] (zB ?_))
 obtain ⟨d5,b6,h⟩:=aA h
 refine zT ⟨[(1,iP all),(8,.ptr 500000 0),(10,.ptr 500001 0),(13,vI a2.1),(151,vI (l.Pieces.length:Int)),(152,vI a2.1),(174,vB d5)],[(500000,.box [.nl,.nl,.nl,.nl,.nl]),(500001,.box [(ro 500002 4),(ro 500003 37),(ro 500004 4),(ro 500005 3),(ro 500006 4)]),(500002,wB 4 a1.1),(500003,.row 37 [(0,4)] (List.map (cS cB) a1.2.1)),(500004,wB 4 a1.2.2.1),(500005,wI 3 a1.2.2.2),(500006,wB 4 a2.2)]⟩ ?_ fun u k=>?_
 replace h:=b6
 refine zA 3 ?_
 obtain ⟨e1,b7,h⟩:=aA h
 refine qV [500002,500003,500004,500005,500006] (W.Fg b7) (zA 1 (qB h [1,8,10,13,151,152,159] [500000,500001,500002,500003,500004,500005,500006] [159] (fun h=>?_) fun h=>?_))
 refine zA 3 ?_
 obtain ⟨e3,a6,h⟩:=aA h
 refine qI cB a6 (qR cB a6 (zA 1 (qB h [1,8,10,13,151,152,159,165] [500000,500001,500002,500003,500004,500005,500006] [165] (fun h=>?_) fun h=>?_)))
 refine zA 3 ?_
 obtain ⟨e4,a7,h⟩:=aA h
 refine qI cI a7 (qR cI a7 (z6 4 fun u k=>?_))
 cases h
 exact zG k
 refine z6 9 fun u k=>?_
 cases h
 exact zG k
 refine z6 15 fun u k=>?_
 cases h
 exact zG k
 refine yE k [1,8,10,13,151,152,174] [500000,500001,500002,500003,500004,500005,500006] (qc h (fun h=>?_) fun h=>?_)
 refine zD (zA 3 ?_)
 obtain ⟨e5,a8,h⟩:=aA h
 refine qI cB a8 (qS cB true a8 (zP fun u k=>?_))
 exact aK (aU (List.set a2.2 (Int.toNat a2.1) true) h k (here (by kernel_rfl)))
 refine zM fun u k=>?_
 exact aK (aU a2.2 h k (here (by kernel_rfl)))
 refine zL 3 fun u k=>?_
 refine aR ?_
 cases h
 exact zF k
 refine zQ (yE k [8,10] [500000,500001,500002,500003,500004,500005,500006] (z8 3 ⟨[(8,.ptr 500000 0),(9,vI 0)],[(500000,.box [(ro 500002 4),(ro 500003 37),(ro 500004 4),(ro 500005 3),(ro 500006 4)]),(500002,wB 4 a1.1),(500003,.row 37 [(0,4)] (List.map (cS cB) a1.2.1)),(500004,wB 4 a1.2.2.1),(500005,wI 3 a1.2.2.2),(500006,wB 4 b4)]⟩ fun u k=>?_))
 obtain rfl:=osi h
 exact qW k [(8,.ptr 0 0),(9,vI 0)] (sp [] [(500000,0),(500002,1),(500003,2),(500004,3),(500005,4),(500006,5)])
 refine y3 3 [1,4,7,8,10,111] [10,500000,500002,500003,700051,700052,700053,700054,700055] (qc h (fun h=>?_) fun h=>?_)
 refine qM 8 (dN 4 ?_)
 obtain ⟨a3,a4,h⟩:=aA h
 refine dI (cS cB) a4 (Ag (by kernel_rfl) (Qk (c:=(cS cB)) (l:=a0.Holes) (i:=(Int.toNat x3.Piece)) (v:=(.row (.sub 700052 (Int.toNat x3.Piece) 0) 4)) (agg:=false) (sz:=1) (kk:=(.top 700052)) (e:=37) (off:=0) (J:=[(0,4)]) (by kernel_rfl) (by kernel_rfl) (by kernel_rfl) ((Vz a4).2) (by kernel_rfl)) (by kernel_rfl) (by kernel_rfl) (dN 2 (dE ?_)))
 obtain ⟨d6,a9,h⟩:=aA h
 refine Ld (NK (c:=cB) (l:=a3) (i:=x3.Hole) (kd:=.i64) (kk:=(.sub 700052 (Int.toNat x3.Piece) 0)) (e:=4) (sz:=1) (by kernel_rfl) (CL (g:=700052) (i:=(Int.toNat x3.Piece)) (j:=0) (c:=(cS cB)) (c2:=cB) (e:=37) (J:=[(0,4)]) (l:=a0.Holes) (x:=a3) (l2:=a3) (by kernel_rfl) rfl ((Vz a4).2) rfl) a9 rfl) (Ld (Zw (c:=cB) (l:=a3) (i:=(Int.toNat x3.Hole)) (x:=d6) (x':=true) (v:=(vB true)) (agg:=false) (sz:=1) (kk:=(.sub 700052 (Int.toNat x3.Piece) 0)) (e:=4) (off:=0) (J:=[]) (o:=.row 37 [(0,4)] (List.map (cS cB) (List.set a0.Holes (Int.toNat x3.Piece) (List.set a3 (Int.toNat x3.Hole) true)))) (by kernel_rfl) (CL (g:=700052) (i:=(Int.toNat x3.Piece)) (j:=0) (c:=(cS cB)) (c2:=cB) (e:=37) (J:=[(0,4)]) (l:=a0.Holes) (x:=a3) (l2:=a3) (by kernel_rfl) rfl ((Vz a4).2) rfl) (by kernel_rfl) ((Vz a9).2) (by kernel_rfl) (by kernel_rfl) (KZ (g:=700052) (i:=(Int.toNat x3.Piece)) (j:=0) (c:=(cS cB)) (e:=37) (J:=[(0,4)]) (l:=a0.Holes) (x:=a3) (x':=(List.set a3 (Int.toNat x3.Hole) true)) (by kernel_rfl) ((Vz a4).2) rfl)) (zO fun u k=>?_))
 exact aU (a0.Cut,(List.set a0.Holes (Int.toNat x3.Piece) (List.set a3 (Int.toNat x3.Hole) true)),a0.Done,a0.Joints) h k (sp [] [(10,500002),(500000,500000),(500003,500001),(700051,500003),(700052,500004),(700053,500005),(700054,500006),(700055,500007)])
 refine zB (qN [(11,[700053])] [] [] [(4,[700053]),(5,[700053]),(6,[700053]),(7,[700053]),(8,[700053]),(9,[700053])] [] 12 (dN 10 ?_))
 obtain ⟨e6,b1,h⟩:=aA h
 refine dI cB b1 (dS cB true b1 (dE ?_))
 obtain ⟨e7,b2,h⟩:=aA h
 refine oI cI b2 (oS cI x3.Joints b2 (zO fun u k=>?_))
 refine yE k [1,4,7,8,10] [10,500000,500002,500003,700051,700052,700053,700054,700055] (z7 (zA 1 (qL gZ all (y1 1 [1,4,7,8,10,133,134,135] [10,500000,500002,500003,700051,700052,700053,700054,700055] (zC ?_)))))
 obtain ⟨b5,c1,h⟩:=aA h
 refine ql c1 (fun a5=>⟨[(1,iP all),(4,.ptr 500000 0),(7,.ptr 500001 0),(8,.ptr 500002 0),(10,.ptr 500003 0),(133,iP all),(134,vI (all.length:Int)),(135,vI a5.1)],[(500000,.box (aV l)),(500001,.box (iA x3)),(500002,.box [.nl,.nl,.nl,.nl,.nl]),(500003,.box [(ro 500004 4),(ro 500005 37),(ro 500006 4),(ro 500007 3),(ro 500008 4)]),(500004,wB 4 a5.2),(500005,.row 37 [(0,4)] (List.map (cS cB) a0.Holes)),(500006,wB 4 (List.set a0.Done (Int.toNat x3.Piece) true)),(500007,wI 3 (List.set a0.Joints (Int.toNat x3.Piece) x3.Joints)),(500008,wB 4 a0.Fallen)]⟩) (fun b5=>(.exit 1,⟨[(1,iP all),(4,.ptr 500000 0),(8,.ptr 500001 0),(10,.ptr 500002 0)],[(500000,.box (aV l)),(500001,.box [.nl,.nl,.nl,.nl,.nl]),(500002,.box [(ro 500003 4),(ro 500004 37),(ro 500005 4),(ro 500006 3),(ro 500007 4)]),(500003,wB 4 b5),(500004,.row 37 [(0,4)] (List.map (cS cB) a0.Holes)),(500005,wB 4 (List.set a0.Done (Int.toNat x3.Piece) true)),(500006,wI 3 (List.set a0.Joints (Int.toNat x3.Piece) x3.Joints)),(500007,wB 4 a0.Fallen)]⟩)) (sp [] [(10,500003),(500000,500000),(500002,500001),(500003,500002),(700051,500004),(700052,500005),(700053,500006),(700054,500007),(700055,500008)]) (fun a5 r h=>?_) fun u k=>?_
 refine y3 1 [1,4,7,8,10,133,134,135,136] [500000,500001,500002,500003,500004,500005,500006,500007,500008] (zB (qc h (fun h=>?_) fun h=>?_))
 refine y4 [1,4,7,8,10,133,134,135] [500000,500001,500002,500003,500004,500005,500006,500007,500008] (eQ (fun (c4:(List Bool))=>⟨[(1,iP all),(4,.ptr 500000 0),(7,.ptr 500001 0),(8,.ptr 500002 0),(10,.ptr 500003 0),(133,iP all),(134,vI (all.length:Int)),(135,vI a5.1)],[(500000,.box (aV l)),(500001,.box (iA x3)),(500002,.box [.nl,.nl,.nl,.nl,.nl]),(500003,.box [(ro 500004 4),(ro 500005 37),(ro 500006 4),(ro 500007 3),(ro 500008 4)]),(500004,wB 4 c4),(500005,.row 37 [(0,4)] (List.map (cS cB) a0.Holes)),(500006,wB 4 (List.set a0.Done (Int.toNat x3.Piece) true)),(500007,wI 3 (List.set a0.Joints (Int.toNat x3.Piece) x3.Joints)),(500008,wB 4 a0.Fallen)]⟩) (Nq a5) r (by kernel_rfl) (fun c4 h=>?_) ?_)
 refine zD (z6 2 fun u k=>?_)
 cases h
 exact zH k
 refine zC (z7 (zA 1 ?_))
 obtain ⟨e9,c0,h⟩:=aA h
 refine qX gZ c0 (y1 4 [1,4,7,8,10,11,12,133,134,135] [12,500000,500001,500002,500003,500004,500005,500006,500007,500008] (z7 (zA 3 ?_)))
 obtain ⟨e2,b8,h⟩:=aA h
 refine qP (W.Tu b8) (zP fun u k=>?_)
 refine yE k [1,4,7,8,10,11,133,134,135,143] [500000,500001,500002,500003,500004,500005,500006,500007,500008] (qc h (fun h=>?_) fun h=>?_)
 refine zD (zA 3 ?_)
 obtain ⟨f0,b3,h⟩:=aA h
 refine qI cB b3 (qS cB true b3 (zP fun u k=>?_))
 exact aK (aU (List.set a5.2 (Int.toNat a5.1) true) h k (here (by kernel_rfl)))
 refine zM fun u k=>?_
 exact aK (aU a5.2 h k (here (by kernel_rfl)))
 refine zL 1 fun u k=>?_
 refine aR ?_
 cases h
 exact Cf k rfl (sp [] [(500000,500000),(500002,500001),(500003,500002),(500004,500003),(500005,500004),(500006,500005),(500007,500006),(500008,500007)])
 exact zQ (aU (b5,a0.Holes,(List.set a0.Done (Int.toNat x3.Piece) true),(List.set a0.Joints (Int.toNat x3.Piece) x3.Joints)) h k (here (by kernel_rfl)))
theorem W.DK {a r} (h:BJ a=some r):PC G.P 28 [(.agg (bA a))] [] (.tup []) []:=by
 refine zU G Try.func28 (yK [0] [] (zD (z6 1 fun u k=>?_)))
 obtain rfl:=osi h
 exact wH k [] (here (by kernel_rfl)) (by kernel_rfl)
theorem W.Kt {l items r} (h:xP l items=some r):PC G.P 27 [(.agg (aV l)),(.sl (List.map iA items)),(.fn 28 [])] [] (.tup [(.agg [(.row (.top 1) 4),(.sl (List.map (cS cB) r.1.Holes)),(.row (.top 2) 4),(.row (.top 3) 3),(.row (.top 4) 4)]),(vI r.2.1),(vI r.2.2.1)]) [(0,.box [(.row (.top 1) 4),(.sl (List.map (cS cB) r.2.2.2)),(.row (.top 2) 4),(.row (.top 3) 3),(.row (.top 4) 4)]),(1,.row 4 [] (List.map cB r.1.Cut)),(2,.row 4 [] (List.map cB r.1.Done)),(3,.row 3 [] (List.map cI r.1.Joints)),(4,.row 4 [] (List.map cB r.1.Fallen))]:=by
 refine zU G Try.func27 (yK [0,1,2] [] (y3 4 [1,2,3,6] [3,6] (z7 (zA 1 ?_))))
 obtain ⟨r2,a8,h⟩:=aA h
 refine qC [] [(0,700050)] (W.Jg a8) (y1 5 [1,2,3,6,9,10] [3,6,700050] (zB (y3 2 [1,2,3,6,9,10,22] [3,6,700050] (qc h (fun h=>?_) fun h=>?_))))
 refine z8 5 ⟨[(6,.ptr 6 0),(7,vI 0),(8,vI r2.2)],[(6,.box [.nl,.nl,.nl,.nl,.nl])]⟩ fun u k=>?_
 refine aO ?_
 obtain rfl:=osi h
 exact qW k [(6,.ptr 0 0),(7,vI 0),(8,vI r2.2)] (sp [.row (.box 6 0) 800000 4 [],.row (.box 6 2) 800001 4 [],.row (.box 6 3) 800002 3 [],.row (.box 6 4) 800003 4 [],.soft (.box 6 1)] [(6,0),(800000,1),(800001,2),(800002,3),(800003,4)])
 refine y4 [1,2,3,6,9] [3,6,700050] (zB (z7 (zA 1 (qL iA items (y1 1 [1,2,3,6,9,27] [3,6,700050] (qc h (fun h=>?_) fun h=>?_))))))
 refine z8 4 ⟨[(6,.ptr 6 0),(7,vI 0),(8,vI 4)],[(6,.box [.nl,.nl,.nl,.nl,.nl])]⟩ fun u k=>?_
 refine aO ?_
 obtain rfl:=osi h
 exact qW k [(6,.ptr 0 0),(7,vI 0),(8,vI 4)] (sp [.row (.box 6 0) 800000 4 [],.row (.box 6 2) 800001 4 [],.row (.box 6 3) 800002 3 [],.row (.box 6 4) 800003 4 [],.soft (.box 6 1)] [(6,0),(800000,1),(800001,2),(800002,3),(800003,4)])
 refine y4 [1,2,3,6,9] [3,6,700050] (z7 (zA 2 (qL gZ r2.1 ?_)))
 obtain ⟨r4,a9,h⟩:=aA h
 refine qC [] [(0,700150),(1,700151),(2,700152),(3,700153),(4,700154),(5,700155)] (W.Ri a9) (y1 2 [1,2,3,6,9,11] [3,6,11,700050,700151,700152,700153,700154,700155] (zB (z7 (zA 1 (qL iA items (y1 1 [2,3,6,9,11,33,34,35] [3,6,11,700050,700151,700152,700153,700154,700155] ?_))))))
 refine zC ?_
 obtain ⟨a7,a6,h⟩:=aA h
 refine ql a6 (fun a1=>⟨[(2,.fn 28 []),(3,.ptr 500000 0),(6,.ptr 500001 0),(9,iP r2.1),(11,.ptr 500002 0),(33,Jq items),(34,vI (items.length:Int)),(35,vI a1.1)],[(500000,.box (aV l)),(500001,.box [.nl,.nl,.nl,.nl,.nl]),(500002,.box [(ro 500003 4),(.sl (List.map (cS cB) a1.2.1)),(ro 500004 4),(ro 500005 3),(ro 500006 4)]),(500003,wB 4 a1.2.2.1),(500004,wB 4 a1.2.2.2.1),(500005,wI 3 a1.2.2.2.2.1),(500006,wB 4 a1.2.2.2.2.2)]⟩) (fun a7=>match a7 with | .inl a2=>(.ret,⟨[(6,.ptr 500000 0),(7,vI a2.1),(8,vI a2.2)],[(500000,.box [.nl,.nl,.nl,.nl,.nl])]⟩) | .inr a0=>(.exit 0,⟨[(6,.ptr 500000 0),(11,.ptr 500001 0)],[(500000,.box [.nl,.nl,.nl,.nl,.nl]),(500001,.box [(ro 500002 4),(.sl (List.map (cS cB) a0.1)),(ro 500003 4),(ro 500004 3),(ro 500005 4)]),(500002,wB 4 a0.2.1),(500003,wB 4 a0.2.2.1),(500004,wI 3 a0.2.2.2.1),(500005,wB 4 a0.2.2.2.2)]⟩)) (sp [.frz 700050,.frz 700152] [(3,500000),(6,500001),(11,500002),(700151,500003),(700153,500004),(700154,500005),(700155,500006)]) (fun a1 r h=>?_) (fun u k=>?_) (hout:=(by intro x;rcases x with _ | _ <;> rfl))
 refine y3 1 [2,3,6,9,11,33,34,35,36] [500000,500001,500002,500003,500004,500005,500006] (zB (qc h (fun h=>?_) fun h=>?_))
 refine y4 [2,3,6,9,11,33,34,35] [500000,500001,500002,500003,500004,500005,500006] (zB (zC (z7 (zA 1 ?_))))
 obtain ⟨b2,a5,h⟩:=aA h
 refine qX iA a5 (y1 4 [2,3,6,9,11,12,13,33,34,35] [13,500000,500001,500002,500003,500004,500005,500006] (z7 (zA 4 (Dw [.frz 500003,.frz 500004,.frz 500005,.frz 500006] (by kernel_rfl) ?_))))
 obtain ⟨b0,a3,h⟩:=aA h
 refine qC [] [(0,700200),(1,700201),(2,700202),(3,700203),(4,700204),(5,700205)] (W.BK a3) (Dw [.frz 700202] (by kernel_rfl) (y1 6 [2,3,6,9,11,12,14,15,33,34,35] [14,500000,500001,500002,700201,700203,700204,700205] (zB (y3 2 [2,3,6,9,11,12,14,15,33,34,35,49] [14,500000,500001,500002,700201,700203,700204,700205] (qc h (fun h=>?_) fun h=>?_)))))
 refine z8 6 ⟨[(6,.ptr 500001 0),(7,vI a1.1),(8,vI b0.2)],[(500001,.box [.nl,.nl,.nl,.nl,.nl])]⟩ fun u k=>?_
 refine aO (aQ (aO ?_))
 cases h
 exact Cf k rfl (sp [] [(500001,500000)])
 refine y4 [2,3,6,9,11,14,33,34,35] [14,500000,500001,500002,700201,700203,700204,700205] (y3 2 [2,3,6,9,11,33,34,35] [500000,500001,500002,700201,700203,700204,700205] (zD (zA 2 ?_)))
 obtain ⟨b1,a4,h⟩:=aA h
 refine qV [700201,700203,700204,700205] (W.DK a4) (zP fun u k=>?_)
 refine aK (yE k [2,3,6,9,11,33,34,35] [500000,500001,500002,700201,700203,700204,700205] (zD (z6 2 fun u k=>?_)))
 cases h
 exact Yz k (sp [] [(500000,500000),(500001,500001),(500002,500002),(700201,500003),(700203,500004),(700204,500005),(700205,500006)])
 refine zL 0 fun u k=>?_
 refine aR ?_
 cases h
 exact Cf k rfl (sp [] [(500001,500000),(500002,500001),(500003,500002),(500004,500003),(500005,500004),(500006,500005)])
 rcases a7 with a2 | a0
 refine aQ (aO ?_)
 obtain rfl:=osi h
 exact qW k [(6,.ptr 0 0),(7,vI a2.1),(8,vI a2.2)] (sp [.row (.box 500000 0) 800000 4 [],.row (.box 500000 2) 800001 4 [],.row (.box 500000 3) 800002 3 [],.row (.box 500000 4) 800003 4 [],.soft (.box 500000 1)] [(500000,0),(800000,1),(800001,2),(800002,3),(800003,4)])
 refine zQ (yE k [6,11] [500000,500001,500002,500003,500004,500005] (z8 4 ⟨[(6,.ptr 500000 0),(7,vI 0),(8,vI 0)],[(500000,.box [(ro 500002 4),(.sl (List.map (cS cB) a0.1)),(ro 500003 4),(ro 500004 3),(ro 500005 4)]),(500002,wB 4 a0.2.1),(500003,wB 4 a0.2.2.1),(500004,wI 3 a0.2.2.2.1),(500005,wB 4 a0.2.2.2.2)]⟩ fun u k=>?_))
 obtain rfl:=osi h
 exact qW k [(6,.ptr 0 0),(7,vI 0),(8,vI 0)] (sp [] [(500000,0),(500002,1),(500003,2),(500004,3),(500005,4)])
theorem W.Ya {l items r} (h:Qy l items=some r):PC G.P 12 [(.agg (aV l)),(.sl (List.map iA items))] [] (.tup [(.agg [(.row (.top 1) 4),(.sl (List.map (cS cB) r.1.Holes)),(.row (.top 2) 4),(.row (.top 3) 3),(.row (.top 4) 4)]),(vI r.2.1),(vI r.2.2.1)]) [(0,.box [(.row (.top 1) 4),(.sl (List.map (cS cB) r.2.2.2)),(.row (.top 2) 4),(.row (.top 3) 3),(.row (.top 4) 4)]),(1,.row 4 [] (List.map cB r.1.Cut)),(2,.row 4 [] (List.map cB r.1.Done)),(3,.row 3 [] (List.map cI r.1.Joints)),(4,.row 4 [] (List.map cB r.1.Fallen))]:=by
 refine zU G Try.func12 (yK [0,1] [] (y3 4 [1,2,4] [2,4] (z7 (zA 2 ?_))))
 obtain ⟨r2,a0,h⟩:=aA h
 refine qC [] [(0,700100),(1,700101),(2,700102),(3,700103),(4,700104)] (W.Kt a0) (y1 6 [4,5,6] [4,700101,700102,700103,700104] (zN fun u k=>?_))
 obtain rfl:=osi h
 exact qW k [(4,.ptr 0 0),(5,vI r2.2.1),(6,vI r2.2.2.1)] (sp [] [(4,0),(700101,1),(700102,2),(700103,3),(700104,4)])
theorem W.uT {a b r} (h:rG a b=some r):PC G.P 19 [(.sl (List.map cI a)),(.sl (List.map cI b))] [] (vB r) []:=by
 refine zU G Try.func19 (yK [0,1] [] (y3 1 [0,1] [] (zB (z7 (zA 1 (qL cI a ?_))))))
 refine zA 1 (qL cI b (y1 1 [0,1,10] [] (qc h (fun h=>?_) fun h=>?_)))
 refine z8 1 ⟨[(4,vB false)],[]⟩ fun u k=>?_
 refine aO ?_
 obtain rfl:=osi h
 exact zV k [(4,vB false)]
 refine y4 [0,1] [] (zB (y3 1 [0,1,5] [] (zC ?_)))
 obtain ⟨a3,a2,h⟩:=aA h
 refine ql a2 (fun a4=>⟨[(0,sI a),(1,sI b),(5,vI a4)],[]⟩) (fun a3=>match a3 with | .inl a5=>(.ret,⟨[(4,vB false)],[]⟩) | .inr a6=>(.exit 0,⟨[],[]⟩)) qH (fun a4 r h=>?_) (fun u k=>?_) (hout:=(by intro x;rcases x with _ | _ <;> rfl))
 refine zB (z7 (zA 2 (qL cI a (y1 1 [0,1,5,14] [] (qc h (fun h=>?_) fun h=>?_)))))
 refine y4 [0,1,5] [] (zB (zC (zB (qM 8 (dN 2 ?_)))))
 obtain ⟨a7,a0,h⟩:=aA h
 refine dX cI a0 (dN 3 ?_)
 obtain ⟨a8,a1,h⟩:=aA h
 refine dX cI a1 (dN 1 (dE (oN 1 (zO fun u k=>?_))))
 refine yE k [0,1,5,25] [] (qc h (fun h=>?_) fun h=>?_)
 refine z8 1 ⟨[(4,vB false)],[]⟩ fun u k=>?_
 refine aQ (aO ?_)
 cases h
 exact zF k
 refine zM fun u k=>?_
 refine aK (yE k [0,1,5] [] (zD (z6 3 fun u k=>?_)))
 cases h
 exact zH k
 refine zL 0 fun u k=>?_
 refine aR ?_
 cases h
 exact zF k
 rcases a3 with a5 | a6
 refine aQ (aO ?_)
 obtain rfl:=osi h
 exact zV k [(4,vB false)]
 refine zQ (yE k [] [] (z8 1 ⟨[(4,vB true)],[]⟩ fun u k=>?_))
 obtain rfl:=osi h
 exact zV k [(4,vB true)]
theorem W.DJ {l items r} (h:Nk l items=some r):PC G.P 16 [(.agg (aV l)),(.sl (List.map iA items))] [] (vI r) []:=by
 refine zU G Try.func16 (yK [0,1] [] (y3 2 [1,2] [2] (z7 (zA 2 ?_))))
 obtain ⟨r2,a5,h⟩:=aA h
 refine qC [] [(0,700100),(1,700101),(2,700102),(3,700103),(4,700104)] (W.Ya a5) (y1 8 [5,7] [5,700101,700102,700103,700104] (zB (y3 2 [5,7,18] [5,700101,700102,700103,700104] (qc h (fun h=>?_) fun h=>?_))))
 refine z8 2 ⟨[(4,vI r2.2.2.1)],[]⟩ fun u k=>?_
 refine aO ?_
 obtain rfl:=osi h
 exact zV k [(4,vI r2.2.2.1)]
 refine y4 [5] [5,700101,700102,700103,700104] (zB (z7 (zA 2 ?_)))
 obtain ⟨r6,a6,h⟩:=aA h
 refine qV [700102] (W.mM a6) (zP fun u k=>?_)
 refine yE k [5,22] [5,700101,700102,700103,700104] (qc h (fun h=>?_) fun h=>?_)
 refine z8 1 ⟨[(4,vI 12)],[]⟩ fun u k=>?_
 refine aO ?_
 obtain rfl:=osi h
 exact zV k [(4,vI 12)]
 refine y4 [5] [5,700101,700102,700103,700104] (zB (z7 (zA 2 (qL (cS cB) r2.1.Holes (y1 1 [24,25,26] [] (zC ?_))))))
 obtain ⟨a3,a2,h⟩:=aA h
 refine ql a2 (fun a4=>⟨[(24,.sl (List.map (cS cB) r2.1.Holes)),(25,vI (r2.1.Holes.length:Int)),(26,vI a4)],[]⟩) (fun a3=>match a3 with | .inl a7=>(.ret,⟨[(4,vI 12)],[]⟩) | .inr a8=>(.exit 0,⟨[],[]⟩)) qH (fun a4 r h=>?_) (fun u k=>?_) (hout:=(by intro x;rcases x with _ | _ <;> rfl))
 refine y3 1 [24,25,26,27] [] (zB (qc h (fun h=>?_) fun h=>?_))
 refine y4 [24,25,26] [] (zB (zC (z7 ?_)))
 obtain ⟨b0,a1,h⟩:=aA h
 refine qX (cS cB) a1 (y1 2 [9,24,25,26] [] (z7 (zA 1 ?_)))
 obtain ⟨a9,a0,h⟩:=aA h
 refine qP (W.mM a0) (zP fun u k=>?_)
 refine yE k [24,25,26,31] [] (qc h (fun h=>?_) fun h=>?_)
 refine z8 1 ⟨[(4,vI 12)],[]⟩ fun u k=>?_
 refine aQ (aO ?_)
 cases h
 exact zF k
 refine zM fun u k=>?_
 refine aK (yE k [24,25,26] [] (zD (z6 2 fun u k=>?_)))
 cases h
 exact zH k
 refine zL 0 fun u k=>?_
 refine aR ?_
 cases h
 exact zF k
 rcases a3 with a7 | a8
 refine aQ (aO ?_)
 obtain rfl:=osi h
 exact zV k [(4,vI 12)]
 refine zQ (yE k [] [] (z8 1 ⟨[(4,vI 0)],[]⟩ fun u k=>?_))
 obtain rfl:=osi h
 exact zV k [(4,vI 0)]
theorem W.Vx {st h0_0 h2 r} (h:Bq st h0_0 h2=some r):PC G.P 32 [(.agg (bA st)),(.ptr 1000000 0),(.ptr 1000001 0)] [(1000000,.box [(.sl (List.map cB h0_0))]),(1000001,.box [(.row (.top 300002) 39)]),(300002,.row 39 [] (List.map (cS cI) h2))] (.tup []) [(0,.row 39 [] (List.map (cS cI) r)),(1000000,.box [(.sl (List.map cB st.Fallen))]),(1000001,.box [(.row (.top 0) 39)])]:=by
 refine zU G Try.func32 (yK [0,1,2] [300002,1000000,1000001] (y3 1 [1,2,3] [3,300002,1000000,1000001] (y3 1 [1,2,3,4] [3,4,300002,1000000,1000001] (zB (z7 (zA 2 ?_))))))
 refine qL cB st.Fallen (y1 1 [1,2,3,4,8,9,10] [3,4,300002,1000000,1000001] (zC ?_))
 obtain ⟨a8,a6,h⟩:=aA h
 refine ql a6 (fun a0=>⟨[(1,.ptr 1000000 0),(2,.ptr 1000001 0),(3,.ptr 500001 0),(4,ro 500002 3),(8,sB st.Fallen),(9,vI (st.Fallen.length:Int)),(10,vI a0.1)],[(500000,.row 39 [] (List.map (cS cI) h2)),(500001,.box (bA st)),(500002,wI 3 a0.2),(1000000,.box [(sB h0_0)]),(1000001,.box [(ro 500000 39)])]⟩) (fun a8=>(.exit 0,⟨[(1,.ptr 1000000 0),(2,.ptr 1000001 0),(3,.ptr 500001 0),(4,ro 500002 3)],[(500000,.row 39 [] (List.map (cS cI) h2)),(500001,.box (bA st)),(500002,wI 3 a8),(1000000,.box [(sB h0_0)]),(1000001,.box [(ro 500000 39)])]⟩)) (sp [] [(3,500001),(4,500002),(300002,500000),(1000000,1000000),(1000001,1000001)]) (fun a0 r h=>?_) fun u k=>?_
 refine y3 1 [1,2,3,4,8,9,10,11] [500000,500001,500002,1000000,1000001] (zB (qc h (fun h=>?_) fun h=>?_))
 refine y4 [1,2,3,4,8,9,10] [500000,500001,500002,1000000,1000001] (eQ (fun (a7:(List Int))=>⟨[(1,.ptr 1000000 0),(2,.ptr 1000001 0),(3,.ptr 500001 0),(4,ro 500002 3),(8,sB st.Fallen),(9,vI (st.Fallen.length:Int)),(10,vI a0.1)],[(500000,.row 39 [] (List.map (cS cI) h2)),(500001,.box (bA st)),(500002,wI 3 a7),(1000000,.box [(sB h0_0)]),(1000001,.box [(ro 500000 39)])]⟩) (xE a0) r (by kernel_rfl) (fun a7 h=>?_) ?_)
 refine zD (z6 2 fun u k=>?_)
 cases h
 exact zH k
 refine zC (z7 (zA 1 ?_))
 obtain ⟨b2,a4,h⟩:=aA h
 refine qX cB a4 (y1 3 [1,2,3,4,5,6,8,9,10] [500000,500001,500002,1000000,1000001] (zB ?_))
 obtain ⟨a9,a1,h⟩:=aA h
 refine zT ⟨[(1,.ptr 1000000 0),(2,.ptr 1000001 0),(3,.ptr 500001 0),(4,ro 500002 3),(5,vI a0.1),(8,sB st.Fallen),(9,vI (st.Fallen.length:Int)),(10,vI a0.1),(22,vB a9)],[(500000,.row 39 [] (List.map (cS cI) h2)),(500001,.box (bA st)),(500002,wI 3 a0.2),(1000000,.box [(sB h0_0)]),(1000001,.box [(ro 500000 39)])]⟩ ?_ fun u k=>?_
 replace h:=a1
 refine zA 2 (qB h [1,2,3,4,5,8,9,10,16] [500000,500001,500002,1000000,1000001] [16] (fun h=>?_) fun h=>?_)
 refine zA 2 ?_
 obtain ⟨b3,a5,h⟩:=aA h
 refine qX cB a5 (z6 3 fun u k=>?_)
 cases h
 exact zG k
 refine z6 6 fun u k=>?_
 cases h
 exact zG k
 refine yE k [1,2,3,4,5,8,9,10,22] [500000,500001,500002,1000000,1000001] (qc h (fun h=>?_) fun h=>?_)
 refine zD (zA 3 ?_)
 obtain ⟨b0,a2,h⟩:=aA h
 refine qA cI 1 a2 (z6 1 fun u k=>?_)
 exact aK (aU b0 h k (here (by kernel_rfl)))
 refine zM fun u k=>?_
 exact aK (aU a0.2 h k (here (by kernel_rfl)))
 refine zL 0 fun u k=>?_
 refine aR ?_
 cases h
 exact zF k
 refine zQ (yE k [1,2,3,4] [500000,500001,500002,1000000,1000001] (z7 (zA 2 (Dw [.frz 500002] (by kernel_rfl) (zA 1 ?_)))))
 obtain ⟨b1,a3,h⟩:=aA h
 refine qA (cS cI) 1 a3 (y1 1 [1,3] [500000,500001,1000000,1000001] (zD (z6 3 fun u k=>?_)))
 obtain rfl:=osi h
 exact wH k [] (sp [] [(500000,0),(1000000,1000000),(1000001,1000001)]) (by kernel_rfl)
theorem W.Hw {l items h1 h3 r} (h:vG l items h1 h3=some r):PC G.P 27 [(.agg (aV l)),(.sl (List.map iA items)),(.fn 32 [(.ptr 1000000 0),(.ptr 1000002 0)])] [(1000000,.box [(.row (.top 300001) 4)]),(300001,.row 4 [] (List.map cB h1)),(1000002,.box [(.row (.top 300003) 39)]),(300003,.row 39 [] (List.map (cS cI) h3))] (.tup [(.agg (bA r.1)),(vI r.2.1),(vI r.2.2.1)]) [(0,.box [(.sl (List.map cB r.2.2.2.1)),(.sl (List.map (cS cB) r.2.2.2.2.1)),(.sl (List.map cB r.2.2.2.2.2.1)),(.sl (List.map cI r.2.2.2.2.2.2.1)),(.sl (List.map cB r.2.2.2.2.2.2.2.1))]),(1,.row 39 [] (List.map (cS cI) r.2.2.2.2.2.2.2.2.1)),(1000000,.box [(.sl (List.map cB r.2.2.2.2.2.2.2.2.2))]),(1000002,.box [(.row (.top 1) 39)])]:=by
 refine zU G Try.func27 (yK [0,1,2] [300001,300003,1000000,1000002] (y3 4 [1,2,3,6] [3,6,300001,300003,1000000,1000002] (z7 (zA 1 ?_))))
 obtain ⟨r2,a8,h⟩:=aA h
 refine qC [] [(0,700050)] (W.Jg a8) (y1 5 [1,2,3,6,9,10] [3,6,300001,300003,700050,1000000,1000002] (zB (y3 2 [1,2,3,6,9,10,22] [3,6,300001,300003,700050,1000000,1000002] (qc h (fun h=>?_) fun h=>?_))))
 refine z8 5 ⟨[(6,.ptr 6 0),(7,vI 0),(8,vI r2.2)],[(6,.box [.nl,.nl,.nl,.nl,.nl]),(300001,wB 4 h1),(300003,.row 39 [] (List.map (cS cI) h3)),(1000000,.box [(ro 300001 4)]),(1000002,.box [(ro 300003 39)])]⟩ fun u k=>?_
 refine aO ?_
 obtain rfl:=osi h
 exact qW k [(6,.ptr 0 0),(7,vI 0),(8,vI r2.2)] (sp [.frz 300001,.soft (.box 6 0),.soft (.box 6 1),.soft (.box 6 2),.soft (.box 6 3),.soft (.box 6 4)] [(6,0),(300003,1),(1000000,1000000),(1000002,1000002)])
 refine y4 [1,2,3,6,9] [3,6,300001,300003,700050,1000000,1000002] (zB (z7 (zA 1 (qL iA items (y1 1 [1,2,3,6,9,27] [3,6,300001,300003,700050,1000000,1000002] (qc h (fun h=>?_) fun h=>?_))))))
 refine z8 4 ⟨[(6,.ptr 6 0),(7,vI 0),(8,vI 4)],[(6,.box [.nl,.nl,.nl,.nl,.nl]),(300001,wB 4 h1),(300003,.row 39 [] (List.map (cS cI) h3)),(1000000,.box [(ro 300001 4)]),(1000002,.box [(ro 300003 39)])]⟩ fun u k=>?_
 refine aO ?_
 obtain rfl:=osi h
 exact qW k [(6,.ptr 0 0),(7,vI 0),(8,vI 4)] (sp [.frz 300001,.soft (.box 6 0),.soft (.box 6 1),.soft (.box 6 2),.soft (.box 6 3),.soft (.box 6 4)] [(6,0),(300003,1),(1000000,1000000),(1000002,1000002)])
 refine y4 [1,2,3,6,9] [3,6,300001,300003,700050,1000000,1000002] (z7 (zA 2 (qL gZ r2.1 ?_)))
 obtain ⟨r4,a9,h⟩:=aA h
 refine qC [] [(0,700150),(1,700151),(2,700152),(3,700153),(4,700154),(5,700155)] (W.Ri a9) (y1 2 [1,2,3,6,9,11] [3,6,11,300001,300003,700050,700151,700152,700153,700154,700155,1000000,1000002] (zB (z7 (zA 1 (qL iA items (y1 1 [2,3,6,9,11,33,34,35] [3,6,11,300001,300003,700050,700151,700152,700153,700154,700155,1000000,1000002] ?_))))))
 refine zC ?_
 obtain ⟨a7,a6,h⟩:=aA h
 refine ql a6 (fun a1=>⟨[(2,.fn 32 [(.ptr 1000000 0),(.ptr 1000002 0)]),(3,.ptr 500001 0),(6,.ptr 500002 0),(9,iP r2.1),(11,.ptr 500003 0),(33,Jq items),(34,vI (items.length:Int)),(35,vI a1.1)],[(500000,.row 39 [] (List.map (cS cI) a1.2.1)),(500001,.box (aV l)),(500002,.box [.nl,.nl,.nl,.nl,.nl]),(500003,.box [(sB a1.2.2.1),(.sl (List.map (cS cB) a1.2.2.2.1)),(sB a1.2.2.2.2.1),(sI a1.2.2.2.2.2.1),(sB a1.2.2.2.2.2.2.1)]),(1000000,.box [(sB a1.2.2.2.2.2.2.2)]),(1000002,.box [(ro 500000 39)])]⟩) (fun a7=>match a7 with | .inl a2=>(.ret,⟨[(6,.ptr 500000 0),(7,vI a2.1),(8,vI a2.2.1)],[(500000,.box [.nl,.nl,.nl,.nl,.nl]),(500001,.row 39 [] (List.map (cS cI) a2.2.2.1)),(1000000,.box [(sB a2.2.2.2)]),(1000002,.box [(ro 500001 39)])]⟩) | .inr a0=>(.exit 0,⟨[(6,.ptr 500000 0),(11,.ptr 500001 0)],[(500000,.box [.nl,.nl,.nl,.nl,.nl]),(500001,.box [(sB a0.1),(.sl (List.map (cS cB) a0.2.1)),(sB a0.2.2.1),(sI a0.2.2.2.1),(sB a0.2.2.2.2.1)]),(500002,.row 39 [] (List.map (cS cI) a0.2.2.2.2.2.1)),(1000000,.box [(sB a0.2.2.2.2.2.2)]),(1000002,.box [(ro 500002 39)])]⟩)) (sp [.frz 300001,.frz 700050,.frz 700151,.frz 700152,.frz 700153,.frz 700154,.frz 700155] [(3,500001),(6,500002),(11,500003),(300003,500000),(1000000,1000000),(1000002,1000002)]) (fun a1 r h=>?_) (fun u k=>?_) (hout:=(by intro x;rcases x with _ | _ <;> rfl))
 refine y3 1 [2,3,6,9,11,33,34,35,36] [500000,500001,500002,500003,1000000,1000002] (zB (qc h (fun h=>?_) fun h=>?_))
 refine y4 [2,3,6,9,11,33,34,35] [500000,500001,500002,500003,1000000,1000002] (zB (zC (z7 (zA 1 ?_))))
 obtain ⟨b2,a5,h⟩:=aA h
 refine qX iA a5 (y1 4 [2,3,6,9,11,12,13,33,34,35] [13,500000,500001,500002,500003,1000000,1000002] (z7 (zA 4 ?_)))
 obtain ⟨b0,a3,h⟩:=aA h
 refine qC [] [(0,700200),(1,700201),(2,700202),(3,700203),(4,700204),(5,700205)] (W.BK a3) (Dw [.frz 700202] (by kernel_rfl) (y1 6 [2,3,6,9,11,12,14,15,33,34,35] [14,500000,500001,500002,500003,700201,700203,700204,700205,1000000,1000002] (zB (y3 2 [2,3,6,9,11,12,14,15,33,34,35,49] [14,500000,500001,500002,500003,700201,700203,700204,700205,1000000,1000002] (qc h (fun h=>?_) fun h=>?_)))))
 refine z8 6 ⟨[(6,.ptr 500002 0),(7,vI a1.1),(8,vI b0.2)],[(500000,.row 39 [] (List.map (cS cI) a1.2.1)),(500002,.box [.nl,.nl,.nl,.nl,.nl]),(1000000,.box [(sB a1.2.2.2.2.2.2.2)]),(1000002,.box [(ro 500000 39)])]⟩ fun u k=>?_
 refine aO (aQ (aO ?_))
 cases h
 exact Cf k rfl (sp [] [(500000,500001),(500002,500000),(1000000,1000000),(1000002,1000002)])
 refine y4 [2,3,6,9,11,14,33,34,35] [14,500000,500001,500002,500003,700201,700203,700204,700205,1000000,1000002] (y3 2 [2,3,6,9,11,33,34,35] [500000,500001,500002,500003,700201,700203,700204,700205,1000000,1000002] (zD (zA 2 (Dw [.frz 700201,.frz 700203,.frz 700204,.frz 700205] (by kernel_rfl) ?_))))
 obtain ⟨b1,a4,h⟩:=aA h
 refine qC [(1000000,1000000),(1000001,1000002),(300002,500000)] [(0,700100)] (W.Vx a4) (zP fun u k=>?_)
 refine aK (yE k [2,3,6,9,11,33,34,35] [500001,500002,500003,700100,1000000,1000002] (zD (z6 2 fun u k=>?_)))
 cases h
 exact Yz k (sp [] [(500001,500001),(500002,500002),(500003,500003),(700100,500000),(1000000,1000000),(1000002,1000002)])
 refine zL 0 fun u k=>?_
 refine aR ?_
 cases h
 exact Cf k rfl (sp [] [(500000,500002),(500002,500000),(500003,500001),(1000000,1000000),(1000002,1000002)])
 rcases a7 with a2 | a0
 refine aQ (aO ?_)
 obtain rfl:=osi h
 exact qW k [(6,.ptr 0 0),(7,vI a2.1),(8,vI a2.2.1)] (sp [.soft (.box 500000 0),.soft (.box 500000 1),.soft (.box 500000 2),.soft (.box 500000 3),.soft (.box 500000 4)] [(500000,0),(500001,1),(1000000,1000000),(1000002,1000002)])
 refine zQ (yE k [6,11] [500000,500001,500002,1000000,1000002] (z8 4 ⟨[(6,.ptr 500000 0),(7,vI 0),(8,vI 0)],[(500000,.box [(sB a0.1),(.sl (List.map (cS cB) a0.2.1)),(sB a0.2.2.1),(sI a0.2.2.2.1),(sB a0.2.2.2.2.1)]),(500002,.row 39 [] (List.map (cS cI) a0.2.2.2.2.2.1)),(1000000,.box [(sB a0.2.2.2.2.2.2)]),(1000002,.box [(ro 500002 39)])]⟩ fun u k=>?_))
 obtain rfl:=osi h
 exact qW k [(6,.ptr 0 0),(7,vI 0),(8,vI 0)] (sp [] [(500000,0),(500002,1),(1000000,1000000),(1000002,1000002)])
theorem W.Qw {l items r} (h:Ho l items=some r):PC G.P 17 [(.agg (aV l)),(.sl (List.map iA items))] [] (.tup [(.row (.top 0) 39),(vI r.2)]) [(0,.row 39 [] (List.map (cS cI) r.1))]:=by
 refine zU G Try.func17 (yK [0,1] [] (y3 3 [1,2] [2] (z7 (zA 1 (Dw [.row (.box 6 0) 800006 39 []] (by kernel_rfl) (zP fun u k=>?_))))))
 refine yE k [1,2,6] [2,6,800006] (z7 (zA 2 (qL aX l.Pieces ?_)))
 obtain ⟨l2,a0,h⟩:=aA h
 refine kF (Vq (c:=cB) (z:=false) (n:=(l.Pieces.length:Int)) (e:=4) (d:=14) (zs:=[(vB false)]) (k1:=.i64) (k2:=.i64) (by kernel_rfl) rfl a0) (zA 1 (Dw [.row (.box 7 0) 800007 4 []] (by kernel_rfl) (y1 1 [1,2,6,7] [2,6,7,14,800006] (z7 (zA 3 ?_)))))
 obtain ⟨r4,a1,h⟩:=aA h
 refine qC [(1000000,7),(300001,14),(1000002,6),(300003,800006)] [(0,700150),(1,700151)] (W.Hw a1) (y1 8 [6,10] [6,700151] (zB (y3 2 [6,10,24] [6,700151] (qc h (fun h=>?_) fun h=>?_))))
 refine z8 3 ⟨[(4,ro 4 39),(5,vI r4.2.2.1)],[(4,.row 39 [] (List.map (cS cI) []))]⟩ fun u k=>?_
 refine aO ?_
 obtain rfl:=osi h
 exact qW k [(4,ro 0 39),(5,vI r4.2.2.1)] (sp [] [(4,0)])
 refine y4 [6] [6,700151] (z8 3 ⟨[(4,ro 700151 39),(5,vI 0)],[(700151,.row 39 [] (List.map (cS cI) r4.2.2.2.2.2.2.2.2.1))]⟩ fun u k=>?_)
 obtain rfl:=osi h
 exact qW k [(4,ro 0 39),(5,vI 0)] (sp [] [(700151,0)])
theorem W.uS {r} (h:lY=some r):PC G.P 6 [] [] (vB r) []:=by
 refine zU G Try.func6 (yK [] [] (y3 1 [] [] (y3 1 [1] [] (y3 7 [1,2] [2] (y3 7 [1,2,3] [2,3] (y3 8 [1,2,3,4] [2,3,4] ?_))))))
 refine z7 (zA 3 (jL (NW (es:=(List.map aX [(Piece.mk (ByteArray.mk #[97]) (ByteArray.mk #[115,116,101,101,108]) 10 0 [(Rect.mk 0 0 14400 14400)] [] []),(Piece.mk (ByteArray.mk #[98]) (ByteArray.mk #[115,116,101,101,108]) 10 0 [(Rect.mk 14400 0 14400 14400)] [] [])])) (by kernel_rfl)) (y1 3 [1,5] [5] (z7 (zA 1 ?_)))))
 obtain ⟨r2,a4,h⟩:=aA h
 refine qC [] [(0,700050)] (W.Jg a4) (y1 5 [1,5,6,7] [5,700050] (y3 7 [5,6,7,8] [5,700050] (z7 (zA 2 ?_))))
 obtain ⟨r4,a5,h⟩:=aA h
 refine qC [] [(0,700100)] (W.Qw a5) (y1 5 [6,7,9,10] [700050,700100] (z7 (zA 3 (qB h [6,9,10,51] [700050,700100] [51] (fun h=>?_) fun h=>?_))))
 refine zA 1 (qL gZ r2.1 (zA 3 (qB h [9,10,56] [700100] [56] (fun h=>?_) fun h=>?_)))
 refine zA 4 (qB h [9,60] [700100] [60] (fun h=>?_) fun h=>?_)
 refine zA 1 (qL (cS cI) r4.1 (zA 3 (qB h [9,65] [700100] [65] (fun h=>?_) fun h=>?_)))
 refine zA 1 ?_
 obtain ⟨x9,a3,h⟩:=aA h
 refine qI (cS cI) a3 (qR (cS cI) a3 (zA 1 ?_))
 obtain ⟨a7,a1,h⟩:=aA h
 refine qP (W.uT a1) (zA 2 (qB h [9,72] [700100] [72] (fun h=>?_) fun h=>?_))
 refine zA 1 ?_
 obtain ⟨a8,a0,h⟩:=aA h
 refine qI (cS cI) a0 (qR (cS cI) a0 (zA 1 ?_))
 obtain ⟨a6,a2,h⟩:=aA h
 refine qP (W.uT a2) (y1 2 [0] [] (zN fun u k=>?_))
 obtain rfl:=osi h
 exact zV k [(0,vB a6)]
 exact nomatch h
 exact nomatch h
 exact nomatch h
 exact nomatch h
 exact nomatch h
theorem W.Eo {l items r} (h:sP l items=some r):PC G.P 5 [(.agg (aV l)),(.sl (List.map iA items))] [] (vB r) []:=by
 refine zU G Try.func5 (yK [0,1] [] (y3 2 [1,2] [2] (zB (z7 (zA 2 ?_)))))
 obtain ⟨r6,f0,h⟩:=aA h
 refine qP (W.DJ f0) (y1 1 [1,2,18] [2] (qc h (fun h=>?_) fun h=>?_))
 refine z7 ?_
 obtain ⟨r8,f1,h⟩:=aA h
 refine qP (W.uS f1) (y1 1 [4] [] (zN fun u k=>?_))
 refine aO ?_
 obtain rfl:=osi h
 exact zV k [(4,vB r8)]
 refine y4 [1,2] [2] (z7 (zA 2 ?_))
 obtain ⟨a1,e5,h⟩:=aA h
 refine qC [] [(0,700100),(1,700101),(2,700102),(3,700103),(4,700104)] (W.Ya e5) (y1 8 [1,2,5,7] [2,5,700101,700102,700103,700104] (z7 (zA 2 ?_)))
 obtain ⟨d1,e6,h⟩:=aA h
 refine qC [] [(0,700100)] (W.Qw e6) (y1 5 [1,2,5,7,8,9] [2,5,700100,700101,700102,700103,700104] (zB (zB ?_)))
 obtain ⟨f2,e3,h⟩:=aA h
 refine zT ⟨[(1,Jq items),(2,.ptr 500000 0),(5,.ptr 500001 0),(8,ro 500006 39),(63,vB f2)],[(500000,.box (aV l)),(500001,.box [(ro 500002 4),(.sl (List.map (cS cB) a1.1.Holes)),(ro 500003 4),(ro 500004 3),(ro 500005 4)]),(500002,wB 4 a1.1.Cut),(500003,wB 4 a1.1.Done),(500004,wI 3 a1.1.Joints),(500005,wB 4 a1.1.Fallen),(500006,.row 39 [] (List.map (cS cI) d1.1))]⟩ ?_ fun u k=>?_
 replace h:=e3
 refine zA 3 (qB h [1,2,5,8,9,35] [2,5,700100,700101,700102,700103,700104] [35] (fun h=>?_) fun h=>?_)
 refine z6 28 fun u k=>?_
 cases h
 exact nP k (sp [] [(2,500000),(5,500001),(700100,500006),(700101,500002),(700102,500003),(700103,500004),(700104,500005)])
 refine zA 4 (qB h [1,2,5,8,39] [2,5,700100,700101,700102,700103,700104] [39] (fun h=>?_) fun h=>?_)
 refine z6 24 fun u k=>?_
 cases h
 exact nP k (sp [] [(2,500000),(5,500001),(700100,500006),(700101,500002),(700102,500003),(700103,500004),(700104,500005)])
 refine zA 1 (qL (cS cI) d1.1 (zA 1 (qL iA items (zA 3 (qB h [1,2,5,8,46] [2,5,700100,700101,700102,700103,700104] [46] (fun h=>?_) fun h=>?_)))))
 refine z6 17 fun u k=>?_
 cases h
 exact nP k (sp [] [(2,500000),(5,500001),(700100,500006),(700101,500002),(700102,500003),(700103,500004),(700104,500005)])
 refine zA 2 (qL cB a1.1.Fallen (zA 2 (qL aX l.Pieces (zA 3 (qB h [1,2,5,8,55] [2,5,700100,700101,700102,700103,700104] [55] (fun h=>?_) fun h=>?_)))))
 refine z6 8 fun u k=>?_
 cases h
 exact nP k (sp [] [(2,500000),(5,500001),(700100,500006),(700101,500002),(700102,500003),(700103,500004),(700104,500005)])
 refine zA 2 (qL cI a1.1.Joints (zA 2 (qL aX l.Pieces (z6 2 fun u k=>?_))))
 cases h
 exact nP k (sp [] [(2,500000),(5,500001),(700100,500006),(700101,500002),(700102,500003),(700103,500004),(700104,500005)])
 refine yE k [1,2,5,8,63] [500000,500001,500002,500003,500004,500005,500006] (qc h (fun h=>?_) fun h=>?_)
 refine z8 1 ⟨[(4,vB false)],[]⟩ fun u k=>?_
 refine aO ?_
 obtain rfl:=osi h
 exact zV k [(4,vB false)]
 refine y4 [1,2,5,8] [500000,500001,500002,500003,500004,500005,500006] (z7 (zA 2 (qL aX l.Pieces ?_)))
 obtain ⟨f5,e4,h⟩:=aA h
 refine kF (Vq (c:=cI) (z:=0) (n:=(l.Pieces.length:Int)) (e:=3) (d:=67) (zs:=[(vI 0)]) (k1:=.i64) (k2:=.i64) (by kernel_rfl) rfl e4) (y1 1 [1,5,8,10] [67,500001,500002,500003,500004,500005,500006] (zB (y3 1 [1,5,8,10,11] [67,500001,500002,500003,500004,500005,500006] (zC ?_))))
 obtain ⟨b7,c9,h⟩:=aA h
 refine ql c9 (fun a4=>⟨[(1,Jq items),(5,.ptr 500000 0),(8,ro 500005 39),(10,ro 500006 3),(11,vI a4.1)],[(500000,.box [(ro 500001 4),(.sl (List.map (cS cB) a1.1.Holes)),(ro 500002 4),(ro 500003 3),(ro 500004 4)]),(500001,wB 4 a1.1.Cut),(500002,wB 4 a1.1.Done),(500003,wI 3 a1.1.Joints),(500004,wB 4 a1.1.Fallen),(500005,.row 39 [] (List.map (cS cI) d1.1)),(500006,wI 3 a4.2)]⟩) (fun b7=>match b7 with | .inl d5=>(.ret,⟨[(4,vB false)],[]⟩) | .inr a2=>(.exit 0,⟨[(5,.ptr 500000 0),(10,ro 500005 3)],[(500000,.box [(ro 500001 4),(.sl (List.map (cS cB) a1.1.Holes)),(ro 500002 4),(ro 500003 3),(ro 500004 4)]),(500001,wB 4 a1.1.Cut),(500002,wB 4 a1.1.Done),(500003,wI 3 a1.1.Joints),(500004,wB 4 a1.1.Fallen),(500005,wI 3 a2)]⟩)) (sp [] [(67,500006),(500001,500000),(500002,500001),(500003,500002),(500004,500003),(500005,500004),(500006,500005)]) (fun a4 r h=>?_) (fun u k=>?_) (hout:=(by intro x;rcases x with _ | _ <;> rfl))
 refine zB (z7 (zA 2 (qL iA items (y1 1 [1,5,8,10,11,71] [500000,500001,500002,500003,500004,500005,500006] (qc h (fun h=>?_) fun h=>?_)))))
 refine y4 [1,5,8,10,11] [500000,500001,500002,500003,500004,500005,500006] (zB (zC (zB (z7 (zA 3 ?_)))))
 obtain ⟨f3,d2,h⟩:=aA h
 refine qX iA d2 (zA 2 ?_)
 obtain ⟨f4,c1,h⟩:=aA h
 refine qI cI c1 (qR cI c1 (y1 1 [1,5,8,10,11,82] [500000,500001,500002,500003,500004,500005,500006] (qc h (fun h=>?_) fun h=>?_)))
 refine z8 1 ⟨[(4,vB false)],[]⟩ fun u k=>?_
 refine aO (aQ (aO ?_))
 cases h
 exact zF k
 refine y4 [1,5,8,10,11] [500000,500001,500002,500003,500004,500005,500006] (y3 1 [1,5,8,10,11,12] [500000,500001,500002,500003,500004,500005,500006] (zC ?_))
 obtain ⟨b6,c8,h⟩:=aA h
 refine ql c8 (fun a5=>⟨[(1,Jq items),(5,.ptr 500000 0),(8,ro 500005 39),(10,ro 500006 3),(11,vI a4.1),(12,vI a5.1)],[(500000,.box [(ro 500001 4),(.sl (List.map (cS cB) a1.1.Holes)),(ro 500002 4),(ro 500003 3),(ro 500004 4)]),(500001,wB 4 a1.1.Cut),(500002,wB 4 a1.1.Done),(500003,wI 3 a1.1.Joints),(500004,wB 4 a1.1.Fallen),(500005,.row 39 [] (List.map (cS cI) d1.1)),(500006,wI 3 a5.2)]⟩) (fun b6=>match b6 with | .inl d4=>(.ret,⟨[(4,vB false)],[]⟩) | .inr c2=>(.exit 2,⟨[(1,Jq items),(5,.ptr 500000 0),(8,ro 500005 39),(10,ro 500006 3),(11,vI a4.1)],[(500000,.box [(ro 500001 4),(.sl (List.map (cS cB) a1.1.Holes)),(ro 500002 4),(ro 500003 3),(ro 500004 4)]),(500001,wB 4 a1.1.Cut),(500002,wB 4 a1.1.Done),(500003,wI 3 a1.1.Joints),(500004,wB 4 a1.1.Fallen),(500005,.row 39 [] (List.map (cS cI) d1.1)),(500006,wI 3 c2)]⟩)) qH (fun a5 r h=>?_) (fun u k=>?_) (hout:=(by intro x;rcases x with _ | _ <;> rfl))
 refine zB (z7 (zA 3 ?_))
 obtain ⟨e0,a6,h⟩:=aA h
 refine qI (cS cI) a6 (qR (cS cI) a6 (qL cI e0 (y1 1 [1,5,8,10,11,12,89] [500000,500001,500002,500003,500004,500005,500006] (qc h (fun h=>?_) fun h=>?_))))
 refine y4 [1,5,8,10,11,12] [500000,500001,500002,500003,500004,500005,500006] (zB (zC (z7 (zA 2 ?_))))
 obtain ⟨e7,a7,h⟩:=aA h
 refine qI (cS cI) a7 (qR (cS cI) a7 (zA 1 ?_))
 obtain ⟨e1,c7,h⟩:=aA h
 refine qX cI c7 (y1 2 [1,5,8,10,11,12,13] [500000,500001,500002,500003,500004,500005,500006] (zB (zB ?_)))
 obtain ⟨d3,c4,h⟩:=aA h
 refine zT ⟨[(1,Jq items),(5,.ptr 500000 0),(8,ro 500005 39),(10,ro 500006 3),(11,vI a4.1),(12,vI a5.1),(13,vI e1),(106,vB d3)],[(500000,.box [(ro 500001 4),(.sl (List.map (cS cB) a1.1.Holes)),(ro 500002 4),(ro 500003 3),(ro 500004 4)]),(500001,wB 4 a1.1.Cut),(500002,wB 4 a1.1.Done),(500003,wI 3 a1.1.Joints),(500004,wB 4 a1.1.Fallen),(500005,.row 39 [] (List.map (cS cI) d1.1)),(500006,wI 3 a5.2)]⟩ ?_ fun u k=>?_
 replace h:=c4
 refine zA 3 (qB h [1,5,8,10,11,12,13,101] [500000,500001,500002,500003,500004,500005,500006] [101] (fun h=>?_) fun h=>?_)
 refine z6 5 fun u k=>?_
 cases h
 exact zG k
 refine zA 2 (qL cI a5.2 (z6 2 fun u k=>?_))
 cases h
 exact zG k
 refine yE k [1,5,8,10,11,12,13,106] [500000,500001,500002,500003,500004,500005,500006] (qc h (fun h=>?_) fun h=>?_)
 refine z8 1 ⟨[(4,vB false)],[]⟩ fun u k=>?_
 refine aO (aQ (aO ?_))
 cases h
 exact zF k
 refine y4 [1,5,8,10,11,12,13] [500000,500001,500002,500003,500004,500005,500006] (zD (zA 2 ?_))
 obtain ⟨e2,a8,h⟩:=aA h
 refine qI cI a8 (qR cI a8 (zA 1 ?_))
 obtain ⟨e8,a9,h⟩:=aA h
 refine qI cI a9 (qS cI (aF e2 1) a9 (zP fun u k=>?_))
 refine aK (yE k [1,5,8,10,11,12] [500000,500001,500002,500003,500004,500005,500006] (zD (z6 3 fun u k=>?_)))
 cases h
 exact zH k
 refine zL 2 fun u k=>?_
 refine aR ?_
 cases h
 exact zF k
 rcases b6 with d4 | c2
 refine aQ (aQ (aO ?_))
 cases h
 exact zF k
 refine zQ (aK (yE k [1,5,8,10,11] [500000,500001,500002,500003,500004,500005,500006] (zD (z6 3 fun u k=>?_))))
 cases h
 exact zH k
 refine zL 0 fun u k=>?_
 refine aR ?_
 cases h
 exact Cf k rfl (sp [] [(500000,500000),(500001,500001),(500002,500002),(500003,500003),(500004,500004),(500006,500005)])
 rcases b7 with d5 | a2
 refine aQ (aO ?_)
 obtain rfl:=osi h
 exact zV k [(4,vB false)]
 refine zQ (yE k [5,10] [500000,500001,500002,500003,500004,500005] (zB (y3 1 [5,10,14] [500000,500001,500002,500003,500004,500005] (zC ?_))))
 obtain ⟨c0,d0,h⟩:=aA h
 refine ql d0 (fun a0=>⟨[(5,.ptr 500000 0),(10,ro 500005 3),(14,vI a0)],[(500000,.box [(ro 500001 4),(.sl (List.map (cS cB) a1.1.Holes)),(ro 500002 4),(ro 500003 3),(ro 500004 4)]),(500001,wB 4 a1.1.Cut),(500002,wB 4 a1.1.Done),(500003,wI 3 a1.1.Joints),(500004,wB 4 a1.1.Fallen),(500005,wI 3 a2)]⟩) (fun c0=>match c0 with | .inl d7=>(.ret,⟨[(4,vB false)],[]⟩) | .inr d8=>(.exit 4,⟨[],[]⟩)) qH (fun a0 r h=>?_) (fun u k=>?_) (hout:=(by intro x;rcases x with _ | _ <;> rfl))
 refine zB (z7 (zA 2 (qL cI a2 (y1 1 [5,10,14,116] [500000,500001,500002,500003,500004,500005] (qc h (fun h=>?_) fun h=>?_)))))
 refine y4 [5,10,14] [500000,500001,500002,500003,500004,500005] (zB (zC (zB ?_)))
 obtain ⟨d6,c5,h⟩:=aA h
 refine nQ ⟨[(5,.ptr 500000 0),(10,ro 500005 3),(14,vI a0),(150,vB d6)],[(500000,.box [(ro 500001 4),(.sl (List.map (cS cB) a1.1.Holes)),(ro 500002 4),(ro 500003 3),(ro 500004 4)]),(500001,wB 4 a1.1.Cut),(500002,wB 4 a1.1.Done),(500003,wI 3 a1.1.Joints),(500004,wB 4 a1.1.Fallen),(500005,wI 3 a2)]⟩ [] [] [] [] [] 28 (by kernel_rfl) (by kernel_rfl) (by kernel_rfl) ?_ fun u k=>?_
 replace h:=c5
 refine dN 3 ?_
 obtain ⟨b8,b1,h⟩:=aA h
 refine dI cB b1 (dR cB b1 (dN 3 ?_))
 obtain ⟨a3,b2,h⟩:=aA h
 refine dI cI b2 (dR cI b2 (dN 3 (mO (b8==(a3==0)) (fun b0=>⟨[(131,vB (!b0)),(130,vB (!b0)),(129,vB (a3==0)),(128,vI a3),(127,.rptr (.top 500003) 3 (Int.toNat a0) 0),(126,vI a0),(125,ro 500003 3),(124,.ptr 500000 3),(123,vB b8),(122,.rptr (.top 500004) 4 (Int.toNat a0) 0),(121,vI a0),(120,ro 500004 4),(119,.ptr 500000 4),(5,.ptr 500000 0),(10,ro 500005 3),(14,vI a0)],[(500000,.box [(ro 500001 4),(.sl (List.map (cS cB) a1.1.Holes)),(ro 500002 4),(ro 500003 3),(ro 500004 4)]),(500001,wB 4 a1.1.Cut),(500002,wB 4 a1.1.Done),(500003,wI 3 a1.1.Joints),(500004,wB 4 a1.1.Fallen),(500005,wI 3 a2)]⟩) (by kernel_rfl) (fun hb=>?_) fun hb=>?_)))
 replace h:=wT hb h
 refine dN 3 ?_
 obtain ⟨c3,b3,h⟩:=aA h
 refine dI cB b3 (dR cB b3 (dN 2 ?_))
 obtain ⟨b9,b4,h⟩:=aA h
 refine dI cI b4 (dR cI b4 (dN 4 (mO (c3==(b9==1)) (fun b0=>⟨[(144,vB (!b0)),(143,vB (!b0)),(142,vB (!b0)),(141,vB (b9==1)),(140,vI b9),(139,.rptr (.top 500005) 3 (Int.toNat a0) 0),(138,vI a0),(137,ro 500005 3),(136,vB c3),(135,.rptr (.top 500004) 4 (Int.toNat a0) 0),(134,vI a0),(133,ro 500004 4),(132,.ptr 500000 4),(131,vB false),(130,vB false),(129,vB (a3==0)),(128,vI a3),(127,.rptr (.top 500003) 3 (Int.toNat a0) 0),(126,vI a0),(125,ro 500003 3),(124,.ptr 500000 3),(123,vB b8),(122,.rptr (.top 500004) 4 (Int.toNat a0) 0),(121,vI a0),(120,ro 500004 4),(119,.ptr 500000 4),(5,.ptr 500000 0),(10,ro 500005 3),(14,vI a0)],[(500000,.box [(ro 500001 4),(.sl (List.map (cS cB) a1.1.Holes)),(ro 500002 4),(ro 500003 3),(ro 500004 4)]),(500001,wB 4 a1.1.Cut),(500002,wB 4 a1.1.Done),(500003,wI 3 a1.1.Joints),(500004,wB 4 a1.1.Fallen),(500005,wI 3 a2)]⟩) (by kernel_rfl) (fun hb=>?_) fun hb=>?_)))
 replace h:=wT hb h
 refine dN 2 (dE ?_)
 obtain ⟨e9,b5,h⟩:=aA h
 refine oI cI b5 (oR cI b5 (oN 2 (zO fun u k=>?_)))
 cases h
 exact zG k
 replace h:=wS hb h
 refine dN 2 (dE (oN 4 (zO fun u k=>?_)))
 cases h
 exact zG k
 replace h:=wS hb h
 refine dN 15 (dE (oN 4 (zO fun u k=>?_)))
 cases h
 exact zG k
 refine yE k [5,10,14,150] [500000,500001,500002,500003,500004,500005] (qc h (fun h=>?_) fun h=>?_)
 refine z8 1 ⟨[(4,vB false)],[]⟩ fun u k=>?_
 refine aQ (aO ?_)
 cases h
 exact zF k
 refine zM fun u k=>?_
 refine aK (yE k [5,10,14] [500000,500001,500002,500003,500004,500005] (zD (z6 3 fun u k=>?_)))
 cases h
 exact zH k
 refine zL 4 fun u k=>?_
 refine aR ?_
 cases h
 exact zF k
 rcases c0 with d7 | d8
 refine aQ (aO ?_)
 obtain rfl:=osi h
 exact zV k [(4,vB false)]
 refine zQ (yE k [] [] (z7 ?_))
 obtain ⟨d9,c6,h⟩:=aA h
 refine qP (W.uS c6) (y1 1 [4] [] (zN fun u k=>?_))
 obtain rfl:=osi h
 exact zV k [(4,vB d9)]
end Go.Proofs.Ytgfjbgoehhnaeaa
