/- Each Go function does what its model says; written by a program out of the translation. -/
import Derived.Test.YtgfjbgoehhnaeaaBase
import Derived.Test.YtgfjbgoehhnaeaaPl1
set_option linter.unusedVariables false
set_option linter.unusedSimpArgs false
set_option linter.unusedSectionVars false
namespace Go.Proofs.Ytgfjbgoehhnaeaa
open Go Go.VI Go.SM Go.Proofs
set_option maxRecDepth 100000
set_option maxHeartbeats 4000000
theorem W.Yn {n most r} (h:Gh n most=some r):PC G.P 36 [(vI n),(vI most)] [] (vB r) []:=by
 refine zU G Try.func36 (yK [0,1] [] (y3 1 [0,1] [] (zB ?_)))
 obtain ⟨j1,a0,h⟩:=aA h
 refine zT ⟨[(4,vB j1)],[]⟩ ?_ fun u k=>?_
 replace h:=a0
 refine zA 5 (qB h [0,1,9] [] [9] (fun h=>?_) fun h=>?_)
 refine z6 5 fun u k=>?_
 cases h
 exact zG k
 refine z6 5 fun u k=>?_
 cases h
 exact zG k
 refine yE k [4] [] (zN fun u k=>?_)
 obtain rfl:=osi h
 exact zV k [(4,vB j1)]
theorem W.Bo {x0 w r} (h:sK x0 w=some r):PC G.P 35 [(vI x0),(vI w)] [] (vB r) []:=by
 refine zU G Try.func35 (yK [0,1] [] (y3 1 [0,1] [] (zB ?_)))
 obtain ⟨j2,a0,h⟩:=aA h
 refine zT ⟨[(4,vB j2)],[]⟩ ?_ fun u k=>?_
 replace h:=a0
 refine zA 1 ?_
 obtain ⟨r3,a1,h⟩:=aA h
 refine qP (W.Yn a1) (zA 1 (qB h [0,1,7] [] [7] (fun h=>?_) fun h=>?_))
 refine zA 4 (qB h [0,1,11] [] [11] (fun h=>?_) fun h=>?_)
 refine zA 4 (qB h [0,1,15] [] [15] (fun h=>?_) fun h=>?_)
 refine z6 6 fun u k=>?_
 cases h
 exact zG k
 refine z6 6 fun u k=>?_
 cases h
 exact zG k
 refine z6 10 fun u k=>?_
 cases h
 exact zG k
 refine z6 14 fun u k=>?_
 cases h
 exact zG k
 refine yE k [4] [] (zN fun u k=>?_)
 obtain rfl:=osi h
 exact zV k [(4,vB j2)]
theorem W.fC {r0 r} (h:eP r0=some r):PC G.P 20 [(.agg (aM r0))] [] (vB r) []:=by
 refine zU G Try.func20 (yK [0] [] (y3 2 [1] [1] (y3 1 [1,3] [1] (zB ?_))))
 obtain ⟨j3,a0,h⟩:=aA h
 refine zT ⟨[(2,vB j3)],[]⟩ ?_ fun u k=>?_
 replace h:=a0
 refine zA 5 ?_
 obtain ⟨r4,a1,h⟩:=aA h
 refine qP (W.Bo a1) (zA 1 (qB h [1,3,10] [1] [10] (fun h=>?_) fun h=>?_))
 refine zA 5 ?_
 obtain ⟨r5,a2,h⟩:=aA h
 refine qP (W.Bo a2) (z6 2 fun u k=>?_)
 cases h
 exact zG k
 refine z6 8 fun u k=>?_
 cases h
 exact zG k
 refine yE k [2] [] (zN fun u k=>?_)
 obtain rfl:=osi h
 exact zV k [(2,vB j3)]
theorem W.DL {x0 r} (h:Hq x0=some r):PC G.P 7 [(.agg (aX x0))] [] (vB r) []:=by
 refine zU G Try.func7 (yK [0] [] (y3 2 [1] [1] (y3 1 [1,3] [1,3] (zB (z7 (zA 2 ?_))))))
 refine qL aM x0.Rects (y1 1 [3,9,10,11] [3] (zC ?_))
 obtain ⟨a2,a6,h⟩:=aA h
 refine ql a6 (fun a0=>⟨[(3,.ptr 500000 0),(9,bB x0.Rects),(10,vI (x0.Rects.length:Int)),(11,vI a0.1)],[(500000,.box [(vI a0.2.1),(vI a0.2.2.1),(vI a0.2.2.2.1),(vI a0.2.2.2.2)])]⟩) (fun a2=>(.exit 0,⟨[(3,.ptr 500000 0)],[(500000,.box [(vI a2.1),(vI a2.2.1),(vI a2.2.2.1),(vI a2.2.2.2)])]⟩)) (sp [] [(3,500000)]) (fun a0 r h=>?_) fun u k=>?_
 refine y3 1 [3,9,10,11,12] [500000] (zB (qc h (fun h=>?_) fun h=>?_))
 refine y4 [3,9,10,11] [500000] (eQ (fun (a3:Int×Int×Int×Int)=>⟨[(3,.ptr 500000 0),(9,bB x0.Rects),(10,vI (x0.Rects.length:Int)),(11,vI a0.1)],[(500000,.box [(vI a3.1),(vI a3.2.1),(vI a3.2.2.1),(vI a3.2.2.2)])]⟩) (xY a0) r (by kernel_rfl) (fun a3 h=>?_) ?_)
 refine zD (z6 2 fun u k=>?_)
 cases h
 exact zH k
 refine zC (z7 ?_)
 obtain ⟨a1,a5,h⟩:=aA h
 refine qX aM a5 (y1 3 [3,5,9,10,11] [5,500000] (zC (z7 (zA 1 ?_))))
 obtain ⟨a7,a4,h⟩:=aA h
 refine qP (W.fC a4) (y1 2 [3,5,9,10,11,57] [5,500000] (qc h (fun h=>?_) fun h=>?_))
 refine zM fun u k=>?_
 exact aK (aK (aU (a0.2.1,a0.2.2.1,a0.2.2.2.1,a0.2.2.2.2) h k (here (by kernel_rfl))))
 refine y3 4 [3,5,9,10,11,61] [5,500000] (qc h (fun h=>?_) fun h=>?_)
 refine zD (z6 2 fun u k=>?_)
 exact aK (aK (aU (a1.X,a1.Y,a1.W,a1.H) h k (here (by kernel_rfl))))
 refine zB (qM 11 (dN 11 (dE (oN 1 (zO fun u k=>?_)))))
 refine yE k [3,5,6,7,9,10,11] [5,500000] (zB (qN [(27,[500000])] [] [] [(17,[500000]),(18,[500000]),(19,[500000]),(20,[500000]),(21,[500000]),(22,[500000]),(23,[500000]),(24,[500000]),(25,[500000])] [] 28 (dN 27 (MI (g:=500000) (ob:=.box [(vI a0.2.1),(vI a0.2.2.1),(vI (aH (iU (aF a0.2.1 a0.2.2.2.1) (aF a1.X a1.W)) (nG a0.2.1 a1.X))),(vI a0.2.2.2.2)]) (v:=vU) (by kernel_rfl) (by kernel_rfl) (by kernel_rfl) (by kernel_rfl) (by kernel_rfl) (dE (oN 2 ?_))))))
 refine zO fun u k=>?_
 refine yE k [3,6,7,9,10,11] [500000] (zD (z6 6 fun u k=>?_))
 exact aK (aK (aU ((nG a0.2.1 a1.X),(nG a0.2.2.1 a1.Y),(aH (iU (aF a0.2.1 a0.2.2.2.1) (aF a1.X a1.W)) (nG a0.2.1 a1.X)),(aH (iU (aF a0.2.2.1 a0.2.2.2.2) (aF a1.Y a1.H)) (nG a0.2.2.1 a1.Y))) h k (here (by kernel_rfl))))
 refine zL 0 fun u k=>?_
 refine aR ?_
 cases h
 exact zF k
 refine zQ (yE k [3] [500000] (z8 7 ⟨[(2,vB (decide ((nG a2.2.2.1 a2.2.2.2)<7200)))],[]⟩ fun u k=>?_))
 obtain rfl:=osi h
 exact zV k [(2,vB (decide ((nG a2.2.2.1 a2.2.2.2)<7200)))]
theorem W.Dy {a b r} (h:xS a b=some r):PC G.P 24 [(.agg (aM a)),(.agg (aM b))] [] (vB r) []:=by
 refine zU G Try.func24 (yK [0,1] [] (y3 3 [2,3] [2,3] (zB ?_)))
 obtain ⟨j3,a0,h⟩:=aA h
 refine zT ⟨[(4,vB j3)],[]⟩ ?_ fun u k=>?_
 replace h:=a0
 refine zA 1 ?_
 obtain ⟨r4,a1,h⟩:=aA h
 refine qP (W.fC a1) (zA 1 (qB h [2,3,7] [2,3] [7] (fun h=>?_) fun h=>?_))
 refine zA 1 ?_
 obtain ⟨r5,a2,h⟩:=aA h
 refine qP (W.fC a2) (zA 2 (qB h [2,3,11] [2,3] [11] (fun h=>?_) fun h=>?_))
 refine zA 7 (qB h [2,3,18] [2,3] [18] (fun h=>?_) fun h=>?_)
 refine zA 13 (qB h [2,3,31] [2,3] [31] (fun h=>?_) fun h=>?_)
 refine zA 7 (qB h [2,3,38] [2,3] [38] (fun h=>?_) fun h=>?_)
 refine z6 13 fun u k=>?_
 cases h
 exact zG k
 refine z6 13 fun u k=>?_
 cases h
 exact zG k
 refine z6 20 fun u k=>?_
 cases h
 exact zG k
 refine z6 33 fun u k=>?_
 cases h
 exact zG k
 refine z6 40 fun u k=>?_
 cases h
 exact zG k
 refine z6 44 fun u k=>?_
 cases h
 exact zG k
 refine yE k [4] [] (zN fun u k=>?_)
 obtain rfl:=osi h
 exact zV k [(4,vB j3)]
theorem W.Qx {r0 a_0 a_1 a_2 a_3 r} (h:Dt r0 a_0 a_1 a_2 a_3=some r):PC G.P 23 [(.agg (aM r0)),(.vptr [(vI a_0),(vI a_1),(vI a_2),(vI a_3)] 0)] [] (vB r) []:=by
 refine zU G Try.func23 (yK [0,1] [] (y3 2 [1,2] [2] (z7 (zA 2 ?_))))
 obtain ⟨r2,a0,h⟩:=aA h
 refine qP (W.Dy a0) (y1 1 [3] [] (zN fun u k=>?_))
 obtain rfl:=osi h
 exact zV k [(3,vB r2)]
theorem W.nD {s0 f_0_0 f_0_1 f_0_2 f_0_3 r} (h:bW s0 f_0_0 f_0_1 f_0_2 f_0_3=some r):PC G.P 38 [(.sl (List.map aM s0)),(.fn 23 [(.vptr [(vI f_0_0),(vI f_0_1),(vI f_0_2),(vI f_0_3)] 0)])] [] (vI r) []:=by
 refine zU G Try.func38 (yK [0,1] [] (y3 1 [0,1] [] (zB (z7 (zA 1 (qL aM s0 ?_))))))
 refine y1 1 [0,1,7,8] [] (zC ?_)
 obtain ⟨a5,a2,h⟩:=aA h
 refine ql a2 (fun a4=>⟨[(0,bB s0),(1,.fn 23 [(.vptr [(vI f_0_0),(vI f_0_1),(vI f_0_2),(vI f_0_3)] 0)]),(7,vI (s0.length:Int)),(8,vI a4)],[]⟩) (fun a5=>match a5 with | .inl a3=>(.ret,⟨[(4,vI a3)],[]⟩) | .inr a6=>(.exit 0,⟨[],[]⟩)) qH (fun a4 r h=>?_) (fun u k=>?_) (hout:=(by intro x;rcases x with _ | _ <;> rfl))
 refine y3 1 [0,1,7,8,9] [] (zB (qc h (fun h=>?_) fun h=>?_))
 refine y4 [0,1,7,8] [] (zB (zC (y3 2 [0,1,5,7,8] [] (z7 (zA 3 ?_)))))
 obtain ⟨a8,a1,h⟩:=aA h
 refine qX aM a1 (zA 1 ?_)
 obtain ⟨a7,a0,h⟩:=aA h
 refine qP (W.Qx a0) (zP fun u k=>?_)
 refine yE k [0,1,5,7,8,16] [] (qc h (fun h=>?_) fun h=>?_)
 refine z8 2 ⟨[(4,vI a4)],[]⟩ fun u k=>?_
 refine aQ (aO ?_)
 cases h
 exact zF k
 refine zM fun u k=>?_
 refine aK (yE k [0,1,7,8] [] (zD (z6 2 fun u k=>?_)))
 cases h
 exact zH k
 refine zL 0 fun u k=>?_
 refine aR ?_
 cases h
 exact zF k
 rcases a5 with a3 | a6
 refine aQ (aO ?_)
 obtain rfl:=osi h
 exact zV k [(4,vI a3)]
 refine zQ (yE k [] [] (z8 1 ⟨[(4,vI (-1))],[]⟩ fun u k=>?_))
 obtain rfl:=osi h
 exact zV k [(4,vI (-1))]
theorem W.mG {s0 f_0_0 f_0_1 f_0_2 f_0_3 r} (h:bD s0 f_0_0 f_0_1 f_0_2 f_0_3=some r):PC G.P 22 [(.sl (List.map aM s0)),(.fn 23 [(.vptr [(vI f_0_0),(vI f_0_1),(vI f_0_2),(vI f_0_3)] 0)])] [] (vB r) []:=by
 refine zU G Try.func22 (yK [0,1] [] (y3 1 [0,1] [] (z7 (zA 2 ?_))))
 obtain ⟨r2,a0,h⟩:=aA h
 refine qP (W.nD a0) (y1 2 [4] [] (zN fun u k=>?_))
 obtain rfl:=osi h
 exact zV k [(4,vB (decide (r2 ≥ 0)))]
theorem W.Ko {l s1 r} (h:lW l s1=some r):PC G.P 9 [(.sl (List.map aM l)),(.agg [(vI s1.X),(vI s1.Y)])] [] (vB r) []:=by
 refine zU G Try.func9 (yK [0,1] [] (y3 2 [0,3] [3] (zB (zB ?_))))
 obtain ⟨j2,a5,h⟩:=aA h
 refine zT ⟨[(0,bB l),(3,.ptr 500000 0),(24,vB j2)],[(500000,.box [(vI s1.X),(vI s1.Y)])]⟩ ?_ fun u k=>?_
 replace h:=a5
 refine zA 4 (qB h [0,3,10] [3] [10] (fun h=>?_) fun h=>?_)
 refine z6 14 fun u k=>?_
 cases h
 exact nP k (sp [] [(3,500000)])
 refine zA 5 (qB h [0,3,15] [3] [15] (fun h=>?_) fun h=>?_)
 refine z6 9 fun u k=>?_
 cases h
 exact nP k (sp [] [(3,500000)])
 refine zA 5 (qB h [0,3,20] [3] [20] (fun h=>?_) fun h=>?_)
 refine z6 4 fun u k=>?_
 cases h
 exact nP k (sp [] [(3,500000)])
 refine z6 4 fun u k=>?_
 cases h
 exact nP k (sp [] [(3,500000)])
 refine yE k [0,3,24] [500000] (qc h (fun h=>?_) fun h=>?_)
 refine z8 1 ⟨[(4,vB false)],[]⟩ fun u k=>?_
 refine aO ?_
 obtain rfl:=osi h
 exact zV k [(4,vB false)]
 refine y4 [0,3] [500000] (zB (z7 (zA 25 (qL aM [(Rect.mk (aH s1.X 1) (aH s1.Y 1) 1 1),(Rect.mk s1.X (aH s1.Y 1) 1 1),(Rect.mk (aH s1.X 1) s1.Y 1 1),(Rect.mk s1.X s1.Y 1 1)] (y1 1 [0,49,50,51] [] (zC ?_))))))
 obtain ⟨a3,a2,h⟩:=aA h
 refine ql a2 (fun a4=>⟨[(0,bB l),(49,bB [(Rect.mk (aH s1.X 1) (aH s1.Y 1) 1 1),(Rect.mk s1.X (aH s1.Y 1) 1 1),(Rect.mk (aH s1.X 1) s1.Y 1 1),(Rect.mk s1.X s1.Y 1 1)]),(50,vI ([(Rect.mk (aH s1.X 1) (aH s1.Y 1) 1 1),(Rect.mk s1.X (aH s1.Y 1) 1 1),(Rect.mk (aH s1.X 1) s1.Y 1 1),(Rect.mk s1.X s1.Y 1 1)].length:Int)),(51,vI a4)],[]⟩) (fun a3=>match a3 with | .inl a6=>(.ret,⟨[(4,vB false)],[]⟩) | .inr a7=>(.exit 0,⟨[],[]⟩)) qH (fun a4 r h=>?_) (fun u k=>?_) (hout:=(by intro x;rcases x with _ | _ <;> rfl))
 refine y3 1 [0,49,50,51,52] [] (zB (qc h (fun h=>?_) fun h=>?_))
 refine y4 [0,49,50,51] [] (zB (zC (z7 ?_)))
 obtain ⟨a9,a1,h⟩:=aA h
 refine qX aM a1 (y1 3 [0,6,49,50,51] [6] (z7 (zA 2 ?_)))
 obtain ⟨a8,a0,h⟩:=aA h
 refine qV [6] (W.mG a0) (y1 1 [0,49,50,51,58] [] (qc h (fun h=>?_) fun h=>?_))
 refine z8 1 ⟨[(4,vB false)],[]⟩ fun u k=>?_
 refine aQ (aO ?_)
 cases h
 exact zF k
 refine zM fun u k=>?_
 refine aK (yE k [0,49,50,51] [] (zD (z6 2 fun u k=>?_)))
 cases h
 exact zH k
 refine zL 0 fun u k=>?_
 refine aR ?_
 cases h
 exact zF k
 rcases a3 with a6 | a7
 refine aQ (aO ?_)
 obtain rfl:=osi h
 exact zV k [(4,vB false)]
 refine zQ (yE k [] [] (z8 1 ⟨[(4,vB true)],[]⟩ fun u k=>?_))
 obtain rfl:=osi h
 exact zV k [(4,vB true)]
theorem W.Nb {s sub r} (h:uU s sub=some r):PC G.P 75 [vS s,vS sub] [] (vB r) []:=by
 unfold uU at h
 split at h
 rename_i hs
 injection h with h;subst h
 exact XX (args:=[.string s,.string sub]) (by kernel_rfl) 0 (by kernel_rfl) fun m w hm=>Any.strings_Contains Try.AR s sub m w hs hm
 cases h
theorem W.uR {s0 r} (h:kL s0=some r):PC G.P 61 [(vS s0)] [] (vB r) []:=by
 refine zU G Try.func61 (yK [0] [] (y3 1 [0] [] (zB (zB ?_))))
 obtain ⟨j8,a9,h⟩:=aA h
 refine zT ⟨[(0,vS s0),(22,vB j8)],[]⟩ ?_ fun u k=>?_
 replace h:=a9
 refine zA 4 (qB h [0,8] [] [8] (fun h=>?_) fun h=>?_)
 refine z6 14 fun u k=>?_
 cases h
 exact zG k
 refine zA 5 (qB h [0,13] [] [13] (fun h=>?_) fun h=>?_)
 refine z6 9 fun u k=>?_
 cases h
 exact zG k
 refine zA 1 ?_
 obtain ⟨x9,b0,h⟩:=aA h
 refine jL (Wq (s:=s0) (i:=0) (kd:=.i64) (by kernel_rfl) b0) (zA 3 (qB h [0,18] [] [18] (fun h=>?_) fun h=>?_))
 refine z6 4 fun u k=>?_
 cases h
 exact zG k
 refine zA 1 ?_
 obtain ⟨b7,a5,h⟩:=aA h
 refine jL (Wq (s:=s0) (i:=0) (kd:=.i64) (by kernel_rfl) a5) (z6 2 fun u k=>?_)
 cases h
 exact zG k
 refine yE k [0,22] [] (qc h (fun h=>?_) fun h=>?_)
 refine z8 1 ⟨[(2,vB false)],[]⟩ fun u k=>?_
 refine aO ?_
 obtain rfl:=osi h
 exact zV k [(2,vB false)]
 refine y4 [0] [] (zB (y3 3 [0,24,25] [] (zC ?_)))
 obtain ⟨a8,a7,h⟩:=aA h
 refine ql a7 (fun a0=>⟨[(0,vS s0),(24,vI (s0.size:Int)),(25,vI a0)],[]⟩) (fun a8=>match a8 with | .inl b2=>(.ret,⟨[(2,vB false)],[]⟩) | .inr b3=>(.exit 0,⟨[(0,vS s0)],[]⟩)) qH (fun a0 r h=>?_) (fun u k=>?_) (hout:=(by intro x;rcases x with _ | _ <;> rfl))
 refine y3 1 [0,24,25,26] [] (zB (qc h (fun h=>?_) fun h=>?_))
 refine y4 [0,24,25] [] (zB (zC (y3 2 [0,3,24,25] [] (z7 (zA 2 ?_)))))
 obtain ⟨b8,a6,h⟩:=aA h
 refine jL (Wq (s:=s0) (i:=a0) (kd:=.i64) (by kernel_rfl) a6) (y1 1 [0,4,24,25] [] (zB ?_))
 obtain ⟨b1,a1,h⟩:=aA h
 refine zT ⟨[(0,vS s0),(24,vI (s0.size:Int)),(25,vI a0),(44,vB b1)],[]⟩ ?_ fun u k=>?_
 replace h:=a1
 refine zA 3 (qB h [0,4,24,25,33] [] [33] (fun h=>?_) fun h=>?_)
 refine zA 7 (qB h [0,4,24,25,37,40] [] [40] (fun h=>?_) fun h=>?_)
 refine z6 4 fun u k=>?_
 cases h
 exact zG k
 refine z6 4 fun u k=>?_
 cases h
 exact zG k
 refine zA 4 (qB h [0,4,24,25,37] [] [37] (fun h=>?_) fun h=>?_)
 refine zA 3 (qB h [0,4,24,25,37,40] [] [40] (fun h=>?_) fun h=>?_)
 refine z6 4 fun u k=>?_
 cases h
 exact zG k
 refine z6 4 fun u k=>?_
 cases h
 exact zG k
 refine z6 7 fun u k=>?_
 cases h
 exact zG k
 refine yE k [0,24,25,44] [] (qc h (fun h=>?_) fun h=>?_)
 refine z8 1 ⟨[(2,vB false)],[]⟩ fun u k=>?_
 refine aQ (aO ?_)
 cases h
 exact zF k
 refine zM fun u k=>?_
 refine aK (yE k [0,24,25] [] (zD (z6 2 fun u k=>?_)))
 cases h
 exact zH k
 refine zL 0 fun u k=>?_
 refine aR ?_
 cases h
 exact zF k
 rcases a8 with b2 | b3
 refine aQ (aO ?_)
 obtain rfl:=osi h
 exact zV k [(2,vB false)]
 refine zQ (yE k [0] [] (z7 (zA 1 ?_)))
 obtain ⟨b5,a3,h⟩:=aA h
 refine kF (VZ (a:=(ByteArray.mk #[32])) (b:=s0) (by kernel_rfl) a3) ?_
 obtain ⟨b6,a4,h⟩:=aA h
 refine kF (VZ (a:=b5) (b:=(ByteArray.mk #[32])) (by kernel_rfl) a4) ?_
 obtain ⟨b4,a2,h⟩:=aA h
 refine qP (W.Nb a2) (y1 2 [2] [] (zN fun u k=>?_))
 obtain rfl:=osi h
 exact zV k [(2,vB (!b4))]
theorem W.Ci {n lo hi r} (h:zX n lo hi=some r):PC G.P 63 [(vI n),(vI lo),(vI hi)] [] (vB r) []:=by
 refine zU G Try.func63 (yK [0,1,2] [] (y3 1 [0,1,2] [] (zB ?_)))
 obtain ⟨j1,a0,h⟩:=aA h
 refine zT ⟨[(6,vB j1)],[]⟩ ?_ fun u k=>?_
 replace h:=a0
 refine zA 4 (qB h [0,2,10] [] [10] (fun h=>?_) fun h=>?_)
 refine z6 5 fun u k=>?_
 cases h
 exact zG k
 refine z6 5 fun u k=>?_
 cases h
 exact zG k
 refine yE k [6] [] (zN fun u k=>?_)
 obtain rfl:=osi h
 exact zV k [(6,vB j1)]
theorem W.Oy {gauge grain r} (h:Eh gauge grain=some r):PC G.P 62 [(vI gauge),(vI grain)] [] (vB r) []:=by
 refine zU G Try.func62 (yK [0,1] [] (y3 1 [0,1] [] (zB ?_)))
 obtain ⟨j3,a0,h⟩:=aA h
 refine zT ⟨[(4,vB j3)],[]⟩ ?_ fun u k=>?_
 replace h:=a0
 refine zA 1 ?_
 obtain ⟨r4,a1,h⟩:=aA h
 refine qP (W.Ci a1) (zA 1 (qB h [1,7] [] [7] (fun h=>?_) fun h=>?_))
 refine zA 1 ?_
 obtain ⟨r5,a2,h⟩:=aA h
 refine qP (W.Ci a2) (z6 2 fun u k=>?_)
 cases h
 exact zG k
 refine z6 4 fun u k=>?_
 cases h
 exact zG k
 refine yE k [4] [] (zN fun u k=>?_)
 obtain rfl:=osi h
 exact zV k [(4,vB j3)]
theorem W.wX {l r} (h:vT l=some r):PC G.P 64 [(.sl (List.map aM l))] [] (vB r) []:=by
 refine zU G Try.func64 (yK [0] [] (y3 1 [0] [] (zB (z7 (zA 1 (qL aM l ?_))))))
 refine y1 1 [5,6,7] [] (zC ?_)
 obtain ⟨a3,a2,h⟩:=aA h
 refine ql a2 (fun a4=>⟨[(5,bB l),(6,vI (l.length:Int)),(7,vI a4)],[]⟩) (fun a3=>match a3 with | .inl a5=>(.ret,⟨[(2,vB false)],[]⟩) | .inr a6=>(.exit 0,⟨[],[]⟩)) qH (fun a4 r h=>?_) (fun u k=>?_) (hout:=(by intro x;rcases x with _ | _ <;> rfl))
 refine y3 1 [5,6,7,8] [] (zB (qc h (fun h=>?_) fun h=>?_))
 refine y4 [5,6,7] [] (zB (zC (z7 ?_)))
 obtain ⟨a8,a1,h⟩:=aA h
 refine qX aM a1 (y1 3 [4,5,6,7] [4] (z7 (zA 1 ?_)))
 obtain ⟨a7,a0,h⟩:=aA h
 refine qP (W.fC a0) (y1 1 [5,6,7,13] [] (qc h (fun h=>?_) fun h=>?_))
 refine z8 1 ⟨[(2,vB false)],[]⟩ fun u k=>?_
 refine aQ (aO ?_)
 cases h
 exact zF k
 refine zM fun u k=>?_
 refine aK (yE k [5,6,7] [] (zD (z6 2 fun u k=>?_)))
 cases h
 exact zH k
 refine zL 0 fun u k=>?_
 refine aR ?_
 cases h
 exact zF k
 rcases a3 with a5 | a6
 refine aQ (aO ?_)
 obtain rfl:=osi h
 exact zV k [(2,vB false)]
 refine zQ (yE k [] [] (z8 1 ⟨[(2,vB true)],[]⟩ fun u k=>?_))
 obtain rfl:=osi h
 exact zV k [(2,vB true)]
theorem W.AV {s0 margin r} (h:Jk s0 margin=some r):PC G.P 65 [(.agg (xW s0)),(vI margin)] [] (.tup [(.agg (aM r.1)),(vB r.2)]) [(0,.box [(vI margin),(vI margin),(vI (aH s0.Width (lL 2 margin))),(vI (aH s0.Height (lL 2 margin)))])]:=by
 refine zU G Try.func65 (yK [0,1] [] (y3 3 [1,2,4] [2,4] (y3 15 [4,6] [4,6] (zB (qM 3 (dN 2 ?_))))))
 obtain ⟨r3,a0,h⟩:=aA h
 refine dC [] (W.fC a0) (dE (oN 2 (zO fun u k=>?_)))
 refine yE k [4,5] [4] (zN fun u k=>?_)
 obtain rfl:=osi h
 exact qW k [(4,.ptr 0 0),(5,vB r3)] (sp [] [(4,0)])
theorem W.Ku {s0 r} (h:jN s0=some r):PC G.P 48 [(.agg (xW s0))] [] (vI r) []:=by
 refine zU G Try.func48 (yK [0] [] (y3 2 [1] [1] (zB (zC (zB ?_)))))
 obtain ⟨c8,b1,h⟩:=aA h
 refine zT ⟨[(1,.ptr 500000 0),(9,vB c8)],[(500000,.box (xW s0))]⟩ ?_ fun u k=>?_
 replace h:=b1
 refine zA 2 ?_
 obtain ⟨d2,b5,h⟩:=aA h
 refine qP (W.uR b5) (zA 2 (zS d2 (fun b0=>⟨[(1,.ptr 1 0),(14,vB (!b0))],[(1,.box (xW s0))]⟩) (fun hb=>?_) fun hb=>?_))
 replace h:=wT hb h
 refine zA 2 ?_
 obtain ⟨d8,b6,h⟩:=aA h
 refine qP (W.uR b6) (z6 3 fun u k=>?_)
 cases h
 exact nP k (sp [] [(1,500000)])
 replace h:=wS hb h
 refine z6 6 fun u k=>?_
 cases h
 exact nP k (sp [] [(1,500000)])
 refine yE k [1,9] [500000] (qc h (fun h=>?_) fun h=>?_)
 refine z8 1 ⟨[(2,vI 2)],[]⟩ fun u k=>?_
 refine aQ (aO ?_)
 obtain rfl:=osi h
 exact zV k [(2,vI 2)]
 refine zB ?_
 obtain ⟨c9,b2,h⟩:=aA h
 refine zT ⟨[(1,.ptr 500000 0),(20,vB c9)],[(500000,.box (xW s0))]⟩ ?_ fun u k=>?_
 replace h:=b2
 refine zA 4 ?_
 obtain ⟨d3,b7,h⟩:=aA h
 refine qP (W.Oy b7) (zA 2 (zS d3 (fun b0=>⟨[(1,.ptr 500000 0),(27,vB (!b0))],[(500000,.box (xW s0))]⟩) (fun hb=>?_) fun hb=>?_))
 replace h:=wT hb h
 refine zA 2 ?_
 obtain ⟨d4,b8,h⟩:=aA h
 refine qP (W.Ci b8) (zA 3 (zS d4 (fun b0=>⟨[(1,.ptr 500000 0),(33,vB (!b0))],[(500000,.box (xW s0))]⟩) (fun hb=>?_) fun hb=>?_))
 replace h:=wT hb h
 refine zA 2 ?_
 obtain ⟨d9,b9,h⟩:=aA h
 refine qP (W.Ci b9) (z6 3 fun u k=>?_)
 cases h
 exact zG k
 replace h:=wS hb h
 refine z6 6 fun u k=>?_
 cases h
 exact zG k
 replace h:=wS hb h
 refine z6 12 fun u k=>?_
 cases h
 exact zG k
 refine yE k [1,20] [500000] (qc h (fun h=>?_) fun h=>?_)
 refine z8 1 ⟨[(2,vI 1)],[]⟩ fun u k=>?_
 refine aQ (aO ?_)
 obtain rfl:=osi h
 exact zV k [(2,vI 1)]
 refine zB ?_
 obtain ⟨d0,b3,h⟩:=aA h
 refine zT ⟨[(1,.ptr 500000 0),(39,vB d0)],[(500000,.box (xW s0))]⟩ ?_ fun u k=>?_
 replace h:=b3
 refine zA 2 (qL aM s0.Clamps (zA 2 (qB h [1,44] [500000] [44] (fun h=>?_) fun h=>?_)))
 refine z6 6 fun u k=>?_
 cases h
 exact zG k
 refine zA 2 (qL aM s0.Used (z6 3 fun u k=>?_))
 cases h
 exact zG k
 refine yE k [1,39] [500000] (qc h (fun h=>?_) fun h=>?_)
 refine z8 1 ⟨[(2,vI 4)],[]⟩ fun u k=>?_
 refine aQ (aO ?_)
 obtain rfl:=osi h
 exact zV k [(2,vI 4)]
 refine zB ?_
 obtain ⟨d1,b4,h⟩:=aA h
 refine zT ⟨[(1,.ptr 500000 0),(50,vB d1)],[(500000,.box (xW s0))]⟩ ?_ fun u k=>?_
 replace h:=b4
 refine zA 2 ?_
 obtain ⟨d5,c0,h⟩:=aA h
 refine qP (W.wX c0) (zA 2 (zS d5 (fun b0=>⟨[(1,.ptr 500000 0),(55,vB (!b0))],[(500000,.box (xW s0))]⟩) (fun hb=>?_) fun hb=>?_))
 replace h:=wT hb h
 refine zA 2 ?_
 obtain ⟨e0,c1,h⟩:=aA h
 refine qP (W.wX c1) (z6 3 fun u k=>?_)
 cases h
 exact zG k
 replace h:=wS hb h
 refine z6 6 fun u k=>?_
 cases h
 exact zG k
 refine yE k [1,50] [500000] (qc h (fun h=>?_) fun h=>?_)
 refine z8 1 ⟨[(2,vI 1)],[]⟩ fun u k=>?_
 refine aQ (aO ?_)
 obtain rfl:=osi h
 exact zV k [(2,vI 1)]
 refine zM fun u k=>?_
 refine aK (yE k [1] [500000] (z7 (zA 1 ?_)))
 obtain ⟨c7,c2,h⟩:=aA h
 refine qC [] [(0,700050)] (W.AV c2) (y1 6 [1,3] [3,500000] (zB (z7 (zA 5 (qL (cS aM) [s0.Clamps,s0.Used] (y1 1 [3,70,71,72] [3] ?_))))))
 refine zC ?_
 obtain ⟨a3,a8,h⟩:=aA h
 refine ql a8 (fun a0=>⟨[(3,.ptr 500000 0),(70,.sl (List.map (cS aM) [s0.Clamps,s0.Used])),(71,vI ([s0.Clamps,s0.Used].length:Int)),(72,vI a0)],[(500000,.box (aM c7.1))]⟩) (fun a3=>match a3 with | .inl c5=>(.ret,⟨[(2,vI 13)],[]⟩) | .inr c6=>(.exit 1,⟨[],[]⟩)) (sp [] [(3,500000)]) (fun a0 r h=>?_) (fun u k=>?_) (hout:=(by intro x;rcases x with _ | _ <;> rfl))
 refine y3 1 [3,70,71,72,73] [500000] (zB (qc h (fun h=>?_) fun h=>?_))
 refine y4 [3,70,71,72] [500000] (zB (zC (z7 ?_)))
 obtain ⟨a1,a5,h⟩:=aA h
 refine qX (cS aM) a5 (y1 2 [3,6,70,71,72] [500000] (z7 (zA 1 (qL aM a1 (y1 1 [3,70,71,72,76,77,78] [500000] (zC ?_))))))
 obtain ⟨a2,a7,h⟩:=aA h
 refine ql a7 (fun a9=>⟨[(3,.ptr 500000 0),(70,.sl (List.map (cS aM) [s0.Clamps,s0.Used])),(71,vI ([s0.Clamps,s0.Used].length:Int)),(72,vI a0),(76,bB a1),(77,vI (a1.length:Int)),(78,vI a9)],[(500000,.box (aM c7.1))]⟩) (fun a2=>match a2 with | .inl c3=>(.ret,⟨[(2,vI 13)],[]⟩) | .inr c4=>(.exit 3,⟨[(3,.ptr 500000 0),(70,.sl (List.map (cS aM) [s0.Clamps,s0.Used])),(71,vI ([s0.Clamps,s0.Used].length:Int)),(72,vI a0)],[(500000,.box (aM c7.1))]⟩)) qH (fun a9 r h=>?_) (fun u k=>?_) (hout:=(by intro x;rcases x with _ | _ <;> rfl))
 refine y3 1 [3,70,71,72,76,77,78,79] [500000] (zB (qc h (fun h=>?_) fun h=>?_))
 refine y4 [3,70,71,72,76,77,78] [500000] (zB (zC (z7 ?_)))
 obtain ⟨d7,a6,h⟩:=aA h
 refine qX aM a6 (y1 3 [3,8,70,71,72,76,77,78] [8,500000] (z7 (zA 2 ?_)))
 obtain ⟨d6,a4,h⟩:=aA h
 refine qP (W.Dy a4) (y1 1 [3,70,71,72,76,77,78,85] [500000] (qc h (fun h=>?_) fun h=>?_))
 refine z8 1 ⟨[(2,vI 13)],[]⟩ fun u k=>?_
 refine aQ (aO ?_)
 cases h
 exact zF k
 refine zM fun u k=>?_
 refine aK (yE k [3,70,71,72,76,77,78] [500000] (zD (z6 2 fun u k=>?_)))
 cases h
 exact zH k
 refine zL 3 fun u k=>?_
 refine aR ?_
 cases h
 exact zF k
 rcases a2 with c3 | c4
 refine aQ (aQ (aO ?_))
 cases h
 exact zF k
 refine zQ (aK (yE k [3,70,71,72] [500000] (zD (z6 2 fun u k=>?_))))
 cases h
 exact zH k
 refine zL 1 fun u k=>?_
 refine aR ?_
 cases h
 exact zF k
 rcases a3 with c5 | c6
 refine aQ (aO ?_)
 obtain rfl:=osi h
 exact zV k [(2,vI 13)]
 refine zQ (yE k [] [] (z8 1 ⟨[(2,vI 0)],[]⟩ fun u k=>?_))
 obtain rfl:=osi h
 exact zV k [(2,vI 0)]
theorem W.Kr {a b r} (h:yC a b=some r):PC G.P 69 [(.agg (aM a)),(.agg (aM b))] [] (vB r) []:=by
 refine zU G Try.func69 (yK [0,1] [] (y3 3 [2,3] [2,3] (zB ?_)))
 obtain ⟨j3,a0,h⟩:=aA h
 refine zT ⟨[(4,vB j3)],[]⟩ ?_ fun u k=>?_
 replace h:=a0
 refine zA 1 ?_
 obtain ⟨r4,a1,h⟩:=aA h
 refine qP (W.fC a1) (zA 1 (qB h [2,3,7] [2,3] [7] (fun h=>?_) fun h=>?_))
 refine zA 1 ?_
 obtain ⟨r5,a2,h⟩:=aA h
 refine qP (W.fC a2) (zA 2 (qB h [2,3,11] [2,3] [11] (fun h=>?_) fun h=>?_))
 refine zA 10 (qB h [2,3,21] [2,3] [21] (fun h=>?_) fun h=>?_)
 refine zA 10 (qB h [2,3,31] [2,3] [31] (fun h=>?_) fun h=>?_)
 refine zA 10 (qB h [2,3,41] [2,3] [41] (fun h=>?_) fun h=>?_)
 refine z6 10 fun u k=>?_
 cases h
 exact zG k
 refine z6 10 fun u k=>?_
 cases h
 exact zG k
 refine z6 20 fun u k=>?_
 cases h
 exact zG k
 refine z6 30 fun u k=>?_
 cases h
 exact zG k
 refine z6 40 fun u k=>?_
 cases h
 exact zG k
 refine z6 44 fun u k=>?_
 cases h
 exact zG k
 refine yE k [4] [] (zN fun u k=>?_)
 obtain rfl:=osi h
 exact zV k [(4,vB j3)]
theorem W.AX {a b r} (h:Ei a b=some r):PC G.P 83 [(.agg (aM a)),(.agg (aM b))] [] (vB r) []:=by
 refine zU G Try.func83 (yK [0,1] [] (y3 3 [2,3] [2,3] (y3 18 [2,3,5] [2,3] (y3 18 [5,6] [] (zB ?_)))))
 obtain ⟨j1,a0,h⟩:=aA h
 refine zT ⟨[(4,vB j1)],[]⟩ ?_ fun u k=>?_
 replace h:=a0
 refine zA 3 (qB h [5,6,43] [] [43] (fun h=>?_) fun h=>?_)
 refine zA 4 (qB h [5,6,47] [] [47] (fun h=>?_) fun h=>?_)
 refine z6 8 fun u k=>?_
 cases h
 exact zG k
 refine zA 3 (qB h [5,47,50] [] [50] (fun h=>?_) fun h=>?_)
 refine z6 5 fun u k=>?_
 cases h
 exact zG k
 refine z6 5 fun u k=>?_
 cases h
 exact zG k
 refine zA 7 (qB h [5,47,50] [] [50] (fun h=>?_) fun h=>?_)
 refine z6 5 fun u k=>?_
 cases h
 exact zG k
 refine z6 5 fun u k=>?_
 cases h
 exact zG k
 refine yE k [4] [] (zN fun u k=>?_)
 obtain rfl:=osi h
 exact zV k [(4,vB j1)]
theorem W.Sd {l r} (h:yJ l=some r):PC G.P 76 [(.sl (List.map aM l))] [] (vB r) []:=by
 refine zU G Try.func76 (yK [0] [] (y3 1 [0] [] (z7 (zA 1 (qL aM l ?_)))))
 obtain ⟨l2,c8,h⟩:=aA h
 refine kF (Vq (c:=cB) (z:=false) (n:=(l.length:Int)) (e:=4) (d:=11) (zs:=[(vB false)]) (k1:=.i64) (k2:=.i64) (by kernel_rfl) rfl c8) (y1 1 [0,3] [11] (z7 (zA 1 ?_)))
 obtain ⟨x4,c6,h⟩:=aA h
 refine qI cB c6 (qS cB true c6 (zP fun u k=>?_))
 refine yE k [0,3] [11] (z7 (jL (Qr (e:=3) (d:=14) (es:=(List.map cI [0])) (by kernel_rfl)) (TD (g:=14) (e:=3) (l:=[0]) (by kernel_rfl) (by kernel_rfl) (by kernel_rfl) (y1 1 [0,3,4] [11,14] (zB (zC ?_))))))
 obtain ⟨a2,b8,h⟩:=aA h
 refine ql b8 (fun a1=>⟨[(0,bB l),(3,ro 500000 4),(4,ro 500001 3)],[(500000,wB 4 a1.1),(500001,.tl 3 a1.2)]⟩) (fun a2=>(.exit 0,⟨[(3,ro 500000 4)],[(500000,wB 4 a2)]⟩)) (sp [] [(11,500000),(14,500001)]) (fun a1 r h=>?_) fun u k=>?_
 refine zB (z7 (zA 1 (jL (WM (g:=500001) (e:=3) (l:=a1.2) (by kernel_rfl) (by kernel_rfl)) (y1 1 [0,3,4,17] [500000,500001] (qc h (fun h=>?_) fun h=>?_)))))
 refine y4 [0,3,4] [500000,500001] (zC (z7 (zA 1 ?_)))
 obtain ⟨a3,b4,h⟩:=aA h
 refine TB (g:=500001) (e:=3) (d1:=19) (d2:=20) (l:=a1.2) (i:=0) (kd:=.i64) (by kernel_rfl) (by kernel_rfl) (by kernel_rfl) b4 (y1 1 [0,3,4,5] [500000,500001] (z7 (zA 1 ?_)))
 obtain ⟨c7,h⟩:=XN h
 refine jL (RH (g:=500001) (e:=3) (n:=1) (kd:=.i64) (l:=a1.2) (by kernel_rfl) (by kernel_rfl) (by kernel_rfl) c7) (y1 1 [0,3,4,5] [500000,500001] (z7 (zA 1 (qL aM l (y1 1 [0,3,4,5,24,25] [500000,500001] (zC ?_))))))
 obtain ⟨a8,b7,h⟩:=aA h
 refine ql b7 (fun a0=>⟨[(0,bB l),(3,ro 500000 4),(4,ro 500001 3),(5,vI a3),(24,vI (l.length:Int)),(25,vI a0.1)],[(500000,wB 4 a0.2.1),(500001,.tl 3 a0.2.2)]⟩) (fun a8=>(.exit 2,⟨[(0,bB l),(3,ro 500000 4),(4,ro 500001 3)],[(500000,wB 4 a8.1),(500001,.tl 3 a8.2)]⟩)) qH (fun a0 r h=>?_) fun u k=>?_
 refine y3 1 [0,3,4,5,24,25,26] [500000,500001] (zB (qc h (fun h=>?_) fun h=>?_))
 refine y4 [0,3,4,5,24,25] [500000,500001] (eQ (fun (a7:(List Bool)×(List Int))=>⟨[(0,bB l),(3,ro 500000 4),(4,ro 500001 3),(5,vI a3),(24,vI (l.length:Int)),(25,vI a0.1)],[(500000,wB 4 a7.1),(500001,.tl 3 a7.2)]⟩) (mR a0) r (by kernel_rfl) (fun a7 h=>?_) ?_)
 refine zD (z6 2 fun u k=>?_)
 cases h
 exact zH k
 refine zC (y3 2 [0,3,4,5,6,24,25] [500000,500001] (zB ?_))
 obtain ⟨c1,b1,h⟩:=aA h
 refine nQ ⟨[(0,bB l),(3,ro 500000 4),(4,ro 500001 3),(5,vI a3),(6,vI a0.1),(24,vI (l.length:Int)),(25,vI a0.1),(43,vB c1)],[(500000,wB 4 a0.2.1),(500001,.tl 3 a0.2.2)]⟩ [] [] [] [] [] 14 (by kernel_rfl) (by kernel_rfl) (by kernel_rfl) ?_ fun u k=>?_
 replace h:=b1
 refine dN 2 ?_
 obtain ⟨c5,a4,h⟩:=aA h
 refine dI cB a4 (dR cB a4 (dN 2 (mO c5 (fun b0=>⟨[(33,vB (!b0)),(32,vB (!b0)),(31,vB b0),(30,.rptr (.top 500000) 4 (Int.toNat a0.1) 0),(29,vI a0.1),(28,ro 500000 4),(0,bB l),(3,ro 500000 4),(4,ro 500001 3),(5,vI a3),(6,vI a0.1),(24,vI (l.length:Int)),(25,vI a0.1)],[(500000,wB 4 a0.2.1),(500001,.tl 3 a0.2.2)]⟩) (by kernel_rfl) (fun hb=>?_) fun hb=>?_)))
 replace h:=wT hb h
 refine dN 8 (dE (oN 2 (zO fun u k=>?_)))
 cases h
 exact zG k
 replace h:=wS hb h
 refine dN 2 ?_
 obtain ⟨d0,b5,h⟩:=aA h
 refine dX aM b5 (dN 3 ?_)
 obtain ⟨d3,b6,h⟩:=aA h
 refine dX aM b6 (dN 1 (dE ?_))
 obtain ⟨c9,b3,h⟩:=aA h
 refine oP (W.AX b3) (oN 1 (zO fun u k=>?_))
 cases h
 exact zG k
 refine yE k [0,3,4,5,6,24,25,43] [500000,500001] (qc h (fun h=>?_) fun h=>?_)
 refine z7 (zA 2 ?_)
 obtain ⟨d4,a5,h⟩:=aA h
 refine qI cB a5 (qS cB true a5 (zP fun u k=>?_))
 refine yE k [0,3,4,5,6,24,25] [500000,500001] (zD (zA 3 ?_))
 obtain ⟨c4,b2,h⟩:=aA h
 refine jL (WL (g:=500001) (e:=3) (l:=a0.2.2) (y:=a0.1) (x:=(sI [a0.1])) (by kernel_rfl) (by kernel_rfl) (by kernel_rfl) (by kernel_rfl) (by kernel_rfl) b2) (z6 1 fun u k=>?_)
 exact aK (aU ((List.set a0.2.1 (Int.toNat a0.1) true),c4) h k (here (by kernel_rfl)))
 refine zM fun u k=>?_
 exact aK (aU (a0.2.1,a0.2.2) h k (here (by kernel_rfl)))
 refine zL 2 fun u k=>?_
 refine aR ?_
 cases h
 exact zF k
 refine zQ (aK ?_)
 cases h
 exact zH k
 refine zL 0 fun u k=>?_
 refine aR ?_
 cases h
 exact zF k
 refine zQ (yE k [3] [500000] (zB (z7 (zA 1 (qL cB a2 (y1 1 [52,53,54] [500000] ?_))))))
 refine zC ?_
 obtain ⟨a9,b9,h⟩:=aA h
 refine ql b9 (fun c0=>⟨[(52,ro 500000 4),(53,vI (a2.length:Int)),(54,vI c0)],[(500000,wB 4 a2)]⟩) (fun a9=>match a9 with | .inl c2=>(.ret,⟨[(2,vB false)],[]⟩) | .inr c3=>(.exit 4,⟨[],[]⟩)) qH (fun c0 r h=>?_) (fun u k=>?_) (hout:=(by intro x;rcases x with _ | _ <;> rfl))
 refine y3 1 [52,53,54,55] [500000] (zB (qc h (fun h=>?_) fun h=>?_))
 refine y4 [52,53,54] [500000] (zB (zC (z7 ?_)))
 obtain ⟨d5,a6,h⟩:=aA h
 refine qI cB a6 (qR cB a6 (y1 1 [8,52,53,54] [500000] (y3 2 [52,53,54,59] [500000] (qc h (fun h=>?_) fun h=>?_))))
 refine z8 1 ⟨[(2,vB false)],[]⟩ fun u k=>?_
 refine aQ (aO ?_)
 cases h
 exact zF k
 refine zM fun u k=>?_
 refine aK (yE k [52,53,54] [500000] (zD (z6 2 fun u k=>?_)))
 cases h
 exact zH k
 refine zL 4 fun u k=>?_
 refine aR ?_
 cases h
 exact zF k
 rcases a9 with c2 | c3
 refine aQ (aO ?_)
 obtain rfl:=osi h
 exact zV k [(2,vB false)]
 refine zQ (yE k [] [] (z8 1 ⟨[(2,vB true)],[]⟩ fun u k=>?_))
 obtain rfl:=osi h
 exact zV k [(2,vB true)]
theorem W.Iq {h0 l r} (h:wV h0 l=some r):PC G.P 84 [(.agg (aM h0)),(.sl (List.map aM l))] [] (vB r) []:=by
 refine zU G Try.func84 (yK [0,1] [] (y3 2 [1,2] [2] (zB (z7 (zA 1 (qL aM l ?_))))))
 refine y1 1 [2,7,8,9] [2] (zC ?_)
 obtain ⟨a4,a2,h⟩:=aA h
 refine ql a2 (fun a3=>⟨[(2,.ptr 500000 0),(7,bB l),(8,vI (l.length:Int)),(9,vI a3)],[(500000,.box (aM h0))]⟩) (fun a4=>match a4 with | .inl a6=>(.ret,⟨[(4,vB true)],[]⟩) | .inr a7=>(.exit 0,⟨[],[]⟩)) (sp [] [(2,500000)]) (fun a3 r h=>?_) (fun u k=>?_) (hout:=(by intro x;rcases x with _ | _ <;> rfl))
 refine y3 1 [2,7,8,9,10] [500000] (zB (qc h (fun h=>?_) fun h=>?_))
 refine y4 [2,7,8,9] [500000] (zB (zC (z7 ?_)))
 obtain ⟨a8,a1,h⟩:=aA h
 refine qX aM a1 (y1 3 [2,6,7,8,9] [6,500000] (zB ?_))
 obtain ⟨a5,a0,h⟩:=aA h
 refine zT ⟨[(2,.ptr 500000 0),(7,bB l),(8,vI (l.length:Int)),(9,vI a3),(50,vB a5)],[(500000,.box (aM h0))]⟩ ?_ fun u k=>?_
 replace h:=a0
 refine zA 6 (qB h [2,6,7,8,9,18] [6,500000] [18] (fun h=>?_) fun h=>?_)
 refine zA 7 (qB h [2,6,7,8,9,25] [6,500000] [25] (fun h=>?_) fun h=>?_)
 refine zA 13 (qB h [2,6,7,8,9,38] [6,500000] [38] (fun h=>?_) fun h=>?_)
 refine z6 12 fun u k=>?_
 cases h
 exact zG k
 refine z6 12 fun u k=>?_
 cases h
 exact zG k
 refine z6 25 fun u k=>?_
 cases h
 exact zG k
 refine z6 32 fun u k=>?_
 cases h
 exact zG k
 refine yE k [2,7,8,9,50] [500000] (qc h (fun h=>?_) fun h=>?_)
 refine z8 1 ⟨[(4,vB true)],[]⟩ fun u k=>?_
 refine aQ (aO ?_)
 cases h
 exact zF k
 refine zM fun u k=>?_
 refine aK (yE k [2,7,8,9] [500000] (zD (z6 2 fun u k=>?_)))
 cases h
 exact zH k
 refine zL 0 fun u k=>?_
 refine aR ?_
 cases h
 exact zF k
 rcases a4 with a6 | a7
 refine aQ (aO ?_)
 obtain rfl:=osi h
 exact zV k [(4,vB true)]
 refine zQ (yE k [] [] (z8 1 ⟨[(4,vB false)],[]⟩ fun u k=>?_))
 obtain rfl:=osi h
 exact zV k [(4,vB false)]
theorem W.Ua {a b r} (h:Ah a b=some r):PC G.P 85 [(.agg (aM a)),(.agg (aM b))] [] (vI r) []:=by
 refine zU G Try.func85 (yK [0,1] [] (y3 3 [2,3] [2,3] (zB (zB ?_))))
 obtain ⟨j8,a1,h⟩:=aA h
 refine zT ⟨[(2,.ptr 500000 0),(3,.ptr 500001 0),(13,vB j8)],[(500000,.box (aM a)),(500001,.box (aM b))]⟩ ?_ fun u k=>?_
 replace h:=a1
 refine zA 1 ?_
 obtain ⟨r9,a2,h⟩:=aA h
 refine qP (W.fC a2) (zA 2 (zS r9 (fun b0=>⟨[(2,.ptr 2 0),(3,.ptr 3 0),(9,vB (!b0))],[(2,.box (aM a)),(3,.box (aM b))]⟩) (fun hb=>?_) fun hb=>?_))
 replace h:=wT hb h
 refine zA 1 ?_
 obtain ⟨a3,a0,h⟩:=aA h
 refine qP (W.fC a0) (z6 2 fun u k=>?_)
 cases h
 exact nP k (sp [] [(2,500000),(3,500001)])
 replace h:=wS hb h
 refine z6 4 fun u k=>?_
 cases h
 exact nP k (sp [] [(2,500000),(3,500001)])
 refine yE k [2,3,13] [500000,500001] (qc h (fun h=>?_) fun h=>?_)
 refine z8 1 ⟨[(4,vI 0)],[]⟩ fun u k=>?_
 refine aO ?_
 obtain rfl:=osi h
 exact zV k [(4,vI 0)]
 refine y4 [2,3] [500000,500001] (y3 18 [2,3,5] [500000,500001] (z8 19 ⟨[(4,vI (iU (iU (iU (iU 0 (aH (aH b.X a.X) a.W)) (aH (aH a.X b.X) b.W)) (aH (aH b.Y a.Y) a.H)) (aH (aH a.Y b.Y) b.H)))],[]⟩ fun u k=>?_))
 obtain rfl:=osi h
 exact zV k [(4,vI (iU (iU (iU (iU 0 (aH (aH b.X a.X) a.W)) (aH (aH a.X b.X) b.W)) (aH (aH b.Y a.Y) a.H)) (aH (aH a.Y b.Y) b.H)))]
theorem W.Zf {x0 r} (h:Ls x0=some r):PC G.P 77 [(.agg (aX x0))] [] (vI r) []:=by
 refine zU G Try.func77 (yK [0] [] (y3 2 [1] [1] (zB (yL [(2,[12])] [(2,[12])] [] [(3,[12]),(4,[12])] [(0,[12]),(1,[12]),(3,[12]),(4,[12])] 5 (by kernel_rfl) (by kernel_rfl) [12] (by kernel_rfl) (by kernel_rfl) (dN 2 ?_)))))
 obtain ⟨l5,c4,h⟩:=aA h
 refine Gg (by kernel_rfl) (YK (c:=aM) (l2:=x0.Cuts) (x:=(bB x0.Cuts)) (e:=59) (sz:=4) (d:=12) (by kernel_rfl) (by kernel_rfl) (by kernel_rfl) (fun _=>rfl) c4) (by kernel_rfl) (by kernel_rfl) (by kernel_rfl) (by kernel_rfl) (dN 2 (dE ?_))
 obtain ⟨l6,c5,h⟩:=aA h
 refine oA aM 4 c5 (oN 1 (zO fun u k=>?_))
 refine yE k [1,3] [1,12] (zB (z7 (zA 1 (qL aM l6 (y1 1 [1,3,16,17,18] [1,12] (zC ?_))))))
 obtain ⟨c3,b5,h⟩:=aA h
 refine ql b5 (fun c1=>⟨[(1,.ptr 500000 0),(3,ro 500001 59),(16,ro 500001 59),(17,vI (l6.length:Int)),(18,vI c1)],[(500000,.box (aX x0)),(500001,Bl 59 l6)]⟩) (fun c3=>match c3 with | .inl c7=>(.ret,⟨[(2,vI 13)],[]⟩) | .inr b6=>(.exit 0,⟨[(3,ro 500000 59)],[(500000,Bl 59 l6)]⟩)) (sp [] [(1,500000),(12,500001)]) (fun c1 r h=>?_) (fun u k=>?_) (hout:=(by intro x;rcases x with _ | _ <;> rfl))
 refine y3 1 [1,3,16,17,18,19] [500000,500001] (zB (qc h (fun h=>?_) fun h=>?_))
 refine y4 [1,3,16,17,18] [500000,500001] (zB (zC (z7 (zA 1 ?_))))
 obtain ⟨d2,b0,h⟩:=aA h
 refine qI aM b0 (qR aM b0 (y1 3 [1,3,4,5,16,17,18] [5,500000,500001] (zB ?_)))
 obtain ⟨c6,b2,h⟩:=aA h
 refine zT ⟨[(1,.ptr 500000 0),(3,ro 500001 59),(16,ro 500001 59),(17,vI (l6.length:Int)),(18,vI c1),(44,vB c6)],[(500000,.box (aX x0)),(500001,Bl 59 l6)]⟩ ?_ fun u k=>?_
 replace h:=b2
 refine zA 3 (qL aM x0.Cuts (zA 2 (qB h [1,3,5,16,17,18,28] [5,500000,500001] [28] (fun h=>?_) fun h=>?_)))
 refine zA 4 (qB h [1,3,5,16,17,18,28,32] [5,500000,500001] [32] (fun h=>?_) fun h=>?_)
 refine z6 12 fun u k=>?_
 cases h
 exact zG k
 refine zA 6 (qB h [1,3,5,16,17,18,38] [5,500000,500001] [38] (fun h=>?_) fun h=>?_)
 refine z6 6 fun u k=>?_
 cases h
 exact zG k
 refine zA 3 ?_
 obtain ⟨d0,b3,h⟩:=aA h
 refine qP (W.Iq b3) (z6 2 fun u k=>?_)
 cases h
 exact zG k
 refine zA 13 ?_
 obtain ⟨d1,b4,h⟩:=aA h
 refine qP (W.Iq b4) (z6 2 fun u k=>?_)
 cases h
 exact zG k
 refine yE k [1,3,16,17,18,44] [500000,500001] (qc h (fun h=>?_) fun h=>?_)
 refine z8 1 ⟨[(2,vI 13)],[]⟩ fun u k=>?_
 refine aQ (aO ?_)
 cases h
 exact zF k
 refine zM fun u k=>?_
 refine aK (yE k [1,3,16,17,18] [500000,500001] (zD (z6 2 fun u k=>?_)))
 cases h
 exact zH k
 refine zL 0 fun u k=>?_
 refine aR ?_
 cases h
 exact Cf k rfl (sp [] [(500001,500000)])
 rcases c3 with c7 | b6
 refine aQ (aO ?_)
 obtain rfl:=osi h
 exact zV k [(2,vI 13)]
 refine zQ (yE k [3] [500000] (zB (z7 (zA 1 (qL aM l6 (y1 1 [3,46,47,48] [500000] ?_))))))
 refine zC ?_
 obtain ⟨a3,a9,h⟩:=aA h
 refine ql a9 (fun a0=>⟨[(3,bB l6),(46,bB l6),(47,vI (l6.length:Int)),(48,vI a0)],[]⟩) (fun a3=>match a3 with | .inl b9=>(.ret,⟨[(2,vI 7)],[]⟩) | .inr c0=>(.exit 2,⟨[],[]⟩)) (sp [.frz 500000] []) (fun a0 r h=>?_) (fun u k=>?_) (hout:=(by intro x;rcases x with _ | _ <;> rfl))
 refine y3 1 [3,46,47,48,49] [] (zB (qc h (fun h=>?_) fun h=>?_))
 refine y4 [3,46,47,48] [] (zB (zC (z7 (zA 1 ?_))))
 obtain ⟨c2,a6,h⟩:=aA h
 refine qX aM a6 (y1 4 [3,6,7,46,47,48] [7] (z7 (zA 2 ?_)))
 obtain ⟨a1,a4,h⟩:=aA h
 refine kF (LH (c:=aM) (l:=l6) (sz:=4) (hi:=a0) (k2:=.i64) (by kernel_rfl) a4) (qL aM a1 (y1 1 [3,7,46,47,48,55,56,57] [7] (zC ?_)))
 obtain ⟨a2,a8,h⟩:=aA h
 refine ql a8 (fun b1=>⟨[(3,bB l6),(7,.ptr 500000 0),(46,bB l6),(47,vI (l6.length:Int)),(48,vI a0),(55,bB a1),(56,vI (a1.length:Int)),(57,vI b1)],[(500000,.box (aM c2))]⟩) (fun a2=>match a2 with | .inl b7=>(.ret,⟨[(2,vI 7)],[]⟩) | .inr b8=>(.exit 4,⟨[(3,bB l6),(46,bB l6),(47,vI (l6.length:Int)),(48,vI a0)],[]⟩)) (sp [] [(7,500000)]) (fun b1 r h=>?_) (fun u k=>?_) (hout:=(by intro x;rcases x with _ | _ <;> rfl))
 refine y3 1 [3,7,46,47,48,55,56,57,58] [500000] (zB (qc h (fun h=>?_) fun h=>?_))
 refine y4 [3,7,46,47,48,55,56,57] [500000] (zB (zC (z7 ?_)))
 obtain ⟨c9,a7,h⟩:=aA h
 refine qX aM a7 (y1 3 [3,7,9,46,47,48,55,56,57] [9,500000] (z7 (zA 2 ?_)))
 obtain ⟨c8,a5,h⟩:=aA h
 refine qP (W.Ua a5) (y1 1 [3,7,46,47,48,55,56,57,64] [500000] (qc h (fun h=>?_) fun h=>?_))
 refine z8 1 ⟨[(2,vI 7)],[]⟩ fun u k=>?_
 refine aQ (aO ?_)
 cases h
 exact zF k
 refine zM fun u k=>?_
 refine aK (yE k [3,7,46,47,48,55,56,57] [500000] (zD (z6 2 fun u k=>?_)))
 cases h
 exact zH k
 refine zL 4 fun u k=>?_
 refine aR ?_
 cases h
 exact zF k
 rcases a2 with b7 | b8
 refine aQ (aQ (aO ?_))
 cases h
 exact zF k
 refine zQ (aK (yE k [3,46,47,48] [] (zD (z6 2 fun u k=>?_))))
 cases h
 exact zH k
 refine zL 2 fun u k=>?_
 refine aR ?_
 cases h
 exact zF k
 rcases a3 with b9 | c0
 refine aQ (aO ?_)
 obtain rfl:=osi h
 exact zV k [(2,vI 7)]
 refine zQ (yE k [] [] (z8 1 ⟨[(2,vI 0)],[]⟩ fun u k=>?_))
 obtain rfl:=osi h
 exact zV k [(2,vI 0)]
theorem W.yQ {x0 r} (h:dV x0=some r):PC G.P 66 [(.agg (aX x0))] [] (vI r) []:=by
 refine zU G Try.func66 (yK [0] [] (y3 2 [1] [1] (zB (zC (zB ?_)))))
 obtain ⟨d6,b5,h⟩:=aA h
 refine zT ⟨[(1,.ptr 500000 0),(11,vB d6)],[(500000,.box (aX x0))]⟩ ?_ fun u k=>?_
 replace h:=b5
 refine zA 2 ?_
 obtain ⟨e0,b9,h⟩:=aA h
 refine qP (W.uR b9) (zA 2 (zS e0 (fun b0=>⟨[(1,.ptr 1 0),(16,vB (!b0))],[(1,.box (aX x0))]⟩) (fun hb=>?_) fun hb=>?_))
 replace h:=wT hb h
 refine zA 2 ?_
 obtain ⟨e6,c0,h⟩:=aA h
 refine qP (W.uR c0) (z6 3 fun u k=>?_)
 cases h
 exact nP k (sp [] [(1,500000)])
 replace h:=wS hb h
 refine z6 6 fun u k=>?_
 cases h
 exact nP k (sp [] [(1,500000)])
 refine yE k [1,11] [500000] (qc h (fun h=>?_) fun h=>?_)
 refine z8 1 ⟨[(2,vI 2)],[]⟩ fun u k=>?_
 refine aQ (aO ?_)
 obtain rfl:=osi h
 exact zV k [(2,vI 2)]
 refine z7 (zA 4 ?_)
 obtain ⟨e7,c1,h⟩:=aA h
 refine qP (W.Oy c1) (y1 2 [1,22] [500000] (qc h (fun h=>?_) fun h=>?_))
 refine z8 1 ⟨[(2,vI 1)],[]⟩ fun u k=>?_
 refine aQ (aO ?_)
 obtain rfl:=osi h
 exact zV k [(2,vI 1)]
 refine zB ?_
 obtain ⟨d7,b6,h⟩:=aA h
 refine zT ⟨[(1,.ptr 500000 0),(29,vB d7)],[(500000,.box (aX x0))]⟩ ?_ fun u k=>?_
 replace h:=b6
 refine zA 2 (qL aM x0.Rects (zA 2 (qB h [1,34] [500000] [34] (fun h=>?_) fun h=>?_)))
 refine z6 12 fun u k=>?_
 cases h
 exact zG k
 refine zA 2 (qL aM x0.Cuts (zA 3 (qB h [1,40] [500000] [40] (fun h=>?_) fun h=>?_)))
 refine z6 6 fun u k=>?_
 cases h
 exact zG k
 refine zA 2 (qL aM x0.Forms (z6 3 fun u k=>?_))
 cases h
 exact zG k
 refine yE k [1,29] [500000] (qc h (fun h=>?_) fun h=>?_)
 refine z8 1 ⟨[(2,vI 4)],[]⟩ fun u k=>?_
 refine aQ (aO ?_)
 obtain rfl:=osi h
 exact zV k [(2,vI 4)]
 refine zB ?_
 obtain ⟨d8,b7,h⟩:=aA h
 refine zT ⟨[(1,.ptr 500000 0),(46,vB d8)],[(500000,.box (aX x0))]⟩ ?_ fun u k=>?_
 replace h:=b7
 refine zA 2 (qL aM x0.Rects (zA 2 (qB h [1,51] [500000] [51] (fun h=>?_) fun h=>?_)))
 refine z6 18 fun u k=>?_
 cases h
 exact zG k
 refine zA 2 ?_
 obtain ⟨e1,c2,h⟩:=aA h
 refine qP (W.wX c2) (zA 3 (zS e1 (fun b0=>⟨[(1,.ptr 500000 0),(57,vB (!b0))],[(500000,.box (aX x0))]⟩) (fun hb=>?_) fun hb=>?_))
 replace h:=wT hb h
 refine zA 2 ?_
 obtain ⟨e2,c3,h⟩:=aA h
 refine qP (W.wX c3) (zA 3 (zS e2 (fun b0=>⟨[(1,.ptr 500000 0),(63,vB (!b0))],[(500000,.box (aX x0))]⟩) (fun hb=>?_) fun hb=>?_))
 replace h:=wT hb h
 refine zA 2 ?_
 obtain ⟨e8,c4,h⟩:=aA h
 refine qP (W.wX c4) (z6 3 fun u k=>?_)
 cases h
 exact zG k
 replace h:=wS hb h
 refine z6 6 fun u k=>?_
 cases h
 exact zG k
 replace h:=wS hb h
 refine z6 12 fun u k=>?_
 cases h
 exact zG k
 refine yE k [1,46] [500000] (qc h (fun h=>?_) fun h=>?_)
 refine z8 1 ⟨[(2,vI 1)],[]⟩ fun u k=>?_
 refine aQ (aO ?_)
 obtain rfl:=osi h
 exact zV k [(2,vI 1)]
 refine zM fun u k=>?_
 refine aK (yE k [1] [500000] (zB (qM 11 (dN 2 ?_))))
 obtain ⟨e9,c5,h⟩:=aA h
 refine dX aM c5 (dN 4 ?_)
 obtain ⟨f0,c6,h⟩:=aA h
 refine dX aM c6 (dN 3 (dE (oN 1 (zO fun u k=>?_))))
 refine yE k [1,3,4] [500000] (zB (z7 (zA 2 (qL aM x0.Rects (y1 1 [1,3,4,80,81,82] [500000] (zC ?_))))))
 obtain ⟨d5,c8,h⟩:=aA h
 refine ql c8 (fun b4=>⟨[(1,.ptr 500000 0),(3,vI b4.1),(4,vI b4.2.1),(80,bB x0.Rects),(81,vI (x0.Rects.length:Int)),(82,vI b4.2.2)],[(500000,.box (aX x0))]⟩) (fun d5=>(.exit 1,⟨[(1,.ptr 500000 0),(3,vI d5.1),(4,vI d5.2)],[(500000,.box (aX x0))]⟩)) qH (fun b4 r h=>?_) fun u k=>?_
 refine y3 1 [1,3,4,80,81,82,83] [500000] (zB (qc h (fun h=>?_) fun h=>?_))
 refine y4 [1,3,4,80,81,82] [500000] (zB (zC (z7 ?_)))
 obtain ⟨f1,c7,h⟩:=aA h
 refine qX aM c7 (y1 3 [1,3,4,6,80,81,82] [6,500000] (qM 9 (dN 9 (dE (oN 1 (zO fun u k=>?_))))))
 refine aK (yE k [1,3,4,80,81,82] [500000] (zD (z6 2 fun u k=>?_)))
 cases h
 exact zH k
 refine zL 1 fun u k=>?_
 refine aR ?_
 cases h
 exact zF k
 refine zQ (yE k [1,3,4] [500000] (zB (zB ?_)))
 obtain ⟨d9,b8,h⟩:=aA h
 refine zT ⟨[(1,.ptr 500000 0),(100,vB d9)],[(500000,.box (aX x0))]⟩ ?_ fun u k=>?_
 replace h:=b8
 refine zA 3 (qB h [1,4,97] [500000] [97] (fun h=>?_) fun h=>?_)
 refine z6 3 fun u k=>?_
 cases h
 exact zG k
 refine z6 3 fun u k=>?_
 cases h
 exact zG k
 refine yE k [1,100] [500000] (qc h (fun h=>?_) fun h=>?_)
 refine z8 1 ⟨[(2,vI 1)],[]⟩ fun u k=>?_
 refine aO ?_
 obtain rfl:=osi h
 exact zV k [(2,vI 1)]
 refine y4 [1] [500000] (zB (z7 (zA 2 (qL aM x0.Rects (y1 1 [1,102,103,104] [500000] (zC ?_))))))
 obtain ⟨a3,b2,h⟩:=aA h
 refine ql b2 (fun a0=>⟨[(1,.ptr 500000 0),(102,bB x0.Rects),(103,vI (x0.Rects.length:Int)),(104,vI a0)],[(500000,.box (aX x0))]⟩) (fun a3=>match a3 with | .inl d1=>(.ret,⟨[(2,vI 7)],[]⟩) | .inr d2=>(.exit 3,⟨[(1,.ptr 500000 0)],[(500000,.box (aX x0))]⟩)) qH (fun a0 r h=>?_) (fun u k=>?_) (hout:=(by intro x;rcases x with _ | _ <;> rfl))
 refine y3 1 [1,102,103,104,105] [500000] (zB (qc h (fun h=>?_) fun h=>?_))
 refine y4 [1,102,103,104] [500000] (zB (zC (z7 (zA 1 ?_))))
 obtain ⟨d4,a8,h⟩:=aA h
 refine qX aM a8 (y1 4 [1,7,8,102,103,104] [8,500000] (z7 (zA 3 ?_)))
 obtain ⟨a1,a4,h⟩:=aA h
 refine kF (LH (c:=aM) (l:=x0.Rects) (sz:=4) (hi:=a0) (k2:=.i64) (by kernel_rfl) a4) (qL aM a1 (y1 1 [1,8,102,103,104,112,113,114] [8,500000] (zC ?_)))
 obtain ⟨a2,b1,h⟩:=aA h
 refine ql b1 (fun b3=>⟨[(1,.ptr 500000 0),(8,.ptr 500001 0),(102,bB x0.Rects),(103,vI (x0.Rects.length:Int)),(104,vI a0),(112,bB a1),(113,vI (a1.length:Int)),(114,vI b3)],[(500000,.box (aX x0)),(500001,.box (aM d4))]⟩) (fun a2=>match a2 with | .inl c9=>(.ret,⟨[(2,vI 7)],[]⟩) | .inr d0=>(.exit 5,⟨[(1,.ptr 500000 0),(102,bB x0.Rects),(103,vI (x0.Rects.length:Int)),(104,vI a0)],[(500000,.box (aX x0))]⟩)) (sp [] [(8,500001),(500000,500000)]) (fun b3 r h=>?_) (fun u k=>?_) (hout:=(by intro x;rcases x with _ | _ <;> rfl))
 refine y3 1 [1,8,102,103,104,112,113,114,115] [500000,500001] (zB (qc h (fun h=>?_) fun h=>?_))
 refine y4 [1,8,102,103,104,112,113,114] [500000,500001] (zB (zC (z7 ?_)))
 obtain ⟨e5,a9,h⟩:=aA h
 refine qX aM a9 (y1 3 [1,8,10,102,103,104,112,113,114] [10,500000,500001] (z7 (zA 2 ?_)))
 obtain ⟨e3,a5,h⟩:=aA h
 refine qP (W.Kr a5) (zP fun u k=>?_)
 refine yE k [1,8,102,103,104,112,113,114,120] [500000,500001] (qc h (fun h=>?_) fun h=>?_)
 refine z8 1 ⟨[(2,vI 7)],[]⟩ fun u k=>?_
 refine aQ (aO ?_)
 cases h
 exact zF k
 refine zM fun u k=>?_
 refine aK (yE k [1,8,102,103,104,112,113,114] [500000,500001] (zD (z6 2 fun u k=>?_)))
 cases h
 exact zH k
 refine zL 5 fun u k=>?_
 refine aR ?_
 cases h
 exact zF k
 rcases a2 with c9 | d0
 refine aQ (aQ (aO ?_))
 cases h
 exact zF k
 refine zQ (aK (yE k [1,102,103,104] [500000] (zD (z6 2 fun u k=>?_))))
 cases h
 exact zH k
 refine zL 3 fun u k=>?_
 refine aR ?_
 cases h
 exact zF k
 rcases a3 with d1 | d2
 refine aQ (aO ?_)
 obtain rfl:=osi h
 exact zV k [(2,vI 7)]
 refine zQ (yE k [1] [500000] (zB (z7 (zA 2 ?_))))
 obtain ⟨e4,a6,h⟩:=aA h
 refine qP (W.Sd a6) (y1 1 [1,126] [500000] (qc h (fun h=>?_) fun h=>?_))
 refine z8 1 ⟨[(2,vI 6)],[]⟩ fun u k=>?_
 refine aO ?_
 obtain rfl:=osi h
 exact zV k [(2,vI 6)]
 refine y4 [1] [500000] (z7 (zA 1 ?_))
 obtain ⟨d3,a7,h⟩:=aA h
 refine qP (W.Zf a7) (y1 1 [2] [] (zN fun u k=>?_))
 obtain rfl:=osi h
 exact zV k [(2,vI d3)]
theorem W.xB {s r} (h:kQ s=some r):PC G.P 78 [.sl (List.map aM s)] [] (.row (.top 0) 59) [(0,.row 59 [] (List.map aM r))]:=by
 replace h:app [] s=some r:=h
 refine zU G Try.func78 (y3 1 [0] [] (zB (z7 (zA 1 (Tv (es:=List.map aM s) (by kernel_rfl) (fun hn=>?_) ?_)))))
 obtain rfl:s=[]:=List.map_eq_nil_iff.1 hn
 obtain rfl:[]=r:=Option.some.inj ((nA (by simp [LIM])).symm.trans h)
 refine zP fun u k=>?_
 refine yE k [0,4] [] (Us (by kernel_rfl) (by kernel_rfl) (z8 1 ⟨[(2,ro 2 59)],[(2,Bl 59 [])]⟩ fun u k=>?_))
 exact aO (Mc k [(2,ro 0 59)] (Oj [(2,0)] rfl rfl (by kernel_rfl)) (by kernel_rfl))
 refine zP fun u k=>?_
 refine yE k [0,4] [] (Og (by kernel_rfl) (by kernel_rfl) (y4 [0] [] (z7 (jL (Qr (es:=List.map aM []) (e:=59) (d:=5) (by kernel_rfl)) (zA 1 (kF (EM (c:=aM) (l:=[]) (l2:=s) (x:=bB s) (g:=5) (e:=59) (sz:=4) (d:=7) (by kernel_rfl) (by kernel_rfl) (by kernel_rfl) (by kernel_rfl) (fun _=>rfl) rfl h) ?_))))))
 refine y1 1 [2] [5] (zN fun u k=>?_)
 exact Mc k [(2,ro 0 59)] (Oj [(5,0)] rfl rfl (by kernel_rfl)) (by kernel_rfl)
theorem W.La {l x1 y r} (h:Ht l x1 y=some r):PC G.P 67 [(.sl (List.map aM l)),(vI x1),(vI y)] [] (.row (.top 0) 59) [(0,.row 59 [] (List.map aM r))]:=by
 refine zU G Try.func67 (yK [0,1,2] [] (y3 1 [0,1,2] [] (z7 (zA 1 ?_))))
 obtain ⟨r2,b3,h⟩:=aA h
 refine qC [] [(0,700050)] (W.xB b3) (y1 1 [1,2,7] [700050] (zB (z7 (zA 1 (qL aM r2 (y1 1 [1,2,7,13,14] [700050] ?_))))))
 refine zC ?_
 obtain ⟨a6,b0,h⟩:=aA h
 refine ql b0 (fun a1=>⟨[(1,vI x1),(2,vI y),(7,ro 500000 59),(13,vI (r2.length:Int)),(14,vI a1.1)],[(500000,Bl 59 a1.2)]⟩) (fun a6=>(.exit 0,⟨[(7,ro 500000 59)],[(500000,Bl 59 a6)]⟩)) (sp [] [(700050,500000)]) (fun a1 r h=>?_) fun u k=>?_
 refine y3 1 [1,2,7,13,14,15] [500000] (zB (qc h (fun h=>?_) fun h=>?_))
 refine y4 [1,2,7,13,14] [500000] (eQ (fun (b1:(List Rect))=>⟨[(1,vI x1),(2,vI y),(7,ro 500000 59),(13,vI (r2.length:Int)),(14,vI a1.1)],[(500000,Bl 59 b1)]⟩) (Fh a1) r (by kernel_rfl) (fun b1 h=>?_) ?_)
 refine zD (z6 2 fun u k=>?_)
 cases h
 exact zH k
 refine zC (y3 2 [1,2,7,8,13,14] [500000] (z7 (zA 2 ?_)))
 obtain ⟨b4,a4,h⟩:=aA h
 refine qI aM a4 (y1 1 [1,2,7,9,13,14] [500000] (zB (zB ?_)))
 obtain ⟨b2,a7,h⟩:=aA h
 refine zT ⟨[(1,vI x1),(2,vI y),(7,ro 500000 59),(9,.rptr (.top 500000) 59 (Int.toNat a1.1) 0),(13,vI (r2.length:Int)),(14,vI a1.1),(45,vB b2)],[(500000,Bl 59 a1.2)]⟩ ?_ fun u k=>?_
 replace h:=a7
 refine zA 3 (qR aM a4 (zA 2 (qB h [1,2,7,9,13,14,25] [500000] [25] (fun h=>?_) fun h=>?_)))
 refine z6 20 fun u k=>?_
 cases h
 exact zG k
 refine zA 3 (qR aM a4 (zA 3 (qB h [1,2,7,9,13,14,32] [500000] [32] (fun h=>?_) fun h=>?_)))
 refine z6 13 fun u k=>?_
 cases h
 exact zG k
 refine zA 3 (qR aM a4 (zA 3 (qB h [1,2,7,9,13,14,39] [500000] [39] (fun h=>?_) fun h=>?_)))
 refine z6 6 fun u k=>?_
 cases h
 exact zG k
 refine zA 3 (qR aM a4 (z6 2 fun u k=>?_))
 cases h
 exact zG k
 refine yE k [1,2,7,9,13,14,45] [500000] (qc h (fun h=>?_) fun h=>?_)
 refine z7 (zA 3 ?_)
 obtain ⟨a3,a8,h⟩:=aA h
 refine kF (Zw (c:=aM) (l:=a1.2) (i:=(Int.toNat a1.1)) (x:=a3) (x':=(Rect.mk a3.X a3.Y 0 a3.H)) (v:=(vI 0)) (agg:=false) (sz:=1) (kk:=(.top 500000)) (e:=59) (off:=2) (J:=[]) (o:=Bl 59 (List.set a1.2 (Int.toNat a1.1) (Rect.mk a3.X a3.Y 0 a3.H))) (by kernel_rfl) (by kernel_rfl) (by kernel_rfl) a8 (by kernel_rfl) (by kernel_rfl) (by kernel_rfl)) (zP fun u k=>?_)
 refine yE k [1,2,7,13,14] [500000] (zL 1 fun u k=>?_)
 exact aR (zQ (aU (List.set a1.2 (Int.toNat a1.1) (Rect.mk a3.X a3.Y 0 a3.H)) h k (here (by kernel_rfl))))
 refine y4 [1,2,7,9,13,14] [500000] (z7 (zA 3 ?_))
 obtain ⟨a2,a9,h⟩:=aA h
 refine kF (Qk (c:=aM) (l:=a1.2) (i:=(Int.toNat a1.1)) (v:=(vI a2.X)) (agg:=false) (sz:=1) (kk:=(.top 500000)) (e:=59) (off:=0) (J:=[]) (by kernel_rfl) (by kernel_rfl) (by kernel_rfl) a9 (by kernel_rfl)) (zA 4 ?_)
 obtain ⟨a0,a5,h⟩:=aA h
 refine kF (Zw (c:=aM) (l:=a1.2) (i:=(Int.toNat a1.1)) (x:=a0) (x':=(Rect.mk (aH a2.X x1) a0.Y a0.W a0.H)) (v:=(vI (aH a2.X x1))) (agg:=false) (sz:=1) (kk:=(.top 500000)) (e:=59) (off:=0) (J:=[]) (o:=Bl 59 (List.set a1.2 (Int.toNat a1.1) (Rect.mk (aH a2.X x1) a0.Y a0.W a0.H))) (by kernel_rfl) (by kernel_rfl) (by kernel_rfl) a5 (by kernel_rfl) (by kernel_rfl) (by kernel_rfl)) (zP fun u k=>?_)
 refine yE k [1,2,7,9,13,14] [500000] (zD (zA 3 (kF (Qk (c:=aM) (l:=(List.set a1.2 (Int.toNat a1.1) (Rect.mk (aH a2.X x1) a0.Y a0.W a0.H))) (i:=(Int.toNat a1.1)) (v:=(vI (((Rect.mk (aH a2.X x1) a0.Y a0.W a0.H)).Y))) (agg:=false) (sz:=1) (kk:=(.top 500000)) (e:=59) (off:=1) (J:=[]) (by kernel_rfl) (by kernel_rfl) (by kernel_rfl) (VS (a5)) (by kernel_rfl)) (zA 4 (kF (Zw (c:=aM) (l:=(List.set a1.2 (Int.toNat a1.1) (Rect.mk (aH a2.X x1) a0.Y a0.W a0.H))) (i:=(Int.toNat a1.1)) (x:=(Rect.mk (aH a2.X x1) a0.Y a0.W a0.H)) (x':=(Rect.mk (((Rect.mk (aH a2.X x1) a0.Y a0.W a0.H)).X) (aH (((Rect.mk (aH a2.X x1) a0.Y a0.W a0.H)).Y) y) (((Rect.mk (aH a2.X x1) a0.Y a0.W a0.H)).W) (((Rect.mk (aH a2.X x1) a0.Y a0.W a0.H)).H))) (v:=(vI (aH (((Rect.mk (aH a2.X x1) a0.Y a0.W a0.H)).Y) y))) (agg:=false) (sz:=1) (kk:=(.top 500000)) (e:=59) (off:=1) (J:=[]) (o:=Bl 59 (List.set (List.set a1.2 (Int.toNat a1.1) (Rect.mk (aH a2.X x1) a0.Y a0.W a0.H)) (Int.toNat a1.1) (Rect.mk (((Rect.mk (aH a2.X x1) a0.Y a0.W a0.H)).X) (aH (((Rect.mk (aH a2.X x1) a0.Y a0.W a0.H)).Y) y) (((Rect.mk (aH a2.X x1) a0.Y a0.W a0.H)).W) (((Rect.mk (aH a2.X x1) a0.Y a0.W a0.H)).H)))) (by kernel_rfl) (by kernel_rfl) (by kernel_rfl) (VS (a5)) (by kernel_rfl) (by kernel_rfl) (by kernel_rfl)) (zP fun u k=>?_))))))
 exact aK (aU (List.set (List.set a1.2 (Int.toNat a1.1) (Rect.mk (aH a2.X x1) a0.Y a0.W a0.H)) (Int.toNat a1.1) (Rect.mk (((Rect.mk (aH a2.X x1) a0.Y a0.W a0.H)).X) (aH (((Rect.mk (aH a2.X x1) a0.Y a0.W a0.H)).Y) y) (((Rect.mk (aH a2.X x1) a0.Y a0.W a0.H)).W) (((Rect.mk (aH a2.X x1) a0.Y a0.W a0.H)).H))) h k (here (by kernel_rfl)))
 refine zL 0 fun u k=>?_
 refine aR ?_
 cases h
 exact zF k
 refine zQ (yE k [7] [500000] (z8 2 ⟨[(6,ro 500000 59)],[(500000,Bl 59 a6)]⟩ fun u k=>?_))
 obtain rfl:=osi h
 exact qW k [(6,ro 0 59)] (sp [] [(500000,0)])
theorem W.Rf {x0 r} (h:nX x0=some r):PC G.P 49 [(.agg (aX x0))] [] (vI r) []:=by
 refine zU G Try.func49 (yK [0] [] (y3 2 [1] [1] (zB (z7 (zA 2 (qL aM x0.Rects ?_))))))
 refine y1 1 [1,10,11,12] [1] (zC ?_)
 obtain ⟨b4,a8,h⟩:=aA h
 refine ql a8 (fun b6=>⟨[(1,.ptr 500000 0),(10,bB x0.Rects),(11,vI (x0.Rects.length:Int)),(12,vI b6)],[(500000,.box (aX x0))]⟩) (fun b4=>match b4 with | .inl b7=>(.ret,⟨[(2,vI 1)],[]⟩) | .inr b8=>(.exit 0,⟨[(1,.ptr 500000 0)],[(500000,.box (aX x0))]⟩)) (sp [] [(1,500000)]) (fun b6 r h=>?_) (fun u k=>?_) (hout:=(by intro x;rcases x with _ | _ <;> rfl))
 refine y3 1 [1,10,11,12,13] [500000] (zB (qc h (fun h=>?_) fun h=>?_))
 refine y4 [1,10,11,12] [500000] (zB (zC (z7 ?_)))
 obtain ⟨c4,a7,h⟩:=aA h
 refine qX aM a7 (y1 3 [1,4,10,11,12] [4,500000] (z7 (zA 1 ?_)))
 obtain ⟨c3,a5,h⟩:=aA h
 refine qP (W.fC a5) (y1 1 [1,10,11,12,18] [500000] (qc h (fun h=>?_) fun h=>?_))
 refine z8 1 ⟨[(2,vI 1)],[]⟩ fun u k=>?_
 refine aQ (aO ?_)
 cases h
 exact zF k
 refine zM fun u k=>?_
 refine aK (yE k [1,10,11,12] [500000] (zD (z6 2 fun u k=>?_)))
 cases h
 exact zH k
 refine zL 0 fun u k=>?_
 refine aR ?_
 cases h
 exact zF k
 rcases b4 with b7 | b8
 refine aQ (aO ?_)
 obtain rfl:=osi h
 exact zV k [(2,vI 1)]
 refine zQ (yE k [1] [500000] (zB (z7 (zA 2 (qL aM x0.Rects (y1 1 [1,23] [500000] ?_))))))
 refine qc h (fun h=>?_) fun h=>?_
 refine z7 (zA 1 ?_)
 obtain ⟨c2,a6,h⟩:=aA h
 refine qP (W.yQ a6) (y1 1 [2] [] (zN fun u k=>?_))
 refine aO ?_
 obtain rfl:=osi h
 exact zV k [(2,vI c2)]
 refine y4 [1] [500000] (zB (qM 11 (dN 2 ?_)))
 obtain ⟨c5,a9,h⟩:=aA h
 refine dX aM a9 (dN 4 ?_)
 obtain ⟨c6,b0,h⟩:=aA h
 refine dX aM b0 (dN 3 (dE (oN 1 (zO fun u k=>?_))))
 refine yE k [1,5,6] [500000] (zB (z7 (zA 2 (qL aM x0.Rects (y1 1 [1,5,6,37,38,39] [500000] (zC ?_))))))
 obtain ⟨b5,b2,h⟩:=aA h
 refine ql b2 (fun a4=>⟨[(1,.ptr 500000 0),(5,vI a4.1),(6,vI a4.2.1),(37,bB x0.Rects),(38,vI (x0.Rects.length:Int)),(39,vI a4.2.2)],[(500000,.box (aX x0))]⟩) (fun b5=>(.exit 2,⟨[(1,.ptr 500000 0),(5,vI b5.1),(6,vI b5.2)],[(500000,.box (aX x0))]⟩)) qH (fun a4 r h=>?_) fun u k=>?_
 refine y3 1 [1,5,6,37,38,39,40] [500000] (zB (qc h (fun h=>?_) fun h=>?_))
 refine y4 [1,5,6,37,38,39] [500000] (zB (zC (z7 ?_)))
 obtain ⟨c7,b1,h⟩:=aA h
 refine qX aM b1 (y1 3 [1,5,6,8,37,38,39] [8,500000] (qM 9 (dN 9 (dE (oN 1 (zO fun u k=>?_))))))
 refine aK (yE k [1,5,6,37,38,39] [500000] (zD (z6 2 fun u k=>?_)))
 cases h
 exact zH k
 refine zL 2 fun u k=>?_
 refine aR ?_
 cases h
 exact zF k
 refine zQ (yE k [1,5,6] [500000] (zB (yL [(4,[700200]),(9,[700450]),(14,[700700])] [(4,[700200]),(9,[700450]),(14,[700700])] [] [(5,[700200]),(6,[700200]),(7,[700200]),(8,[700200]),(10,[700200,700450]),(11,[700200,700450]),(12,[700200,700450]),(13,[700200,700450]),(15,[700450,700700])] [(0,[700200,700450,700700]),(1,[700200,700450,700700]),(2,[700200,700450,700700]),(3,[700200,700450,700700]),(4,[700450,700700]),(5,[700200,700450,700700]),(6,[700200,700450,700700]),(7,[700200,700450,700700]),(8,[700200,700450,700700]),(9,[700700]),(10,[700200,700450,700700]),(11,[700200,700450,700700]),(12,[700200,700450,700700]),(13,[700200,700450,700700]),(15,[700450,700700])] 16 (by kernel_rfl) (by kernel_rfl) [700200,700450,700700] (by kernel_rfl) (by kernel_rfl) (dN 4 ?_))))
 obtain ⟨b9,a0,h⟩:=aA h
 refine dC [(0,700200)] (W.La a0) (dN 4 ?_)
 obtain ⟨c0,a1,h⟩:=aA h
 refine dC [(0,700450)] (W.La a1) (dN 4 ?_)
 obtain ⟨c1,a2,h⟩:=aA h
 refine dC [(0,700700)] (W.La a2) (dN 1 (dE (oN 5 (zO fun u k=>?_))))
 refine yE k [1] [500000,700200,700450,700700] (z7 (zA 1 ?_))
 obtain ⟨b3,a3,h⟩:=aA h
 refine qV [700200,700450,700700] (W.yQ a3) (y1 1 [2] [] (zN fun u k=>?_))
 obtain rfl:=osi h
 exact zV k [(2,vI b3)]
theorem W.Yg {x0 a_0 a_1 a_2 a_3 r} (h:Gf x0 a_0 a_1 a_2 a_3=some r):PC G.P 68 [(.agg (aM x0)),(.vptr [(vI a_0),(vI a_1),(vI a_2),(vI a_3)] 0)] [] (vB r) []:=by
 refine zU G Try.func68 (yK [0,1] [] (y3 2 [1,2] [2] (z7 (zA 2 ?_))))
 obtain ⟨r2,a0,h⟩:=aA h
 refine qP (W.Kr a0) (y1 1 [3] [] (zN fun u k=>?_))
 obtain rfl:=osi h
 exact zV k [(3,vB r2)]
theorem W.nR {s0 f_0_0 f_0_1 f_0_2 f_0_3 r} (h:dG s0 f_0_0 f_0_1 f_0_2 f_0_3=some r):PC G.P 38 [(.sl (List.map aM s0)),(.fn 68 [(.vptr [(vI f_0_0),(vI f_0_1),(vI f_0_2),(vI f_0_3)] 0)])] [] (vI r) []:=by
 refine zU G Try.func38 (yK [0,1] [] (y3 1 [0,1] [] (zB (z7 (zA 1 (qL aM s0 ?_))))))
 refine y1 1 [0,1,7,8] [] (zC ?_)
 obtain ⟨a5,a2,h⟩:=aA h
 refine ql a2 (fun a4=>⟨[(0,bB s0),(1,.fn 68 [(.vptr [(vI f_0_0),(vI f_0_1),(vI f_0_2),(vI f_0_3)] 0)]),(7,vI (s0.length:Int)),(8,vI a4)],[]⟩) (fun a5=>match a5 with | .inl a3=>(.ret,⟨[(4,vI a3)],[]⟩) | .inr a6=>(.exit 0,⟨[],[]⟩)) qH (fun a4 r h=>?_) (fun u k=>?_) (hout:=(by intro x;rcases x with _ | _ <;> rfl))
 refine y3 1 [0,1,7,8,9] [] (zB (qc h (fun h=>?_) fun h=>?_))
 refine y4 [0,1,7,8] [] (zB (zC (y3 2 [0,1,5,7,8] [] (z7 (zA 3 ?_)))))
 obtain ⟨a8,a1,h⟩:=aA h
 refine qX aM a1 (zA 1 ?_)
 obtain ⟨a7,a0,h⟩:=aA h
 refine qP (W.Yg a0) (zP fun u k=>?_)
 refine yE k [0,1,5,7,8,16] [] (qc h (fun h=>?_) fun h=>?_)
 refine z8 2 ⟨[(4,vI a4)],[]⟩ fun u k=>?_
 refine aQ (aO ?_)
 cases h
 exact zF k
 refine zM fun u k=>?_
 refine aK (yE k [0,1,7,8] [] (zD (z6 2 fun u k=>?_)))
 cases h
 exact zH k
 refine zL 0 fun u k=>?_
 refine aR ?_
 cases h
 exact zF k
 rcases a5 with a3 | a6
 refine aQ (aO ?_)
 obtain rfl:=osi h
 exact zV k [(4,vI a3)]
 refine zQ (yE k [] [] (z8 1 ⟨[(4,vI (-1))],[]⟩ fun u k=>?_))
 obtain rfl:=osi h
 exact zV k [(4,vI (-1))]
theorem W.nC {s0 f_0_0 f_0_1 f_0_2 f_0_3 r} (h:bV s0 f_0_0 f_0_1 f_0_2 f_0_3=some r):PC G.P 22 [(.sl (List.map aM s0)),(.fn 68 [(.vptr [(vI f_0_0),(vI f_0_1),(vI f_0_2),(vI f_0_3)] 0)])] [] (vB r) []:=by
 refine zU G Try.func22 (yK [0,1] [] (y3 1 [0,1] [] (z7 (zA 2 ?_))))
 obtain ⟨r2,a0,h⟩:=aA h
 refine qP (W.nR a0) (y1 2 [4] [] (zN fun u k=>?_))
 obtain rfl:=osi h
 exact zV k [(4,vB (decide (r2 ≥ 0)))]
theorem W.Ji {r0 l r} (h:Dj r0 l=some r):PC G.P 50 [(.agg (aM r0)),(.sl (List.map aM l))] [] (vB r) []:=by
 refine zU G Try.func50 (yK [0,1] [] (y3 2 [1,2] [2] (z7 (zA 2 ?_))))
 obtain ⟨r2,a0,h⟩:=aA h
 refine qV [2] (W.nC a0) (y1 1 [4] [] (zN fun u k=>?_))
 obtain rfl:=osi h
 exact zV k [(4,vB r2)]
theorem W.Vy {l r} (h:tH l=some r):PC G.P 33 [(.agg (aV l))] [] (vI r) []:=by
 refine zU G Try.func33 (yK [0] [] (y3 2 [1] [1] (zB (z7 (zA 2 ?_)))))
 obtain ⟨r4,f2,h⟩:=aA h
 refine qP (W.Ku f2) (y1 1 [1,3] [1] (y3 2 [1,3,22] [1] (qc h (fun h=>?_) fun h=>?_)))
 refine z8 2 ⟨[(2,vI r4)],[]⟩ fun u k=>?_
 refine aO ?_
 obtain rfl:=osi h
 exact zV k [(2,vI r4)]
 refine y4 [1] [1] (zB (z7 (zA 2 (qL aX l.Pieces (y1 1 [1,27] [1] (qc h (fun h=>?_) fun h=>?_))))))
 refine z8 1 ⟨[(2,vI 4)],[]⟩ fun u k=>?_
 refine aO ?_
 obtain rfl:=osi h
 exact zV k [(2,vI 4)]
 refine y4 [1] [1] (zB (z7 (zA 2 (qL aX l.Pieces (y1 1 [1,29,30,31] [1] (zC ?_))))))
 obtain ⟨e7,d9,h⟩:=aA h
 refine ql d9 (fun f0=>⟨[(1,.ptr 500000 0),(29,bY l.Pieces),(30,vI (l.Pieces.length:Int)),(31,vI f0)],[(500000,.box (aV l))]⟩) (fun e7=>match e7 with | .inl e0=>(.ret,⟨[(2,vI e0)],[]⟩) | .inr f3=>(.exit 0,⟨[(1,.ptr 500000 0)],[(500000,.box (aV l))]⟩)) (sp [] [(1,500000)]) (fun f0 r h=>?_) (fun u k=>?_) (hout:=(by intro x;rcases x with _ | _ <;> rfl))
 refine y3 1 [1,29,30,31,32] [500000] (zB (qc h (fun h=>?_) fun h=>?_))
 refine y4 [1,29,30,31] [500000] (zB (zC (z7 ?_)))
 obtain ⟨f7,d8,h⟩:=aA h
 refine qX aX d8 (y1 3 [1,5,29,30,31] [5,500000] (z7 (zA 1 ?_)))
 obtain ⟨f4,d7,h⟩:=aA h
 refine qP (W.Rf d7) (y1 1 [1,6,29,30,31] [500000] (y3 2 [1,6,29,30,31,38] [500000] (qc h (fun h=>?_) fun h=>?_)))
 refine z8 2 ⟨[(2,vI f4)],[]⟩ fun u k=>?_
 refine aQ (aO ?_)
 cases h
 exact zF k
 refine zM fun u k=>?_
 refine aK (yE k [1,29,30,31] [500000] (zD (z6 2 fun u k=>?_)))
 cases h
 exact zH k
 refine zL 0 fun u k=>?_
 refine aR ?_
 cases h
 exact zF k
 rcases e7 with e0 | f3
 refine aQ (aO ?_)
 obtain rfl:=osi h
 exact zV k [(2,vI e0)]
 refine zQ (yE k [1] [500000] (y3 9 [1,7] [7,500000] (zB (z7 (zA 2 (qL aX l.Pieces ?_))))))
 refine y1 1 [1,7,49,50,51] [7,500000] (zC ?_)
 obtain ⟨c1,c9,h⟩:=aA h
 refine ql c9 (fun a5=>⟨[(1,.ptr 500000 0),(7,.ptr 500001 0),(49,bY l.Pieces),(50,vI (l.Pieces.length:Int)),(51,vI a5)],[(500000,.box (aV l)),(500001,.box [(vI 0),(vI 0),(vI l.Sheet.Width),(vI l.Sheet.Height)])]⟩) (fun c1=>match c1 with | .inl e4=>(.ret,⟨[(2,vI 13)],[]⟩) | .inr e5=>(.exit 2,⟨[(1,.ptr 500000 0)],[(500000,.box (aV l))]⟩)) (sp [] [(7,500001),(500000,500000)]) (fun a5 r h=>?_) (fun u k=>?_) (hout:=(by intro x;rcases x with _ | _ <;> rfl))
 refine y3 1 [1,7,49,50,51,52] [500000,500001] (zB (qc h (fun h=>?_) fun h=>?_))
 refine y4 [1,7,49,50,51] [500000,500001] (zB (zC (z7 ?_)))
 obtain ⟨a3,c6,h⟩:=aA h
 refine qX aX c6 (y1 3 [1,7,9,49,50,51] [9,500000,500001] (z7 (zA 2 (qL aM a3.Rects (y1 1 [1,7,49,50,51,56,57,58] [500000,500001] (zC ?_))))))
 obtain ⟨c0,c8,h⟩:=aA h
 refine ql c8 (fun a9=>⟨[(1,.ptr 500000 0),(7,.ptr 500001 0),(49,bY l.Pieces),(50,vI (l.Pieces.length:Int)),(51,vI a5),(56,bB a3.Rects),(57,vI (a3.Rects.length:Int)),(58,vI a9)],[(500000,.box (aV l)),(500001,.box [(vI 0),(vI 0),(vI l.Sheet.Width),(vI l.Sheet.Height)])]⟩) (fun c0=>match c0 with | .inl e2=>(.ret,⟨[(2,vI 13)],[]⟩) | .inr e3=>(.exit 4,⟨[(1,.ptr 500000 0),(7,.ptr 500001 0),(49,bY l.Pieces),(50,vI (l.Pieces.length:Int)),(51,vI a5)],[(500000,.box (aV l)),(500001,.box [(vI 0),(vI 0),(vI l.Sheet.Width),(vI l.Sheet.Height)])]⟩)) qH (fun a9 r h=>?_) (fun u k=>?_) (hout:=(by intro x;rcases x with _ | _ <;> rfl))
 refine y3 1 [1,7,49,50,51,56,57,58,59] [500000,500001] (zB (qc h (fun h=>?_) fun h=>?_))
 refine y4 [1,7,49,50,51,56,57,58] [500000,500001] (zB (zC (z7 ?_)))
 obtain ⟨e8,c7,h⟩:=aA h
 refine qX aM c7 (y1 3 [1,7,11,49,50,51,56,57,58] [11,500000,500001] (zB ?_))
 obtain ⟨e1,c2,h⟩:=aA h
 refine zT ⟨[(1,.ptr 500000 0),(7,.ptr 500001 0),(49,bY l.Pieces),(50,vI (l.Pieces.length:Int)),(51,vI a5),(56,bB a3.Rects),(57,vI (a3.Rects.length:Int)),(58,vI a9),(79,vB e1)],[(500000,.box (aV l)),(500001,.box [(vI 0),(vI 0),(vI l.Sheet.Width),(vI l.Sheet.Height)])]⟩ ?_ fun u k=>?_
 replace h:=c2
 refine zA 2 ?_
 obtain ⟨e6,c3,h⟩:=aA h
 refine qP (W.Dy c3) (zA 2 (zS e6 (fun b0=>⟨[(1,.ptr 500000 0),(7,.ptr 500001 0),(11,.ptr 11 0),(49,bY l.Pieces),(50,vI (l.Pieces.length:Int)),(51,vI a5),(56,bB a3.Rects),(57,vI (a3.Rects.length:Int)),(58,vI a9),(66,vB (!b0))],[(11,.box (aM e8)),(500000,.box (aV l)),(500001,.box [(vI 0),(vI 0),(vI l.Sheet.Width),(vI l.Sheet.Height)])]⟩) (fun hb=>?_) fun hb=>?_))
 replace h:=wT hb h
 refine zA 4 ?_
 obtain ⟨f5,c4,h⟩:=aA h
 refine qP (W.Ji c4) (zA 2 (qB h [1,7,11,49,50,51,56,57,58,73] [11,500000,500001] [73] (fun h=>?_) fun h=>?_))
 refine z6 6 fun u k=>?_
 cases h
 exact zG k
 refine zA 4 ?_
 obtain ⟨f6,c5,h⟩:=aA h
 refine qP (W.Ji c5) (z6 1 fun u k=>?_)
 cases h
 exact zG k
 replace h:=wS hb h
 refine z6 13 fun u k=>?_
 cases h
 exact zG k
 refine yE k [1,7,49,50,51,56,57,58,79] [500000,500001] (qc h (fun h=>?_) fun h=>?_)
 refine z8 1 ⟨[(2,vI 13)],[]⟩ fun u k=>?_
 refine aQ (aO ?_)
 cases h
 exact zF k
 refine zM fun u k=>?_
 refine aK (yE k [1,7,49,50,51,56,57,58] [500000,500001] (zD (z6 2 fun u k=>?_)))
 cases h
 exact zH k
 refine zL 4 fun u k=>?_
 refine aR ?_
 cases h
 exact zF k
 rcases c0 with e2 | e3
 refine aQ (aQ (aO ?_))
 cases h
 exact zF k
 refine zQ (aK (yE k [1,7,49,50,51] [500000,500001] (zD (z6 2 fun u k=>?_))))
 cases h
 exact zH k
 refine zL 2 fun u k=>?_
 refine aR ?_
 cases h
 exact zF k
 rcases c1 with e4 | e5
 refine aQ (aO ?_)
 obtain rfl:=osi h
 exact zV k [(2,vI 13)]
 refine zQ (yE k [1] [500000] (zB (z7 (zA 2 (qL aX l.Pieces (y1 1 [1,83,84,85] [500000] ?_))))))
 refine zC ?_
 obtain ⟨a8,b9,h⟩:=aA h
 refine ql b9 (fun a1=>⟨[(1,.ptr 500000 0),(83,bY l.Pieces),(84,vI (l.Pieces.length:Int)),(85,vI a1)],[(500000,.box (aV l))]⟩) (fun a8=>match a8 with | .inl d4=>(.ret,⟨[(2,vI 7)],[]⟩) | .inr d5=>(.exit 6,⟨[],[]⟩)) qH (fun a1 r h=>?_) (fun u k=>?_) (hout:=(by intro x;rcases x with _ | _ <;> rfl))
 refine y3 1 [1,83,84,85,86] [500000] (zB (qc h (fun h=>?_) fun h=>?_))
 refine y4 [1,83,84,85] [500000] (zB (zC (z7 (zA 1 ?_))))
 obtain ⟨a2,b4,h⟩:=aA h
 refine qX aX b4 (y1 4 [1,12,13,83,84,85] [13,500000] (z7 (zA 3 ?_)))
 obtain ⟨a0,b2,h⟩:=aA h
 refine kF (LH (c:=aX) (l:=l.Pieces) (sz:=7) (hi:=a1) (k2:=.i64) (by kernel_rfl) b2) (qL aX a0 (y1 1 [1,13,83,84,85,93,94,95] [13,500000] (zC ?_)))
 obtain ⟨a7,b8,h⟩:=aA h
 refine ql b8 (fun a4=>⟨[(1,.ptr 500000 0),(13,.ptr 500001 0),(83,bY l.Pieces),(84,vI (l.Pieces.length:Int)),(85,vI a1),(93,bY a0),(94,vI (a0.length:Int)),(95,vI a4)],[(500000,.box (aV l)),(500001,.box (aX a2))]⟩) (fun a7=>match a7 with | .inl d2=>(.ret,⟨[(2,vI 7)],[]⟩) | .inr d3=>(.exit 8,⟨[(1,.ptr 500000 0),(83,bY l.Pieces),(84,vI (l.Pieces.length:Int)),(85,vI a1)],[(500000,.box (aV l))]⟩)) (sp [] [(13,500001),(500000,500000)]) (fun a4 r h=>?_) (fun u k=>?_) (hout:=(by intro x;rcases x with _ | _ <;> rfl))
 refine y3 1 [1,13,83,84,85,93,94,95,96] [500000,500001] (zB (qc h (fun h=>?_) fun h=>?_))
 refine y4 [1,13,83,84,85,93,94,95] [500000,500001] (zB (zC (z7 ?_)))
 obtain ⟨d6,b5,h⟩:=aA h
 refine qX aX b5 (y1 3 [1,13,15,83,84,85,93,94,95] [15,500000,500001] (z7 (zA 2 (qL aM a2.Rects (y1 1 [1,13,15,83,84,85,93,94,95,100,101,102] [15,500000,500001] (zC ?_))))))
 obtain ⟨a6,b7,h⟩:=aA h
 refine ql b7 (fun b1=>⟨[(1,.ptr 500000 0),(13,.ptr 500001 0),(15,.ptr 500002 0),(83,bY l.Pieces),(84,vI (l.Pieces.length:Int)),(85,vI a1),(93,bY a0),(94,vI (a0.length:Int)),(95,vI a4),(100,bB a2.Rects),(101,vI (a2.Rects.length:Int)),(102,vI b1)],[(500000,.box (aV l)),(500001,.box (aX a2)),(500002,.box (aX d6))]⟩) (fun a6=>match a6 with | .inl d0=>(.ret,⟨[(2,vI 7)],[]⟩) | .inr d1=>(.exit 10,⟨[(1,.ptr 500000 0),(13,.ptr 500001 0),(83,bY l.Pieces),(84,vI (l.Pieces.length:Int)),(85,vI a1),(93,bY a0),(94,vI (a0.length:Int)),(95,vI a4)],[(500000,.box (aV l)),(500001,.box (aX a2))]⟩)) (sp [] [(15,500002),(500000,500000),(500001,500001)]) (fun b1 r h=>?_) (fun u k=>?_) (hout:=(by intro x;rcases x with _ | _ <;> rfl))
 refine y3 1 [1,13,15,83,84,85,93,94,95,100,101,102,103] [500000,500001,500002] (zB (qc h (fun h=>?_) fun h=>?_))
 refine y4 [1,13,15,83,84,85,93,94,95,100,101,102] [500000,500001,500002] (zB (zC (z7 ?_)))
 obtain ⟨f1,b6,h⟩:=aA h
 refine qX aM b6 (y1 3 [1,13,15,17,83,84,85,93,94,95,100,101,102] [17,500000,500001,500002] (z7 (zA 3 ?_)))
 obtain ⟨e9,b3,h⟩:=aA h
 refine qP (W.Ji b3) (zP fun u k=>?_)
 refine yE k [1,13,15,83,84,85,93,94,95,100,101,102,109] [500000,500001,500002] (qc h (fun h=>?_) fun h=>?_)
 refine z8 1 ⟨[(2,vI 7)],[]⟩ fun u k=>?_
 refine aQ (aO ?_)
 cases h
 exact zF k
 refine zM fun u k=>?_
 refine aK (yE k [1,13,15,83,84,85,93,94,95,100,101,102] [500000,500001,500002] (zD (z6 2 fun u k=>?_)))
 cases h
 exact zH k
 refine zL 10 fun u k=>?_
 refine aR ?_
 cases h
 exact zF k
 rcases a6 with d0 | d1
 refine aQ (aQ (aO ?_))
 cases h
 exact zF k
 refine zQ (aK (yE k [1,13,83,84,85,93,94,95] [500000,500001] (zD (z6 2 fun u k=>?_))))
 cases h
 exact zH k
 refine zL 8 fun u k=>?_
 refine aR ?_
 cases h
 exact zF k
 rcases a7 with d2 | d3
 refine aQ (aQ (aO ?_))
 cases h
 exact zF k
 refine zQ (aK (yE k [1,83,84,85] [500000] (zD (z6 2 fun u k=>?_))))
 cases h
 exact zH k
 refine zL 6 fun u k=>?_
 refine aR ?_
 cases h
 exact zF k
 rcases a8 with d4 | d5
 refine aQ (aO ?_)
 obtain rfl:=osi h
 exact zV k [(2,vI 7)]
 refine zQ (yE k [] [] (z8 1 ⟨[(2,vI 0)],[]⟩ fun u k=>?_))
 obtain rfl:=osi h
 exact zV k [(2,vI 0)]
theorem W.AJ {x0 r} (h:bits_Len64 x0=some r):PC G.P 95 [(vK .u64 x0)] [] (vI r) []:=by
 refine zU G Try.func95 (yK [0] [] (y3 1 [0,2] [] (eQ (fun (j1:Int×Int)=>⟨[(0,vK .u64 j1.1),(2,vI j1.2)],[]⟩) (Gs) r (by kernel_rfl) (fun j1 h=>?_) ?_)))
 refine eQ (fun (j2:Int×Int)=>⟨[(0,vK .u64 j2.1),(2,vI j2.2)],[]⟩) (Gq) r (by kernel_rfl) (fun j2 h=>?_) ?_
 refine eQ (fun (j3:Int×Int)=>⟨[(0,vK .u64 j3.1),(2,vI j3.2)],[]⟩) (Gp) r (by kernel_rfl) (fun j3 h=>?_) ?_
 refine z7 (zA 3 ?_)
 obtain ⟨x5,a0,h⟩:=aA h
 refine jL (Wq (s:=(ByteArray.mk #[0,1,2,2,3,3,3,3,4,4,4,4,4,4,4,4,5,5,5,5,5,5,5,5,5,5,5,5,5,5,5,5,6,6,6,6,6,6,6,6,6,6,6,6,6,6,6,6,6,6,6,6,6,6,6,6,6,6,6,6,6,6,6,6,7,7,7,7,7,7,7,7,7,7,7,7,7,7,7,7,7,7,7,7,7,7,7,7,7,7,7,7,7,7,7,7,7,7,7,7,7,7,7,7,7,7,7,7,7,7,7,7,7,7,7,7,7,7,7,7,7,7,7,7,7,7,7,7,8,8,8,8,8,8,8,8,8,8,8,8,8,8,8,8,8,8,8,8,8,8,8,8,8,8,8,8,8,8,8,8,8,8,8,8,8,8,8,8,8,8,8,8,8,8,8,8,8,8,8,8,8,8,8,8,8,8,8,8,8,8,8,8,8,8,8,8,8,8,8,8,8,8,8,8,8,8,8,8,8,8,8,8,8,8,8,8,8,8,8,8,8,8,8,8,8,8,8,8,8,8,8,8,8,8,8,8,8,8,8,8,8,8,8,8,8,8,8,8,8,8,8,8,8,8,8,8])) (i:=(IntKind.wrap .u8 j3.1)) (kd:=.u8) (by kernel_rfl) a0) (y1 3 [2] [] (zN fun u k=>?_))
 obtain rfl:=osi h
 exact zV k [(2,vI (aF j3.2 (IntKind.wrap .i64 x5)))]
 refine y3 2 [0,2,14] [] (qc h (fun h=>?_) fun h=>?_)
 refine y3 3 [0,2] [] (zD (z6 3 fun u k=>?_))
 exact aU ((Int.fdiv j2.1 (2^(min (Int.toNat 8) 64))),(aF j2.2 8)) h k (here (by kernel_rfl))
 refine zM fun u k=>?_
 exact aU (j2.1,j2.2) h k (here (by kernel_rfl))
 refine y3 2 [0,2,8] [] (qc h (fun h=>?_) fun h=>?_)
 refine y3 3 [0,2] [] (zD (z6 3 fun u k=>?_))
 exact aU ((Int.fdiv j1.1 (2^(min (Int.toNat 16) 64))),(aF j1.2 16)) h k (here (by kernel_rfl))
 refine zM fun u k=>?_
 exact aU (j1.1,j1.2) h k (here (by kernel_rfl))
 refine y3 2 [0,2,4] [] (qc h (fun h=>?_) fun h=>?_)
 refine y3 3 [0] [] (zD (z6 1 fun u k=>?_))
 exact aU ((Int.fdiv x0 (2^(min (Int.toNat 32) 64))),32) h k (here (by kernel_rfl))
 refine zM fun u k=>?_
 exact aU (x0,0) h k (here (by kernel_rfl))
theorem W.Vb {x0 r} (h:bits_Len x0=some r):PC G.P 80 [(vK .u64 x0)] [] (vI r) []:=by
 refine zU G Try.func80 (yK [0] [] (y3 1 [0] [] (zB (Og (by kernel_rfl) (by kernel_rfl) (y4 [0] [] (z7 ?_))))))
 refine zA 1 ?_
 obtain ⟨r2,a0,h⟩:=aA h
 refine qP (W.AJ a0) (y1 1 [2] [] (zN fun u k=>?_))
 obtain rfl:=osi h
 exact zV k [(2,vI r2)]
theorem W.Hl {x0 r} (h:cmp_isNaN_int x0=some r):PC G.P 81 [(vI x0)] [] (vB r) []:=by
 refine zU G Try.func81 (yK [0] [] (y3 1 [0] [] (z8 4 ⟨[(2,vB (x0 != x0))],[]⟩ fun u k=>?_)))
 obtain rfl:=osi h
 exact zV k [(2,vB (x0 != x0))]
theorem W.bF {x0 y r} (h:cmp_Compare_int x0 y=some r):PC G.P 71 [(vI x0),(vI y)] [] (vI r) []:=by
 refine zU G Try.func71 (yK [0,1] [] (y3 1 [0,1] [] (z7 (zA 1 ?_))))
 obtain ⟨r2,a0,h⟩:=aA h
 refine qP (W.Hl a0) (y1 1 [0,1,5] [] (z7 (zA 1 ?_)))
 obtain ⟨r4,a1,h⟩:=aA h
 refine qP (W.Hl a1) (y1 1 [0,1,5,6] [] (zB (y3 1 [0,1,6,11] [] (qc h (fun h=>?_) fun h=>?_))))
 refine zB (y3 1 [12] [] (qc h (fun h=>?_) fun h=>?_))
 refine z8 1 ⟨[(4,vI 0)],[]⟩ fun u k=>?_
 refine aO (aO ?_)
 obtain rfl:=osi h
 exact zV k [(4,vI 0)]
 refine y4 [] [] (z8 1 ⟨[(4,vI (-1))],[]⟩ fun u k=>?_)
 refine aO ?_
 obtain rfl:=osi h
 exact zV k [(4,vI (-1))]
 refine y4 [0,1,6] [] (zB (y3 1 [0,1,13] [] (qc h (fun h=>?_) fun h=>?_)))
 refine z8 1 ⟨[(4,vI 1)],[]⟩ fun u k=>?_
 refine aO ?_
 obtain rfl:=osi h
 exact zV k [(4,vI 1)]
 refine y4 [0,1] [] (zB (y3 3 [0,1,16] [] (qc h (fun h=>?_) fun h=>?_)))
 refine z8 1 ⟨[(4,vI (-1))],[]⟩ fun u k=>?_
 refine aO ?_
 obtain rfl:=osi h
 exact zV k [(4,vI (-1))]
 refine y4 [0,1] [] (zB (y3 3 [19] [] (qc h (fun h=>?_) fun h=>?_)))
 refine z8 1 ⟨[(4,vI 1)],[]⟩ fun u k=>?_
 refine aO ?_
 obtain rfl:=osi h
 exact zV k [(4,vI 1)]
 refine y4 [] [] (z8 1 ⟨[(4,vI 0)],[]⟩ fun u k=>?_)
 obtain rfl:=osi h
 exact zV k [(4,vI 0)]
theorem W.nW {a b h0 r} (h:iN a b h0=some r):PC G.P 86 [(.row (.top 1000000) 3),(vI a),(vI b),(.fn 71 [])] [(1000000,.row 3 [] (List.map cI h0))] (.tup []) [(1000000,.row 3 [] (List.map cI r))]:=by
 refine zU G Try.func86 (yK [0,1,2,3] [1000000] (y3 3 [0,1,2,3,8] [1000000] (zC ?_)))
 obtain ⟨b4,b2,h⟩:=aA h
 refine ql b2 (fun a1=>⟨[(0,ro 1000000 3),(1,vI a),(2,vI b),(3,.fn 71 []),(8,vI a1.1)],[(1000000,wI 3 a1.2)]⟩) (fun b4=>(.exit 0,⟨[],[(1000000,wI 3 b4)]⟩)) qH (fun a1 r h=>?_) fun u k=>?_
 refine zB (y3 3 [0,1,2,3,8,14] [1000000] (qc h (fun h=>?_) fun h=>?_))
 refine y4 [0,1,2,3,8] [1000000] (zB (zC (y3 2 [0,1,2,3,8,9] [1000000] (zC ?_))))
 obtain ⟨b3,b1,h⟩:=aA h
 refine ql b1 (fun a0=>⟨[(0,ro 1000000 3),(1,vI a),(2,vI b),(3,.fn 71 []),(8,vI a1.1),(9,vI a0.1)],[(1000000,wI 3 a0.2)]⟩) (fun b3=>(.exit 2,⟨[(0,ro 1000000 3),(1,vI a),(2,vI b),(3,.fn 71 []),(8,vI a1.1)],[(1000000,wI 3 b3)]⟩)) qH (fun a0 r h=>?_) fun u k=>?_
 refine zB (zB ?_)
 obtain ⟨b5,a8,h⟩:=aA h
 refine nQ ⟨[(0,ro 1000000 3),(1,vI a),(2,vI b),(3,.fn 71 []),(8,vI a1.1),(9,vI a0.1),(34,vB b5)],[(1000000,wI 3 a0.2)]⟩ [] [] [] [] [] 14 (by kernel_rfl) (by kernel_rfl) (by kernel_rfl) ?_ fun u k=>?_
 replace h:=a8
 refine dN 4 (mO (decide (a0.1>a)) (fun b0=>⟨[(21,vB b0),(20,vB b0),(19,vI a),(18,vI a0.1),(0,ro 1000000 3),(1,vI a),(2,vI b),(3,.fn 71 []),(8,vI a1.1),(9,vI a0.1)],[(1000000,wI 3 a0.2)]⟩) (by kernel_rfl) (fun hb=>?_) fun hb=>?_)
 replace h:=wT hb h
 refine dN 3 ?_
 obtain ⟨b9,a2,h⟩:=aA h
 refine dI cI a2 (dR cI a2 (dN 3 ?_))
 obtain ⟨c0,a3,h⟩:=aA h
 refine dI cI a3 (dR cI a3 (dE ?_))
 obtain ⟨b8,a9,h⟩:=aA h
 refine oP (W.bF a9) (oN 2 (zO fun u k=>?_))
 cases h
 exact zG k
 replace h:=wS hb h
 refine dN 10 (dE (oN 3 (zO fun u k=>?_)))
 cases h
 exact zG k
 refine yE k [0,1,2,3,8,9,34] [1000000] (qc h (fun h=>?_) fun h=>?_)
 refine y4 [0,1,2,3,8,9] [1000000] (zB (zC (qN [(15,[1000000])] [] [] [(2,[1000000]),(3,[1000000]),(4,[1000000])] [] 16 (dN 8 ?_))))
 obtain ⟨b6,a4,h⟩:=aA h
 refine dI cI a4 (dR cI a4 (dN 2 ?_))
 obtain ⟨b7,a5,h⟩:=aA h
 refine dI cI a5 (dR cI a5 ?_)
 obtain ⟨c1,a6,h⟩:=aA h
 refine dI cI a6 (dS cI b6 a6 (dE ?_))
 obtain ⟨c2,a7,h⟩:=aA h
 refine oI cI a7 (oS cI b7 a7 (zO fun u k=>?_))
 refine aK (yE k [0,1,2,3,8,9] [1000000] (zD (z6 3 fun u k=>?_)))
 cases h
 exact zH k
 refine zL 2 fun u k=>?_
 refine aR ?_
 cases h
 exact zF k
 refine zQ (aK (yE k [0,1,2,3,8] [1000000] (zD (z6 3 fun u k=>?_))))
 cases h
 exact zH k
 refine zL 0 fun u k=>?_
 refine aR ?_
 cases h
 exact zF k
 refine zQ ?_
 obtain rfl:=osi h
 exact wH k [] (here (by kernel_rfl)) (by kernel_rfl)
theorem W.jH {lo hi first h0 r} (h:fD lo hi first h0=some r):PC G.P 97 [(.row (.top 1000000) 3),(vI lo),(vI hi),(vI first),(.fn 71 [])] [(1000000,.row 3 [] (List.map cI h0))] (.tup []) [(1000000,.row 3 [] (List.map cI r))]:=by
 refine zU G Try.func97 (yK [0,1,2,3,4] [1000000] (y3 2 [0,2,3,4,10] [1000000] (zC ?_)))
 obtain ⟨a9,b4,h⟩:=aA h
 refine ql b4 (fun a0=>⟨[(0,ro 1000000 3),(2,vI hi),(3,vI first),(4,.fn 71 []),(10,vI a0.1)],[(1000000,wI 3 a0.2)]⟩) (fun a9=>match a9 with | .inl b6=>(.exit 0,⟨[],[(1000000,wI 3 b6)]⟩) | .inr b7=>(.ret,⟨[],[(1000000,wI 3 b7)]⟩)) qH (fun a0 r h=>?_) (fun u k=>?_) (hout:=(by intro x;rcases x with _ | _ <;> rfl))
 refine zC (y3 4 [0,2,3,4,10,11] [1000000] (zB (y3 3 [0,2,3,4,10,11,18] [1000000] (qc h (fun h=>?_) fun h=>?_))))
 refine zL 0 fun u k=>?_
 refine aR (Qt (by kernel_rfl) ?_)
 cases h
 exact zF k
 refine y4 [0,2,3,4,10,11] [1000000] (eQ (fun (b5:Int)=>⟨[(0,ro 1000000 3),(2,vI hi),(3,vI first),(4,.fn 71 []),(10,vI a0.1),(11,vI b5)],[(1000000,wI 3 a0.2)]⟩) (dY first a0) r (by kernel_rfl) (fun b5 h=>?_) ?_)
 refine zB (zB (qM 13 (dN 5 ?_)))
 obtain ⟨c3,a1,h⟩:=aA h
 refine dI cI a1 (dR cI a1 (dN 4 ?_))
 obtain ⟨c4,a2,h⟩:=aA h
 refine dI cI a2 (dR cI a2 (dE ?_))
 obtain ⟨c1,b2,h⟩:=aA h
 refine oP (W.bF b2) (oN 2 (zO fun u k=>?_))
 refine yE k [0,2,3,4,10,11,58] [1000000] (qc h (fun h=>?_) fun h=>?_)
 refine zN fun u k=>?_
 refine aO (aQ ?_)
 cases h
 exact zF k
 refine y4 [0,2,3,4,10,11] [1000000] (zB (qN [(21,[1000000])] [] [] [(4,[1000000]),(5,[1000000]),(6,[1000000]),(7,[1000000])] [] 22 (dN 12 ?_)))
 obtain ⟨b9,a3,h⟩:=aA h
 refine dI cI a3 (dR cI a3 (dN 4 ?_))
 obtain ⟨c0,a4,h⟩:=aA h
 refine dI cI a4 (dR cI a4 ?_)
 obtain ⟨c5,a5,h⟩:=aA h
 refine dI cI a5 (dS cI b9 a5 (dE ?_))
 obtain ⟨c6,a6,h⟩:=aA h
 refine oI cI a6 (oS cI c0 a6 (zO fun u k=>?_))
 refine yE k [0,2,3,4,11] [1000000] (zD (z6 2 fun u k=>?_))
 refine aK ?_
 cases h
 exact zH k
 refine zB ?_
 obtain ⟨b8,b1,h⟩:=aA h
 refine nQ ⟨[(0,ro 1000000 3),(2,vI hi),(3,vI first),(4,.fn 71 []),(10,vI a0.1),(11,vI (aF (lL 2 a0.1) 1)),(40,vB b8)],[(1000000,wI 3 a0.2)]⟩ [] [] [] [] [] 19 (by kernel_rfl) (by kernel_rfl) (by kernel_rfl) ?_ fun u k=>?_
 replace h:=b1
 refine dN 5 (mO (decide ((aF (aF (lL 2 a0.1) 1) 1)<hi)) (fun b0=>⟨[(23,vB b0),(22,vB b0),(21,vI hi),(20,vI (aF (aF (lL 2 a0.1) 1) 1)),(19,vI (aF (lL 2 a0.1) 1)),(0,ro 1000000 3),(2,vI hi),(3,vI first),(4,.fn 71 []),(10,vI a0.1),(11,vI (aF (lL 2 a0.1) 1))],[(1000000,wI 3 a0.2)]⟩) (by kernel_rfl) (fun hb=>?_) fun hb=>?_)
 replace h:=wT hb h
 refine dN 5 ?_
 obtain ⟨c7,a7,h⟩:=aA h
 refine dI cI a7 (dR cI a7 (dN 5 ?_))
 obtain ⟨c8,a8,h⟩:=aA h
 refine dI cI a8 (dR cI a8 (dE ?_))
 obtain ⟨c2,b3,h⟩:=aA h
 refine oP (W.bF b3) (oN 2 (zO fun u k=>?_))
 cases h
 exact zG k
 replace h:=wS hb h
 refine dN 14 (dE (oN 3 (zO fun u k=>?_)))
 cases h
 exact zG k
 refine yE k [0,2,3,4,10,11,40] [1000000] (qc h (fun h=>?_) fun h=>?_)
 refine zD (z6 3 fun u k=>?_)
 exact aU (aF (aF (lL 2 a0.1) 1) 1) h k (here (by kernel_rfl))
 refine zM fun u k=>?_
 exact aU (aF (lL 2 a0.1) 1) h k (here (by kernel_rfl))
 rcases a9 with b6 | b7
 refine zQ ?_
 obtain rfl:=osi h
 exact wH k [] (here (by kernel_rfl)) (by kernel_rfl)
 refine aQ ?_
 obtain rfl:=osi h
 exact zV k []
theorem W.rX {a b h0 r} (h:kD a b h0=some r):PC G.P 87 [(.row (.top 1000000) 3),(vI a),(vI b),(.fn 71 [])] [(1000000,.row 3 [] (List.map cI h0))] (.tup []) [(1000000,.row 3 [] (List.map cI r))]:=by
 refine zU G Try.func87 (yK [0,1,2,3] [1000000] (y3 2 [0,1,2,3,8] [1000000] (y3 1 [0,1,2,3,8,9] [1000000] (y3 4 [0,3,8,9,10] [1000000] (zB (y3 4 [0,3,8,9,10,11] [1000000] ?_))))))
 refine zC ?_
 obtain ⟨b3,a8,h⟩:=aA h
 refine ql a8 (fun a9=>⟨[(0,ro 1000000 3),(3,.fn 71 []),(8,vI a),(9,vI 0),(10,vI (aH b a)),(11,vI a9.1)],[(1000000,wI 3 a9.2)]⟩) (fun b3=>(.exit 0,⟨[(0,ro 1000000 3),(3,.fn 71 []),(8,vI a),(9,vI 0),(10,vI (aH b a))],[(1000000,wI 3 b3)]⟩)) qH (fun a9 r h=>?_) fun u k=>?_
 refine zB (y3 2 [0,3,8,9,10,11,21] [1000000] (qc h (fun h=>?_) fun h=>?_))
 refine y4 [0,3,8,9,10,11] [1000000] (zB (zC (zD (zA 5 ?_))))
 obtain ⟨b7,a7,h⟩:=aA h
 refine qC [(1000000,1000000)] [] (W.jH a7) (zP fun u k=>?_)
 refine aK (yE k [0,3,8,9,10,11] [1000000] (zD (z6 3 fun u k=>?_)))
 cases h
 exact zH k
 refine zL 0 fun u k=>?_
 refine aR ?_
 cases h
 exact zF k
 refine zQ (yE k [0,3,8,9,10] [1000000] (y3 3 [0,3,8,9,12] [1000000] (zC ?_)))
 obtain ⟨a6,a5,h⟩:=aA h
 refine ql a5 (fun b0=>⟨[(0,ro 1000000 3),(3,.fn 71 []),(8,vI a),(9,vI 0),(12,vI b0.1)],[(1000000,wI 3 b0.2)]⟩) (fun a6=>(.exit 2,⟨[],[(1000000,wI 3 a6)]⟩)) qH (fun b0 r h=>?_) fun u k=>?_
 refine zB (y3 2 [0,3,8,9,12,33] [1000000] (qc h (fun h=>?_) fun h=>?_))
 refine y4 [0,3,8,9,12] [1000000] (zB (zC (zB (qN [(17,[1000000])] [] [] [(2,[1000000]),(3,[1000000]),(4,[1000000]),(5,[1000000])] [] 18 (dN 10 ?_)))))
 obtain ⟨b1,a0,h⟩:=aA h
 refine dI cI a0 (dR cI a0 (dN 2 ?_))
 obtain ⟨b2,a1,h⟩:=aA h
 refine dI cI a1 (dR cI a1 ?_)
 obtain ⟨b5,a2,h⟩:=aA h
 refine dI cI a2 (dS cI b1 a2 (dE ?_))
 obtain ⟨b6,a3,h⟩:=aA h
 refine oI cI a3 (oS cI b2 a3 (zO fun u k=>?_))
 refine yE k [0,3,8,9,12] [1000000] (zD (zA 5 ?_))
 obtain ⟨b4,a4,h⟩:=aA h
 refine qC [(1000000,1000000)] [] (W.jH a4) (zP fun u k=>?_)
 refine aK (yE k [0,3,8,9,12] [1000000] (zD (z6 3 fun u k=>?_)))
 cases h
 exact zH k
 refine zL 2 fun u k=>?_
 refine aR ?_
 cases h
 exact zF k
 refine zQ ?_
 obtain rfl:=osi h
 exact wH k [] (here (by kernel_rfl)) (by kernel_rfl)
theorem W.Gy {length r} (h:yT length=some r):PC G.P 98 [(vI length)] [] (vK .u64 r) []:=by
 refine zU G Try.func98 (yK [0] [] (y3 1 [0] [] (z7 (zA 2 ?_))))
 obtain ⟨r2,a0,h⟩:=aA h
 refine qP (W.Vb a0) ?_
 obtain ⟨hb,h⟩:=XN h
 refine kF (F8 (a:=1) (b:=r2) (kd:=.u64) (k2:=.i64) (by kernel_rfl) (of_decide_eq_true hb)) (y1 1 [2] [] (zN fun u k=>?_))
 obtain rfl:=osi h
 exact zV k [(2,vK .u64 (IntKind.wrap .u64 (1*2^(min (Int.toNat r2) 64))))]
theorem W.Iw {h0_0 r} (h:Be h0_0=some r):PC G.P 99 [(.ptr 1000000 0)] [(1000000,.box [(vK .u64 h0_0)])] (vK .u64 r) [(1000000,.box [(vK .u64 (jI .u64 (jI .u64 (jI .u64 h0_0 (IntKind.wrap .u64 (h0_0*2^(min (Int.toNat 13) 64)))) (Int.fdiv (jI .u64 h0_0 (IntKind.wrap .u64 (h0_0*2^(min (Int.toNat 13) 64)))) (2^(min (Int.toNat 7) 64)))) (IntKind.wrap .u64 ((jI .u64 (jI .u64 h0_0 (IntKind.wrap .u64 (h0_0*2^(min (Int.toNat 13) 64)))) (Int.fdiv (jI .u64 h0_0 (IntKind.wrap .u64 (h0_0*2^(min (Int.toNat 13) 64)))) (2^(min (Int.toNat 7) 64))))*2^(min (Int.toNat 17) 64)))))])]:=by
 refine zU G Try.func99 (yK [0] [1000000] (y3 1 [0] [1000000] (zB (qM 7 (dN 7 (dE ?_))))))
 refine oN 3 (zO fun u k=>?_)
 refine yE k [0] [1000000] (zB (qM 7 (dN 7 (dE (oN 3 (zO fun u k=>?_))))))
 refine yE k [0] [1000000] (zB (qM 7 (dN 7 (dE (oN 3 (zO fun u k=>?_))))))
 refine yE k [0] [1000000] (z8 4 ⟨[(2,vK .u64 (jI .u64 (jI .u64 (jI .u64 h0_0 (IntKind.wrap .u64 (h0_0*2^(min (Int.toNat 13) 64)))) (Int.fdiv (jI .u64 h0_0 (IntKind.wrap .u64 (h0_0*2^(min (Int.toNat 13) 64)))) (2^(min (Int.toNat 7) 64)))) (IntKind.wrap .u64 ((jI .u64 (jI .u64 h0_0 (IntKind.wrap .u64 (h0_0*2^(min (Int.toNat 13) 64)))) (Int.fdiv (jI .u64 h0_0 (IntKind.wrap .u64 (h0_0*2^(min (Int.toNat 13) 64)))) (2^(min (Int.toNat 7) 64))))*2^(min (Int.toNat 17) 64)))))],[(1000000,.box [(vK .u64 (jI .u64 (jI .u64 (jI .u64 h0_0 (IntKind.wrap .u64 (h0_0*2^(min (Int.toNat 13) 64)))) (Int.fdiv (jI .u64 h0_0 (IntKind.wrap .u64 (h0_0*2^(min (Int.toNat 13) 64)))) (2^(min (Int.toNat 7) 64)))) (IntKind.wrap .u64 ((jI .u64 (jI .u64 h0_0 (IntKind.wrap .u64 (h0_0*2^(min (Int.toNat 13) 64)))) (Int.fdiv (jI .u64 h0_0 (IntKind.wrap .u64 (h0_0*2^(min (Int.toNat 13) 64)))) (2^(min (Int.toNat 7) 64))))*2^(min (Int.toNat 17) 64)))))])]⟩ fun u k=>?_)
 obtain rfl:=osi h
 exact zV k [(2,vK .u64 (jI .u64 (jI .u64 (jI .u64 h0_0 (IntKind.wrap .u64 (h0_0*2^(min (Int.toNat 13) 64)))) (Int.fdiv (jI .u64 h0_0 (IntKind.wrap .u64 (h0_0*2^(min (Int.toNat 13) 64)))) (2^(min (Int.toNat 7) 64)))) (IntKind.wrap .u64 ((jI .u64 (jI .u64 h0_0 (IntKind.wrap .u64 (h0_0*2^(min (Int.toNat 13) 64)))) (Int.fdiv (jI .u64 h0_0 (IntKind.wrap .u64 (h0_0*2^(min (Int.toNat 13) 64)))) (2^(min (Int.toNat 7) 64))))*2^(min (Int.toNat 17) 64)))))]
theorem W.nT {a b h0 r} (h:iM a b h0=some r):PC G.P 88 [(.row (.top 1000000) 3),(vI a),(vI b),(.fn 71 [])] [(1000000,.row 3 [] (List.map cI h0))] (.tup []) [(1000000,.row 3 [] (List.map cI r))]:=by
 refine zU G Try.func88 (yK [0,1,2] [1000000] (y3 4 [0,1,8] [1000000] (y3 2 [0,1,8,17] [1000000] (qc h (fun h=>?_) fun h=>?_))))
 refine y3 4 [0,1,8,9] [9,1000000] (z7 (zA 1 ?_))
 obtain ⟨r2,b0,h⟩:=aA h
 refine qP (W.Gy b0) (y1 1 [0,1,8,9,10] [9,1000000] (y3 7 [0,1,8,9,10,11] [9,1000000] (zC ?_)))
 obtain ⟨a9,a6,h⟩:=aA h
 refine ql a6 (fun a0=>⟨[(0,ro 1000000 3),(1,vI a),(8,vI (aH b a)),(9,.ptr 500000 0),(10,vK .u64 r2),(11,vI a0.1)],[(500000,.box [(vK .u64 a0.2.1)]),(1000000,wI 3 a0.2.2)]⟩) (fun a9=>(.exit 0,⟨[],[(1000000,wI 3 a9)]⟩)) (sp [] [(9,500000),(1000000,1000000)]) (fun a0 r h=>?_) fun u k=>?_
 refine zB (y3 8 [0,1,8,9,10,11,35] [500000,1000000] (qc h (fun h=>?_) fun h=>?_))
 refine y4 [0,1,8,9,10,11] [500000,1000000] (zB (zC (z7 ?_)))
 obtain ⟨a8,a5,h⟩:=aA h
 refine qC [(1000000,500000)] [] (W.Iw a5) (y1 5 [0,1,8,9,10,11,12] [500000,1000000] (eQ (fun (a7:Int)=>⟨[(0,ro 1000000 3),(1,vI a),(8,vI (aH b a)),(9,.ptr 500000 0),(10,vK .u64 r2),(11,vI a0.1),(12,vI a7)],[(500000,.box [(vK .u64 (jI .u64 (jI .u64 (jI .u64 a0.2.1 (IntKind.wrap .u64 (a0.2.1*2^(min (Int.toNat 13) 64)))) (Int.fdiv (jI .u64 a0.2.1 (IntKind.wrap .u64 (a0.2.1*2^(min (Int.toNat 13) 64)))) (2^(min (Int.toNat 7) 64)))) (IntKind.wrap .u64 ((jI .u64 (jI .u64 a0.2.1 (IntKind.wrap .u64 (a0.2.1*2^(min (Int.toNat 13) 64)))) (Int.fdiv (jI .u64 a0.2.1 (IntKind.wrap .u64 (a0.2.1*2^(min (Int.toNat 13) 64)))) (2^(min (Int.toNat 7) 64))))*2^(min (Int.toNat 17) 64)))))]),(1000000,wI 3 a0.2.2)]⟩) (bX a a0) r (by kernel_rfl) (fun a7 h=>?_) ?_))
 refine qN [(17,[1000000])] [] [] [(2,[1000000]),(3,[1000000]),(4,[1000000]),(5,[1000000])] [] 18 (dN 10 ?_)
 obtain ⟨b1,a1,h⟩:=aA h
 refine dI cI a1 (dR cI a1 (dN 2 ?_))
 obtain ⟨b2,a2,h⟩:=aA h
 refine dI cI a2 (dR cI a2 ?_)
 obtain ⟨b3,a3,h⟩:=aA h
 refine dI cI a3 (dS cI b1 a3 (dE ?_))
 obtain ⟨b4,a4,h⟩:=aA h
 refine oI cI a4 (oS cI b2 a4 (zO fun u k=>?_))
 refine aK (yE k [0,1,8,9,10,11] [500000,1000000] (zD (z6 3 fun u k=>?_)))
 cases h
 exact zH k
 refine y3 3 [0,1,8,9,10,11,12,45] [500000,1000000] (qc h (fun h=>?_) fun h=>?_)
 refine zD (z6 4 fun u k=>?_)
 exact aU (aH (IntKind.wrap .i64 (Ru .u64 a8 (IntKind.wrap .u64 (r2-1)))) (aH b a)) h k (here (by kernel_rfl))
 refine zM fun u k=>?_
 exact aU (IntKind.wrap .i64 (Ru .u64 a8 (IntKind.wrap .u64 (r2-1)))) h k (here (by kernel_rfl))
 refine zL 0 fun u k=>?_
 refine aR ?_
 cases h
 exact zF k
 refine zQ ?_
 obtain rfl:=osi h
 exact wH k [] (here (by kernel_rfl)) (by kernel_rfl)
 refine zM fun u k=>?_
 obtain rfl:=osi h
 exact wH k [] (here (by kernel_rfl)) (by kernel_rfl)
theorem W.eU {data a b h0_0 r} (h:cK data a b h0_0=some r):PC G.P 106 [(.sl (List.map cI data)),(vI a),(vI b),(.ptr 1000000 0),(.fn 71 [])] [(1000000,.box [(vI h0_0)])] (.tup [(vI r.1),(vI r.2.1)]) [(1000000,.box [(vI r.2.2)])]:=by
 refine zU G Try.func106 (yK [0,1,2,3,4] [1000000] (y3 2 [0,1,2,3,4] [1000000] (zB (zB (qM 9 (dN 3 ?_))))))
 obtain ⟨a4,a1,h⟩:=aA h
 refine dX cI a1 (dN 3 ?_)
 obtain ⟨a5,a2,h⟩:=aA h
 refine dX cI a2 (dN 1 (dE ?_))
 obtain ⟨a3,a0,h⟩:=aA h
 refine oP (W.bF a0) (oN 1 (zO fun u k=>?_))
 refine yE k [1,2,3,22] [1000000] (qc h (fun h=>?_) fun h=>?_)
 refine y3 6 [1,2] [1000000] (z8 4 ⟨[(10,vI b),(11,vI a)],[(1000000,.box [(vI (aF h0_0 1))])]⟩ fun u k=>?_)
 refine aO ?_
 obtain rfl:=osi h
 exact zV k [(10,vI b),(11,vI a)]
 refine y4 [1,2] [1000000] (z8 4 ⟨[(10,vI a),(11,vI b)],[(1000000,.box [(vI h0_0)])]⟩ fun u k=>?_)
 obtain rfl:=osi h
 exact zV k [(10,vI a),(11,vI b)]
theorem W.jW {data a b c h0_0 r} (h:fJ data a b c h0_0=some r):PC G.P 101 [(.sl (List.map cI data)),(vI a),(vI b),(vI c),(.ptr 1000000 0),(.fn 71 [])] [(1000000,.box [(vI h0_0)])] (vI r.1) [(1000000,.box [(vI r.2)])]:=by
 refine zU G Try.func101 (yK [0,1,2,3,4,5] [1000000] (y3 1 [0,1,2,3,4,5] [1000000] (z7 (zA 5 ?_))))
 obtain ⟨r2,a0,h⟩:=aA h
 refine qC [(1000000,1000000)] [] (W.eU a0) (y1 5 [0,1,2,3,4,5] [1000000] (z7 (zA 5 ?_)))
 obtain ⟨r4,a1,h⟩:=aA h
 refine qC [(1000000,1000000)] [] (W.eU a1) (y1 5 [0,1,2,4,5] [1000000] (z7 (zA 5 ?_)))
 obtain ⟨r6,a2,h⟩:=aA h
 refine qC [(1000000,1000000)] [] (W.eU a2) (y1 5 [2] [1000000] (z8 2 ⟨[(12,vI r6.2.1)],[(1000000,.box [(vI r6.2.2)])]⟩ fun u k=>?_))
 obtain rfl:=osi h
 exact zV k [(12,vI r6.2.1)]
theorem W.bT {data a h0_0 r} (h:bH data a h0_0=some r):PC G.P 100 [(.sl (List.map cI data)),(vI a),(.ptr 1000000 0),(.fn 71 [])] [(1000000,.box [(vI h0_0)])] (vI r.1) [(1000000,.box [(vI r.2)])]:=by
 refine zU G Try.func100 (yK [0,1,2,3] [1000000] (y3 1 [0,1,2,3] [1000000] (z7 (zA 8 ?_))))
 obtain ⟨r2,a0,h⟩:=aA h
 refine qC [(1000000,1000000)] [] (W.jW a0) (y1 1 [8] [1000000] (zN fun u k=>?_))
 obtain rfl:=osi h
 exact zV k [(8,vI r2.1)]
theorem W.oU {data a b r} (h:jG data a b=some r):PC G.P 89 [(.sl (List.map cI data)),(vI a),(vI b),(.fn 71 [])] [] (.tup [(vI r.1),(vI r.2)]) []:=by
 refine zU G Try.func89 (yK [0,1,2,3] [] (y3 2 [0,1,2,3] [] (y3 4 [0,1,3,10] [] (y3 1 [0,1,3,10,11] [11] (y3 6 [0,1,3,10,11,12] [11] (y3 6 [0,1,3,10,11,12,13] [11] ?_))))))
 refine y3 6 [0,3,10,11,12,13,14] [11] (eQ (fun (a0:Int×Int)=>⟨[(11,.ptr 500000 0),(13,vI a0.1)],[(500000,.box [(vI a0.2)])]⟩) (dA) r (by kernel_rfl) (fun a0 h=>?_) ?_)
 refine y3 1 [13,55] [] (zC (y3 2 [13,55,57] [] (qc h (fun h=>?_) fun h=>?_)))
 refine z8 3 ⟨[(8,vI a0.1),(9,vI 1)],[]⟩ fun u k=>?_
 refine aQ ?_
 obtain rfl:=osi h
 exact zV k [(8,vI a0.1),(9,vI 1)]
 refine y3 2 [13,60] [] (qc h (fun h=>?_) fun h=>?_)
 refine z8 3 ⟨[(8,vI a0.1),(9,vI 2)],[]⟩ fun u k=>?_
 refine aQ ?_
 obtain rfl:=osi h
 exact zV k [(8,vI a0.1),(9,vI 2)]
 refine z8 3 ⟨[(8,vI a0.1),(9,vI 0)],[]⟩ fun u k=>?_
 refine aQ ?_
 obtain rfl:=osi h
 exact zV k [(8,vI a0.1),(9,vI 0)]
 refine y3 2 [0,3,10,11,12,13,14,34] [11] (qc h (fun h=>?_) fun h=>?_)
 refine eQ (fun (a1:Int×Int×Int×Int)=>⟨[(0,sI data),(3,.fn 71 []),(11,.ptr 500000 0),(12,vI a1.1),(13,vI a1.2.1),(14,vI a1.2.2.1)],[(500000,.box [(vI a1.2.2.2)])]⟩) (dB data) r (by kernel_rfl) (fun a1 h=>?_) ?_
 refine zD (zA 5 ?_)
 obtain ⟨a6,a2,h⟩:=aA h
 refine qC [(1000000,500000)] [] (W.jW a2) (z6 1 fun u k=>?_)
 exact aU (a6.1,a6.2) h k (here (by kernel_rfl))
 refine y3 2 [0,3,11,12,13,14,36] [11] (qc h (fun h=>?_) fun h=>?_)
 refine z7 (zA 3 ?_)
 obtain ⟨a8,a3,h⟩:=aA h
 refine qC [(1000000,11)] [] (W.bT a3) (y1 1 [0,3,11,12,13,14] [11] (z7 (zA 3 ?_)))
 obtain ⟨a9,a4,h⟩:=aA h
 refine qC [(1000000,11)] [] (W.bT a4) (y1 1 [0,3,11,12,13,14] [11] (zD (zA 3 ?_)))
 obtain ⟨a7,a5,h⟩:=aA h
 refine qC [(1000000,11)] [] (W.bT a5) (z6 1 fun u k=>?_)
 exact aU (a8.1,a9.1,a7.1,a7.2) h k (sp [] [(11,500000)])
 refine zM fun u k=>?_
 exact aU ((aF a (lL (wN (aH b a) 4) 1)),(aF a (lL (wN (aH b a) 4) 2)),(aF a (lL (wN (aH b a) 4) 3)),0) h k (sp [] [(11,500000)])
 refine zM fun u k=>?_
 exact aU ((aF a (lL (wN (aH b a) 4) 2)),0) h k (sp [] [(11,500000)])
theorem W.oM {a b h0 r} (h:iT a b h0=some r):PC G.P 90 [(.row (.top 1000000) 3),(vI a),(vI b),(.fn 71 [])] [(1000000,.row 3 [] (List.map cI h0))] (.tup []) [(1000000,.row 3 [] (List.map cI r))]:=by
 refine zU G Try.func90 (yK [0,1,2] [1000000] (y3 2 [0,2,8] [1000000] (y3 3 [0,8,9] [1000000] (zC ?_))))
 obtain ⟨a6,a5,h⟩:=aA h
 refine ql a5 (fun a4=>⟨[(0,ro 1000000 3),(8,vI a4.1),(9,vI a4.2.1)],[(1000000,wI 3 a4.2.2)]⟩) (fun a6=>(.exit 0,⟨[],[(1000000,wI 3 a6)]⟩)) qH (fun a4 r h=>?_) fun u k=>?_
 refine zB (y3 3 [0,8,9,15] [1000000] (qc h (fun h=>?_) fun h=>?_))
 refine y4 [0,8,9] [1000000] (zC (zB (qN [(13,[1000000])] [] [] [(2,[1000000]),(3,[1000000])] [] 14 (dN 6 ?_))))
 obtain ⟨a7,a0,h⟩:=aA h
 refine dI cI a0 (dR cI a0 (dN 2 ?_))
 obtain ⟨a8,a1,h⟩:=aA h
 refine dI cI a1 (dR cI a1 ?_)
 obtain ⟨a9,a2,h⟩:=aA h
 refine dI cI a2 (dS cI a7 a2 (dE ?_))
 obtain ⟨b0,a3,h⟩:=aA h
 refine oI cI a3 (oS cI a8 a3 (zO fun u k=>?_))
 refine yE k [0,8,9] [1000000] (y3 3 [0,8,9] [1000000] (zD (z6 3 fun u k=>?_)))
 refine aK ?_
 cases h
 exact zH k
 refine zL 0 fun u k=>?_
 refine aR ?_
 cases h
 exact zF k
 refine zQ ?_
 obtain rfl:=osi h
 exact wH k [] (here (by kernel_rfl)) (by kernel_rfl)
theorem W.lV {a b h0 r} (h:fG a b h0=some r):PC G.P 91 [(.row (.top 1000000) 3),(vI a),(vI b),(.fn 71 [])] [(1000000,.row 3 [] (List.map cI h0))] (vB r.1) [(1000000,.row 3 [] (List.map cI r.2))]:=by
 refine zU G Try.func91 (yK [0,1,2,3] [1000000] (y3 1 [0,1,2,3] [1000000] (y3 3 [0,1,2,3,9] [1000000] (zB (y3 1 [0,1,2,3,9,10] [1000000] (zC ?_))))))
 obtain ⟨d0,e0,h⟩:=aA h
 refine ql e0 (fun a0=>⟨[(0,ro 1000000 3),(1,vI a),(2,vI b),(3,.fn 71 []),(9,vI a0.1),(10,vI a0.2.1)],[(1000000,wI 3 a0.2.2)]⟩) (fun d0=>match d0 with | .inl a3=>(.ret,⟨[(8,vB a3.1)],[(1000000,wI 3 a3.2)]⟩) | .inr c5=>(.exit 0,⟨[],[(1000000,wI 3 c5)]⟩)) qH (fun a0 r h=>?_) (fun u k=>?_) (hout:=(by intro x;rcases x with _ | _ <;> rfl))
 refine zB (y3 2 [0,1,2,3,9,10,16] [1000000] (qc h (fun h=>?_) fun h=>?_))
 refine y4 [0,1,2,3,9,10] [1000000] (eQ (fun (c3:Int×(List Int))=>⟨[(0,ro 1000000 3),(1,vI a),(2,vI b),(3,.fn 71 []),(9,vI c3.1),(10,vI a0.2.1)],[(1000000,wI 3 c3.2)]⟩) (bJ a0) r (by kernel_rfl) (fun c3 h=>?_) ?_)
 refine zD (z6 3 fun u k=>?_)
 cases h
 exact zH k
 refine zC (zB (zC ?_))
 obtain ⟨a1,d7,h⟩:=aA h
 refine ql d7 (fun a2=>⟨[(0,ro 1000000 3),(1,vI a),(2,vI b),(3,.fn 71 []),(9,vI a2),(10,vI a0.2.1)],[(1000000,wI 3 a0.2.2)]⟩) (fun a1=>(.exit 2,⟨[(0,ro 1000000 3),(1,vI a),(2,vI b),(3,.fn 71 []),(9,vI a1),(10,vI a0.2.1)],[(1000000,wI 3 a0.2.2)]⟩)) qH (fun a2 r h=>?_) fun u k=>?_
 refine zB (zB ?_)
 obtain ⟨e1,d3,h⟩:=aA h
 refine nQ ⟨[(0,ro 1000000 3),(1,vI a),(2,vI b),(3,.fn 71 []),(9,vI a2),(10,vI a0.2.1),(36,vB e1)],[(1000000,wI 3 a0.2.2)]⟩ [] [] [] [] [] 14 (by kernel_rfl) (by kernel_rfl) (by kernel_rfl) ?_ fun u k=>?_
 replace h:=d3
 refine dN 4 (mO (decide (a2<b)) (fun b0=>⟨[(22,vB b0),(21,vB b0),(20,vI b),(19,vI a2),(0,ro 1000000 3),(1,vI a),(2,vI b),(3,.fn 71 []),(9,vI a2),(10,vI a0.2.1)],[(1000000,wI 3 a0.2.2)]⟩) (by kernel_rfl) (fun hb=>?_) fun hb=>?_)
 replace h:=wT hb h
 refine dN 3 ?_
 obtain ⟨e9,a4,h⟩:=aA h
 refine dI cI a4 (dR cI a4 (dN 3 ?_))
 obtain ⟨f0,a5,h⟩:=aA h
 refine dI cI a5 (dR cI a5 (dE ?_))
 obtain ⟨e6,d4,h⟩:=aA h
 refine oP (W.bF d4) (oN 3 (zO fun u k=>?_))
 cases h
 exact zG k
 replace h:=wS hb h
 refine dN 10 (dE (oN 4 (zO fun u k=>?_)))
 cases h
 exact zG k
 refine yE k [0,1,2,3,9,10,36] [1000000] (qc h (fun h=>?_) fun h=>?_)
 refine y4 [0,1,2,3,9,10] [1000000] (zC (zD (z6 3 fun u k=>?_)))
 refine aK ?_
 cases h
 exact zH k
 refine zL 2 fun u k=>?_
 refine aR ?_
 cases h
 exact zF k
 refine zQ (yE k [0,1,2,3,9,10] [1000000] (zB (y3 3 [0,1,2,3,9,10,41] [1000000] (qc h (fun h=>?_) fun h=>?_))))
 refine z8 1 ⟨[(8,vB true)],[(1000000,wI 3 a0.2.2)]⟩ fun u k=>?_
 refine aO (aQ (KA ?_))
 cases h
 exact zF k
 refine y4 [0,1,2,3,9,10] [1000000] (zB (y3 4 [0,1,2,3,9,10,45] [1000000] (qc h (fun h=>?_) fun h=>?_)))
 refine z8 1 ⟨[(8,vB false)],[(1000000,wI 3 a0.2.2)]⟩ fun u k=>?_
 refine aO (aQ (KA ?_))
 cases h
 exact zF k
 refine y4 [0,1,2,3,9,10] [1000000] (zB (qN [(15,[1000000])] [] [] [(2,[1000000]),(3,[1000000]),(4,[1000000])] [] 16 (dN 8 ?_)))
 obtain ⟨d1,a6,h⟩:=aA h
 refine dI cI a6 (dR cI a6 (dN 2 ?_))
 obtain ⟨d2,a7,h⟩:=aA h
 refine dI cI a7 (dR cI a7 ?_)
 obtain ⟨f1,a8,h⟩:=aA h
 refine dI cI a8 (dS cI d1 a8 (dE ?_))
 obtain ⟨f2,a9,h⟩:=aA h
 refine oI cI a9 (oS cI d2 a9 (zO fun u k=>?_))
 refine yE k [0,1,2,3,9,10] [1000000] (eQ (fun (c4:(List Int))=>⟨[(0,ro 1000000 3),(1,vI a),(2,vI b),(3,.fn 71 []),(9,vI a1),(10,vI a0.2.1)],[(1000000,wI 3 c4)]⟩) (bK b a0 a1) r (by kernel_rfl) (fun c4 h=>?_) ?_)
 refine y3 4 [0,1,2,3,9,10,104] [1000000] (qc h (fun h=>?_) fun h=>?_)
 refine y3 3 [0,1,2,3,9,10,12] [1000000] (zC ?_)
 obtain ⟨c8,d8,h⟩:=aA h
 refine ql d8 (fun c6=>⟨[(0,ro 1000000 3),(1,vI a),(2,vI b),(3,.fn 71 []),(9,vI a1),(10,vI a0.2.1),(12,vI c6.1)],[(1000000,wI 3 c6.2)]⟩) (fun c8=>(.exit 6,⟨[(0,ro 1000000 3),(1,vI a),(2,vI b),(3,.fn 71 []),(9,vI a1),(10,vI a0.2.1)],[(1000000,wI 3 c8)]⟩)) qH (fun c6 r h=>?_) fun u k=>?_
 refine zB (y3 3 [0,1,2,3,9,10,12,109] [1000000] (qc h (fun h=>?_) fun h=>?_))
 refine y4 [0,1,2,3,9,10,12] [1000000] (zB (zC (zB (zB (qM 10 (dN 3 ?_))))))
 obtain ⟨f3,b1,h⟩:=aA h
 refine dI cI b1 (dR cI b1 (dN 3 ?_))
 obtain ⟨f4,b2,h⟩:=aA h
 refine dI cI b2 (dR cI b2 (dE ?_))
 obtain ⟨e7,d5,h⟩:=aA h
 refine oP (W.bF d5) (oN 2 (zO fun u k=>?_))
 refine yE k [0,1,2,3,9,10,12,124] [1000000] (qc h (fun h=>?_) fun h=>?_)
 refine zL 6 fun u k=>?_
 refine aR (Qt (by kernel_rfl) (aR ?_))
 cases h
 exact zF k
 refine y4 [0,1,2,3,9,10,12] [1000000] (qN [(15,[1000000])] [] [] [(2,[1000000]),(3,[1000000]),(4,[1000000])] [] 16 (dN 8 ?_))
 obtain ⟨e2,b3,h⟩:=aA h
 refine dI cI b3 (dR cI b3 (dN 2 ?_))
 obtain ⟨e3,b4,h⟩:=aA h
 refine dI cI b4 (dR cI b4 ?_)
 obtain ⟨f5,b5,h⟩:=aA h
 refine dI cI b5 (dS cI e2 b5 (dE ?_))
 obtain ⟨f6,b6,h⟩:=aA h
 refine oI cI b6 (oS cI e3 b6 (zO fun u k=>?_))
 refine aK (yE k [0,1,2,3,9,10,12] [1000000] (zD (z6 3 fun u k=>?_)))
 cases h
 exact zH k
 refine zL 6 fun u k=>?_
 refine aR ?_
 cases h
 exact zF k
 exact zQ (aK (aU (a1,c8) h k (here (by kernel_rfl))))
 refine zM fun u k=>?_
 exact aK (aU (a1,c4) h k (here (by kernel_rfl)))
 refine y3 4 [0,1,2,3,9,10,65] [1000000] (qc h (fun h=>?_) fun h=>?_)
 refine y3 3 [0,1,2,3,9,10,11] [1000000] (zC ?_)
 obtain ⟨c9,d9,h⟩:=aA h
 refine ql d9 (fun c7=>⟨[(0,ro 1000000 3),(1,vI a),(2,vI b),(3,.fn 71 []),(9,vI a1),(10,vI a0.2.1),(11,vI c7.1)],[(1000000,wI 3 c7.2)]⟩) (fun c9=>(.exit 4,⟨[(0,ro 1000000 3),(1,vI a),(2,vI b),(3,.fn 71 []),(9,vI a1),(10,vI a0.2.1)],[(1000000,wI 3 c9)]⟩)) qH (fun c7 r h=>?_) fun u k=>?_
 refine zB (y3 2 [0,1,2,3,9,10,11,69] [1000000] (qc h (fun h=>?_) fun h=>?_))
 refine y4 [0,1,2,3,9,10,11] [1000000] (zB (zC (zB (zB (qM 10 (dN 3 ?_))))))
 obtain ⟨f7,b7,h⟩:=aA h
 refine dI cI b7 (dR cI b7 (dN 3 ?_))
 obtain ⟨f8,b8,h⟩:=aA h
 refine dI cI b8 (dR cI b8 (dE ?_))
 obtain ⟨e8,d6,h⟩:=aA h
 refine oP (W.bF d6) (oN 2 (zO fun u k=>?_))
 refine yE k [0,1,2,3,9,10,11,84] [1000000] (qc h (fun h=>?_) fun h=>?_)
 refine zL 4 fun u k=>?_
 refine aR (Qt (by kernel_rfl) (aR ?_))
 cases h
 exact zF k
 refine y4 [0,1,2,3,9,10,11] [1000000] (qN [(15,[1000000])] [] [] [(2,[1000000]),(3,[1000000]),(4,[1000000])] [] 16 (dN 8 ?_))
 obtain ⟨e4,b9,h⟩:=aA h
 refine dI cI b9 (dR cI b9 (dN 2 ?_))
 obtain ⟨e5,c0,h⟩:=aA h
 refine dI cI c0 (dR cI c0 ?_)
 obtain ⟨f9,c1,h⟩:=aA h
 refine dI cI c1 (dS cI e4 c1 (dE ?_))
 obtain ⟨g0,c2,h⟩:=aA h
 refine oI cI c2 (oS cI e5 c2 (zO fun u k=>?_))
 refine aK (yE k [0,1,2,3,9,10,11] [1000000] (zD (z6 3 fun u k=>?_)))
 cases h
 exact zH k
 refine zL 4 fun u k=>?_
 refine aR ?_
 cases h
 exact zF k
 exact zQ (aU c9 h k (here (by kernel_rfl)))
 refine zM fun u k=>?_
 exact aU (List.set (List.set a0.2.2 (Int.toNat a1) d1) (Int.toNat (aH a1 1)) d2) h k (here (by kernel_rfl))
 refine zL 0 fun u k=>?_
 refine aR ?_
 cases h
 exact zF k
 rcases d0 with a3 | c5
 refine aQ (aO ?_)
 obtain rfl:=osi h
 exact zV k [(8,vB a3.1)]
 refine zQ (yE k [] [1000000] (z8 1 ⟨[(8,vB false)],[(1000000,wI 3 c5)]⟩ fun u k=>?_))
 obtain rfl:=osi h
 exact zV k [(8,vB false)]
theorem W.nO {a b pivot h0 r} (h:gY a b pivot h0=some r):PC G.P 92 [(.row (.top 1000000) 3),(vI a),(vI b),(vI pivot),(.fn 71 [])] [(1000000,.row 3 [] (List.map cI h0))] (vI r.1) [(1000000,.row 3 [] (List.map cI r.2))]:=by
 refine zU G Try.func92 (yK [0,1,2,3,4] [1000000] (y3 1 [0,1,2,3,4] [1000000] (zB (qN [(13,[1000000])] [] [] [(2,[1000000]),(3,[1000000])] [] 14 (dN 6 ?_)))))
 obtain ⟨x9,c9,h⟩:=aA h
 refine dI cI c9 (dR cI c9 (dN 2 ?_))
 obtain ⟨d8,c2,h⟩:=aA h
 refine dI cI c2 (dR cI c2 ?_)
 obtain ⟨d9,c3,h⟩:=aA h
 refine dI cI c3 (dS cI x9 c3 (dE ?_))
 obtain ⟨e0,c4,h⟩:=aA h
 refine oI cI c4 (oS cI d8 c4 (zO fun u k=>?_))
 refine yE k [0,1,2,4] [1000000] (y3 6 [0,1,4,11,12] [1000000] (zB (zC ?_)))
 obtain ⟨a4,c1,h⟩:=aA h
 refine ql c1 (fun a0=>⟨[(0,ro 1000000 3),(1,vI a),(4,.fn 71 []),(11,vI a0.1),(12,vI a0.2.1)],[(1000000,wI 3 a0.2.2)]⟩) (fun a4=>(.exit 0,⟨[(11,vI a4.1)],[(1000000,wI 3 a4.2)]⟩)) qH (fun a0 r h=>?_) fun u k=>?_
 refine zC (zB (zC ?_))
 obtain ⟨a1,b9,h⟩:=aA h
 refine ql b9 (fun a2=>⟨[(0,ro 1000000 3),(1,vI a),(4,.fn 71 []),(11,vI a2),(12,vI a0.2.1)],[(1000000,wI 3 a0.2.2)]⟩) (fun a1=>(.exit 2,⟨[(0,ro 1000000 3),(1,vI a),(4,.fn 71 []),(11,vI a1),(12,vI a0.2.1)],[(1000000,wI 3 a0.2.2)]⟩)) qH (fun a2 r h=>?_) fun u k=>?_
 refine zB (zB ?_)
 obtain ⟨c5,b5,h⟩:=aA h
 refine nQ ⟨[(0,ro 1000000 3),(1,vI a),(4,.fn 71 []),(11,vI a2),(12,vI a0.2.1),(47,vB c5)],[(1000000,wI 3 a0.2.2)]⟩ [] [] [] [] [] 13 (by kernel_rfl) (by kernel_rfl) (by kernel_rfl) ?_ fun u k=>?_
 replace h:=b5
 refine dN 4 (mO (decide (a2≤a0.2.1)) (fun b0=>⟨[(34,vB b0),(33,vB b0),(32,vI a0.2.1),(31,vI a2),(0,ro 1000000 3),(1,vI a),(4,.fn 71 []),(11,vI a2),(12,vI a0.2.1)],[(1000000,wI 3 a0.2.2)]⟩) (by kernel_rfl) (fun hb=>?_) fun hb=>?_)
 replace h:=wT hb h
 refine dN 3 ?_
 obtain ⟨d2,a5,h⟩:=aA h
 refine dI cI a5 (dR cI a5 (dN 2 ?_))
 obtain ⟨d3,a6,h⟩:=aA h
 refine dI cI a6 (dR cI a6 (dE ?_))
 obtain ⟨d0,b7,h⟩:=aA h
 refine oP (W.bF b7) (oN 3 (zO fun u k=>?_))
 cases h
 exact zG k
 replace h:=wS hb h
 refine dN 9 (dE (oN 4 (zO fun u k=>?_)))
 cases h
 exact zG k
 refine yE k [0,1,4,11,12,47] [1000000] (qc h (fun h=>?_) fun h=>?_)
 refine y4 [0,1,4,11,12] [1000000] (zC (zD (z6 3 fun u k=>?_)))
 refine aK ?_
 cases h
 exact zH k
 refine zL 2 fun u k=>?_
 refine aR ?_
 cases h
 exact zF k
 refine zQ (yE k [0,1,4,11,12] [1000000] (zB (zC ?_)))
 obtain ⟨b4,c0,h⟩:=aA h
 refine ql c0 (fun a3=>⟨[(0,ro 1000000 3),(1,vI a),(4,.fn 71 []),(11,vI a1),(12,vI a3)],[(1000000,wI 3 a0.2.2)]⟩) (fun b4=>(.exit 4,⟨[(0,ro 1000000 3),(1,vI a),(4,.fn 71 []),(11,vI a1),(12,vI b4)],[(1000000,wI 3 a0.2.2)]⟩)) qH (fun a3 r h=>?_) fun u k=>?_
 refine zB (zB ?_)
 obtain ⟨c6,b6,h⟩:=aA h
 refine nQ ⟨[(0,ro 1000000 3),(1,vI a),(4,.fn 71 []),(11,vI a1),(12,vI a3),(65,vB c6)],[(1000000,wI 3 a0.2.2)]⟩ [] [] [] [] [] 13 (by kernel_rfl) (by kernel_rfl) (by kernel_rfl) ?_ fun u k=>?_
 replace h:=b6
 refine dN 4 (mO (decide (a1≤a3)) (fun b0=>⟨[(53,vB b0),(52,vB b0),(51,vI a3),(50,vI a1),(0,ro 1000000 3),(1,vI a),(4,.fn 71 []),(11,vI a1),(12,vI a3)],[(1000000,wI 3 a0.2.2)]⟩) (by kernel_rfl) (fun hb=>?_) fun hb=>?_)
 replace h:=wT hb h
 refine dN 3 ?_
 obtain ⟨d4,a7,h⟩:=aA h
 refine dI cI a7 (dR cI a7 (dN 2 ?_))
 obtain ⟨d5,a8,h⟩:=aA h
 refine dI cI a8 (dR cI a8 (dE ?_))
 obtain ⟨d1,b8,h⟩:=aA h
 refine oP (W.bF b8) (oN 2 (zO fun u k=>?_))
 cases h
 exact zG k
 replace h:=wS hb h
 refine dN 9 (dE (oN 3 (zO fun u k=>?_)))
 cases h
 exact zG k
 refine yE k [0,1,4,11,12,65] [1000000] (qc h (fun h=>?_) fun h=>?_)
 refine y4 [0,1,4,11,12] [1000000] (zC (zD (z6 3 fun u k=>?_)))
 refine aK ?_
 cases h
 exact zH k
 refine zL 4 fun u k=>?_
 refine aR ?_
 cases h
 exact zF k
 refine zQ (yE k [0,1,4,11,12] [1000000] (zB (y3 3 [0,1,4,11,12,70] [1000000] (qc h (fun h=>?_) fun h=>?_))))
 refine zL 0 fun u k=>?_
 refine aR (Qt (by kernel_rfl) ?_)
 cases h
 exact zF k
 refine y4 [0,1,4,11,12] [1000000] (zB (qN [(13,[1000000])] [] [] [(2,[1000000]),(3,[1000000])] [] 14 (dN 6 ?_)))
 obtain ⟨c7,a9,h⟩:=aA h
 refine dI cI a9 (dR cI a9 (dN 2 ?_))
 obtain ⟨c8,b1,h⟩:=aA h
 refine dI cI b1 (dR cI b1 ?_)
 obtain ⟨d6,b2,h⟩:=aA h
 refine dI cI b2 (dS cI c7 b2 (dE ?_))
 obtain ⟨d7,b3,h⟩:=aA h
 refine oI cI b3 (oS cI c8 b3 (zO fun u k=>?_))
 refine yE k [0,1,4,11,12] [1000000] (y3 3 [0,1,4,11,12] [1000000] (zD (z6 3 fun u k=>?_)))
 refine aK ?_
 cases h
 exact zH k
 refine zQ (yE k [11] [1000000] (z8 2 ⟨[(10,vI a4.1)],[(1000000,wI 3 a4.2)]⟩ fun u k=>?_))
 obtain rfl:=osi h
 exact zV k [(10,vI a4.1)]
theorem W.rA {a b pivot h0 r} (h:jX a b pivot h0=some r):PC G.P 93 [(.row (.top 1000000) 3),(vI a),(vI b),(vI pivot),(.fn 71 [])] [(1000000,.row 3 [] (List.map cI h0))] (.tup [(vI r.1),(vB r.2.1)]) [(1000000,.row 3 [] (List.map cI r.2.2))]:=by
 refine zU G Try.func93 (yK [0,1,2,3,4] [1000000] (y3 2 [0,1,2,3,4] [1000000] (zB (qN [(13,[1000000])] [] [] [(2,[1000000]),(3,[1000000])] [] 14 (dN 6 ?_)))))
 obtain ⟨x9,g4,h⟩:=aA h
 refine dI cI g4 (dR cI g4 (dN 2 ?_))
 obtain ⟨c1,e9,h⟩:=aA h
 refine dI cI e9 (dR cI e9 ?_)
 obtain ⟨i6,f0,h⟩:=aA h
 refine dI cI f0 (dS cI x9 f0 (dE ?_))
 obtain ⟨i7,f1,h⟩:=aA h
 refine oI cI f1 (oS cI c1 f1 (zO fun u k=>?_))
 refine yE k [0,1,2,4] [1000000] (y3 6 [0,1,4,12,13] [1000000] (zB (zC ?_)))
 obtain ⟨a5,f2,h⟩:=aA h
 refine ql f2 (fun e4=>⟨[(0,ro 1000000 3),(1,vI a),(4,.fn 71 []),(12,vI e4),(13,vI (aH b 1))],[(1000000,wI 3 (List.set (List.set h0 (Int.toNat a) x9) (Int.toNat pivot) c1))]⟩) (fun a5=>(.exit 0,⟨[(0,ro 1000000 3),(1,vI a),(4,.fn 71 []),(12,vI a5),(13,vI (aH b 1))],[(1000000,wI 3 (List.set (List.set h0 (Int.toNat a) x9) (Int.toNat pivot) c1))]⟩)) qH (fun e4 r h=>?_) fun u k=>?_
 refine zB (zB ?_)
 obtain ⟨g0,e5,h⟩:=aA h
 refine nQ ⟨[(0,ro 1000000 3),(1,vI a),(4,.fn 71 []),(12,vI e4),(13,vI (aH b 1)),(47,vB g0)],[(1000000,wI 3 (List.set (List.set h0 (Int.toNat a) x9) (Int.toNat pivot) c1))]⟩ [] [] [] [] [] 13 (by kernel_rfl) (by kernel_rfl) (by kernel_rfl) ?_ fun u k=>?_
 replace h:=e5
 refine dN 4 (mO (decide (e4≤(aH b 1))) (fun b0=>⟨[(35,vB b0),(34,vB b0),(33,vI (aH b 1)),(32,vI e4),(0,ro 1000000 3),(1,vI a),(4,.fn 71 []),(12,vI e4),(13,vI (aH b 1))],[(1000000,wI 3 (List.set (List.set h0 (Int.toNat a) x9) (Int.toNat pivot) c1))]⟩) (by kernel_rfl) (fun hb=>?_) fun hb=>?_)
 replace h:=wT hb h
 refine dN 3 ?_
 obtain ⟨h8,c2,h⟩:=aA h
 refine dI cI c2 (dR cI c2 (dN 2 ?_))
 obtain ⟨h9,c3,h⟩:=aA h
 refine dI cI c3 (dR cI c3 (dE ?_))
 obtain ⟨h6,e7,h⟩:=aA h
 refine oP (W.bF e7) (oN 2 (zO fun u k=>?_))
 cases h
 exact zG k
 replace h:=wS hb h
 refine dN 9 (dE (oN 3 (zO fun u k=>?_)))
 cases h
 exact zG k
 refine yE k [0,1,4,12,13,47] [1000000] (qc h (fun h=>?_) fun h=>?_)
 refine y4 [0,1,4,12,13] [1000000] (zC (zD (z6 3 fun u k=>?_)))
 refine aK ?_
 cases h
 exact zH k
 refine zL 0 fun u k=>?_
 refine aR ?_
 cases h
 exact zF k
 refine zQ (yE k [0,1,4,12,13] [1000000] (zB (zC ?_)))
 obtain ⟨c0,f3,h⟩:=aA h
 refine ql f3 (fun a6=>⟨[(0,ro 1000000 3),(1,vI a),(4,.fn 71 []),(12,vI a5),(13,vI a6)],[(1000000,wI 3 (List.set (List.set h0 (Int.toNat a) x9) (Int.toNat pivot) c1))]⟩) (fun c0=>(.exit 2,⟨[(0,ro 1000000 3),(1,vI a),(4,.fn 71 []),(12,vI a5),(13,vI c0)],[(1000000,wI 3 (List.set (List.set h0 (Int.toNat a) x9) (Int.toNat pivot) c1))]⟩)) qH (fun a6 r h=>?_) fun u k=>?_
 refine zB (zB ?_)
 obtain ⟨g1,e6,h⟩:=aA h
 refine nQ ⟨[(0,ro 1000000 3),(1,vI a),(4,.fn 71 []),(12,vI a5),(13,vI a6),(66,vB g1)],[(1000000,wI 3 (List.set (List.set h0 (Int.toNat a) x9) (Int.toNat pivot) c1))]⟩ [] [] [] [] [] 13 (by kernel_rfl) (by kernel_rfl) (by kernel_rfl) ?_ fun u k=>?_
 replace h:=e6
 refine dN 4 (mO (decide (a5≤a6)) (fun b0=>⟨[(53,vB b0),(52,vB b0),(51,vI a6),(50,vI a5),(0,ro 1000000 3),(1,vI a),(4,.fn 71 []),(12,vI a5),(13,vI a6)],[(1000000,wI 3 (List.set (List.set h0 (Int.toNat a) x9) (Int.toNat pivot) c1))]⟩) (by kernel_rfl) (fun hb=>?_) fun hb=>?_)
 replace h:=wT hb h
 refine dN 3 ?_
 obtain ⟨i0,c4,h⟩:=aA h
 refine dI cI c4 (dR cI c4 (dN 2 ?_))
 obtain ⟨i1,c5,h⟩:=aA h
 refine dI cI c5 (dR cI c5 (dE ?_))
 obtain ⟨h7,e8,h⟩:=aA h
 refine oP (W.bF e8) (oN 3 (zO fun u k=>?_))
 cases h
 exact zG k
 replace h:=wS hb h
 refine dN 9 (dE (oN 4 (zO fun u k=>?_)))
 cases h
 exact zG k
 refine yE k [0,1,4,12,13,66] [1000000] (qc h (fun h=>?_) fun h=>?_)
 refine y4 [0,1,4,12,13] [1000000] (zC (zD (z6 3 fun u k=>?_)))
 refine aK ?_
 cases h
 exact zH k
 refine zL 2 fun u k=>?_
 refine aR ?_
 cases h
 exact zF k
 refine zQ (yE k [0,1,4,12,13] [1000000] (zB (y3 3 [0,1,4,12,13,71] [1000000] (qc h (fun h=>?_) fun h=>?_))))
 refine zB (qN [(13,[1000000])] [] [] [(2,[1000000]),(3,[1000000])] [] 14 (dN 6 ?_))
 obtain ⟨f8,c6,h⟩:=aA h
 refine dI cI c6 (dR cI c6 (dN 2 ?_))
 obtain ⟨f9,c7,h⟩:=aA h
 refine dI cI c7 (dR cI c7 ?_)
 obtain ⟨i2,c8,h⟩:=aA h
 refine dI cI c8 (dS cI f8 c8 (dE ?_))
 obtain ⟨i3,c9,h⟩:=aA h
 refine oI cI c9 (oS cI f9 c9 (zO fun u k=>?_))
 refine yE k [13] [1000000] (z8 3 ⟨[(10,vI c0),(11,vB true)],[(1000000,wI 3 (List.set (List.set (List.set (List.set h0 (Int.toNat a) x9) (Int.toNat pivot) c1) (Int.toNat c0) f8) (Int.toNat a) f9))]⟩ fun u k=>?_)
 refine aO ?_
 obtain rfl:=osi h
 exact zV k [(10,vI c0),(11,vB true)]
 refine y4 [0,1,4,12,13] [1000000] (zB (qN [(13,[1000000])] [] [] [(2,[1000000]),(3,[1000000])] [] 14 (dN 6 ?_)))
 obtain ⟨g2,d0,h⟩:=aA h
 refine dI cI d0 (dR cI d0 (dN 2 ?_))
 obtain ⟨g3,d1,h⟩:=aA h
 refine dI cI d1 (dR cI d1 ?_)
 obtain ⟨i4,d2,h⟩:=aA h
 refine dI cI d2 (dS cI g2 d2 (dE ?_))
 obtain ⟨i5,d3,h⟩:=aA h
 refine oI cI d3 (oS cI g3 d3 (zO fun u k=>?_))
 refine yE k [0,1,4,12,13] [1000000] (y3 3 [0,1,4,12,13] [1000000] (y3 3 [0,1,4,12,13] [1000000] (zB (zC ?_))))
 obtain ⟨a2,e3,h⟩:=aA h
 refine ql e3 (fun a0=>⟨[(0,ro 1000000 3),(1,vI a),(4,.fn 71 []),(12,vI a0.1),(13,vI a0.2.1)],[(1000000,wI 3 a0.2.2)]⟩) (fun a2=>(.exit 4,⟨[(0,ro 1000000 3),(1,vI a),(13,vI a2.1)],[(1000000,wI 3 a2.2)]⟩)) qH (fun a0 r h=>?_) fun u k=>?_
 refine zC (zB (zC ?_))
 obtain ⟨a1,e1,h⟩:=aA h
 refine ql e1 (fun a3=>⟨[(0,ro 1000000 3),(1,vI a),(4,.fn 71 []),(12,vI a3),(13,vI a0.2.1)],[(1000000,wI 3 a0.2.2)]⟩) (fun a1=>(.exit 6,⟨[(0,ro 1000000 3),(1,vI a),(4,.fn 71 []),(12,vI a1),(13,vI a0.2.1)],[(1000000,wI 3 a0.2.2)]⟩)) qH (fun a3 r h=>?_) fun u k=>?_
 refine zB (zB ?_)
 obtain ⟨f4,d7,h⟩:=aA h
 refine nQ ⟨[(0,ro 1000000 3),(1,vI a),(4,.fn 71 []),(12,vI a3),(13,vI a0.2.1),(120,vB f4)],[(1000000,wI 3 a0.2.2)]⟩ [] [] [] [] [] 13 (by kernel_rfl) (by kernel_rfl) (by kernel_rfl) ?_ fun u k=>?_
 replace h:=d7
 refine dN 4 (mO (decide (a3≤a0.2.1)) (fun b0=>⟨[(108,vB b0),(107,vB b0),(106,vI a0.2.1),(105,vI a3),(0,ro 1000000 3),(1,vI a),(4,.fn 71 []),(12,vI a3),(13,vI a0.2.1)],[(1000000,wI 3 a0.2.2)]⟩) (by kernel_rfl) (fun hb=>?_) fun hb=>?_)
 replace h:=wT hb h
 refine dN 3 ?_
 obtain ⟨g7,a7,h⟩:=aA h
 refine dI cI a7 (dR cI a7 (dN 2 ?_))
 obtain ⟨g8,a8,h⟩:=aA h
 refine dI cI a8 (dR cI a8 (dE ?_))
 obtain ⟨g5,d9,h⟩:=aA h
 refine oP (W.bF d9) (oN 2 (zO fun u k=>?_))
 cases h
 exact zG k
 replace h:=wS hb h
 refine dN 9 (dE (oN 3 (zO fun u k=>?_)))
 cases h
 exact zG k
 refine yE k [0,1,4,12,13,120] [1000000] (qc h (fun h=>?_) fun h=>?_)
 refine y4 [0,1,4,12,13] [1000000] (zC (zD (z6 3 fun u k=>?_)))
 refine aK ?_
 cases h
 exact zH k
 refine zL 6 fun u k=>?_
 refine aR ?_
 cases h
 exact zF k
 refine zQ (yE k [0,1,4,12,13] [1000000] (zB (zC ?_)))
 obtain ⟨d4,e2,h⟩:=aA h
 refine ql e2 (fun a4=>⟨[(0,ro 1000000 3),(1,vI a),(4,.fn 71 []),(12,vI a1),(13,vI a4)],[(1000000,wI 3 a0.2.2)]⟩) (fun d4=>(.exit 8,⟨[(0,ro 1000000 3),(1,vI a),(4,.fn 71 []),(12,vI a1),(13,vI d4)],[(1000000,wI 3 a0.2.2)]⟩)) qH (fun a4 r h=>?_) fun u k=>?_
 refine zB (zB ?_)
 obtain ⟨f5,d8,h⟩:=aA h
 refine nQ ⟨[(0,ro 1000000 3),(1,vI a),(4,.fn 71 []),(12,vI a1),(13,vI a4),(139,vB f5)],[(1000000,wI 3 a0.2.2)]⟩ [] [] [] [] [] 13 (by kernel_rfl) (by kernel_rfl) (by kernel_rfl) ?_ fun u k=>?_
 replace h:=d8
 refine dN 4 (mO (decide (a1≤a4)) (fun b0=>⟨[(126,vB b0),(125,vB b0),(124,vI a4),(123,vI a1),(0,ro 1000000 3),(1,vI a),(4,.fn 71 []),(12,vI a1),(13,vI a4)],[(1000000,wI 3 a0.2.2)]⟩) (by kernel_rfl) (fun hb=>?_) fun hb=>?_)
 replace h:=wT hb h
 refine dN 3 ?_
 obtain ⟨g9,a9,h⟩:=aA h
 refine dI cI a9 (dR cI a9 (dN 2 ?_))
 obtain ⟨h1,b1,h⟩:=aA h
 refine dI cI b1 (dR cI b1 (dE ?_))
 obtain ⟨g6,e0,h⟩:=aA h
 refine oP (W.bF e0) (oN 3 (zO fun u k=>?_))
 cases h
 exact zG k
 replace h:=wS hb h
 refine dN 9 (dE (oN 4 (zO fun u k=>?_)))
 cases h
 exact zG k
 refine yE k [0,1,4,12,13,139] [1000000] (qc h (fun h=>?_) fun h=>?_)
 refine y4 [0,1,4,12,13] [1000000] (zC (zD (z6 3 fun u k=>?_)))
 refine aK ?_
 cases h
 exact zH k
 refine zL 8 fun u k=>?_
 refine aR ?_
 cases h
 exact zF k
 refine zQ (yE k [0,1,4,12,13] [1000000] (zB (y3 3 [0,1,4,12,13,144] [1000000] (qc h (fun h=>?_) fun h=>?_))))
 refine zL 4 fun u k=>?_
 refine aR (Qt (by kernel_rfl) ?_)
 cases h
 exact zF k
 refine y4 [0,1,4,12,13] [1000000] (zB (qN [(13,[1000000])] [] [] [(2,[1000000]),(3,[1000000])] [] 14 (dN 6 ?_)))
 obtain ⟨f6,b2,h⟩:=aA h
 refine dI cI b2 (dR cI b2 (dN 2 ?_))
 obtain ⟨f7,b3,h⟩:=aA h
 refine dI cI b3 (dR cI b3 ?_)
 obtain ⟨h2,b4,h⟩:=aA h
 refine dI cI b4 (dS cI f6 b4 (dE ?_))
 obtain ⟨h3,b5,h⟩:=aA h
 refine oI cI b5 (oS cI f7 b5 (zO fun u k=>?_))
 refine yE k [0,1,4,12,13] [1000000] (y3 3 [0,1,4,12,13] [1000000] (zD (z6 3 fun u k=>?_)))
 refine aK ?_
 cases h
 exact zH k
 refine zQ (yE k [0,1,13] [1000000] (zB (qN [(13,[1000000])] [] [] [(2,[1000000]),(3,[1000000])] [] 14 (dN 6 ?_))))
 obtain ⟨d5,b6,h⟩:=aA h
 refine dI cI b6 (dR cI b6 (dN 2 ?_))
 obtain ⟨d6,b7,h⟩:=aA h
 refine dI cI b7 (dR cI b7 ?_)
 obtain ⟨h4,b8,h⟩:=aA h
 refine dI cI b8 (dS cI d5 b8 (dE ?_))
 obtain ⟨h5,b9,h⟩:=aA h
 refine oI cI b9 (oS cI d6 b9 (zO fun u k=>?_))
 refine yE k [13] [1000000] (z8 3 ⟨[(10,vI a2.1),(11,vB false)],[(1000000,wI 3 (List.set (List.set a2.2 (Int.toNat a2.1) d5) (Int.toNat a) d6))]⟩ fun u k=>?_)
 obtain rfl:=osi h
 exact zV k [(10,vI a2.1),(11,vB false)]
theorem W.oK (self:Int→Int→Int→(List Int)→Option ((List Int))) (hself:∀ {a:Int} {b:Int} {limit:Int} {h0:(List Int)} {r:(List Int)},self a b limit h0=some r→PC G.P 79 [(.row (.top 1000000) 3),(vI a),(vI b),(vI limit),(.fn 71 [])] [(1000000,.row 3 [] (List.map cI h0))] (.tup []) [(1000000,.row 3 [] (List.map cI r))]) {a:Int} {b:Int} {limit:Int} {h0:(List Int)} {r:(List Int)} (h:iQ self a b limit h0=some r):PC G.P 79 [(.row (.top 1000000) 3),(vI a),(vI b),(vI limit),(.fn 71 [])] [(1000000,.row 3 [] (List.map cI h0))] (.tup []) [(1000000,.row 3 [] (List.map cI r))]:=by
 refine zU G Try.func79 (yK [0,1,2,3,4] [1000000] (y3 1 [0,1,2,3,4,10] [1000000] (y3 1 [0,1,2,3,4,10,11] [1000000] (zC ?_))))
 obtain ⟨c3,c2,h⟩:=aA h
 refine ql c2 (fun a0=>⟨[(0,ro 1000000 3),(1,vI a0.1),(2,vI a0.2.1),(3,vI a0.2.2.1),(4,.fn 71 []),(10,vB a0.2.2.2.1),(11,vB a0.2.2.2.2.1)],[(1000000,wI 3 a0.2.2.2.2.2)]⟩) (fun c3=>(.ret,⟨[],[(1000000,wI 3 c3)]⟩)) qH (fun a0 r h=>?_) fun u k=>?_
 refine zC (y3 4 [0,1,2,3,4,10,11,12] [1000000] (zB (y3 2 [0,1,2,3,4,10,11,12,25] [1000000] (qc h (fun h=>?_) fun h=>?_))))
 refine z7 (zA 4 ?_)
 obtain ⟨c8,b1,h⟩:=aA h
 refine qC [(1000000,1000000)] [] (W.nW b1) (zP fun u k=>?_)
 refine yE k [] [1000000] (zN fun u k=>?_)
 refine aO (aQ ?_)
 cases h
 exact zF k
 refine y4 [0,1,2,3,4,10,11,12] [1000000] (zB (y3 2 [0,1,2,3,4,10,11,12,32] [1000000] (qc h (fun h=>?_) fun h=>?_)))
 refine z7 (zA 4 ?_)
 obtain ⟨c9,b2,h⟩:=aA h
 refine qC [(1000000,1000000)] [] (W.rX b2) (zP fun u k=>?_)
 refine yE k [] [1000000] (zN fun u k=>?_)
 refine aO (aQ ?_)
 cases h
 exact zF k
 refine y4 [0,1,2,3,4,10,11,12] [1000000] (eQ (fun (a1:Int×(List Int))=>⟨[(0,ro 1000000 3),(1,vI a0.1),(2,vI a0.2.1),(3,vI a1.1),(4,.fn 71 []),(10,vB a0.2.2.2.1),(11,vB a0.2.2.2.2.1),(12,vI (aH a0.2.1 a0.1))],[(1000000,wI 3 a1.2)]⟩) (eF self a0) r (by kernel_rfl) (fun a1 h=>?_) ?_)
 refine z7 (zA 4 ?_)
 obtain ⟨a7,b3,h⟩:=aA h
 refine qV [1000000] (W.oU b3) (y1 5 [0,1,2,3,4,10,11,12,13,14] [1000000] (eQ (fun (a2:Int×Int×(List Int))=>⟨[(0,ro 1000000 3),(1,vI a0.1),(2,vI a0.2.1),(3,vI a1.1),(4,.fn 71 []),(10,vB a0.2.2.2.1),(11,vB a0.2.2.2.2.1),(12,vI (aH a0.2.1 a0.1)),(13,vI a2.1),(14,vI a2.2.1)],[(1000000,wI 3 a2.2.2)]⟩) (eD self a0 a1) r (by kernel_rfl) (fun a2 h=>?_) ?_))
 refine eQ (fun (a3:Bool×Bool×(List Int))=>⟨[(0,ro 1000000 3),(1,vI a0.1),(2,vI a0.2.1),(3,vI a1.1),(4,.fn 71 []),(10,vB a3.1),(11,vB a3.2.1),(12,vI (aH a0.2.1 a0.1)),(13,vI a2.1)],[(1000000,wI 3 a3.2.2)]⟩) (eB self a0 a1 a2) r (by kernel_rfl) (fun a3 h=>?_) ?_
 refine zB (zB ?_)
 obtain ⟨c4,a8,h⟩:=aA h
 refine nQ ⟨[(0,ro 1000000 3),(1,vI a0.1),(2,vI a0.2.1),(3,vI a1.1),(4,.fn 71 []),(10,vB a3.1),(11,vB a3.2.1),(12,vI (aH a0.2.1 a0.1)),(13,vI a2.1),(97,vB c4)],[(1000000,wI 3 a3.2.2)]⟩ [] [] [] [] [] 13 (by kernel_rfl) (by kernel_rfl) (by kernel_rfl) ?_ fun u k=>?_
 replace h:=a8
 refine dN 3 (mO (decide (a0.1>0)) (fun b0=>⟨[(83,vB b0),(82,vB b0),(81,vI a0.1),(0,ro 1000000 3),(1,vI a0.1),(2,vI a0.2.1),(3,vI a1.1),(4,.fn 71 []),(10,vB a3.1),(11,vB a3.2.1),(12,vI (aH a0.2.1 a0.1)),(13,vI a2.1)],[(1000000,wI 3 a3.2.2)]⟩) (by kernel_rfl) (fun hb=>?_) fun hb=>?_)
 replace h:=wT hb h
 refine dN 4 ?_
 obtain ⟨d5,a5,h⟩:=aA h
 refine dI cI a5 (dR cI a5 (dN 2 ?_))
 obtain ⟨d6,a6,h⟩:=aA h
 refine dI cI a6 (dR cI a6 (dE ?_))
 obtain ⟨d0,b4,h⟩:=aA h
 refine oP (W.bF b4) (oN 3 (zO fun u k=>?_))
 cases h
 exact zG k
 replace h:=wS hb h
 refine dN 10 (dE (oN 4 (zO fun u k=>?_)))
 cases h
 exact zG k
 refine yE k [0,1,2,3,4,10,11,12,13,97] [1000000] (qc h (fun h=>?_) fun h=>?_)
 refine z7 (zA 5 ?_)
 obtain ⟨d1,b5,h⟩:=aA h
 refine qC [(1000000,1000000)] [] (W.nO b5) (y1 1 [0,2,3,4,10,11,15] [1000000] (y3 2 [0,1,2,3,4,10,11] [1000000] (zL 1 fun u k=>?_)))
 refine aR (zQ ?_)
 cases h
 exact zH k
 refine y4 [0,1,2,3,4,12,13] [1000000] (z7 (zA 5 ?_))
 obtain ⟨d2,b6,h⟩:=aA h
 refine qC [(1000000,1000000)] [] (W.rA b6) (y1 5 [0,1,2,3,4,12,16,17] [1000000] (y3 2 [0,1,2,3,4,11,12,16] [1000000] (y3 8 [0,1,2,3,4,11,12,16,18,19] [1000000] (y3 3 [0,1,2,3,4,11,16,18,19,20] [1000000] (y3 3 [0,1,2,3,4,11,16,18,19,20,125] [1000000] (qc h (fun h=>?_) fun h=>?_))))))
 refine y3 4 [0,1,2,3,4,10,11,16] [1000000] (z7 (zA 5 ?_))
 obtain ⟨d3,b7,h⟩:=aA h
 refine Dl [(1000000,1000000)] [] [] (by kernel_rfl) (hself b7) (by kernel_rfl) (by kernel_rfl) (.inl rfl) (zP fun u k=>?_)
 refine yE k [0,2,3,4,10,11,16] [1000000] (zD (z6 3 fun u k=>?_))
 refine aK ?_
 cases h
 exact zH k
 refine y3 4 [0,1,2,3,4,10,11,16] [1000000] (z7 (zA 6 ?_))
 obtain ⟨d4,b8,h⟩:=aA h
 refine Dl [(1000000,1000000)] [] [] (by kernel_rfl) (hself b8) (by kernel_rfl) (by kernel_rfl) (.inl rfl) (zP fun u k=>?_)
 refine yE k [0,1,3,4,10,11,16] [1000000] (zD (z6 2 fun u k=>?_))
 refine aK ?_
 cases h
 exact zH k
 refine zB ?_
 obtain ⟨a4,a9,h⟩:=aA h
 refine zT ⟨[(0,ro 1000000 3),(1,vI a0.1),(2,vI a0.2.1),(3,vI a1.1),(4,.fn 71 []),(10,vB a4.1),(11,vB a4.2.1),(12,vI (aH a0.2.1 a0.1)),(13,vI a2.1),(75,vB a4.2.2)],[(1000000,wI 3 a2.2.2)]⟩ ?_ fun u k=>?_
 replace h:=a9
 refine zA 2 (qB h [0,1,2,3,4,10,11,12,13,14,69] [1000000] [10,69] (fun h=>?_) fun h=>?_)
 refine zA 3 (qB h [0,1,2,3,4,10,11,12,13,14,72] [1000000] [11,72] (fun h=>?_) fun h=>?_)
 refine z6 3 fun u k=>?_
 cases h
 exact zG k
 refine z6 3 fun u k=>?_
 cases h
 exact zG k
 refine z6 6 fun u k=>?_
 cases h
 exact zG k
 refine yE k [0,1,2,3,4,10,11,12,13,75] [1000000] (qc h (fun h=>?_) fun h=>?_)
 refine z7 (zA 4 ?_)
 obtain ⟨c5,b9,h⟩:=aA h
 refine qC [(1000000,1000000)] [] (W.lV b9) (zP fun u k=>?_)
 refine yE k [0,1,2,3,4,10,11,12,13,80] [1000000] (qc h (fun h=>?_) fun h=>?_)
 refine zN fun u k=>?_
 refine KA (aQ ?_)
 cases h
 exact zF k
 refine zM fun u k=>?_
 exact aU (a4.1,a4.2.1,c5.2) h k (here (by kernel_rfl))
 refine zM fun u k=>?_
 exact aU (a4.1,a4.2.1,a2.2.2) h k (here (by kernel_rfl))
 refine y3 2 [0,1,2,3,4,10,11,12,13,14,56] [1000000] (qc h (fun h=>?_) fun h=>?_)
 refine z7 (zA 4 ?_)
 obtain ⟨c6,c0,h⟩:=aA h
 refine qC [(1000000,1000000)] [] (W.oM c0) (zP fun u k=>?_)
 refine yE k [0,1,2,3,4,10,11,12,13] [1000000] (y3 7 [0,1,2,3,4,10,11,12,13] [1000000] (zD (z6 1 fun u k=>?_)))
 exact aU ((aH (aH a0.2.1 1) (aH a7.1 a0.1)),1,c6) h k (here (by kernel_rfl))
 refine zM fun u k=>?_
 exact aU (a7.1,a7.2,a1.2) h k (here (by kernel_rfl))
 refine y3 2 [0,1,2,3,4,10,11,12,39] [1000000] (qc h (fun h=>?_) fun h=>?_)
 refine z7 (zA 4 ?_)
 obtain ⟨c7,c1,h⟩:=aA h
 refine qC [(1000000,1000000)] [] (W.nT c1) (zP fun u k=>?_)
 refine yE k [0,1,2,3,4,10,11,12] [1000000] (zD (z6 3 fun u k=>?_))
 exact aU ((aH a0.2.2.1 1),c7) h k (here (by kernel_rfl))
 refine zM fun u k=>?_
 exact aU (a0.2.2.1,a0.2.2.2.2.2) h k (here (by kernel_rfl))
 refine aQ ?_
 obtain rfl:=osi h
 exact zV k []
theorem W.iR:∀ (n:Nat) {a:Int} {b:Int} {limit:Int} {h0:(List Int)} {r:(List Int)},bE n a b limit h0=some r→PC G.P 79 [(.row (.top 1000000) 3),(vI a),(vI b),(vI limit),(.fn 71 [])] [(1000000,.row 3 [] (List.map cI h0))] (.tup []) [(1000000,.row 3 [] (List.map cI r))]
  | 0,_,_,_,_,_,h=>by simp [bE] at h
  | n+1,_,_,_,_,_,h=>W.oK (bE n) (W.iR n) h
theorem W.sD {a:Int} {b:Int} {limit:Int} {h0:(List Int)} {r:(List Int)} (h:kS a b limit h0=some r):PC G.P 79 [(.row (.top 1000000) 3),(vI a),(vI b),(vI limit),(.fn 71 [])] [(1000000,.row 3 [] (List.map cI h0))] (.tup []) [(1000000,.row 3 [] (List.map cI r))]:=W.iR 1000 h
theorem W.sW {h0 r} (h:bZ h0=some r):PC G.P 70 [(.row (.top 1000000) 3),(.fn 71 [])] [(1000000,.row 3 [] (List.map cI h0))] (.tup []) [(1000000,.row 3 [] (List.map cI r))]:=by
 refine zU G Try.func70 (yK [0,1] [1000000] (z7 (zA 1 (qL cI h0 (y1 1 [0,1,4] [1000000] (zD ?_))))))
 refine zA 4 ?_
 obtain ⟨r3,a0,h⟩:=aA h
 refine qP (W.Vb a0) (zA 1 ?_)
 obtain ⟨r4,a1,h⟩:=aA h
 refine qC [(1000000,1000000)] [] (W.sD a1) (zP fun u k=>?_)
 obtain rfl:=osi h
 exact wH k [] (here (by kernel_rfl)) (by kernel_rfl)
theorem W.Et {h0 r} (h:sU h0=some r):PC G.P 72 [(.row (.top 300000) 3)] [(300000,.row 3 [] (List.map cI h0))] (.row (.top 0) 3) [(0,.row 3 [] (List.map cI r))]:=by
 refine zU G Try.func72 (yK [0] [300000] (y3 1 [0] [300000] (zB (z7 (zA 1 (qL cI h0 ?_))))))
 refine y1 1 [0,8] [300000] (qc h (fun h=>?_) fun h=>?_)
 refine z8 2 ⟨[(2,ro 300000 3)],[(300000,wI 3 h0)]⟩ fun u k=>?_
 refine aO ?_
 obtain rfl:=osi h
 exact qW k [(2,ro 0 3)] (sp [] [(300000,0)])
 refine y4 [0] [300000] (zB (y3 1 [0,3] [300000] (zC ?_)))
 obtain ⟨b1,b5,h⟩:=aA h
 refine ql b5 (fun a1=>⟨[(0,ro 500000 3),(3,vI a1)],[(500000,wI 3 h0)]⟩) (fun b1=>match b1 with | .inl b2=>(.ret,⟨[(2,ro 500000 3)],[(500000,wI 3 b2)]⟩) | .inr b6=>(.exit 0,⟨[(0,ro 500000 3)],[(500000,wI 3 h0)]⟩)) (sp [] [(300000,500000)]) (fun a1 r h=>?_) (fun u k=>?_) (hout:=(by intro x;rcases x with _ | _ <;> rfl))
 refine zB (z7 (zA 2 (qL cI h0 (y1 1 [0,3,13] [500000] (qc h (fun h=>?_) fun h=>?_)))))
 refine y4 [0,3] [500000] (zB (zC (zB (qM 9 (dN 2 ?_)))))
 obtain ⟨c0,a3,h⟩:=aA h
 refine dI cI a3 (dR cI a3 (dN 3 ?_))
 obtain ⟨c1,a4,h⟩:=aA h
 refine dI cI a4 (dR cI a4 (dE (oN 1 (zO fun u k=>?_))))
 refine yE k [0,3,25] [500000] (qc h (fun h=>?_) fun h=>?_)
 refine z7 (zA 2 ?_)
 obtain ⟨hp2,h⟩:=XN h
 refine kF (NL (c:=cI) (l:=h0) (kk:=(.top 500000)) (e:=3) (sz:=1) (lo:=a1) (k1:=.i64) (by kernel_rfl) (by kernel_rfl) (fun _=>rfl) hp2) (y1 1 [0,3,4] [500000] (zB (y3 1 [0,3,4,5] [500000] (zC ?_))))
 obtain ⟨a2,b4,h⟩:=aA h
 refine ql b4 (fun a0=>⟨[(0,ro 500000 3),(3,vI a0.1),(4,.part (.top 500000) 3 (Int.toNat a1) (Int.toNat (h0.length:Int)-Int.toNat a1)),(5,vI a0.2.1)],[(500000,wI 3 a0.2.2)]⟩) (fun a2=>(.exit 2,⟨[(0,ro 500000 3),(3,vI a2.1)],[(500000,wI 3 a2.2)]⟩)) qH (fun a0 r h=>?_) fun u k=>?_
 refine zB (z7 (zA 2 (kF (YL (kk:=(.top 500000)) (e:=3) (lo:=(Int.toNat a1)) (n:=(Int.toNat (h0.length:Int)-Int.toNat a1)) (by kernel_rfl)) (y1 1 [0,3,4,5,32] [500000] (qc h (fun h=>?_) fun h=>?_)))))
 refine y4 [0,3,4,5] [500000] (eQ (fun (a9:Int×(List Int))=>⟨[(0,ro 500000 3),(3,vI a9.1),(4,.part (.top 500000) 3 (Int.toNat a1) (Int.toNat (h0.length:Int)-Int.toNat a1)),(5,vI a0.2.1)],[(500000,wI 3 a9.2)]⟩) (oJ a0) r (by kernel_rfl) (fun a9 h=>?_) ?_)
 refine zD (z6 3 fun u k=>?_)
 cases h
 exact zH k
 refine zC (zB (qM 9 (dN 2 ?_)))
 obtain ⟨b7,a5,h⟩:=aA h
 refine Ag (by kernel_rfl) (EN (c:=cI) (l:=a0.2.2) (i:=a0.2.1) (kd:=.i64) (kk:=(.top 500000)) (e:=3) (sz:=1) (lo:=(Int.toNat a1)) (n:=(Int.toNat (h0.length:Int)-Int.toNat a1)) (by kernel_rfl) (by kernel_rfl) a5 rfl) (by kernel_rfl) (by kernel_rfl) (Ag (by kernel_rfl) (Qk (c:=cI) (l:=a0.2.2) (i:=((Int.toNat a1)+Int.toNat a0.2.1)) (v:=(vI b7)) (agg:=false) (sz:=1) (kk:=(.top 500000)) (e:=3) (off:=0) (J:=[]) (by kernel_rfl) (by kernel_rfl) (by kernel_rfl) (Yw a5) (by kernel_rfl)) (by kernel_rfl) (by kernel_rfl) (dN 3 ?_))
 obtain ⟨b8,a6,h⟩:=aA h
 refine Ag (by kernel_rfl) (EN (c:=cI) (l:=a0.2.2) (i:=(aH a0.2.1 1)) (kd:=.i64) (kk:=(.top 500000)) (e:=3) (sz:=1) (lo:=(Int.toNat a1)) (n:=(Int.toNat (h0.length:Int)-Int.toNat a1)) (by kernel_rfl) (by kernel_rfl) a6 rfl) (by kernel_rfl) (by kernel_rfl) (Ag (by kernel_rfl) (Qk (c:=cI) (l:=a0.2.2) (i:=((Int.toNat a1)+Int.toNat (aH a0.2.1 1))) (v:=(vI b8)) (agg:=false) (sz:=1) (kk:=(.top 500000)) (e:=3) (off:=0) (J:=[]) (by kernel_rfl) (by kernel_rfl) (by kernel_rfl) (Yw a6) (by kernel_rfl)) (by kernel_rfl) (by kernel_rfl) (dE (oN 1 (zO fun u k=>?_))))
 refine yE k [0,3,4,5,44] [500000] (qc h (fun h=>?_) fun h=>?_)
 refine z7 (zA 4 ?_)
 obtain ⟨b0,a7,h⟩:=aA h
 refine kF (EN (c:=cI) (l:=a0.2.2) (i:=a0.2.1) (kd:=.i64) (kk:=(.top 500000)) (e:=3) (sz:=1) (lo:=(Int.toNat a1)) (n:=(Int.toNat (h0.length:Int)-Int.toNat a1)) (by kernel_rfl) (by kernel_rfl) a7 rfl) (kF (Qk (c:=cI) (l:=a0.2.2) (i:=((Int.toNat a1)+Int.toNat a0.2.1)) (v:=(vI b0)) (agg:=false) (sz:=1) (kk:=(.top 500000)) (e:=3) (off:=0) (J:=[]) (by kernel_rfl) (by kernel_rfl) (by kernel_rfl) (Yw a7) (by kernel_rfl)) ?_)
 obtain ⟨c2,a8,h⟩:=aA h
 refine qI cI a8 (qS cI b0 a8 (zP fun u k=>?_))
 refine yE k [0,3,4,5] [500000] (zD (z6 3 fun u k=>?_))
 exact aK (aU ((aF a0.1 1),(List.set a0.2.2 (Int.toNat a0.1) b0)) h k (here (by kernel_rfl)))
 refine zM fun u k=>?_
 exact aK (aU (a0.1,a0.2.2) h k (here (by kernel_rfl)))
 refine zL 2 fun u k=>?_
 refine aR ?_
 cases h
 exact zF k
 refine zQ (yE k [0,3] [500000] (z7 (zA 2 ?_)))
 obtain ⟨hp2,h⟩:=XN h
 refine kF (NL (c:=cI) (l:=a2.2) (kk:=(.top 500000)) (e:=3) (sz:=1) (lo:=a2.1) (k1:=.i64) (by kernel_rfl) (by kernel_rfl) (fun _=>rfl) hp2) (jL (RG (c:=cI) (l:=a2.2) (z:=0) (d:=(.part (.top 500000) 3 (Int.toNat a2.1) (Int.toNat (a2.2.length:Int)-Int.toNat a2.1))) (e:=3) (g:=500000) (lo:=(Int.toNat a2.1)) (n:=(Int.toNat (a2.2.length:Int)-Int.toNat a2.1)) (zs:=[(vI 0)]) (by kernel_rfl) (by kernel_rfl) (by kernel_rfl) (UU hp2) rfl) (zP fun u k=>?_))
 refine yE k [0,3] [500000] (z7 (zA 2 ?_))
 obtain ⟨b9,b3,h⟩:=aA h
 refine jL (ZP (J:=[]) (c:=cI) (l:=(cpy a2.2 (Int.toNat a2.1) (List.replicate (Int.toNat (a2.2.length:Int)-Int.toNat a2.1) 0))) (e:=3) (g:=500000) (hi:=a2.1) (k2:=.i64) (by kernel_rfl) (by kernel_rfl) rfl b3) (y1 1 [2] [500000] (zN fun u k=>?_))
 refine aQ (aO ?_)
 cases h
 exact zF k
 refine zM fun u k=>?_
 refine aK (yE k [0,3] [500000] (zD (z6 3 fun u k=>?_)))
 cases h
 exact zH k
 refine zL 0 fun u k=>?_
 refine aR ?_
 cases h
 exact zF k
 rcases b1 with b2 | b6
 refine aQ (aO ?_)
 obtain rfl:=osi h
 exact qW k [(2,ro 0 3)] (sp [] [(500000,0)])
 refine zQ (yE k [0] [500000] (z8 2 ⟨[(2,ro 500000 3)],[(500000,wI 3 h0)]⟩ fun u k=>?_))
 obtain rfl:=osi h
 exact qW k [(2,ro 0 3)] (sp [] [(500000,0)])
theorem W.Yh {h0 r} (h:Rh h0=some r):PC G.P 51 [(.row (.top 300000) 3)] [(300000,.row 3 [] (List.map cI h0))] (.row (.top 0) 3) [(0,.row 3 [] (List.map cI r))]:=by
 refine zU G Try.func51 (yK [0] [300000] (y3 1 [0] [300000] (z7 (zA 1 ?_))))
 obtain ⟨r2,a0,h⟩:=aA h
 refine qC [(1000000,300000)] [] (W.sW a0) (zP fun u k=>?_)
 refine yE k [0] [300000] (z7 (zA 1 ?_))
 obtain ⟨r4,a1,h⟩:=aA h
 refine qC [(300000,300000)] [(0,700050)] (W.Et a1) (y1 1 [2] [700050] (zN fun u k=>?_))
 obtain rfl:=osi h
 exact qW k [(2,ro 0 3)] (sp [] [(700050,0)])
theorem W.Nn {l x1 y r} (h:Du l x1 y=some r):PC G.P 54 [(.agg (aV l)),(vI x1),(vI y)] [] (vF 116 112 r) []:=by
 refine zU G Try.func54 (yK [0,1,2] [] (y3 2 [1,2,3] [3] (zB (z7 (zA 2 (qL aX l.Pieces ?_))))))
 refine y1 1 [1,2,12,13,14] [] (zC ?_)
 obtain ⟨a5,b0,h⟩:=aA h
 refine ql b0 (fun a0=>⟨[(1,vI x1),(2,vI y),(12,bY l.Pieces),(13,vI (l.Pieces.length:Int)),(14,vI a0)],[]⟩) (fun a5=>match a5 with | .inl a2=>(.ret,⟨[(6,vF 116 112 a2)],[]⟩) | .inr b4=>(.exit 0,⟨[],[]⟩)) qH (fun a0 r h=>?_) (fun u k=>?_) (hout:=(by intro x;rcases x with _ | _ <;> rfl))
 refine y3 1 [1,2,12,13,14,15] [] (zB (qc h (fun h=>?_) fun h=>?_))
 refine y4 [1,2,12,13,14] [] (zB (zC (z7 (zA 1 ?_))))
 obtain ⟨a1,a7,h⟩:=aA h
 refine qX aX a7 (y1 4 [1,2,7,8,12,13,14] [8] (z7 (zA 2 (qL aM a1.Rects (y1 1 [1,2,7,12,13,14,20,21,22] [] (zC ?_))))))
 obtain ⟨a4,a9,h⟩:=aA h
 refine ql a9 (fun a3=>⟨[(1,vI x1),(2,vI y),(7,vI a0),(12,bY l.Pieces),(13,vI (l.Pieces.length:Int)),(14,vI a0),(20,bB a1.Rects),(21,vI (a1.Rects.length:Int)),(22,vI a3)],[]⟩) (fun a4=>match a4 with | .inl b2=>(.ret,⟨[(6,vF 116 112 (some a0))],[]⟩) | .inr b3=>(.exit 2,⟨[(1,vI x1),(2,vI y),(12,bY l.Pieces),(13,vI (l.Pieces.length:Int)),(14,vI a0)],[]⟩)) qH (fun a3 r h=>?_) (fun u k=>?_) (hout:=(by intro x;rcases x with _ | _ <;> rfl))
 refine y3 1 [1,2,7,12,13,14,20,21,22,23] [] (zB (qc h (fun h=>?_) fun h=>?_))
 refine y4 [1,2,7,12,13,14,20,21,22] [] (zB (zC (z7 ?_)))
 obtain ⟨b5,a8,h⟩:=aA h
 refine qX aM a8 (y1 3 [1,2,7,10,12,13,14,20,21,22] [10] (zB ?_))
 obtain ⟨b1,a6,h⟩:=aA h
 refine zT ⟨[(1,vI x1),(2,vI y),(7,vI a0),(12,bY l.Pieces),(13,vI (l.Pieces.length:Int)),(14,vI a0),(20,bB a1.Rects),(21,vI (a1.Rects.length:Int)),(22,vI a3),(53,vB b1)],[]⟩ ?_ fun u k=>?_
 replace h:=a6
 refine zA 5 (qB h [1,2,7,10,12,13,14,20,21,22,30] [10] [30] (fun h=>?_) fun h=>?_)
 refine zA 9 (qB h [1,2,7,10,12,13,14,20,21,22,39] [10] [39] (fun h=>?_) fun h=>?_)
 refine zA 6 (qB h [1,2,7,10,12,13,14,20,21,22,45] [10] [45] (fun h=>?_) fun h=>?_)
 refine z6 8 fun u k=>?_
 cases h
 exact zG k
 refine z6 8 fun u k=>?_
 cases h
 exact zG k
 refine z6 14 fun u k=>?_
 cases h
 exact zG k
 refine z6 23 fun u k=>?_
 cases h
 exact zG k
 refine yE k [1,2,7,12,13,14,20,21,22,53] [] (qc h (fun h=>?_) fun h=>?_)
 refine z7 (zA 1 (jL (Ae (x:=(some a0)) Gv (by kernel_rfl)) (y1 1 [6] [] (zN fun u k=>?_))))
 refine aQ (aO ?_)
 cases h
 exact zF k
 refine zM fun u k=>?_
 refine aK (yE k [1,2,7,12,13,14,20,21,22] [] (zD (z6 2 fun u k=>?_)))
 cases h
 exact zH k
 refine zL 2 fun u k=>?_
 refine aR ?_
 cases h
 exact zF k
 rcases a4 with b2 | b3
 refine aQ (aQ (aO ?_))
 cases h
 exact zF k
 refine zQ (aK (yE k [1,2,12,13,14] [] (zD (z6 2 fun u k=>?_))))
 cases h
 exact zH k
 refine zL 0 fun u k=>?_
 refine aR ?_
 cases h
 exact zF k
 rcases a5 with a2 | b4
 refine aQ (aO ?_)
 obtain rfl:=osi h
 exact zV k [(6,vF 116 112 a2)]
 refine zQ (yE k [] [] (z7 (zA 1 (jL (Ae (x:=none) Gv (by kernel_rfl)) (y1 1 [6] [] (zN fun u k=>?_))))))
 obtain rfl:=osi h
 exact zV k [(6,vF 116 112 none)]
theorem W.Yb {x0 a_0 a_1 a_2 a_3 a_4 a_5 a_6 a_7 a_8 a2_0 r} (h:Fp x0 a_0 a_1 a_2 a_3 a_4 a_5 a_6 a_7 a_8 a2_0=some r):PC G.P 53 [(vI x0),(.vptr [(vS a_0),(vS a_1),(vI a_2),(vI a_3),(vI a_4),(vI a_5),(.sl (List.map aM a_6)),(.sl (List.map aM a_7)),(.sl (List.map aX a_8))] 0),(.vptr [(vI a2_0)] 0)] [] (.tup [(vF 116 112 r.1),(vF 116 112 r.2)]) []:=by
 refine zU G Try.func53 (yK [0,1,2] [] (y3 2 [0,1,2] [] (zB (qM 8 (dN 3 ?_)))))
 obtain ⟨r5,a0,h⟩:=aA h
 refine dC [] (W.Nn a0) (dN 4 (dE ?_))
 obtain ⟨r6,a1,h⟩:=aA h
 refine oP (W.Nn a1) (oN 2 (zO fun u k=>?_))
 refine yE k [4,5] [] (zN fun u k=>?_)
 obtain rfl:=osi h
 exact zV k [(4,vF 116 112 r5),(5,vF 116 112 r6)]
theorem W.pW {a r} (h:fB a=some r):PC G.P 125 [(vI a)] [] (vB r) []:=by
 refine zU G Try.func125 (yK [] [] (y3 1 [] [] (z8 1 ⟨[(2,vB true)],[]⟩ fun u k=>?_)))
 obtain rfl:=osi h
 exact zV k [(2,vB true)]
theorem W.pU {a r} (h:eZ a=some r):PC G.P 124 [(.agg [])] [] (vB r) []:=by
 refine zU G Try.func124 (yK [0] [] (y3 2 [] [] (z8 1 ⟨[(2,vB false)],[]⟩ fun u k=>?_)))
 obtain rfl:=osi h
 exact zV k [(2,vB false)]
theorem W.Yc {from0 to1 a_0 r} (h:Fq from0 to1 a_0=some r):PC G.P 55 [(vI from0),(vI to1),(.vptr [(vI a_0)] 0)] [] (.agg (Df r)) [(0,.box [(vI from0),(vI a_0),(vI to1),(vI a_0)])]:=by
 refine zU G Try.func55 (yK [0,1,2] [] (y3 1 [0,1,2,5] [5] (z8 6 ⟨[(5,.ptr 5 0)],[(5,.box [(vI from0),(vI a_0),(vI to1),(vI a_0)])]⟩ fun u k=>?_)))
 obtain rfl:=osi h
 exact qW k [(5,.ptr 0 0)] (sp [] [(5,0)])
theorem W.Af {t r} (h:vE t=some r):PC G.P 74 [(vF 116 112 t)] [] (vI r) []:=by
 refine zU G Try.func74 (yK [0] [] (y3 1 [0] [] (y3 1 [5] [] (zC (z7 (jL (ZQ (x:=t) Gv (by kernel_rfl)) ?_))))))
 refine y1 2 [5,7,8] [] (qc h (fun h=>?_) fun h=>?_)
 refine y3 1 [3] [] (z8 2 ⟨[(2,vI (Option.getD t 0))],[]⟩ fun u k=>?_)
 refine aQ ?_
 obtain rfl:=osi h
 exact zV k [(2,vI (Option.getD t 0))]
 refine y3 1 [] [] (z8 1 ⟨[(2,vI (-1))],[]⟩ fun u k=>?_)
 refine aQ ?_
 obtain rfl:=osi h
 exact zV k [(2,vI (-1))]
end Go.Proofs.Ytgfjbgoehhnaeaa
