/- Each Go function does what its model says; written by a program out of the translation. -/
import Derived.Test.YtgfjbgoehhnaeaaGreatBase
import Derived.Test.YtgfjbgoehhnaeaaGreatPl3
set_option linter.unusedVariables false
set_option linter.unusedSimpArgs false
set_option linter.unusedSectionVars false
namespace Go.Proofs.YtgfjbgoehhnaeaaGreat
open Go Go.VI Go.SM Go.Proofs
set_option maxRecDepth 100000
set_option maxHeartbeats 4000000
theorem W.Ru {s sub r} (h:strings_Contains s sub=some r):PC G.P 142 [vS s,vS sub] [] (vB r) []:=by
 unfold strings_Contains at h
 split at h
 rename_i hs
 injection h with h;subst h
 exact ZJ (args:=[.string s,.string sub]) (by kernel_rfl) 0 (by kernel_rfl) fun m w hm=>Any.strings_Contains Tryz.DJ s sub m w hs hm
 cases h
theorem W.wO {s0 r} (h:lM s0=some r):PC G.P 84 [(vS s0)] [] (vB r) []:=by
 refine zU G Tryz.func84 (yK [0] [] (y3 1 [0] [] (zB (zB ?_))))
 obtain ⟨j8,a9,h⟩:=aA h
 refine zT ⟨[(0,vS s0),(22,vB j8)],[]⟩ ?_ fun u k=>?_
 replace h:=a9
 refine zA 4 (qB h [0,8] [] [8] (fun h=>?_) fun h=>?_)
 refine z6 14 fun u k=>?_
 cases h
 exact zG k
 refine zA 5 (qB h [0,13] [] [13] (fun h=>?_) fun h=>?_)
 refine z6 9 fun u k=>?_
 cases h
 exact zG k
 refine zA 1 ?_
 obtain ⟨x9,b0,h⟩:=aA h
 refine fK (Dj (s:=s0) (i:=0) (kd:=.i64) (by kernel_rfl) b0) (zA 3 (qB h [0,18] [] [18] (fun h=>?_) fun h=>?_))
 refine z6 4 fun u k=>?_
 cases h
 exact zG k
 refine zA 1 ?_
 obtain ⟨b7,a5,h⟩:=aA h
 refine fK (Dj (s:=s0) (i:=0) (kd:=.i64) (by kernel_rfl) a5) (z6 2 fun u k=>?_)
 cases h
 exact zG k
 refine yE k [0,22] [] (qc h (fun h=>?_) fun h=>?_)
 refine z8 1 ⟨[(2,vB false)],[]⟩ fun u k=>?_
 refine aO ?_
 obtain rfl:=osi h
 exact zV k [(2,vB false)]
 refine y4 [0] [] (zB (y3 3 [0,24,25] [] (zC ?_)))
 obtain ⟨a8,a7,h⟩:=aA h
 refine ql a7 (fun a0=>⟨[(0,vS s0),(24,vI (s0.size:Int)),(25,vI a0)],[]⟩) (fun a8=>match a8 with | .inl b2=>(.ret,⟨[(2,vB false)],[]⟩) | .inr b3=>(.exit 0,⟨[(0,vS s0)],[]⟩)) qH (fun a0 r h=>?_) (fun u k=>?_) (hout:=(by intro x;rcases x with _ | _ <;> rfl))
 refine y3 1 [0,24,25,26] [] (zB (qc h (fun h=>?_) fun h=>?_))
 refine y4 [0,24,25] [] (zB (zC (y3 2 [0,3,24,25] [] (z7 (zA 2 ?_)))))
 obtain ⟨b8,a6,h⟩:=aA h
 refine fK (Dj (s:=s0) (i:=a0) (kd:=.i64) (by kernel_rfl) a6) (y1 1 [0,4,24,25] [] (zB ?_))
 obtain ⟨b1,a1,h⟩:=aA h
 refine zT ⟨[(0,vS s0),(24,vI (s0.size:Int)),(25,vI a0),(44,vB b1)],[]⟩ ?_ fun u k=>?_
 replace h:=a1
 refine zA 3 (qB h [0,4,24,25,33] [] [33] (fun h=>?_) fun h=>?_)
 refine zA 7 (qB h [0,4,24,25,37,40] [] [40] (fun h=>?_) fun h=>?_)
 refine z6 4 fun u k=>?_
 cases h
 exact zG k
 refine z6 4 fun u k=>?_
 cases h
 exact zG k
 refine zA 4 (qB h [0,4,24,25,37] [] [37] (fun h=>?_) fun h=>?_)
 refine zA 3 (qB h [0,4,24,25,37,40] [] [40] (fun h=>?_) fun h=>?_)
 refine z6 4 fun u k=>?_
 cases h
 exact zG k
 refine z6 4 fun u k=>?_
 cases h
 exact zG k
 refine z6 7 fun u k=>?_
 cases h
 exact zG k
 refine yE k [0,24,25,44] [] (qc h (fun h=>?_) fun h=>?_)
 refine z8 1 ⟨[(2,vB false)],[]⟩ fun u k=>?_
 refine aT (aO ?_)
 cases h
 exact zF k
 refine zM fun u k=>?_
 refine aF (yE k [0,24,25] [] (zD (z6 2 fun u k=>?_)))
 cases h
 exact zH k
 refine zL 0 fun u k=>?_
 refine aR ?_
 cases h
 exact zF k
 rcases a8 with b2 | b3
 refine aT (aO ?_)
 obtain rfl:=osi h
 exact zV k [(2,vB false)]
 refine zQ (yE k [0] [] (z7 (zA 1 ?_)))
 obtain ⟨b5,a3,h⟩:=aA h
 refine iQ (HY (a:=(ByteArray.mk #[32])) (b:=s0) (by kernel_rfl) a3) ?_
 obtain ⟨b6,a4,h⟩:=aA h
 refine iQ (HY (a:=b5) (b:=(ByteArray.mk #[32])) (by kernel_rfl) a4) ?_
 obtain ⟨b4,a2,h⟩:=aA h
 refine qP (W.Ru a2) (y1 2 [2] [] (zN fun u k=>?_))
 obtain rfl:=osi h
 exact zV k [(2,vB (!b4))]
theorem W.Ey {n lo hi r} (h:Ci n lo hi=some r):PC G.P 86 [(vI n),(vI lo),(vI hi)] [] (vB r) []:=by
 refine zU G Tryz.func86 (yK [0,1,2] [] (y3 1 [0,1,2] [] (zB ?_)))
 obtain ⟨j1,a0,h⟩:=aA h
 refine zT ⟨[(6,vB j1)],[]⟩ ?_ fun u k=>?_
 replace h:=a0
 refine zA 4 (qB h [0,2,10] [] [10] (fun h=>?_) fun h=>?_)
 refine z6 5 fun u k=>?_
 cases h
 exact zG k
 refine z6 5 fun u k=>?_
 cases h
 exact zG k
 refine yE k [6] [] (zN fun u k=>?_)
 obtain rfl:=osi h
 exact zV k [(6,vB j1)]
theorem W.Sl {gauge grain r} (h:Hm gauge grain=some r):PC G.P 85 [(vI gauge),(vI grain)] [] (vB r) []:=by
 refine zU G Tryz.func85 (yK [0,1] [] (y3 1 [0,1] [] (zB ?_)))
 obtain ⟨j3,a0,h⟩:=aA h
 refine zT ⟨[(4,vB j3)],[]⟩ ?_ fun u k=>?_
 replace h:=a0
 refine zA 1 ?_
 obtain ⟨r4,a1,h⟩:=aA h
 refine qP (W.Ey a1) (zA 1 (qB h [1,7] [] [7] (fun h=>?_) fun h=>?_))
 refine zA 1 ?_
 obtain ⟨r5,a2,h⟩:=aA h
 refine qP (W.Ey a2) (z6 2 fun u k=>?_)
 cases h
 exact zG k
 refine z6 4 fun u k=>?_
 cases h
 exact zG k
 refine yE k [4] [] (zN fun u k=>?_)
 obtain rfl:=osi h
 exact zV k [(4,vB j3)]
theorem W.BA {n most r} (h:Jd n most=some r):PC G.P 144 [(vI n),(vI most)] [] (vB r) []:=by
 refine zU G Tryz.func144 (yK [0,1] [] (y3 1 [0,1] [] (zB ?_)))
 obtain ⟨j1,a0,h⟩:=aA h
 refine zT ⟨[(4,vB j1)],[]⟩ ?_ fun u k=>?_
 replace h:=a0
 refine zA 5 (qB h [0,1,9] [] [9] (fun h=>?_) fun h=>?_)
 refine z6 5 fun u k=>?_
 cases h
 exact zG k
 refine z6 5 fun u k=>?_
 cases h
 exact zG k
 refine yE k [4] [] (zN fun u k=>?_)
 obtain rfl:=osi h
 exact zV k [(4,vB j1)]
theorem W.Ej {x0 w r} (h:uP x0 w=some r):PC G.P 143 [(vI x0),(vI w)] [] (vB r) []:=by
 refine zU G Tryz.func143 (yK [0,1] [] (y3 1 [0,1] [] (zB ?_)))
 obtain ⟨j2,a0,h⟩:=aA h
 refine zT ⟨[(4,vB j2)],[]⟩ ?_ fun u k=>?_
 replace h:=a0
 refine zA 1 ?_
 obtain ⟨r3,a1,h⟩:=aA h
 refine qP (W.BA a1) (zA 1 (qB h [0,1,7] [] [7] (fun h=>?_) fun h=>?_))
 refine zA 4 (qB h [0,1,11] [] [11] (fun h=>?_) fun h=>?_)
 refine zA 4 (qB h [0,1,15] [] [15] (fun h=>?_) fun h=>?_)
 refine z6 6 fun u k=>?_
 cases h
 exact zG k
 refine z6 6 fun u k=>?_
 cases h
 exact zG k
 refine z6 10 fun u k=>?_
 cases h
 exact zG k
 refine z6 14 fun u k=>?_
 cases h
 exact zG k
 refine yE k [4] [] (zN fun u k=>?_)
 obtain rfl:=osi h
 exact zV k [(4,vB j2)]
theorem W.gB {r0 r} (h:fM r0=some r):PC G.P 89 [(.agg (aD r0))] [] (vB r) []:=by
 refine zU G Tryz.func89 (yK [0] [] (y3 2 [1] [1] (y3 1 [1,3] [1] (zB ?_))))
 obtain ⟨j3,a0,h⟩:=aA h
 refine zT ⟨[(2,vB j3)],[]⟩ ?_ fun u k=>?_
 replace h:=a0
 refine zA 5 ?_
 obtain ⟨r4,a1,h⟩:=aA h
 refine qP (W.Ej a1) (zA 1 (qB h [1,3,10] [1] [10] (fun h=>?_) fun h=>?_))
 refine zA 5 ?_
 obtain ⟨r5,a2,h⟩:=aA h
 refine qP (W.Ej a2) (z6 2 fun u k=>?_)
 cases h
 exact zG k
 refine z6 8 fun u k=>?_
 cases h
 exact zG k
 refine yE k [2] [] (zN fun u k=>?_)
 obtain rfl:=osi h
 exact zV k [(2,vB j3)]
theorem W.yC {l r} (h:xI l=some r):PC G.P 87 [(.sl (List.map aD l))] [] (vB r) []:=by
 refine zU G Tryz.func87 (yK [0] [] (y3 1 [0] [] (zB (z7 (zA 1 (qL aD l ?_))))))
 refine y1 1 [5,6,7] [] (zC ?_)
 obtain ⟨a3,a2,h⟩:=aA h
 refine ql a2 (fun a4=>⟨[(5,aW l),(6,vI (l.length:Int)),(7,vI a4)],[]⟩) (fun a3=>match a3 with | .inl a5=>(.ret,⟨[(2,vB false)],[]⟩) | .inr a6=>(.exit 0,⟨[],[]⟩)) qH (fun a4 r h=>?_) (fun u k=>?_) (hout:=(by intro x;rcases x with _ | _ <;> rfl))
 refine y3 1 [5,6,7,8] [] (zB (qc h (fun h=>?_) fun h=>?_))
 refine y4 [5,6,7] [] (zB (zC (z7 ?_)))
 obtain ⟨a8,a1,h⟩:=aA h
 refine qX aD a1 (y1 3 [4,5,6,7] [4] (z7 (zA 1 ?_)))
 obtain ⟨a7,a0,h⟩:=aA h
 refine qP (W.gB a0) (y1 1 [5,6,7,13] [] (qc h (fun h=>?_) fun h=>?_))
 refine z8 1 ⟨[(2,vB false)],[]⟩ fun u k=>?_
 refine aT (aO ?_)
 cases h
 exact zF k
 refine zM fun u k=>?_
 refine aF (yE k [5,6,7] [] (zD (z6 2 fun u k=>?_)))
 cases h
 exact zH k
 refine zL 0 fun u k=>?_
 refine aR ?_
 cases h
 exact zF k
 rcases a3 with a5 | a6
 refine aT (aO ?_)
 obtain rfl:=osi h
 exact zV k [(2,vB false)]
 refine zQ (yE k [] [] (z8 1 ⟨[(2,vB true)],[]⟩ fun u k=>?_))
 obtain rfl:=osi h
 exact zV k [(2,vB true)]
theorem W.DN {s0 margin r} (h:Og s0 margin=some r):PC G.P 88 [(.agg (oU s0)),(vI margin)] [] (.tup [(.agg (aD r.1)),(vB r.2)]) [(0,.box [(vI margin),(vI margin),(vI (aJ s0.Width (nI 2 margin))),(vI (aJ s0.Height (nI 2 margin)))])]:=by
 refine zU G Tryz.func88 (yK [0,1] [] (y3 3 [1,2,4] [2,4] (y3 15 [4,6] [4,6] (zB (qM 3 (dN 2 ?_))))))
 obtain ⟨r3,a0,h⟩:=aA h
 refine dC [] (W.gB a0) (dE (oN 2 (zO fun u k=>?_)))
 refine yE k [4,5] [4] (zN fun u k=>?_)
 obtain rfl:=osi h
 exact qW k [(4,.ptr 0 0),(5,vB r3)] (sp [] [(4,0)])
theorem W.Gv {a b r} (h:zR a b=some r):PC G.P 42 [(.agg (aD a)),(.agg (aD b))] [] (vB r) []:=by
 refine zU G Tryz.func42 (yK [0,1] [] (y3 3 [2,3] [2,3] (zB ?_)))
 obtain ⟨j3,a0,h⟩:=aA h
 refine zT ⟨[(4,vB j3)],[]⟩ ?_ fun u k=>?_
 replace h:=a0
 refine zA 1 ?_
 obtain ⟨r4,a1,h⟩:=aA h
 refine qP (W.gB a1) (zA 1 (qB h [2,3,7] [2,3] [7] (fun h=>?_) fun h=>?_))
 refine zA 1 ?_
 obtain ⟨r5,a2,h⟩:=aA h
 refine qP (W.gB a2) (zA 2 (qB h [2,3,11] [2,3] [11] (fun h=>?_) fun h=>?_))
 refine zA 7 (qB h [2,3,18] [2,3] [18] (fun h=>?_) fun h=>?_)
 refine zA 13 (qB h [2,3,31] [2,3] [31] (fun h=>?_) fun h=>?_)
 refine zA 7 (qB h [2,3,38] [2,3] [38] (fun h=>?_) fun h=>?_)
 refine z6 13 fun u k=>?_
 cases h
 exact zG k
 refine z6 13 fun u k=>?_
 cases h
 exact zG k
 refine z6 20 fun u k=>?_
 cases h
 exact zG k
 refine z6 33 fun u k=>?_
 cases h
 exact zG k
 refine z6 40 fun u k=>?_
 cases h
 exact zG k
 refine z6 44 fun u k=>?_
 cases h
 exact zG k
 refine yE k [4] [] (zN fun u k=>?_)
 obtain rfl:=osi h
 exact zV k [(4,vB j3)]
theorem W.Pn {s0 r} (h:kI s0=some r):PC G.P 40 [(.agg (oU s0))] [] (vI r) []:=by
 refine zU G Tryz.func40 (yK [0] [] (y3 2 [1] [1] (zB (zC (zB ?_)))))
 obtain ⟨c8,b1,h⟩:=aA h
 refine zT ⟨[(1,.ptr 500000 0),(9,vB c8)],[(500000,.box (oU s0))]⟩ ?_ fun u k=>?_
 replace h:=b1
 refine zA 2 ?_
 obtain ⟨d2,b5,h⟩:=aA h
 refine qP (W.wO b5) (zA 2 (zS d2 (fun b0=>⟨[(1,.ptr 1 0),(14,vB (!b0))],[(1,.box (oU s0))]⟩) (fun hb=>?_) fun hb=>?_))
 replace h:=iD hb h
 refine zA 2 ?_
 obtain ⟨d8,b6,h⟩:=aA h
 refine qP (W.wO b6) (z6 3 fun u k=>?_)
 cases h
 exact bJ k (sp [] [(1,500000)])
 replace h:=iB hb h
 refine z6 6 fun u k=>?_
 cases h
 exact bJ k (sp [] [(1,500000)])
 refine yE k [1,9] [500000] (qc h (fun h=>?_) fun h=>?_)
 refine z8 1 ⟨[(2,vI 2)],[]⟩ fun u k=>?_
 refine aT (aO ?_)
 obtain rfl:=osi h
 exact zV k [(2,vI 2)]
 refine zB ?_
 obtain ⟨c9,b2,h⟩:=aA h
 refine zT ⟨[(1,.ptr 500000 0),(20,vB c9)],[(500000,.box (oU s0))]⟩ ?_ fun u k=>?_
 replace h:=b2
 refine zA 4 ?_
 obtain ⟨d3,b7,h⟩:=aA h
 refine qP (W.Sl b7) (zA 2 (zS d3 (fun b0=>⟨[(1,.ptr 500000 0),(27,vB (!b0))],[(500000,.box (oU s0))]⟩) (fun hb=>?_) fun hb=>?_))
 replace h:=iD hb h
 refine zA 2 ?_
 obtain ⟨d4,b8,h⟩:=aA h
 refine qP (W.Ey b8) (zA 3 (zS d4 (fun b0=>⟨[(1,.ptr 500000 0),(33,vB (!b0))],[(500000,.box (oU s0))]⟩) (fun hb=>?_) fun hb=>?_))
 replace h:=iD hb h
 refine zA 2 ?_
 obtain ⟨d9,b9,h⟩:=aA h
 refine qP (W.Ey b9) (z6 3 fun u k=>?_)
 cases h
 exact zG k
 replace h:=iB hb h
 refine z6 6 fun u k=>?_
 cases h
 exact zG k
 replace h:=iB hb h
 refine z6 12 fun u k=>?_
 cases h
 exact zG k
 refine yE k [1,20] [500000] (qc h (fun h=>?_) fun h=>?_)
 refine z8 1 ⟨[(2,vI 1)],[]⟩ fun u k=>?_
 refine aT (aO ?_)
 obtain rfl:=osi h
 exact zV k [(2,vI 1)]
 refine zB ?_
 obtain ⟨d0,b3,h⟩:=aA h
 refine zT ⟨[(1,.ptr 500000 0),(39,vB d0)],[(500000,.box (oU s0))]⟩ ?_ fun u k=>?_
 replace h:=b3
 refine zA 2 (qL aD s0.Clamps (zA 2 (qB h [1,44] [500000] [44] (fun h=>?_) fun h=>?_)))
 refine z6 6 fun u k=>?_
 cases h
 exact zG k
 refine zA 2 (qL aD s0.Used (z6 3 fun u k=>?_))
 cases h
 exact zG k
 refine yE k [1,39] [500000] (qc h (fun h=>?_) fun h=>?_)
 refine z8 1 ⟨[(2,vI 4)],[]⟩ fun u k=>?_
 refine aT (aO ?_)
 obtain rfl:=osi h
 exact zV k [(2,vI 4)]
 refine zB ?_
 obtain ⟨d1,b4,h⟩:=aA h
 refine zT ⟨[(1,.ptr 500000 0),(50,vB d1)],[(500000,.box (oU s0))]⟩ ?_ fun u k=>?_
 replace h:=b4
 refine zA 2 ?_
 obtain ⟨d5,c0,h⟩:=aA h
 refine qP (W.yC c0) (zA 2 (zS d5 (fun b0=>⟨[(1,.ptr 500000 0),(55,vB (!b0))],[(500000,.box (oU s0))]⟩) (fun hb=>?_) fun hb=>?_))
 replace h:=iD hb h
 refine zA 2 ?_
 obtain ⟨e0,c1,h⟩:=aA h
 refine qP (W.yC c1) (z6 3 fun u k=>?_)
 cases h
 exact zG k
 replace h:=iB hb h
 refine z6 6 fun u k=>?_
 cases h
 exact zG k
 refine yE k [1,50] [500000] (qc h (fun h=>?_) fun h=>?_)
 refine z8 1 ⟨[(2,vI 1)],[]⟩ fun u k=>?_
 refine aT (aO ?_)
 obtain rfl:=osi h
 exact zV k [(2,vI 1)]
 refine zM fun u k=>?_
 refine aF (yE k [1] [500000] (z7 (zA 1 ?_)))
 obtain ⟨c7,c2,h⟩:=aA h
 refine qC [] [(0,700050)] (W.DN c2) (y1 6 [1,3] [3,500000] (zB (z7 (zA 5 (qL (cS aD) [s0.Clamps,s0.Used] (y1 1 [3,70,71,72] [3] ?_))))))
 refine zC ?_
 obtain ⟨a3,a8,h⟩:=aA h
 refine ql a8 (fun a0=>⟨[(3,.ptr 500000 0),(70,.sl (List.map (cS aD) [s0.Clamps,s0.Used])),(71,vI ([s0.Clamps,s0.Used].length:Int)),(72,vI a0)],[(500000,.box (aD c7.1))]⟩) (fun a3=>match a3 with | .inl c5=>(.ret,⟨[(2,vI 13)],[]⟩) | .inr c6=>(.exit 1,⟨[],[]⟩)) (sp [] [(3,500000)]) (fun a0 r h=>?_) (fun u k=>?_) (hout:=(by intro x;rcases x with _ | _ <;> rfl))
 refine y3 1 [3,70,71,72,73] [500000] (zB (qc h (fun h=>?_) fun h=>?_))
 refine y4 [3,70,71,72] [500000] (zB (zC (z7 ?_)))
 obtain ⟨a1,a5,h⟩:=aA h
 refine qX (cS aD) a5 (y1 2 [3,6,70,71,72] [500000] (z7 (zA 1 (qL aD a1 (y1 1 [3,70,71,72,76,77,78] [500000] (zC ?_))))))
 obtain ⟨a2,a7,h⟩:=aA h
 refine ql a7 (fun a9=>⟨[(3,.ptr 500000 0),(70,.sl (List.map (cS aD) [s0.Clamps,s0.Used])),(71,vI ([s0.Clamps,s0.Used].length:Int)),(72,vI a0),(76,aW a1),(77,vI (a1.length:Int)),(78,vI a9)],[(500000,.box (aD c7.1))]⟩) (fun a2=>match a2 with | .inl c3=>(.ret,⟨[(2,vI 13)],[]⟩) | .inr c4=>(.exit 3,⟨[(3,.ptr 500000 0),(70,.sl (List.map (cS aD) [s0.Clamps,s0.Used])),(71,vI ([s0.Clamps,s0.Used].length:Int)),(72,vI a0)],[(500000,.box (aD c7.1))]⟩)) qH (fun a9 r h=>?_) (fun u k=>?_) (hout:=(by intro x;rcases x with _ | _ <;> rfl))
 refine y3 1 [3,70,71,72,76,77,78,79] [500000] (zB (qc h (fun h=>?_) fun h=>?_))
 refine y4 [3,70,71,72,76,77,78] [500000] (zB (zC (z7 ?_)))
 obtain ⟨d7,a6,h⟩:=aA h
 refine qX aD a6 (y1 3 [3,8,70,71,72,76,77,78] [8,500000] (z7 (zA 2 ?_)))
 obtain ⟨d6,a4,h⟩:=aA h
 refine qP (W.Gv a4) (y1 1 [3,70,71,72,76,77,78,85] [500000] (qc h (fun h=>?_) fun h=>?_))
 refine z8 1 ⟨[(2,vI 13)],[]⟩ fun u k=>?_
 refine aT (aO ?_)
 cases h
 exact zF k
 refine zM fun u k=>?_
 refine aF (yE k [3,70,71,72,76,77,78] [500000] (zD (z6 2 fun u k=>?_)))
 cases h
 exact zH k
 refine zL 3 fun u k=>?_
 refine aR ?_
 cases h
 exact zF k
 rcases a2 with c3 | c4
 refine aT (aT (aO ?_))
 cases h
 exact zF k
 refine zQ (aF (yE k [3,70,71,72] [500000] (zD (z6 2 fun u k=>?_))))
 cases h
 exact zH k
 refine zL 1 fun u k=>?_
 refine aR ?_
 cases h
 exact zF k
 rcases a3 with c5 | c6
 refine aT (aO ?_)
 obtain rfl:=osi h
 exact zV k [(2,vI 13)]
 refine zQ (yE k [] [] (z8 1 ⟨[(2,vI 0)],[]⟩ fun u k=>?_))
 obtain rfl:=osi h
 exact zV k [(2,vI 0)]
theorem W.Pj {a b r} (h:Ah a b=some r):PC G.P 94 [(.agg (aD a)),(.agg (aD b))] [] (vB r) []:=by
 refine zU G Tryz.func94 (yK [0,1] [] (y3 3 [2,3] [2,3] (zB ?_)))
 obtain ⟨j3,a0,h⟩:=aA h
 refine zT ⟨[(4,vB j3)],[]⟩ ?_ fun u k=>?_
 replace h:=a0
 refine zA 1 ?_
 obtain ⟨r4,a1,h⟩:=aA h
 refine qP (W.gB a1) (zA 1 (qB h [2,3,7] [2,3] [7] (fun h=>?_) fun h=>?_))
 refine zA 1 ?_
 obtain ⟨r5,a2,h⟩:=aA h
 refine qP (W.gB a2) (zA 2 (qB h [2,3,11] [2,3] [11] (fun h=>?_) fun h=>?_))
 refine zA 10 (qB h [2,3,21] [2,3] [21] (fun h=>?_) fun h=>?_)
 refine zA 10 (qB h [2,3,31] [2,3] [31] (fun h=>?_) fun h=>?_)
 refine zA 10 (qB h [2,3,41] [2,3] [41] (fun h=>?_) fun h=>?_)
 refine z6 10 fun u k=>?_
 cases h
 exact zG k
 refine z6 10 fun u k=>?_
 cases h
 exact zG k
 refine z6 20 fun u k=>?_
 cases h
 exact zG k
 refine z6 30 fun u k=>?_
 cases h
 exact zG k
 refine z6 40 fun u k=>?_
 cases h
 exact zG k
 refine z6 44 fun u k=>?_
 cases h
 exact zG k
 refine yE k [4] [] (zN fun u k=>?_)
 obtain rfl:=osi h
 exact zV k [(4,vB j3)]
theorem W.DR {a b r} (h:Ho a b=some r):PC G.P 175 [(.agg (aD a)),(.agg (aD b))] [] (vB r) []:=by
 refine zU G Tryz.func175 (yK [0,1] [] (y3 3 [2,3] [2,3] (y3 18 [2,3,5] [2,3] (y3 18 [5,6] [] (zB ?_)))))
 obtain ⟨j1,a0,h⟩:=aA h
 refine zT ⟨[(4,vB j1)],[]⟩ ?_ fun u k=>?_
 replace h:=a0
 refine zA 3 (qB h [5,6,43] [] [43] (fun h=>?_) fun h=>?_)
 refine zA 4 (qB h [5,6,47] [] [47] (fun h=>?_) fun h=>?_)
 refine z6 8 fun u k=>?_
 cases h
 exact zG k
 refine zA 3 (qB h [5,47,50] [] [50] (fun h=>?_) fun h=>?_)
 refine z6 5 fun u k=>?_
 cases h
 exact zG k
 refine z6 5 fun u k=>?_
 cases h
 exact zG k
 refine zA 7 (qB h [5,47,50] [] [50] (fun h=>?_) fun h=>?_)
 refine z6 5 fun u k=>?_
 cases h
 exact zG k
 refine z6 5 fun u k=>?_
 cases h
 exact zG k
 refine yE k [4] [] (zN fun u k=>?_)
 obtain rfl:=osi h
 exact zV k [(4,vB j1)]
theorem W.Vu {l r} (h:Au l=some r):PC G.P 145 [(.sl (List.map aD l))] [] (vB r) []:=by
 refine zU G Tryz.func145 (yK [0] [] (y3 1 [0] [] (z7 (zA 1 (qL aD l ?_)))))
 obtain ⟨l2,c8,h⟩:=aA h
 refine iQ (Ji (c:=cB) (z:=false) (n:=(l.length:Int)) (e:=4) (d:=11) (zs:=[(vB false)]) (k1:=.i64) (k2:=.i64) (by kernel_rfl) rfl c8) (y1 1 [0,3] [11] (z7 (zA 1 ?_)))
 obtain ⟨x4,c6,h⟩:=aA h
 refine qI cB c6 (qS cB true c6 (zP fun u k=>?_))
 refine yE k [0,3] [11] (z7 (fK (Pq (e:=3) (d:=14) (es:=(List.map cI [0])) (by kernel_rfl)) (VB (g:=14) (e:=3) (l:=[0]) (by kernel_rfl) (by kernel_rfl) (by kernel_rfl) (y1 1 [0,3,4] [11,14] (zB (zC ?_))))))
 obtain ⟨a2,b8,h⟩:=aA h
 refine ql b8 (fun a1=>⟨[(0,aW l),(3,ro 500000 4),(4,ro 500001 3)],[(500000,wB 4 a1.1),(500001,.tl 3 a1.2)]⟩) (fun a2=>(.exit 0,⟨[(3,ro 500000 4)],[(500000,wB 4 a2)]⟩)) (sp [] [(11,500000),(14,500001)]) (fun a1 r h=>?_) fun u k=>?_
 refine zB (z7 (zA 1 (fK (YC (g:=500001) (e:=3) (l:=a1.2) (by kernel_rfl) (by kernel_rfl)) (y1 1 [0,3,4,17] [500000,500001] (qc h (fun h=>?_) fun h=>?_)))))
 refine y4 [0,3,4] [500000,500001] (zC (z7 (zA 1 ?_)))
 obtain ⟨a3,b4,h⟩:=aA h
 refine UZ (g:=500001) (e:=3) (d1:=19) (d2:=20) (l:=a1.2) (i:=0) (kd:=.i64) (by kernel_rfl) (by kernel_rfl) (by kernel_rfl) b4 (y1 1 [0,3,4,5] [500000,500001] (z7 (zA 1 ?_)))
 obtain ⟨c7,h⟩:=ZA h
 refine fK (TR (g:=500001) (e:=3) (n:=1) (kd:=.i64) (l:=a1.2) (by kernel_rfl) (by kernel_rfl) (by kernel_rfl) c7) (y1 1 [0,3,4,5] [500000,500001] (z7 (zA 1 (qL aD l (y1 1 [0,3,4,5,24,25] [500000,500001] (zC ?_))))))
 obtain ⟨a8,b7,h⟩:=aA h
 refine ql b7 (fun a0=>⟨[(0,aW l),(3,ro 500000 4),(4,ro 500001 3),(5,vI a3),(24,vI (l.length:Int)),(25,vI a0.1)],[(500000,wB 4 a0.2.1),(500001,.tl 3 a0.2.2)]⟩) (fun a8=>(.exit 2,⟨[(0,aW l),(3,ro 500000 4),(4,ro 500001 3)],[(500000,wB 4 a8.1),(500001,.tl 3 a8.2)]⟩)) qH (fun a0 r h=>?_) fun u k=>?_
 refine y3 1 [0,3,4,5,24,25,26] [500000,500001] (zB (qc h (fun h=>?_) fun h=>?_))
 refine y4 [0,3,4,5,24,25] [500000,500001] (bV (fun (a7:(List Bool)×(List Int))=>⟨[(0,aW l),(3,ro 500000 4),(4,ro 500001 3),(5,vI a3),(24,vI (l.length:Int)),(25,vI a0.1)],[(500000,wB 4 a7.1),(500001,.tl 3 a7.2)]⟩) (nX a0) r (by kernel_rfl) (fun a7 h=>?_) ?_)
 refine zD (z6 2 fun u k=>?_)
 cases h
 exact zH k
 refine zC (y3 2 [0,3,4,5,6,24,25] [500000,500001] (zB ?_))
 obtain ⟨c1,b1,h⟩:=aA h
 refine gG ⟨[(0,aW l),(3,ro 500000 4),(4,ro 500001 3),(5,vI a3),(6,vI a0.1),(24,vI (l.length:Int)),(25,vI a0.1),(43,vB c1)],[(500000,wB 4 a0.2.1),(500001,.tl 3 a0.2.2)]⟩ [] [] [] [] [] 14 (by kernel_rfl) (by kernel_rfl) (by kernel_rfl) ?_ fun u k=>?_
 replace h:=b1
 refine dN 2 ?_
 obtain ⟨c5,a4,h⟩:=aA h
 refine dI cB a4 (dR cB a4 (dN 2 (bH c5 (fun b0=>⟨[(33,vB (!b0)),(32,vB (!b0)),(31,vB b0),(30,.rptr (.top 500000) 4 (Int.toNat a0.1) 0),(29,vI a0.1),(28,ro 500000 4),(0,aW l),(3,ro 500000 4),(4,ro 500001 3),(5,vI a3),(6,vI a0.1),(24,vI (l.length:Int)),(25,vI a0.1)],[(500000,wB 4 a0.2.1),(500001,.tl 3 a0.2.2)]⟩) (by kernel_rfl) (fun hb=>?_) fun hb=>?_)))
 replace h:=iD hb h
 refine dN 8 (dE (oN 2 (zO fun u k=>?_)))
 cases h
 exact zG k
 replace h:=iB hb h
 refine dN 2 ?_
 obtain ⟨d0,b5,h⟩:=aA h
 refine dX aD b5 (dN 3 ?_)
 obtain ⟨d3,b6,h⟩:=aA h
 refine dX aD b6 (dN 1 (dE ?_))
 obtain ⟨c9,b3,h⟩:=aA h
 refine oP (W.DR b3) (oN 1 (zO fun u k=>?_))
 cases h
 exact zG k
 refine yE k [0,3,4,5,6,24,25,43] [500000,500001] (qc h (fun h=>?_) fun h=>?_)
 refine z7 (zA 2 ?_)
 obtain ⟨d4,a5,h⟩:=aA h
 refine qI cB a5 (qS cB true a5 (zP fun u k=>?_))
 refine yE k [0,3,4,5,6,24,25] [500000,500001] (zD (zA 3 ?_))
 obtain ⟨c4,b2,h⟩:=aA h
 refine fK (YB (g:=500001) (e:=3) (l:=a0.2.2) (y:=a0.1) (x:=(sI [a0.1])) (by kernel_rfl) (by kernel_rfl) (by kernel_rfl) (by kernel_rfl) (by kernel_rfl) b2) (z6 1 fun u k=>?_)
 exact aF (aV ((List.set a0.2.1 (Int.toNat a0.1) true),c4) h k (here (by kernel_rfl)))
 refine zM fun u k=>?_
 exact aF (aV (a0.2.1,a0.2.2) h k (here (by kernel_rfl)))
 refine zL 2 fun u k=>?_
 refine aR ?_
 cases h
 exact zF k
 refine zQ (aF ?_)
 cases h
 exact zH k
 refine zL 0 fun u k=>?_
 refine aR ?_
 cases h
 exact zF k
 refine zQ (yE k [3] [500000] (zB (z7 (zA 1 (qL cB a2 (y1 1 [52,53,54] [500000] ?_))))))
 refine zC ?_
 obtain ⟨a9,b9,h⟩:=aA h
 refine ql b9 (fun c0=>⟨[(52,ro 500000 4),(53,vI (a2.length:Int)),(54,vI c0)],[(500000,wB 4 a2)]⟩) (fun a9=>match a9 with | .inl c2=>(.ret,⟨[(2,vB false)],[]⟩) | .inr c3=>(.exit 4,⟨[],[]⟩)) qH (fun c0 r h=>?_) (fun u k=>?_) (hout:=(by intro x;rcases x with _ | _ <;> rfl))
 refine y3 1 [52,53,54,55] [500000] (zB (qc h (fun h=>?_) fun h=>?_))
 refine y4 [52,53,54] [500000] (zB (zC (z7 ?_)))
 obtain ⟨d5,a6,h⟩:=aA h
 refine qI cB a6 (qR cB a6 (y1 1 [8,52,53,54] [500000] (y3 2 [52,53,54,59] [500000] (qc h (fun h=>?_) fun h=>?_))))
 refine z8 1 ⟨[(2,vB false)],[]⟩ fun u k=>?_
 refine aT (aO ?_)
 cases h
 exact zF k
 refine zM fun u k=>?_
 refine aF (yE k [52,53,54] [500000] (zD (z6 2 fun u k=>?_)))
 cases h
 exact zH k
 refine zL 4 fun u k=>?_
 refine aR ?_
 cases h
 exact zF k
 rcases a9 with c2 | c3
 refine aT (aO ?_)
 obtain rfl:=osi h
 exact zV k [(2,vB false)]
 refine zQ (yE k [] [] (z8 1 ⟨[(2,vB true)],[]⟩ fun u k=>?_))
 obtain rfl:=osi h
 exact zV k [(2,vB true)]
theorem W.Md {h0 l r} (h:yA h0 l=some r):PC G.P 176 [(.agg (aD h0)),(.sl (List.map aD l))] [] (vB r) []:=by
 refine zU G Tryz.func176 (yK [0,1] [] (y3 2 [1,2] [2] (zB (z7 (zA 1 (qL aD l ?_))))))
 refine y1 1 [2,7,8,9] [2] (zC ?_)
 obtain ⟨a4,a2,h⟩:=aA h
 refine ql a2 (fun a3=>⟨[(2,.ptr 500000 0),(7,aW l),(8,vI (l.length:Int)),(9,vI a3)],[(500000,.box (aD h0))]⟩) (fun a4=>match a4 with | .inl a6=>(.ret,⟨[(4,vB true)],[]⟩) | .inr a7=>(.exit 0,⟨[],[]⟩)) (sp [] [(2,500000)]) (fun a3 r h=>?_) (fun u k=>?_) (hout:=(by intro x;rcases x with _ | _ <;> rfl))
 refine y3 1 [2,7,8,9,10] [500000] (zB (qc h (fun h=>?_) fun h=>?_))
 refine y4 [2,7,8,9] [500000] (zB (zC (z7 ?_)))
 obtain ⟨a8,a1,h⟩:=aA h
 refine qX aD a1 (y1 3 [2,6,7,8,9] [6,500000] (zB ?_))
 obtain ⟨a5,a0,h⟩:=aA h
 refine zT ⟨[(2,.ptr 500000 0),(7,aW l),(8,vI (l.length:Int)),(9,vI a3),(50,vB a5)],[(500000,.box (aD h0))]⟩ ?_ fun u k=>?_
 replace h:=a0
 refine zA 6 (qB h [2,6,7,8,9,18] [6,500000] [18] (fun h=>?_) fun h=>?_)
 refine zA 7 (qB h [2,6,7,8,9,25] [6,500000] [25] (fun h=>?_) fun h=>?_)
 refine zA 13 (qB h [2,6,7,8,9,38] [6,500000] [38] (fun h=>?_) fun h=>?_)
 refine z6 12 fun u k=>?_
 cases h
 exact zG k
 refine z6 12 fun u k=>?_
 cases h
 exact zG k
 refine z6 25 fun u k=>?_
 cases h
 exact zG k
 refine z6 32 fun u k=>?_
 cases h
 exact zG k
 refine yE k [2,7,8,9,50] [500000] (qc h (fun h=>?_) fun h=>?_)
 refine z8 1 ⟨[(4,vB true)],[]⟩ fun u k=>?_
 refine aT (aO ?_)
 cases h
 exact zF k
 refine zM fun u k=>?_
 refine aF (yE k [2,7,8,9] [500000] (zD (z6 2 fun u k=>?_)))
 cases h
 exact zH k
 refine zL 0 fun u k=>?_
 refine aR ?_
 cases h
 exact zF k
 rcases a4 with a6 | a7
 refine aT (aO ?_)
 obtain rfl:=osi h
 exact zV k [(4,vB true)]
 refine zQ (yE k [] [] (z8 1 ⟨[(4,vB false)],[]⟩ fun u k=>?_))
 obtain rfl:=osi h
 exact zV k [(4,vB false)]
theorem W.Wz {a b r} (h:Dm a b=some r):PC G.P 167 [(.agg (aD a)),(.agg (aD b))] [] (vI r) []:=by
 refine zU G Tryz.func167 (yK [0,1] [] (y3 3 [2,3] [2,3] (zB (zB ?_))))
 obtain ⟨j8,a1,h⟩:=aA h
 refine zT ⟨[(2,.ptr 500000 0),(3,.ptr 500001 0),(13,vB j8)],[(500000,.box (aD a)),(500001,.box (aD b))]⟩ ?_ fun u k=>?_
 replace h:=a1
 refine zA 1 ?_
 obtain ⟨r9,a2,h⟩:=aA h
 refine qP (W.gB a2) (zA 2 (zS r9 (fun b0=>⟨[(2,.ptr 2 0),(3,.ptr 3 0),(9,vB (!b0))],[(2,.box (aD a)),(3,.box (aD b))]⟩) (fun hb=>?_) fun hb=>?_))
 replace h:=iD hb h
 refine zA 1 ?_
 obtain ⟨a3,a0,h⟩:=aA h
 refine qP (W.gB a0) (z6 2 fun u k=>?_)
 cases h
 exact bJ k (sp [] [(2,500000),(3,500001)])
 replace h:=iB hb h
 refine z6 4 fun u k=>?_
 cases h
 exact bJ k (sp [] [(2,500000),(3,500001)])
 refine yE k [2,3,13] [500000,500001] (qc h (fun h=>?_) fun h=>?_)
 refine z8 1 ⟨[(4,vI 0)],[]⟩ fun u k=>?_
 refine aO ?_
 obtain rfl:=osi h
 exact zV k [(4,vI 0)]
 refine y4 [2,3] [500000,500001] (y3 18 [2,3,5] [500000,500001] (z8 19 ⟨[(4,vI (fA (fA (fA (fA 0 (aJ (aJ b.X a.X) a.W)) (aJ (aJ a.X b.X) b.W)) (aJ (aJ b.Y a.Y) a.H)) (aJ (aJ a.Y b.Y) b.H)))],[]⟩ fun u k=>?_))
 obtain rfl:=osi h
 exact zV k [(4,vI (fA (fA (fA (fA 0 (aJ (aJ b.X a.X) a.W)) (aJ (aJ a.X b.X) b.W)) (aJ (aJ b.Y a.Y) a.H)) (aJ (aJ a.Y b.Y) b.H)))]
theorem W.BQ {x0 r} (h:Qi x0=some r):PC G.P 146 [(.agg (aU x0))] [] (vI r) []:=by
 refine zU G Tryz.func146 (yK [0] [] (y3 2 [1] [1] (zB (sV [(2,[12])] [(2,[12])] [] [(3,[12]),(4,[12])] [(0,[12]),(1,[12]),(3,[12]),(4,[12])] 5 (by kernel_rfl) (by kernel_rfl) [12] (by kernel_rfl) (by kernel_rfl) (dN 2 ?_)))))
 obtain ⟨l5,c4,h⟩:=aA h
 refine wJ (by kernel_rfl) (ZX (c:=aD) (l2:=x0.Cuts) (x:=(aW x0.Cuts)) (e:=98) (sz:=4) (d:=12) (by kernel_rfl) (by kernel_rfl) (by kernel_rfl) (fun _=>rfl) c4) (by kernel_rfl) (by kernel_rfl) (by kernel_rfl) (by kernel_rfl) (dN 2 (dE ?_))
 obtain ⟨l6,c5,h⟩:=aA h
 refine oA aD 4 c5 (oN 1 (zO fun u k=>?_))
 refine yE k [1,3] [1,12] (zB (z7 (zA 1 (qL aD l6 (y1 1 [1,3,16,17,18] [1,12] (zC ?_))))))
 obtain ⟨c3,b5,h⟩:=aA h
 refine ql b5 (fun c1=>⟨[(1,.ptr 500000 0),(3,ro 500001 98),(16,ro 500001 98),(17,vI (l6.length:Int)),(18,vI c1)],[(500000,.box (aU x0)),(500001,kJ 98 l6)]⟩) (fun c3=>match c3 with | .inl c7=>(.ret,⟨[(2,vI 13)],[]⟩) | .inr b6=>(.exit 0,⟨[(3,ro 500000 98)],[(500000,kJ 98 l6)]⟩)) (sp [] [(1,500000),(12,500001)]) (fun c1 r h=>?_) (fun u k=>?_) (hout:=(by intro x;rcases x with _ | _ <;> rfl))
 refine y3 1 [1,3,16,17,18,19] [500000,500001] (zB (qc h (fun h=>?_) fun h=>?_))
 refine y4 [1,3,16,17,18] [500000,500001] (zB (zC (z7 (zA 1 ?_))))
 obtain ⟨d2,b0,h⟩:=aA h
 refine qI aD b0 (qR aD b0 (y1 3 [1,3,4,5,16,17,18] [5,500000,500001] (zB ?_)))
 obtain ⟨c6,b2,h⟩:=aA h
 refine zT ⟨[(1,.ptr 500000 0),(3,ro 500001 98),(16,ro 500001 98),(17,vI (l6.length:Int)),(18,vI c1),(44,vB c6)],[(500000,.box (aU x0)),(500001,kJ 98 l6)]⟩ ?_ fun u k=>?_
 replace h:=b2
 refine zA 3 (qL aD x0.Cuts (zA 2 (qB h [1,3,5,16,17,18,28] [5,500000,500001] [28] (fun h=>?_) fun h=>?_)))
 refine zA 4 (qB h [1,3,5,16,17,18,28,32] [5,500000,500001] [32] (fun h=>?_) fun h=>?_)
 refine z6 12 fun u k=>?_
 cases h
 exact zG k
 refine zA 6 (qB h [1,3,5,16,17,18,38] [5,500000,500001] [38] (fun h=>?_) fun h=>?_)
 refine z6 6 fun u k=>?_
 cases h
 exact zG k
 refine zA 3 ?_
 obtain ⟨d0,b3,h⟩:=aA h
 refine qP (W.Md b3) (z6 2 fun u k=>?_)
 cases h
 exact zG k
 refine zA 13 ?_
 obtain ⟨d1,b4,h⟩:=aA h
 refine qP (W.Md b4) (z6 2 fun u k=>?_)
 cases h
 exact zG k
 refine yE k [1,3,16,17,18,44] [500000,500001] (qc h (fun h=>?_) fun h=>?_)
 refine z8 1 ⟨[(2,vI 13)],[]⟩ fun u k=>?_
 refine aT (aO ?_)
 cases h
 exact zF k
 refine zM fun u k=>?_
 refine aF (yE k [1,3,16,17,18] [500000,500001] (zD (z6 2 fun u k=>?_)))
 cases h
 exact zH k
 refine zL 0 fun u k=>?_
 refine aR ?_
 cases h
 exact sP k rfl (sp [] [(500001,500000)])
 rcases c3 with c7 | b6
 refine aT (aO ?_)
 obtain rfl:=osi h
 exact zV k [(2,vI 13)]
 refine zQ (yE k [3] [500000] (zB (z7 (zA 1 (qL aD l6 (y1 1 [3,46,47,48] [500000] ?_))))))
 refine zC ?_
 obtain ⟨a3,a9,h⟩:=aA h
 refine ql a9 (fun a0=>⟨[(3,aW l6),(46,aW l6),(47,vI (l6.length:Int)),(48,vI a0)],[]⟩) (fun a3=>match a3 with | .inl b9=>(.ret,⟨[(2,vI 7)],[]⟩) | .inr c0=>(.exit 2,⟨[],[]⟩)) (sp [.frz 500000] []) (fun a0 r h=>?_) (fun u k=>?_) (hout:=(by intro x;rcases x with _ | _ <;> rfl))
 refine y3 1 [3,46,47,48,49] [] (zB (qc h (fun h=>?_) fun h=>?_))
 refine y4 [3,46,47,48] [] (zB (zC (z7 (zA 1 ?_))))
 obtain ⟨c2,a6,h⟩:=aA h
 refine qX aD a6 (y1 4 [3,6,7,46,47,48] [7] (z7 (zA 2 ?_)))
 obtain ⟨a1,a4,h⟩:=aA h
 refine iQ (IA (c:=aD) (l:=l6) (sz:=4) (hi:=a0) (k2:=.i64) (by kernel_rfl) a4) (qL aD a1 (y1 1 [3,7,46,47,48,55,56,57] [7] (zC ?_)))
 obtain ⟨a2,a8,h⟩:=aA h
 refine ql a8 (fun b1=>⟨[(3,aW l6),(7,.ptr 500000 0),(46,aW l6),(47,vI (l6.length:Int)),(48,vI a0),(55,aW a1),(56,vI (a1.length:Int)),(57,vI b1)],[(500000,.box (aD c2))]⟩) (fun a2=>match a2 with | .inl b7=>(.ret,⟨[(2,vI 7)],[]⟩) | .inr b8=>(.exit 4,⟨[(3,aW l6),(46,aW l6),(47,vI (l6.length:Int)),(48,vI a0)],[]⟩)) (sp [] [(7,500000)]) (fun b1 r h=>?_) (fun u k=>?_) (hout:=(by intro x;rcases x with _ | _ <;> rfl))
 refine y3 1 [3,7,46,47,48,55,56,57,58] [500000] (zB (qc h (fun h=>?_) fun h=>?_))
 refine y4 [3,7,46,47,48,55,56,57] [500000] (zB (zC (z7 ?_)))
 obtain ⟨c9,a7,h⟩:=aA h
 refine qX aD a7 (y1 3 [3,7,9,46,47,48,55,56,57] [9,500000] (z7 (zA 2 ?_)))
 obtain ⟨c8,a5,h⟩:=aA h
 refine qP (W.Wz a5) (y1 1 [3,7,46,47,48,55,56,57,64] [500000] (qc h (fun h=>?_) fun h=>?_))
 refine z8 1 ⟨[(2,vI 7)],[]⟩ fun u k=>?_
 refine aT (aO ?_)
 cases h
 exact zF k
 refine zM fun u k=>?_
 refine aF (yE k [3,7,46,47,48,55,56,57] [500000] (zD (z6 2 fun u k=>?_)))
 cases h
 exact zH k
 refine zL 4 fun u k=>?_
 refine aR ?_
 cases h
 exact zF k
 rcases a2 with b7 | b8
 refine aT (aT (aO ?_))
 cases h
 exact zF k
 refine zQ (aF (yE k [3,46,47,48] [] (zD (z6 2 fun u k=>?_))))
 cases h
 exact zH k
 refine zL 2 fun u k=>?_
 refine aR ?_
 cases h
 exact zF k
 rcases a3 with b9 | c0
 refine aT (aO ?_)
 obtain rfl:=osi h
 exact zV k [(2,vI 7)]
 refine zQ (yE k [] [] (z8 1 ⟨[(2,vI 0)],[]⟩ fun u k=>?_))
 obtain rfl:=osi h
 exact zV k [(2,vI 0)]
theorem W.Bh {x0 r} (h:fB x0=some r):PC G.P 90 [(.agg (aU x0))] [] (vI r) []:=by
 refine zU G Tryz.func90 (yK [0] [] (y3 2 [1] [1] (zB (zC (zB ?_)))))
 obtain ⟨d6,b5,h⟩:=aA h
 refine zT ⟨[(1,.ptr 500000 0),(11,vB d6)],[(500000,.box (aU x0))]⟩ ?_ fun u k=>?_
 replace h:=b5
 refine zA 2 ?_
 obtain ⟨e0,b9,h⟩:=aA h
 refine qP (W.wO b9) (zA 2 (zS e0 (fun b0=>⟨[(1,.ptr 1 0),(16,vB (!b0))],[(1,.box (aU x0))]⟩) (fun hb=>?_) fun hb=>?_))
 replace h:=iD hb h
 refine zA 2 ?_
 obtain ⟨e6,c0,h⟩:=aA h
 refine qP (W.wO c0) (z6 3 fun u k=>?_)
 cases h
 exact bJ k (sp [] [(1,500000)])
 replace h:=iB hb h
 refine z6 6 fun u k=>?_
 cases h
 exact bJ k (sp [] [(1,500000)])
 refine yE k [1,11] [500000] (qc h (fun h=>?_) fun h=>?_)
 refine z8 1 ⟨[(2,vI 2)],[]⟩ fun u k=>?_
 refine aT (aO ?_)
 obtain rfl:=osi h
 exact zV k [(2,vI 2)]
 refine z7 (zA 4 ?_)
 obtain ⟨e7,c1,h⟩:=aA h
 refine qP (W.Sl c1) (y1 2 [1,22] [500000] (qc h (fun h=>?_) fun h=>?_))
 refine z8 1 ⟨[(2,vI 1)],[]⟩ fun u k=>?_
 refine aT (aO ?_)
 obtain rfl:=osi h
 exact zV k [(2,vI 1)]
 refine zB ?_
 obtain ⟨d7,b6,h⟩:=aA h
 refine zT ⟨[(1,.ptr 500000 0),(29,vB d7)],[(500000,.box (aU x0))]⟩ ?_ fun u k=>?_
 replace h:=b6
 refine zA 2 (qL aD x0.Rects (zA 2 (qB h [1,34] [500000] [34] (fun h=>?_) fun h=>?_)))
 refine z6 12 fun u k=>?_
 cases h
 exact zG k
 refine zA 2 (qL aD x0.Cuts (zA 3 (qB h [1,40] [500000] [40] (fun h=>?_) fun h=>?_)))
 refine z6 6 fun u k=>?_
 cases h
 exact zG k
 refine zA 2 (qL aD x0.Forms (z6 3 fun u k=>?_))
 cases h
 exact zG k
 refine yE k [1,29] [500000] (qc h (fun h=>?_) fun h=>?_)
 refine z8 1 ⟨[(2,vI 4)],[]⟩ fun u k=>?_
 refine aT (aO ?_)
 obtain rfl:=osi h
 exact zV k [(2,vI 4)]
 refine zB ?_
 obtain ⟨d8,b7,h⟩:=aA h
 refine zT ⟨[(1,.ptr 500000 0),(46,vB d8)],[(500000,.box (aU x0))]⟩ ?_ fun u k=>?_
 replace h:=b7
 refine zA 2 (qL aD x0.Rects (zA 2 (qB h [1,51] [500000] [51] (fun h=>?_) fun h=>?_)))
 refine z6 18 fun u k=>?_
 cases h
 exact zG k
 refine zA 2 ?_
 obtain ⟨e1,c2,h⟩:=aA h
 refine qP (W.yC c2) (zA 3 (zS e1 (fun b0=>⟨[(1,.ptr 500000 0),(57,vB (!b0))],[(500000,.box (aU x0))]⟩) (fun hb=>?_) fun hb=>?_))
 replace h:=iD hb h
 refine zA 2 ?_
 obtain ⟨e2,c3,h⟩:=aA h
 refine qP (W.yC c3) (zA 3 (zS e2 (fun b0=>⟨[(1,.ptr 500000 0),(63,vB (!b0))],[(500000,.box (aU x0))]⟩) (fun hb=>?_) fun hb=>?_))
 replace h:=iD hb h
 refine zA 2 ?_
 obtain ⟨e8,c4,h⟩:=aA h
 refine qP (W.yC c4) (z6 3 fun u k=>?_)
 cases h
 exact zG k
 replace h:=iB hb h
 refine z6 6 fun u k=>?_
 cases h
 exact zG k
 replace h:=iB hb h
 refine z6 12 fun u k=>?_
 cases h
 exact zG k
 refine yE k [1,46] [500000] (qc h (fun h=>?_) fun h=>?_)
 refine z8 1 ⟨[(2,vI 1)],[]⟩ fun u k=>?_
 refine aT (aO ?_)
 obtain rfl:=osi h
 exact zV k [(2,vI 1)]
 refine zM fun u k=>?_
 refine aF (yE k [1] [500000] (zB (qM 11 (dN 2 ?_))))
 obtain ⟨e9,c5,h⟩:=aA h
 refine dX aD c5 (dN 4 ?_)
 obtain ⟨f0,c6,h⟩:=aA h
 refine dX aD c6 (dN 3 (dE (oN 1 (zO fun u k=>?_))))
 refine yE k [1,3,4] [500000] (zB (z7 (zA 2 (qL aD x0.Rects (y1 1 [1,3,4,80,81,82] [500000] (zC ?_))))))
 obtain ⟨d5,c8,h⟩:=aA h
 refine ql c8 (fun b4=>⟨[(1,.ptr 500000 0),(3,vI b4.1),(4,vI b4.2.1),(80,aW x0.Rects),(81,vI (x0.Rects.length:Int)),(82,vI b4.2.2)],[(500000,.box (aU x0))]⟩) (fun d5=>(.exit 1,⟨[(1,.ptr 500000 0),(3,vI d5.1),(4,vI d5.2)],[(500000,.box (aU x0))]⟩)) qH (fun b4 r h=>?_) fun u k=>?_
 refine y3 1 [1,3,4,80,81,82,83] [500000] (zB (qc h (fun h=>?_) fun h=>?_))
 refine y4 [1,3,4,80,81,82] [500000] (zB (zC (z7 ?_)))
 obtain ⟨f1,c7,h⟩:=aA h
 refine qX aD c7 (y1 3 [1,3,4,6,80,81,82] [6,500000] (qM 9 (dN 9 (dE (oN 1 (zO fun u k=>?_))))))
 refine aF (yE k [1,3,4,80,81,82] [500000] (zD (z6 2 fun u k=>?_)))
 cases h
 exact zH k
 refine zL 1 fun u k=>?_
 refine aR ?_
 cases h
 exact zF k
 refine zQ (yE k [1,3,4] [500000] (zB (zB ?_)))
 obtain ⟨d9,b8,h⟩:=aA h
 refine zT ⟨[(1,.ptr 500000 0),(100,vB d9)],[(500000,.box (aU x0))]⟩ ?_ fun u k=>?_
 replace h:=b8
 refine zA 3 (qB h [1,4,97] [500000] [97] (fun h=>?_) fun h=>?_)
 refine z6 3 fun u k=>?_
 cases h
 exact zG k
 refine z6 3 fun u k=>?_
 cases h
 exact zG k
 refine yE k [1,100] [500000] (qc h (fun h=>?_) fun h=>?_)
 refine z8 1 ⟨[(2,vI 1)],[]⟩ fun u k=>?_
 refine aO ?_
 obtain rfl:=osi h
 exact zV k [(2,vI 1)]
 refine y4 [1] [500000] (zB (z7 (zA 2 (qL aD x0.Rects (y1 1 [1,102,103,104] [500000] (zC ?_))))))
 obtain ⟨a3,b2,h⟩:=aA h
 refine ql b2 (fun a0=>⟨[(1,.ptr 500000 0),(102,aW x0.Rects),(103,vI (x0.Rects.length:Int)),(104,vI a0)],[(500000,.box (aU x0))]⟩) (fun a3=>match a3 with | .inl d1=>(.ret,⟨[(2,vI 7)],[]⟩) | .inr d2=>(.exit 3,⟨[(1,.ptr 500000 0)],[(500000,.box (aU x0))]⟩)) qH (fun a0 r h=>?_) (fun u k=>?_) (hout:=(by intro x;rcases x with _ | _ <;> rfl))
 refine y3 1 [1,102,103,104,105] [500000] (zB (qc h (fun h=>?_) fun h=>?_))
 refine y4 [1,102,103,104] [500000] (zB (zC (z7 (zA 1 ?_))))
 obtain ⟨d4,a8,h⟩:=aA h
 refine qX aD a8 (y1 4 [1,7,8,102,103,104] [8,500000] (z7 (zA 3 ?_)))
 obtain ⟨a1,a4,h⟩:=aA h
 refine iQ (IA (c:=aD) (l:=x0.Rects) (sz:=4) (hi:=a0) (k2:=.i64) (by kernel_rfl) a4) (qL aD a1 (y1 1 [1,8,102,103,104,112,113,114] [8,500000] (zC ?_)))
 obtain ⟨a2,b1,h⟩:=aA h
 refine ql b1 (fun b3=>⟨[(1,.ptr 500000 0),(8,.ptr 500001 0),(102,aW x0.Rects),(103,vI (x0.Rects.length:Int)),(104,vI a0),(112,aW a1),(113,vI (a1.length:Int)),(114,vI b3)],[(500000,.box (aU x0)),(500001,.box (aD d4))]⟩) (fun a2=>match a2 with | .inl c9=>(.ret,⟨[(2,vI 7)],[]⟩) | .inr d0=>(.exit 5,⟨[(1,.ptr 500000 0),(102,aW x0.Rects),(103,vI (x0.Rects.length:Int)),(104,vI a0)],[(500000,.box (aU x0))]⟩)) (sp [] [(8,500001),(500000,500000)]) (fun b3 r h=>?_) (fun u k=>?_) (hout:=(by intro x;rcases x with _ | _ <;> rfl))
 refine y3 1 [1,8,102,103,104,112,113,114,115] [500000,500001] (zB (qc h (fun h=>?_) fun h=>?_))
 refine y4 [1,8,102,103,104,112,113,114] [500000,500001] (zB (zC (z7 ?_)))
 obtain ⟨e5,a9,h⟩:=aA h
 refine qX aD a9 (y1 3 [1,8,10,102,103,104,112,113,114] [10,500000,500001] (z7 (zA 2 ?_)))
 obtain ⟨e3,a5,h⟩:=aA h
 refine qP (W.Pj a5) (zP fun u k=>?_)
 refine yE k [1,8,102,103,104,112,113,114,120] [500000,500001] (qc h (fun h=>?_) fun h=>?_)
 refine z8 1 ⟨[(2,vI 7)],[]⟩ fun u k=>?_
 refine aT (aO ?_)
 cases h
 exact zF k
 refine zM fun u k=>?_
 refine aF (yE k [1,8,102,103,104,112,113,114] [500000,500001] (zD (z6 2 fun u k=>?_)))
 cases h
 exact zH k
 refine zL 5 fun u k=>?_
 refine aR ?_
 cases h
 exact zF k
 rcases a2 with c9 | d0
 refine aT (aT (aO ?_))
 cases h
 exact zF k
 refine zQ (aF (yE k [1,102,103,104] [500000] (zD (z6 2 fun u k=>?_))))
 cases h
 exact zH k
 refine zL 3 fun u k=>?_
 refine aR ?_
 cases h
 exact zF k
 rcases a3 with d1 | d2
 refine aT (aO ?_)
 obtain rfl:=osi h
 exact zV k [(2,vI 7)]
 refine zQ (yE k [1] [500000] (zB (z7 (zA 2 ?_))))
 obtain ⟨e4,a6,h⟩:=aA h
 refine qP (W.Vu a6) (y1 1 [1,126] [500000] (qc h (fun h=>?_) fun h=>?_))
 refine z8 1 ⟨[(2,vI 6)],[]⟩ fun u k=>?_
 refine aO ?_
 obtain rfl:=osi h
 exact zV k [(2,vI 6)]
 refine y4 [1] [500000] (z7 (zA 1 ?_))
 obtain ⟨d3,a7,h⟩:=aA h
 refine qP (W.BQ a7) (y1 1 [2] [] (zN fun u k=>?_))
 obtain rfl:=osi h
 exact zV k [(2,vI d3)]
theorem W.zI {s r} (h:lZ s=some r):PC G.P 134 [.sl (List.map aD s)] [] (.row (.top 0) 98) [(0,.row 98 [] (List.map aD r))]:=by
 replace h:app [] s=some r:=h
 refine zU G Tryz.func134 (y3 1 [0] [] (zB (z7 (zA 1 (Wy (es:=List.map aD s) (by kernel_rfl) (fun hn=>?_) ?_)))))
 obtain rfl:s=[]:=List.map_eq_nil_iff.1 hn
 obtain rfl:[]=r:=Option.some.inj ((pY (by simp [LIM])).symm.trans h)
 refine zP fun u k=>?_
 refine yE k [0,4] [] (Xm (by kernel_rfl) (by kernel_rfl) (z8 1 ⟨[(2,ro 2 98)],[(2,kJ 98 [])]⟩ fun u k=>?_))
 exact aO (Ql k [(2,ro 0 98)] (Rt [(2,0)] rfl rfl (by kernel_rfl)) (by kernel_rfl))
 refine zP fun u k=>?_
 refine yE k [0,4] [] (Ro (by kernel_rfl) (by kernel_rfl) (y4 [0] [] (z7 (fK (Pq (es:=List.map aD []) (e:=98) (d:=5) (by kernel_rfl)) (zA 1 (iQ (HV (c:=aD) (l:=[]) (l2:=s) (x:=aW s) (g:=5) (e:=98) (sz:=4) (d:=7) (by kernel_rfl) (by kernel_rfl) (by kernel_rfl) (by kernel_rfl) (fun _=>rfl) rfl h) ?_))))))
 refine y1 1 [2] [5] (zN fun u k=>?_)
 exact Ql k [(2,ro 0 98)] (Rt [(5,0)] rfl rfl (by kernel_rfl)) (by kernel_rfl)
theorem W.Py {l x1 y r} (h:Lc l x1 y=some r):PC G.P 91 [(.sl (List.map aD l)),(vI x1),(vI y)] [] (.row (.top 0) 98) [(0,.row 98 [] (List.map aD r))]:=by
 refine zU G Tryz.func91 (yK [0,1,2] [] (y3 1 [0,1,2] [] (z7 (zA 1 ?_))))
 obtain ⟨r2,b3,h⟩:=aA h
 refine qC [] [(0,700050)] (W.zI b3) (y1 1 [1,2,7] [700050] (zB (z7 (zA 1 (qL aD r2 (y1 1 [1,2,7,13,14] [700050] ?_))))))
 refine zC ?_
 obtain ⟨a6,b0,h⟩:=aA h
 refine ql b0 (fun a1=>⟨[(1,vI x1),(2,vI y),(7,ro 500000 98),(13,vI (r2.length:Int)),(14,vI a1.1)],[(500000,kJ 98 a1.2)]⟩) (fun a6=>(.exit 0,⟨[(7,ro 500000 98)],[(500000,kJ 98 a6)]⟩)) (sp [] [(700050,500000)]) (fun a1 r h=>?_) fun u k=>?_
 refine y3 1 [1,2,7,13,14,15] [500000] (zB (qc h (fun h=>?_) fun h=>?_))
 refine y4 [1,2,7,13,14] [500000] (bV (fun (b1:(List Rect))=>⟨[(1,vI x1),(2,vI y),(7,ro 500000 98),(13,vI (r2.length:Int)),(14,vI a1.1)],[(500000,kJ 98 b1)]⟩) (Ir a1) r (by kernel_rfl) (fun b1 h=>?_) ?_)
 refine zD (z6 2 fun u k=>?_)
 cases h
 exact zH k
 refine zC (y3 2 [1,2,7,8,13,14] [500000] (z7 (zA 2 ?_)))
 obtain ⟨b4,a4,h⟩:=aA h
 refine qI aD a4 (y1 1 [1,2,7,9,13,14] [500000] (zB (zB ?_)))
 obtain ⟨b2,a7,h⟩:=aA h
 refine zT ⟨[(1,vI x1),(2,vI y),(7,ro 500000 98),(9,.rptr (.top 500000) 98 (Int.toNat a1.1) 0),(13,vI (r2.length:Int)),(14,vI a1.1),(45,vB b2)],[(500000,kJ 98 a1.2)]⟩ ?_ fun u k=>?_
 replace h:=a7
 refine zA 3 (qR aD a4 (zA 2 (qB h [1,2,7,9,13,14,25] [500000] [25] (fun h=>?_) fun h=>?_)))
 refine z6 20 fun u k=>?_
 cases h
 exact zG k
 refine zA 3 (qR aD a4 (zA 3 (qB h [1,2,7,9,13,14,32] [500000] [32] (fun h=>?_) fun h=>?_)))
 refine z6 13 fun u k=>?_
 cases h
 exact zG k
 refine zA 3 (qR aD a4 (zA 3 (qB h [1,2,7,9,13,14,39] [500000] [39] (fun h=>?_) fun h=>?_)))
 refine z6 6 fun u k=>?_
 cases h
 exact zG k
 refine zA 3 (qR aD a4 (z6 2 fun u k=>?_))
 cases h
 exact zG k
 refine yE k [1,2,7,9,13,14,45] [500000] (qc h (fun h=>?_) fun h=>?_)
 refine z7 (zA 3 ?_)
 obtain ⟨a3,a8,h⟩:=aA h
 refine iQ (Qo (c:=aD) (l:=a1.2) (i:=(Int.toNat a1.1)) (x:=a3) (x':=(Rect.mk a3.X a3.Y 0 a3.H)) (v:=(vI 0)) (agg:=false) (sz:=1) (kk:=(.top 500000)) (e:=98) (off:=2) (J:=[]) (o:=kJ 98 (List.set a1.2 (Int.toNat a1.1) (Rect.mk a3.X a3.Y 0 a3.H))) (by kernel_rfl) (by kernel_rfl) (by kernel_rfl) a8 (by kernel_rfl) (by kernel_rfl) (by kernel_rfl)) (zP fun u k=>?_)
 refine yE k [1,2,7,13,14] [500000] (zL 1 fun u k=>?_)
 exact aR (zQ (aV (List.set a1.2 (Int.toNat a1.1) (Rect.mk a3.X a3.Y 0 a3.H)) h k (here (by kernel_rfl))))
 refine y4 [1,2,7,9,13,14] [500000] (z7 (zA 3 ?_))
 obtain ⟨a2,a9,h⟩:=aA h
 refine iQ (Kr (c:=aD) (l:=a1.2) (i:=(Int.toNat a1.1)) (v:=(vI a2.X)) (agg:=false) (sz:=1) (kk:=(.top 500000)) (e:=98) (off:=0) (J:=[]) (by kernel_rfl) (by kernel_rfl) (by kernel_rfl) a9 (by kernel_rfl)) (zA 4 ?_)
 obtain ⟨a0,a5,h⟩:=aA h
 refine iQ (Qo (c:=aD) (l:=a1.2) (i:=(Int.toNat a1.1)) (x:=a0) (x':=(Rect.mk (aJ a2.X x1) a0.Y a0.W a0.H)) (v:=(vI (aJ a2.X x1))) (agg:=false) (sz:=1) (kk:=(.top 500000)) (e:=98) (off:=0) (J:=[]) (o:=kJ 98 (List.set a1.2 (Int.toNat a1.1) (Rect.mk (aJ a2.X x1) a0.Y a0.W a0.H))) (by kernel_rfl) (by kernel_rfl) (by kernel_rfl) a5 (by kernel_rfl) (by kernel_rfl) (by kernel_rfl)) (zP fun u k=>?_)
 refine yE k [1,2,7,9,13,14] [500000] (zD (zA 3 (iQ (Kr (c:=aD) (l:=(List.set a1.2 (Int.toNat a1.1) (Rect.mk (aJ a2.X x1) a0.Y a0.W a0.H))) (i:=(Int.toNat a1.1)) (v:=(vI (((Rect.mk (aJ a2.X x1) a0.Y a0.W a0.H)).Y))) (agg:=false) (sz:=1) (kk:=(.top 500000)) (e:=98) (off:=1) (J:=[]) (by kernel_rfl) (by kernel_rfl) (by kernel_rfl) (XJ (a5)) (by kernel_rfl)) (zA 4 (iQ (Qo (c:=aD) (l:=(List.set a1.2 (Int.toNat a1.1) (Rect.mk (aJ a2.X x1) a0.Y a0.W a0.H))) (i:=(Int.toNat a1.1)) (x:=(Rect.mk (aJ a2.X x1) a0.Y a0.W a0.H)) (x':=(Rect.mk (((Rect.mk (aJ a2.X x1) a0.Y a0.W a0.H)).X) (aJ (((Rect.mk (aJ a2.X x1) a0.Y a0.W a0.H)).Y) y) (((Rect.mk (aJ a2.X x1) a0.Y a0.W a0.H)).W) (((Rect.mk (aJ a2.X x1) a0.Y a0.W a0.H)).H))) (v:=(vI (aJ (((Rect.mk (aJ a2.X x1) a0.Y a0.W a0.H)).Y) y))) (agg:=false) (sz:=1) (kk:=(.top 500000)) (e:=98) (off:=1) (J:=[]) (o:=kJ 98 (List.set (List.set a1.2 (Int.toNat a1.1) (Rect.mk (aJ a2.X x1) a0.Y a0.W a0.H)) (Int.toNat a1.1) (Rect.mk (((Rect.mk (aJ a2.X x1) a0.Y a0.W a0.H)).X) (aJ (((Rect.mk (aJ a2.X x1) a0.Y a0.W a0.H)).Y) y) (((Rect.mk (aJ a2.X x1) a0.Y a0.W a0.H)).W) (((Rect.mk (aJ a2.X x1) a0.Y a0.W a0.H)).H)))) (by kernel_rfl) (by kernel_rfl) (by kernel_rfl) (XJ (a5)) (by kernel_rfl) (by kernel_rfl) (by kernel_rfl)) (zP fun u k=>?_))))))
 exact aF (aV (List.set (List.set a1.2 (Int.toNat a1.1) (Rect.mk (aJ a2.X x1) a0.Y a0.W a0.H)) (Int.toNat a1.1) (Rect.mk (((Rect.mk (aJ a2.X x1) a0.Y a0.W a0.H)).X) (aJ (((Rect.mk (aJ a2.X x1) a0.Y a0.W a0.H)).Y) y) (((Rect.mk (aJ a2.X x1) a0.Y a0.W a0.H)).W) (((Rect.mk (aJ a2.X x1) a0.Y a0.W a0.H)).H))) h k (here (by kernel_rfl)))
 refine zL 0 fun u k=>?_
 refine aR ?_
 cases h
 exact zF k
 refine zQ (yE k [7] [500000] (z8 2 ⟨[(6,ro 500000 98)],[(500000,kJ 98 a6)]⟩ fun u k=>?_))
 obtain rfl:=osi h
 exact qW k [(6,ro 0 98)] (sp [] [(500000,0)])
theorem W.Va {x0 r} (h:qD x0=some r):PC G.P 41 [(.agg (aU x0))] [] (vI r) []:=by
 refine zU G Tryz.func41 (yK [0] [] (y3 2 [1] [1] (zB (z7 (zA 2 (qL aD x0.Rects ?_))))))
 refine y1 1 [1,10,11,12] [1] (zC ?_)
 obtain ⟨b4,a8,h⟩:=aA h
 refine ql a8 (fun b6=>⟨[(1,.ptr 500000 0),(10,aW x0.Rects),(11,vI (x0.Rects.length:Int)),(12,vI b6)],[(500000,.box (aU x0))]⟩) (fun b4=>match b4 with | .inl b7=>(.ret,⟨[(2,vI 1)],[]⟩) | .inr b8=>(.exit 0,⟨[(1,.ptr 500000 0)],[(500000,.box (aU x0))]⟩)) (sp [] [(1,500000)]) (fun b6 r h=>?_) (fun u k=>?_) (hout:=(by intro x;rcases x with _ | _ <;> rfl))
 refine y3 1 [1,10,11,12,13] [500000] (zB (qc h (fun h=>?_) fun h=>?_))
 refine y4 [1,10,11,12] [500000] (zB (zC (z7 ?_)))
 obtain ⟨c4,a7,h⟩:=aA h
 refine qX aD a7 (y1 3 [1,4,10,11,12] [4,500000] (z7 (zA 1 ?_)))
 obtain ⟨c3,a5,h⟩:=aA h
 refine qP (W.gB a5) (y1 1 [1,10,11,12,18] [500000] (qc h (fun h=>?_) fun h=>?_))
 refine z8 1 ⟨[(2,vI 1)],[]⟩ fun u k=>?_
 refine aT (aO ?_)
 cases h
 exact zF k
 refine zM fun u k=>?_
 refine aF (yE k [1,10,11,12] [500000] (zD (z6 2 fun u k=>?_)))
 cases h
 exact zH k
 refine zL 0 fun u k=>?_
 refine aR ?_
 cases h
 exact zF k
 rcases b4 with b7 | b8
 refine aT (aO ?_)
 obtain rfl:=osi h
 exact zV k [(2,vI 1)]
 refine zQ (yE k [1] [500000] (zB (z7 (zA 2 (qL aD x0.Rects (y1 1 [1,23] [500000] ?_))))))
 refine qc h (fun h=>?_) fun h=>?_
 refine z7 (zA 1 ?_)
 obtain ⟨c2,a6,h⟩:=aA h
 refine qP (W.Bh a6) (y1 1 [2] [] (zN fun u k=>?_))
 refine aO ?_
 obtain rfl:=osi h
 exact zV k [(2,vI c2)]
 refine y4 [1] [500000] (zB (qM 11 (dN 2 ?_)))
 obtain ⟨c5,a9,h⟩:=aA h
 refine dX aD a9 (dN 4 ?_)
 obtain ⟨c6,b0,h⟩:=aA h
 refine dX aD b0 (dN 3 (dE (oN 1 (zO fun u k=>?_))))
 refine yE k [1,5,6] [500000] (zB (z7 (zA 2 (qL aD x0.Rects (y1 1 [1,5,6,37,38,39] [500000] (zC ?_))))))
 obtain ⟨b5,b2,h⟩:=aA h
 refine ql b2 (fun a4=>⟨[(1,.ptr 500000 0),(5,vI a4.1),(6,vI a4.2.1),(37,aW x0.Rects),(38,vI (x0.Rects.length:Int)),(39,vI a4.2.2)],[(500000,.box (aU x0))]⟩) (fun b5=>(.exit 2,⟨[(1,.ptr 500000 0),(5,vI b5.1),(6,vI b5.2)],[(500000,.box (aU x0))]⟩)) qH (fun a4 r h=>?_) fun u k=>?_
 refine y3 1 [1,5,6,37,38,39,40] [500000] (zB (qc h (fun h=>?_) fun h=>?_))
 refine y4 [1,5,6,37,38,39] [500000] (zB (zC (z7 ?_)))
 obtain ⟨c7,b1,h⟩:=aA h
 refine qX aD b1 (y1 3 [1,5,6,8,37,38,39] [8,500000] (qM 9 (dN 9 (dE (oN 1 (zO fun u k=>?_))))))
 refine aF (yE k [1,5,6,37,38,39] [500000] (zD (z6 2 fun u k=>?_)))
 cases h
 exact zH k
 refine zL 2 fun u k=>?_
 refine aR ?_
 cases h
 exact zF k
 refine zQ (yE k [1,5,6] [500000] (zB (sV [(4,[700200]),(9,[700450]),(14,[700700])] [(4,[700200]),(9,[700450]),(14,[700700])] [] [(5,[700200]),(6,[700200]),(7,[700200]),(8,[700200]),(10,[700200,700450]),(11,[700200,700450]),(12,[700200,700450]),(13,[700200,700450]),(15,[700450,700700])] [(0,[700200,700450,700700]),(1,[700200,700450,700700]),(2,[700200,700450,700700]),(3,[700200,700450,700700]),(4,[700450,700700]),(5,[700200,700450,700700]),(6,[700200,700450,700700]),(7,[700200,700450,700700]),(8,[700200,700450,700700]),(9,[700700]),(10,[700200,700450,700700]),(11,[700200,700450,700700]),(12,[700200,700450,700700]),(13,[700200,700450,700700]),(15,[700450,700700])] 16 (by kernel_rfl) (by kernel_rfl) [700200,700450,700700] (by kernel_rfl) (by kernel_rfl) (dN 4 ?_))))
 obtain ⟨b9,a0,h⟩:=aA h
 refine dC [(0,700200)] (W.Py a0) (dN 4 ?_)
 obtain ⟨c0,a1,h⟩:=aA h
 refine dC [(0,700450)] (W.Py a1) (dN 4 ?_)
 obtain ⟨c1,a2,h⟩:=aA h
 refine dC [(0,700700)] (W.Py a2) (dN 1 (dE (oN 5 (zO fun u k=>?_))))
 refine yE k [1] [500000,700200,700450,700700] (z7 (zA 1 ?_))
 obtain ⟨b3,a3,h⟩:=aA h
 refine qV [700200,700450,700700] (W.Bh a3) (y1 1 [2] [] (zN fun u k=>?_))
 obtain rfl:=osi h
 exact zV k [(2,vI b3)]
theorem W.AP {x0 a_0 a_1 a_2 a_3 r} (h:Jb x0 a_0 a_1 a_2 a_3=some r):PC G.P 93 [(.agg (aD x0)),(.vptr [(vI a_0),(vI a_1),(vI a_2),(vI a_3)] 0)] [] (vB r) []:=by
 refine zU G Tryz.func93 (yK [0,1] [] (y3 2 [1,2] [2] (z7 (zA 2 ?_))))
 obtain ⟨r2,a0,h⟩:=aA h
 refine qP (W.Pj a0) (y1 1 [3] [] (zN fun u k=>?_))
 obtain rfl:=osi h
 exact zV k [(3,vB r2)]
theorem W.pO {s0 f_0_0 f_0_1 f_0_2 f_0_3 r} (h:eH s0 f_0_0 f_0_1 f_0_2 f_0_3=some r):PC G.P 147 [(.sl (List.map aD s0)),(.fn 93 [(.vptr [(vI f_0_0),(vI f_0_1),(vI f_0_2),(vI f_0_3)] 0)])] [] (vI r) []:=by
 refine zU G Tryz.func147 (yK [0,1] [] (y3 1 [0,1] [] (zB (z7 (zA 1 (qL aD s0 ?_))))))
 refine y1 1 [0,1,7,8] [] (zC ?_)
 obtain ⟨a5,a2,h⟩:=aA h
 refine ql a2 (fun a4=>⟨[(0,aW s0),(1,.fn 93 [(.vptr [(vI f_0_0),(vI f_0_1),(vI f_0_2),(vI f_0_3)] 0)]),(7,vI (s0.length:Int)),(8,vI a4)],[]⟩) (fun a5=>match a5 with | .inl a3=>(.ret,⟨[(4,vI a3)],[]⟩) | .inr a6=>(.exit 0,⟨[],[]⟩)) qH (fun a4 r h=>?_) (fun u k=>?_) (hout:=(by intro x;rcases x with _ | _ <;> rfl))
 refine y3 1 [0,1,7,8,9] [] (zB (qc h (fun h=>?_) fun h=>?_))
 refine y4 [0,1,7,8] [] (zB (zC (y3 2 [0,1,5,7,8] [] (z7 (zA 3 ?_)))))
 obtain ⟨a8,a1,h⟩:=aA h
 refine qX aD a1 (zA 1 ?_)
 obtain ⟨a7,a0,h⟩:=aA h
 refine qP (W.AP a0) (zP fun u k=>?_)
 refine yE k [0,1,5,7,8,16] [] (qc h (fun h=>?_) fun h=>?_)
 refine z8 2 ⟨[(4,vI a4)],[]⟩ fun u k=>?_
 refine aT (aO ?_)
 cases h
 exact zF k
 refine zM fun u k=>?_
 refine aF (yE k [0,1,7,8] [] (zD (z6 2 fun u k=>?_)))
 cases h
 exact zH k
 refine zL 0 fun u k=>?_
 refine aR ?_
 cases h
 exact zF k
 rcases a5 with a3 | a6
 refine aT (aO ?_)
 obtain rfl:=osi h
 exact zV k [(4,vI a3)]
 refine zQ (yE k [] [] (z8 1 ⟨[(4,vI (-1))],[]⟩ fun u k=>?_))
 obtain rfl:=osi h
 exact zV k [(4,vI (-1))]
theorem W.oL {s0 f_0_0 f_0_1 f_0_2 f_0_3 r} (h:dK s0 f_0_0 f_0_1 f_0_2 f_0_3=some r):PC G.P 92 [(.sl (List.map aD s0)),(.fn 93 [(.vptr [(vI f_0_0),(vI f_0_1),(vI f_0_2),(vI f_0_3)] 0)])] [] (vB r) []:=by
 refine zU G Tryz.func92 (yK [0,1] [] (y3 1 [0,1] [] (z7 (zA 2 ?_))))
 obtain ⟨r2,a0,h⟩:=aA h
 refine qP (W.pO a0) (y1 2 [4] [] (zN fun u k=>?_))
 obtain rfl:=osi h
 exact zV k [(4,vB (decide (r2 ≥ 0)))]
theorem W.Oe {r0 l r} (h:Gg r0 l=some r):PC G.P 43 [(.agg (aD r0)),(.sl (List.map aD l))] [] (vB r) []:=by
 refine zU G Tryz.func43 (yK [0,1] [] (y3 2 [1,2] [2] (z7 (zA 2 ?_))))
 obtain ⟨r2,a0,h⟩:=aA h
 refine qV [2] (W.oL a0) (y1 1 [4] [] (zN fun u k=>?_))
 obtain rfl:=osi h
 exact zV k [(4,vB r2)]
theorem W.Yn {l r} (h:vE l=some r):PC G.P 11 [(.agg (aQ l))] [] (vI r) []:=by
 refine zU G Tryz.func11 (yK [0] [] (y3 2 [1] [1] (zB (z7 (zA 2 ?_)))))
 obtain ⟨r4,f2,h⟩:=aA h
 refine qP (W.Pn f2) (y1 1 [1,3] [1] (y3 2 [1,3,22] [1] (qc h (fun h=>?_) fun h=>?_)))
 refine z8 2 ⟨[(2,vI r4)],[]⟩ fun u k=>?_
 refine aO ?_
 obtain rfl:=osi h
 exact zV k [(2,vI r4)]
 refine y4 [1] [1] (zB (z7 (zA 2 (qL aU l.Pieces (y1 1 [1,27] [1] (qc h (fun h=>?_) fun h=>?_))))))
 refine z8 1 ⟨[(2,vI 4)],[]⟩ fun u k=>?_
 refine aO ?_
 obtain rfl:=osi h
 exact zV k [(2,vI 4)]
 refine y4 [1] [1] (zB (z7 (zA 2 (qL aU l.Pieces (y1 1 [1,29,30,31] [1] (zC ?_))))))
 obtain ⟨e7,d9,h⟩:=aA h
 refine ql d9 (fun f0=>⟨[(1,.ptr 500000 0),(29,dB l.Pieces),(30,vI (l.Pieces.length:Int)),(31,vI f0)],[(500000,.box (aQ l))]⟩) (fun e7=>match e7 with | .inl e0=>(.ret,⟨[(2,vI e0)],[]⟩) | .inr f3=>(.exit 0,⟨[(1,.ptr 500000 0)],[(500000,.box (aQ l))]⟩)) (sp [] [(1,500000)]) (fun f0 r h=>?_) (fun u k=>?_) (hout:=(by intro x;rcases x with _ | _ <;> rfl))
 refine y3 1 [1,29,30,31,32] [500000] (zB (qc h (fun h=>?_) fun h=>?_))
 refine y4 [1,29,30,31] [500000] (zB (zC (z7 ?_)))
 obtain ⟨f7,d8,h⟩:=aA h
 refine qX aU d8 (y1 3 [1,5,29,30,31] [5,500000] (z7 (zA 1 ?_)))
 obtain ⟨f4,d7,h⟩:=aA h
 refine qP (W.Va d7) (y1 1 [1,6,29,30,31] [500000] (y3 2 [1,6,29,30,31,38] [500000] (qc h (fun h=>?_) fun h=>?_)))
 refine z8 2 ⟨[(2,vI f4)],[]⟩ fun u k=>?_
 refine aT (aO ?_)
 cases h
 exact zF k
 refine zM fun u k=>?_
 refine aF (yE k [1,29,30,31] [500000] (zD (z6 2 fun u k=>?_)))
 cases h
 exact zH k
 refine zL 0 fun u k=>?_
 refine aR ?_
 cases h
 exact zF k
 rcases e7 with e0 | f3
 refine aT (aO ?_)
 obtain rfl:=osi h
 exact zV k [(2,vI e0)]
 refine zQ (yE k [1] [500000] (y3 9 [1,7] [7,500000] (zB (z7 (zA 2 (qL aU l.Pieces ?_))))))
 refine y1 1 [1,7,49,50,51] [7,500000] (zC ?_)
 obtain ⟨c1,c9,h⟩:=aA h
 refine ql c9 (fun a5=>⟨[(1,.ptr 500000 0),(7,.ptr 500001 0),(49,dB l.Pieces),(50,vI (l.Pieces.length:Int)),(51,vI a5)],[(500000,.box (aQ l)),(500001,.box [(vI 0),(vI 0),(vI l.Sheet.Width),(vI l.Sheet.Height)])]⟩) (fun c1=>match c1 with | .inl e4=>(.ret,⟨[(2,vI 13)],[]⟩) | .inr e5=>(.exit 2,⟨[(1,.ptr 500000 0)],[(500000,.box (aQ l))]⟩)) (sp [] [(7,500001),(500000,500000)]) (fun a5 r h=>?_) (fun u k=>?_) (hout:=(by intro x;rcases x with _ | _ <;> rfl))
 refine y3 1 [1,7,49,50,51,52] [500000,500001] (zB (qc h (fun h=>?_) fun h=>?_))
 refine y4 [1,7,49,50,51] [500000,500001] (zB (zC (z7 ?_)))
 obtain ⟨a3,c6,h⟩:=aA h
 refine qX aU c6 (y1 3 [1,7,9,49,50,51] [9,500000,500001] (z7 (zA 2 (qL aD a3.Rects (y1 1 [1,7,49,50,51,56,57,58] [500000,500001] (zC ?_))))))
 obtain ⟨c0,c8,h⟩:=aA h
 refine ql c8 (fun a9=>⟨[(1,.ptr 500000 0),(7,.ptr 500001 0),(49,dB l.Pieces),(50,vI (l.Pieces.length:Int)),(51,vI a5),(56,aW a3.Rects),(57,vI (a3.Rects.length:Int)),(58,vI a9)],[(500000,.box (aQ l)),(500001,.box [(vI 0),(vI 0),(vI l.Sheet.Width),(vI l.Sheet.Height)])]⟩) (fun c0=>match c0 with | .inl e2=>(.ret,⟨[(2,vI 13)],[]⟩) | .inr e3=>(.exit 4,⟨[(1,.ptr 500000 0),(7,.ptr 500001 0),(49,dB l.Pieces),(50,vI (l.Pieces.length:Int)),(51,vI a5)],[(500000,.box (aQ l)),(500001,.box [(vI 0),(vI 0),(vI l.Sheet.Width),(vI l.Sheet.Height)])]⟩)) qH (fun a9 r h=>?_) (fun u k=>?_) (hout:=(by intro x;rcases x with _ | _ <;> rfl))
 refine y3 1 [1,7,49,50,51,56,57,58,59] [500000,500001] (zB (qc h (fun h=>?_) fun h=>?_))
 refine y4 [1,7,49,50,51,56,57,58] [500000,500001] (zB (zC (z7 ?_)))
 obtain ⟨e8,c7,h⟩:=aA h
 refine qX aD c7 (y1 3 [1,7,11,49,50,51,56,57,58] [11,500000,500001] (zB ?_))
 obtain ⟨e1,c2,h⟩:=aA h
 refine zT ⟨[(1,.ptr 500000 0),(7,.ptr 500001 0),(49,dB l.Pieces),(50,vI (l.Pieces.length:Int)),(51,vI a5),(56,aW a3.Rects),(57,vI (a3.Rects.length:Int)),(58,vI a9),(79,vB e1)],[(500000,.box (aQ l)),(500001,.box [(vI 0),(vI 0),(vI l.Sheet.Width),(vI l.Sheet.Height)])]⟩ ?_ fun u k=>?_
 replace h:=c2
 refine zA 2 ?_
 obtain ⟨e6,c3,h⟩:=aA h
 refine qP (W.Gv c3) (zA 2 (zS e6 (fun b0=>⟨[(1,.ptr 500000 0),(7,.ptr 500001 0),(11,.ptr 11 0),(49,dB l.Pieces),(50,vI (l.Pieces.length:Int)),(51,vI a5),(56,aW a3.Rects),(57,vI (a3.Rects.length:Int)),(58,vI a9),(66,vB (!b0))],[(11,.box (aD e8)),(500000,.box (aQ l)),(500001,.box [(vI 0),(vI 0),(vI l.Sheet.Width),(vI l.Sheet.Height)])]⟩) (fun hb=>?_) fun hb=>?_))
 replace h:=iD hb h
 refine zA 4 ?_
 obtain ⟨f5,c4,h⟩:=aA h
 refine qP (W.Oe c4) (zA 2 (qB h [1,7,11,49,50,51,56,57,58,73] [11,500000,500001] [73] (fun h=>?_) fun h=>?_))
 refine z6 6 fun u k=>?_
 cases h
 exact zG k
 refine zA 4 ?_
 obtain ⟨f6,c5,h⟩:=aA h
 refine qP (W.Oe c5) (z6 1 fun u k=>?_)
 cases h
 exact zG k
 replace h:=iB hb h
 refine z6 13 fun u k=>?_
 cases h
 exact zG k
 refine yE k [1,7,49,50,51,56,57,58,79] [500000,500001] (qc h (fun h=>?_) fun h=>?_)
 refine z8 1 ⟨[(2,vI 13)],[]⟩ fun u k=>?_
 refine aT (aO ?_)
 cases h
 exact zF k
 refine zM fun u k=>?_
 refine aF (yE k [1,7,49,50,51,56,57,58] [500000,500001] (zD (z6 2 fun u k=>?_)))
 cases h
 exact zH k
 refine zL 4 fun u k=>?_
 refine aR ?_
 cases h
 exact zF k
 rcases c0 with e2 | e3
 refine aT (aT (aO ?_))
 cases h
 exact zF k
 refine zQ (aF (yE k [1,7,49,50,51] [500000,500001] (zD (z6 2 fun u k=>?_))))
 cases h
 exact zH k
 refine zL 2 fun u k=>?_
 refine aR ?_
 cases h
 exact zF k
 rcases c1 with e4 | e5
 refine aT (aO ?_)
 obtain rfl:=osi h
 exact zV k [(2,vI 13)]
 refine zQ (yE k [1] [500000] (zB (z7 (zA 2 (qL aU l.Pieces (y1 1 [1,83,84,85] [500000] ?_))))))
 refine zC ?_
 obtain ⟨a8,b9,h⟩:=aA h
 refine ql b9 (fun a1=>⟨[(1,.ptr 500000 0),(83,dB l.Pieces),(84,vI (l.Pieces.length:Int)),(85,vI a1)],[(500000,.box (aQ l))]⟩) (fun a8=>match a8 with | .inl d4=>(.ret,⟨[(2,vI 7)],[]⟩) | .inr d5=>(.exit 6,⟨[],[]⟩)) qH (fun a1 r h=>?_) (fun u k=>?_) (hout:=(by intro x;rcases x with _ | _ <;> rfl))
 refine y3 1 [1,83,84,85,86] [500000] (zB (qc h (fun h=>?_) fun h=>?_))
 refine y4 [1,83,84,85] [500000] (zB (zC (z7 (zA 1 ?_))))
 obtain ⟨a2,b4,h⟩:=aA h
 refine qX aU b4 (y1 4 [1,12,13,83,84,85] [13,500000] (z7 (zA 3 ?_)))
 obtain ⟨a0,b2,h⟩:=aA h
 refine iQ (IA (c:=aU) (l:=l.Pieces) (sz:=7) (hi:=a1) (k2:=.i64) (by kernel_rfl) b2) (qL aU a0 (y1 1 [1,13,83,84,85,93,94,95] [13,500000] (zC ?_)))
 obtain ⟨a7,b8,h⟩:=aA h
 refine ql b8 (fun a4=>⟨[(1,.ptr 500000 0),(13,.ptr 500001 0),(83,dB l.Pieces),(84,vI (l.Pieces.length:Int)),(85,vI a1),(93,dB a0),(94,vI (a0.length:Int)),(95,vI a4)],[(500000,.box (aQ l)),(500001,.box (aU a2))]⟩) (fun a7=>match a7 with | .inl d2=>(.ret,⟨[(2,vI 7)],[]⟩) | .inr d3=>(.exit 8,⟨[(1,.ptr 500000 0),(83,dB l.Pieces),(84,vI (l.Pieces.length:Int)),(85,vI a1)],[(500000,.box (aQ l))]⟩)) (sp [] [(13,500001),(500000,500000)]) (fun a4 r h=>?_) (fun u k=>?_) (hout:=(by intro x;rcases x with _ | _ <;> rfl))
 refine y3 1 [1,13,83,84,85,93,94,95,96] [500000,500001] (zB (qc h (fun h=>?_) fun h=>?_))
 refine y4 [1,13,83,84,85,93,94,95] [500000,500001] (zB (zC (z7 ?_)))
 obtain ⟨d6,b5,h⟩:=aA h
 refine qX aU b5 (y1 3 [1,13,15,83,84,85,93,94,95] [15,500000,500001] (z7 (zA 2 (qL aD a2.Rects (y1 1 [1,13,15,83,84,85,93,94,95,100,101,102] [15,500000,500001] (zC ?_))))))
 obtain ⟨a6,b7,h⟩:=aA h
 refine ql b7 (fun b1=>⟨[(1,.ptr 500000 0),(13,.ptr 500001 0),(15,.ptr 500002 0),(83,dB l.Pieces),(84,vI (l.Pieces.length:Int)),(85,vI a1),(93,dB a0),(94,vI (a0.length:Int)),(95,vI a4),(100,aW a2.Rects),(101,vI (a2.Rects.length:Int)),(102,vI b1)],[(500000,.box (aQ l)),(500001,.box (aU a2)),(500002,.box (aU d6))]⟩) (fun a6=>match a6 with | .inl d0=>(.ret,⟨[(2,vI 7)],[]⟩) | .inr d1=>(.exit 10,⟨[(1,.ptr 500000 0),(13,.ptr 500001 0),(83,dB l.Pieces),(84,vI (l.Pieces.length:Int)),(85,vI a1),(93,dB a0),(94,vI (a0.length:Int)),(95,vI a4)],[(500000,.box (aQ l)),(500001,.box (aU a2))]⟩)) (sp [] [(15,500002),(500000,500000),(500001,500001)]) (fun b1 r h=>?_) (fun u k=>?_) (hout:=(by intro x;rcases x with _ | _ <;> rfl))
 refine y3 1 [1,13,15,83,84,85,93,94,95,100,101,102,103] [500000,500001,500002] (zB (qc h (fun h=>?_) fun h=>?_))
 refine y4 [1,13,15,83,84,85,93,94,95,100,101,102] [500000,500001,500002] (zB (zC (z7 ?_)))
 obtain ⟨f1,b6,h⟩:=aA h
 refine qX aD b6 (y1 3 [1,13,15,17,83,84,85,93,94,95,100,101,102] [17,500000,500001,500002] (z7 (zA 3 ?_)))
 obtain ⟨e9,b3,h⟩:=aA h
 refine qP (W.Oe b3) (zP fun u k=>?_)
 refine yE k [1,13,15,83,84,85,93,94,95,100,101,102,109] [500000,500001,500002] (qc h (fun h=>?_) fun h=>?_)
 refine z8 1 ⟨[(2,vI 7)],[]⟩ fun u k=>?_
 refine aT (aO ?_)
 cases h
 exact zF k
 refine zM fun u k=>?_
 refine aF (yE k [1,13,15,83,84,85,93,94,95,100,101,102] [500000,500001,500002] (zD (z6 2 fun u k=>?_)))
 cases h
 exact zH k
 refine zL 10 fun u k=>?_
 refine aR ?_
 cases h
 exact zF k
 rcases a6 with d0 | d1
 refine aT (aT (aO ?_))
 cases h
 exact zF k
 refine zQ (aF (yE k [1,13,83,84,85,93,94,95] [500000,500001] (zD (z6 2 fun u k=>?_))))
 cases h
 exact zH k
 refine zL 8 fun u k=>?_
 refine aR ?_
 cases h
 exact zF k
 rcases a7 with d2 | d3
 refine aT (aT (aO ?_))
 cases h
 exact zF k
 refine zQ (aF (yE k [1,83,84,85] [500000] (zD (z6 2 fun u k=>?_))))
 cases h
 exact zH k
 refine zL 6 fun u k=>?_
 refine aR ?_
 cases h
 exact zF k
 rcases a8 with d4 | d5
 refine aT (aO ?_)
 obtain rfl:=osi h
 exact zV k [(2,vI 7)]
 refine zQ (yE k [] [] (z8 1 ⟨[(2,vI 0)],[]⟩ fun u k=>?_))
 obtain rfl:=osi h
 exact zV k [(2,vI 0)]
theorem W.Ii {n lo hi r} (h:vJ n lo hi=some r):PC G.P 177 [(vI n),(vI lo),(vI hi)] [] (vB r) []:=by
 refine zU G Tryz.func177 (yK [0,1,2] [] (y3 1 [0,1,2] [] (zB ?_)))
 obtain ⟨j1,a0,h⟩:=aA h
 refine zT ⟨[(6,vB j1)],[]⟩ ?_ fun u k=>?_
 replace h:=a0
 refine zA 4 (qB h [0,2,10] [] [10] (fun h=>?_) fun h=>?_)
 refine z6 5 fun u k=>?_
 cases h
 exact zG k
 refine z6 5 fun u k=>?_
 cases h
 exact zG k
 refine yE k [6] [] (zN fun u k=>?_)
 obtain rfl:=osi h
 exact zV k [(6,vB j1)]
theorem W.Ff {r} (h:uB=some r):PC G.P 179 [] [] (vS r) []:=by
 refine zU G Tryz.func179 (yK [] [] (y3 1 [] [] (z8 1 ⟨[(0,vS (ByteArray.mk #[32,112,97,114,116,32,109,97,116,101,114,105,97,108,32,98,97,115,101,32,102,108,97,110,103,101,32,104,111,108,101,32,99,117,116,32,102,111,114,109,32,101,97,115,116,32,115,111,117,116,104,32,119,101,115,116,32,110,111,114,116,104,32,117,112,32,100,111,119,110,32,99,108,111,115,101,117,112,32,99,108,111,115,101,100,111,119,110,32,103,114,97,105,110,32,120,32,121,32,116,97,98,108,101,32,97,110,103,108,101,32,109,97,99,104,105,110,101,32,112,117,110,99,104,32,100,105,101,32,102,114,97,109,101,32,103,97,117,103,101,32,112,111,108,121,32,115,116,97,116,105,111,110,115,32]))],[]⟩ fun u k=>?_)))
 obtain rfl:=osi h
 exact zV k [(0,vS (ByteArray.mk #[32,112,97,114,116,32,109,97,116,101,114,105,97,108,32,98,97,115,101,32,102,108,97,110,103,101,32,104,111,108,101,32,99,117,116,32,102,111,114,109,32,101,97,115,116,32,115,111,117,116,104,32,119,101,115,116,32,110,111,114,116,104,32,117,112,32,100,111,119,110,32,99,108,111,115,101,117,112,32,99,108,111,115,101,100,111,119,110,32,103,114,97,105,110,32,120,32,121,32,116,97,98,108,101,32,97,110,103,108,101,32,109,97,99,104,105,110,101,32,112,117,110,99,104,32,100,105,101,32,102,114,97,109,101,32,103,97,117,103,101,32,112,111,108,121,32,115,116,97,116,105,111,110,115,32]))]
theorem W.Ih {text s1 r} (h:oW text s1=some r):PC G.P 178 [(vS text),(vS s1)] [] (vB r) []:=by
 refine zU G Tryz.func178 (yK [0,1] [] (y3 1 [0,1] [] (zB (y3 1 [0,1,5] [] (zC ?_)))))
 obtain ⟨a5,a4,h⟩:=aA h
 refine ql a4 (fun a0=>⟨[(0,vS text),(1,vS s1),(5,vI a0)],[]⟩) (fun a5=>match a5 with | .inl a6=>(.ret,⟨[(4,vB true)],[]⟩) | .inr a7=>(.exit 0,⟨[],[]⟩)) qH (fun a0 r h=>?_) (fun u k=>?_) (hout:=(by intro x;rcases x with _ | _ <;> rfl))
 refine zB (y3 8 [0,1,5,13] [] (qc h (fun h=>?_) fun h=>?_))
 refine y4 [0,1,5] [] (zB (zC (z7 (zA 7 ?_))))
 obtain ⟨a9,a1,h⟩:=aA h
 refine fK (H8 (s:=text) (lo:=a0) (hi:=(aM (aM a0 (s1.size:Int)) 2)) (k1:=.i64) (k2:=.i64) (by kernel_rfl) a1) (zA 1 ?_)
 obtain ⟨a8,a2,h⟩:=aA h
 refine iQ (HY (a:=(ByteArray.mk #[32])) (b:=s1) (by kernel_rfl) a2) ?_
 obtain ⟨b0,a3,h⟩:=aA h
 refine iQ (HY (a:=a8) (b:=(ByteArray.mk #[32])) (by kernel_rfl) a3) (y1 1 [0,1,5,27] [] (qc h (fun h=>?_) fun h=>?_))
 refine z8 1 ⟨[(4,vB true)],[]⟩ fun u k=>?_
 refine aT (aO ?_)
 cases h
 exact zF k
 refine zM fun u k=>?_
 refine aF (yE k [0,1,5] [] (zD (z6 3 fun u k=>?_)))
 cases h
 exact zH k
 refine zL 0 fun u k=>?_
 refine aR ?_
 cases h
 exact zF k
 rcases a5 with a6 | a7
 refine aT (aO ?_)
 obtain rfl:=osi h
 exact zV k [(4,vB true)]
 refine zQ (yE k [] [] (z8 1 ⟨[(4,vB false)],[]⟩ fun u k=>?_))
 obtain rfl:=osi h
 exact zV k [(4,vB false)]
theorem W.wD {s0 r} (h:eF s0=some r):PC G.P 148 [(vS s0)] [] (vB r) []:=by
 refine zU G Tryz.func148 (yK [0] [] (y3 1 [0] [] (zB (zB ?_))))
 obtain ⟨c1,b3,h⟩:=aA h
 refine zT ⟨[(0,vS s0),(18,vB c1)],[]⟩ ?_ fun u k=>?_
 replace h:=b3
 refine zA 2 ?_
 obtain ⟨c2,b4,h⟩:=aA h
 refine qP (W.Ii b4) (zA 2 (zS c2 (fun b0=>⟨[(0,vS s0),(9,vB (!b0))],[]⟩) (fun hb=>?_) fun hb=>?_))
 replace h:=iD hb h
 refine zA 1 ?_
 obtain ⟨c8,b5,h⟩:=aA h
 refine fK (Dj (s:=s0) (i:=0) (kd:=.i64) (by kernel_rfl) b5) (zA 3 (qB h [0,14] [] [14] (fun h=>?_) fun h=>?_))
 refine z6 4 fun u k=>?_
 cases h
 exact zG k
 refine zA 1 ?_
 obtain ⟨c9,b6,h⟩:=aA h
 refine fK (Dj (s:=s0) (i:=0) (kd:=.i64) (by kernel_rfl) b6) (z6 2 fun u k=>?_)
 cases h
 exact zG k
 replace h:=iB hb h
 refine z6 9 fun u k=>?_
 cases h
 exact zG k
 refine yE k [0,18] [] (qc h (fun h=>?_) fun h=>?_)
 refine z8 1 ⟨[(2,vB false)],[]⟩ fun u k=>?_
 refine aO ?_
 obtain rfl:=osi h
 exact zV k [(2,vB false)]
 refine y4 [0] [] (zB (y3 1 [0,3] [] (zC ?_)))
 obtain ⟨a1,b1,h⟩:=aA h
 refine ql b1 (fun a0=>⟨[(0,vS s0),(3,vI a0)],[]⟩) (fun a1=>match a1 with | .inl b8=>(.ret,⟨[(2,vB false)],[]⟩) | .inr b9=>(.exit 0,⟨[(0,vS s0)],[]⟩)) qH (fun a0 r h=>?_) (fun u k=>?_) (hout:=(by intro x;rcases x with _ | _ <;> rfl))
 refine zB (y3 4 [0,3,22] [] (qc h (fun h=>?_) fun h=>?_))
 refine y4 [0,3] [] (zB (zC (zB ?_)))
 obtain ⟨b2,a2,h⟩:=aA h
 refine zT ⟨[(0,vS s0),(3,vI a0),(4,vB b2)],[]⟩ ?_ fun u k=>?_
 replace h:=a2
 refine zA 2 ?_
 obtain ⟨c4,a6,h⟩:=aA h
 refine fK (Dj (s:=s0) (i:=a0) (kd:=.i64) (by kernel_rfl) a6) (zA 2 (qB h [0,3,29] [] [29] (fun h=>?_) fun h=>?_))
 refine zA 2 ?_
 obtain ⟨c5,a7,h⟩:=aA h
 refine fK (Dj (s:=s0) (i:=a0) (kd:=.i64) (by kernel_rfl) a7) (z6 3 fun u k=>?_)
 cases h
 exact zG k
 refine z6 6 fun u k=>?_
 cases h
 exact zG k
 refine yE k [0,3,4] [] (zB ?_)
 obtain ⟨b7,a3,h⟩:=aA h
 refine zT ⟨[(0,vS s0),(3,vI a0),(48,vB b7)],[]⟩ ?_ fun u k=>?_
 replace h:=a3
 refine zA 3 (zS b2 (fun b0=>⟨[(0,vS s0),(3,vI a0),(37,vB (!b0))],[]⟩) (fun hb=>?_) fun hb=>?_)
 replace h:=iD hb h
 refine z6 11 fun u k=>?_
 cases h
 exact zG k
 replace h:=iB hb h
 refine zA 2 ?_
 obtain ⟨c6,a8,h⟩:=aA h
 refine fK (Dj (s:=s0) (i:=a0) (kd:=.i64) (by kernel_rfl) a8) (zA 2 (qB h [0,3,37,42] [] [42] (fun h=>?_) fun h=>?_))
 refine z6 6 fun u k=>?_
 cases h
 exact zG k
 refine zA 2 ?_
 obtain ⟨c7,a9,h⟩:=aA h
 refine fK (Dj (s:=s0) (i:=a0) (kd:=.i64) (by kernel_rfl) a9) (z6 3 fun u k=>?_)
 cases h
 exact zG k
 refine yE k [0,3,48] [] (qc h (fun h=>?_) fun h=>?_)
 refine z8 1 ⟨[(2,vB false)],[]⟩ fun u k=>?_
 refine aT (aO ?_)
 cases h
 exact zF k
 refine zM fun u k=>?_
 refine aF (yE k [0,3] [] (zD (z6 3 fun u k=>?_)))
 cases h
 exact zH k
 refine zL 0 fun u k=>?_
 refine aR ?_
 cases h
 exact zF k
 rcases a1 with b8 | b9
 refine aT (aO ?_)
 obtain rfl:=osi h
 exact zV k [(2,vB false)]
 refine zQ (yE k [0] [] (z7 ?_))
 obtain ⟨c3,a4,h⟩:=aA h
 refine qP (W.Ff a4) (zA 1 ?_)
 obtain ⟨c0,a5,h⟩:=aA h
 refine qP (W.Ih a5) (y1 2 [2] [] (zN fun u k=>?_))
 obtain rfl:=osi h
 exact zV k [(2,vB (!c0))]
theorem W.yF {name material gauge grain r} (h:mR name material gauge grain=some r):PC G.P 95 [(vS name),(vS material),(vI gauge),(vI grain)] [] (vI r) []:=by
 refine zU G Tryz.func95 (yK [0,1,2,3] [] (y3 1 [0,1,2,3] [] (zB (zB ?_))))
 obtain ⟨j8,a2,h⟩:=aA h
 refine zT ⟨[(2,vI gauge),(3,vI grain),(16,vB j8)],[]⟩ ?_ fun u k=>?_
 replace h:=a2
 refine zA 1 ?_
 obtain ⟨r9,a3,h⟩:=aA h
 refine qP (W.wD a3) (zA 2 (zS r9 (fun b0=>⟨[(1,vS material),(2,vI gauge),(3,vI grain),(12,vB (!b0))],[]⟩) (fun hb=>?_) fun hb=>?_))
 replace h:=iD hb h
 refine zA 1 ?_
 obtain ⟨a5,a1,h⟩:=aA h
 refine qP (W.wD a1) (z6 2 fun u k=>?_)
 cases h
 exact zG k
 replace h:=iB hb h
 refine z6 4 fun u k=>?_
 cases h
 exact zG k
 refine yE k [2,3,16] [] (qc h (fun h=>?_) fun h=>?_)
 refine z8 1 ⟨[(8,vI 2)],[]⟩ fun u k=>?_
 refine aO ?_
 obtain rfl:=osi h
 exact zV k [(8,vI 2)]
 refine y4 [2,3] [] (zB (zB ?_))
 obtain ⟨a4,a0,h⟩:=aA h
 refine zT ⟨[(30,vB a4)],[]⟩ ?_ fun u k=>?_
 replace h:=a0
 refine zA 3 (qB h [2,3,19] [] [19] (fun h=>?_) fun h=>?_)
 refine z6 11 fun u k=>?_
 cases h
 exact zG k
 refine zA 4 (qB h [3,23] [] [23] (fun h=>?_) fun h=>?_)
 refine z6 7 fun u k=>?_
 cases h
 exact zG k
 refine zA 4 (qB h [3,27] [] [27] (fun h=>?_) fun h=>?_)
 refine z6 3 fun u k=>?_
 cases h
 exact zG k
 refine z6 3 fun u k=>?_
 cases h
 exact zG k
 refine yE k [30] [] (qc h (fun h=>?_) fun h=>?_)
 refine z8 1 ⟨[(8,vI 1)],[]⟩ fun u k=>?_
 refine aO ?_
 obtain rfl:=osi h
 exact zV k [(8,vI 1)]
 refine y4 [] [] (z8 1 ⟨[(8,vI 0)],[]⟩ fun u k=>?_)
 obtain rfl:=osi h
 exact zV k [(8,vI 0)]
theorem W.oD {n r} (h:iX n=some r):PC G.P 139 [(vI n)] [] (vB r) []:=by
 refine zU G Tryz.func139 (yK [0] [] (y3 1 [0] [] (zB ?_)))
 obtain ⟨j1,a0,h⟩:=aA h
 refine zT ⟨[(2,vB j1)],[]⟩ ?_ fun u k=>?_
 replace h:=a0
 refine zA 3 (qB h [0,5] [] [5] (fun h=>?_) fun h=>?_)
 refine z6 4 fun u k=>?_
 cases h
 exact zG k
 refine z6 4 fun u k=>?_
 cases h
 exact zG k
 refine yE k [2] [] (zN fun u k=>?_)
 obtain rfl:=osi h
 exact zV k [(2,vB j1)]
theorem W.dG {r0 r} (h:bR r0=some r):PC G.P 103 [(.agg (aD r0))] [] (vB r) []:=by
 refine zU G Tryz.func103 (yK [0] [] (y3 2 [1] [1] (zB (zB ?_))))
 obtain ⟨j8,a5,h⟩:=aA h
 refine zT ⟨[(1,.ptr 500000 0),(32,vB j8)],[(500000,.box (aD r0))]⟩ ?_ fun u k=>?_
 replace h:=a5
 refine zA 2 ?_
 obtain ⟨r9,a6,h⟩:=aA h
 refine qP (W.oD a6) (zA 2 (zS r9 (fun b0=>⟨[(1,.ptr 1 0),(7,vB (!b0))],[(1,.box (aD r0))]⟩) (fun hb=>?_) fun hb=>?_))
 replace h:=iD hb h
 refine zA 2 ?_
 obtain ⟨a7,a1,h⟩:=aA h
 refine qP (W.oD a1) (zA 3 (zS a7 (fun b0=>⟨[(1,.ptr 1 0),(13,vB (!b0))],[(1,.box (aD r0))]⟩) (fun hb=>?_) fun hb=>?_))
 replace h:=iD hb h
 refine zA 5 (qB h [1,18] [1] [18] (fun h=>?_) fun h=>?_)
 refine z6 14 fun u k=>?_
 cases h
 exact bJ k (sp [] [(1,500000)])
 refine zA 5 (qB h [1,23] [1] [23] (fun h=>?_) fun h=>?_)
 refine z6 9 fun u k=>?_
 cases h
 exact bJ k (sp [] [(1,500000)])
 refine zA 5 (qB h [1,28] [1] [28] (fun h=>?_) fun h=>?_)
 refine z6 4 fun u k=>?_
 cases h
 exact bJ k (sp [] [(1,500000)])
 refine z6 4 fun u k=>?_
 cases h
 exact bJ k (sp [] [(1,500000)])
 replace h:=iB hb h
 refine z6 19 fun u k=>?_
 cases h
 exact bJ k (sp [] [(1,500000)])
 replace h:=iB hb h
 refine z6 25 fun u k=>?_
 cases h
 exact bJ k (sp [] [(1,500000)])
 refine yE k [1,32] [500000] (qc h (fun h=>?_) fun h=>?_)
 refine z8 1 ⟨[(2,vB false)],[]⟩ fun u k=>?_
 refine aO ?_
 obtain rfl:=osi h
 exact zV k [(2,vB false)]
 refine y4 [1] [500000] (zB ?_)
 obtain ⟨a4,a0,h⟩:=aA h
 refine zT ⟨[(2,vB a4)],[]⟩ ?_ fun u k=>?_
 replace h:=a0
 refine zA 5 ?_
 obtain ⟨a8,a2,h⟩:=aA h
 refine qP (W.oD a2) (zA 1 (qB h [1,39] [500000] [39] (fun h=>?_) fun h=>?_))
 refine zA 5 ?_
 obtain ⟨a9,a3,h⟩:=aA h
 refine qP (W.oD a3) (z6 2 fun u k=>?_)
 cases h
 exact zG k
 refine z6 8 fun u k=>?_
 cases h
 exact zG k
 refine yE k [2] [] (zN fun u k=>?_)
 obtain rfl:=osi h
 exact zV k [(2,vB a4)]
theorem W.gH {l r} (h:dD l=some r):PC G.P 96 [(.sl (List.map aD l))] [] (vB r) []:=by
 refine zU G Tryz.func96 (yK [0] [] (y3 1 [0] [] (zB (y3 1 [0,3] [] (zC ?_)))))
 obtain ⟨a3,a2,h⟩:=aA h
 refine ql a2 (fun a4=>⟨[(0,aW l),(3,vI a4)],[]⟩) (fun a3=>match a3 with | .inl a5=>(.ret,⟨[(2,vB false)],[]⟩) | .inr a6=>(.exit 0,⟨[],[]⟩)) qH (fun a4 r h=>?_) (fun u k=>?_) (hout:=(by intro x;rcases x with _ | _ <;> rfl))
 refine zB (z7 (zA 2 (qL aD l (y1 1 [0,3,7] [] (qc h (fun h=>?_) fun h=>?_)))))
 refine y4 [0,3] [] (zB (zC (z7 (zA 2 ?_))))
 obtain ⟨a8,a1,h⟩:=aA h
 refine qX aD a1 (zA 1 ?_)
 obtain ⟨a7,a0,h⟩:=aA h
 refine qP (W.dG a0) (y1 1 [0,3,15] [] (qc h (fun h=>?_) fun h=>?_))
 refine z8 1 ⟨[(2,vB false)],[]⟩ fun u k=>?_
 refine aT (aO ?_)
 cases h
 exact zF k
 refine zM fun u k=>?_
 refine aF (yE k [0,3] [] (zD (z6 3 fun u k=>?_)))
 cases h
 exact zH k
 refine zL 0 fun u k=>?_
 refine aR ?_
 cases h
 exact zF k
 rcases a3 with a5 | a6
 refine aT (aO ?_)
 obtain rfl:=osi h
 exact zV k [(2,vB false)]
 refine zQ (yE k [] [] (z8 1 ⟨[(2,vB true)],[]⟩ fun u k=>?_))
 obtain rfl:=osi h
 exact zV k [(2,vB true)]
theorem W.rJ {a b r} (h:jA a b=some r):PC G.P 47 [(.agg (aD a)),(.agg (aD b))] [] (vB r) []:=by
 refine zU G Tryz.func47 (yK [0,1] [] (y3 3 [2,3] [2,3] (zB ?_)))
 obtain ⟨j3,a0,h⟩:=aA h
 refine zT ⟨[(4,vB j3)],[]⟩ ?_ fun u k=>?_
 replace h:=a0
 refine zA 1 ?_
 obtain ⟨r4,a1,h⟩:=aA h
 refine qP (W.dG a1) (zA 1 (qB h [2,3,7] [2,3] [7] (fun h=>?_) fun h=>?_))
 refine zA 1 ?_
 obtain ⟨r5,a2,h⟩:=aA h
 refine qP (W.dG a2) (zA 2 (qB h [2,3,11] [2,3] [11] (fun h=>?_) fun h=>?_))
 refine zA 7 (qB h [2,3,18] [2,3] [18] (fun h=>?_) fun h=>?_)
 refine zA 7 (qB h [2,3,25] [2,3] [25] (fun h=>?_) fun h=>?_)
 refine zA 13 (qB h [2,3,38] [2,3] [38] (fun h=>?_) fun h=>?_)
 refine z6 13 fun u k=>?_
 cases h
 exact zG k
 refine z6 13 fun u k=>?_
 cases h
 exact zG k
 refine z6 26 fun u k=>?_
 cases h
 exact zG k
 refine z6 33 fun u k=>?_
 cases h
 exact zG k
 refine z6 40 fun u k=>?_
 cases h
 exact zG k
 refine z6 44 fun u k=>?_
 cases h
 exact zG k
 refine yE k [4] [] (zN fun u k=>?_)
 obtain rfl:=osi h
 exact zV k [(4,vB j3)]
theorem W.xQ {s0 l r} (h:lQ s0 l=some r):PC G.P 97 [(.agg (oU s0)),(.sl (List.map aD l))] [] (vB r) []:=by
 refine zU G Tryz.func97 (yK [0,1] [] (y3 2 [1,2] [2] (zB (y3 1 [1,2,5] [2] (zC ?_)))))
 obtain ⟨a3,a2,h⟩:=aA h
 refine ql a2 (fun a4=>⟨[(1,aW l),(2,.ptr 500000 0),(5,vI a4)],[(500000,.box (oU s0))]⟩) (fun a3=>match a3 with | .inl a5=>(.ret,⟨[(4,vB false)],[]⟩) | .inr a6=>(.exit 0,⟨[],[]⟩)) (sp [] [(2,500000)]) (fun a4 r h=>?_) (fun u k=>?_) (hout:=(by intro x;rcases x with _ | _ <;> rfl))
 refine zB (z7 (zA 2 (qL aD l (y1 1 [1,2,5,9] [500000] (qc h (fun h=>?_) fun h=>?_)))))
 refine y4 [1,2,5] [500000] (zB (zC (zB (qM 9 (dN 2 ?_)))))
 obtain ⟨a8,a1,h⟩:=aA h
 refine dX aD a1 (dN 6 (dE ?_))
 obtain ⟨a7,a0,h⟩:=aA h
 refine oP (W.rJ a0) (oN 1 (zO fun u k=>?_))
 refine yE k [1,2,5,22] [500000] (qc h (fun h=>?_) fun h=>?_)
 refine z8 1 ⟨[(4,vB false)],[]⟩ fun u k=>?_
 refine aT (aO ?_)
 cases h
 exact zF k
 refine zM fun u k=>?_
 refine aF (yE k [1,2,5] [500000] (zD (z6 3 fun u k=>?_)))
 cases h
 exact zH k
 refine zL 0 fun u k=>?_
 refine aR ?_
 cases h
 exact zF k
 rcases a3 with a5 | a6
 refine aT (aO ?_)
 obtain rfl:=osi h
 exact zV k [(4,vB false)]
 refine zQ (yE k [] [] (z8 1 ⟨[(4,vB true)],[]⟩ fun u k=>?_))
 obtain rfl:=osi h
 exact zV k [(4,vB true)]
theorem W.Bc {s0 r} (h:jK s0=some r):PC G.P 44 [(.agg (oU s0))] [] (vI r) []:=by
 refine zU G Tryz.func44 (yK [0] [] (y3 2 [1] [1] (z7 (zA 8 ?_))))
 obtain ⟨r2,a8,h⟩:=aA h
 refine qP (W.yF a8) (y1 1 [1,3] [1] (zB (y3 2 [1,3,14] [1] (qc h (fun h=>?_) fun h=>?_))))
 refine z8 2 ⟨[(2,vI r2)],[]⟩ fun u k=>?_
 refine aO ?_
 obtain rfl:=osi h
 exact zV k [(2,vI r2)]
 refine y4 [1] [1] (zB (zB ?_))
 obtain ⟨j4,a6,h⟩:=aA h
 refine zT ⟨[(1,.ptr 500000 0),(33,vB j4)],[(500000,.box (oU s0))]⟩ ?_ fun u k=>?_
 replace h:=a6
 refine zA 4 (qB h [1,19] [1] [19] (fun h=>?_) fun h=>?_)
 refine z6 14 fun u k=>?_
 cases h
 exact bJ k (sp [] [(1,500000)])
 refine zA 5 (qB h [1,24] [1] [24] (fun h=>?_) fun h=>?_)
 refine z6 9 fun u k=>?_
 cases h
 exact bJ k (sp [] [(1,500000)])
 refine zA 5 (qB h [1,29] [1] [29] (fun h=>?_) fun h=>?_)
 refine z6 4 fun u k=>?_
 cases h
 exact bJ k (sp [] [(1,500000)])
 refine z6 4 fun u k=>?_
 cases h
 exact bJ k (sp [] [(1,500000)])
 refine yE k [1,33] [500000] (qc h (fun h=>?_) fun h=>?_)
 refine z8 1 ⟨[(2,vI 1)],[]⟩ fun u k=>?_
 refine aO ?_
 obtain rfl:=osi h
 exact zV k [(2,vI 1)]
 refine y4 [1] [500000] (zB (zB ?_))
 obtain ⟨j6,a7,h⟩:=aA h
 refine zT ⟨[(1,.ptr 500000 0),(43,vB j6)],[(500000,.box (oU s0))]⟩ ?_ fun u k=>?_
 replace h:=a7
 refine zA 2 (qL aD s0.Clamps (zA 2 (qB h [1,38] [500000] [38] (fun h=>?_) fun h=>?_)))
 refine z6 5 fun u k=>?_
 cases h
 exact zG k
 refine zA 2 (qL aD s0.Used (z6 2 fun u k=>?_))
 cases h
 exact zG k
 refine yE k [1,43] [500000] (qc h (fun h=>?_) fun h=>?_)
 refine z8 1 ⟨[(2,vI 4)],[]⟩ fun u k=>?_
 refine aO ?_
 obtain rfl:=osi h
 exact zV k [(2,vI 4)]
 refine y4 [1] [500000] (zB (zB ?_))
 obtain ⟨a9,a0,h⟩:=aA h
 refine zT ⟨[(1,.ptr 500000 0),(53,vB a9)],[(500000,.box (oU s0))]⟩ ?_ fun u k=>?_
 replace h:=a0
 refine zA 2 ?_
 obtain ⟨b2,a2,h⟩:=aA h
 refine qP (W.gH a2) (zA 2 (zS b2 (fun b0=>⟨[(1,.ptr 500000 0),(48,vB (!b0))],[(500000,.box (oU s0))]⟩) (fun hb=>?_) fun hb=>?_))
 replace h:=iD hb h
 refine zA 2 ?_
 obtain ⟨b4,a3,h⟩:=aA h
 refine qP (W.gH a3) (z6 2 fun u k=>?_)
 cases h
 exact zG k
 replace h:=iB hb h
 refine z6 5 fun u k=>?_
 cases h
 exact zG k
 refine yE k [1,53] [500000] (qc h (fun h=>?_) fun h=>?_)
 refine z8 1 ⟨[(2,vI 1)],[]⟩ fun u k=>?_
 refine aO ?_
 obtain rfl:=osi h
 exact zV k [(2,vI 1)]
 refine y4 [1] [500000] (zB (zB ?_))
 obtain ⟨b1,a1,h⟩:=aA h
 refine zT ⟨[(65,vB b1)],[]⟩ ?_ fun u k=>?_
 replace h:=a1
 refine zA 3 ?_
 obtain ⟨b3,a4,h⟩:=aA h
 refine qP (W.xQ a4) (zA 2 (zS b3 (fun b0=>⟨[(1,.ptr 500000 0),(59,vB (!b0))],[(500000,.box (oU s0))]⟩) (fun hb=>?_) fun hb=>?_))
 replace h:=iD hb h
 refine zA 3 ?_
 obtain ⟨b5,a5,h⟩:=aA h
 refine qP (W.xQ a5) (z6 2 fun u k=>?_)
 cases h
 exact zG k
 replace h:=iB hb h
 refine z6 6 fun u k=>?_
 cases h
 exact zG k
 refine yE k [65] [] (qc h (fun h=>?_) fun h=>?_)
 refine z8 1 ⟨[(2,vI 13)],[]⟩ fun u k=>?_
 refine aO ?_
 obtain rfl:=osi h
 exact zV k [(2,vI 13)]
 refine y4 [] [] (z8 1 ⟨[(2,vI 0)],[]⟩ fun u k=>?_)
 obtain rfl:=osi h
 exact zV k [(2,vI 0)]
theorem W.uC {l x1 y r} (h:jP l x1 y=some r):PC G.P 149 [(.sl (List.map aD l)),(vI x1),(vI y)] [] (.row (.top 0) 98) [(0,.row 98 [] (List.map aD r))]:=by
 refine zU G Tryz.func149 (yK [0,1,2] [] (y3 1 [0,1,2] [] (y3 1 [0,1,2,7] [7] (y3 1 [0,1,2,7,8] [7] (zB (y3 1 [0,1,2,7,8,9] [7] ?_))))))
 refine zC ?_
 obtain ⟨a7,a5,h⟩:=aA h
 refine ql a5 (fun a0=>⟨[(0,aW l),(1,vI x1),(2,vI y),(7,ro 500000 98),(8,vI 2147483648),(9,vI a0.1)],[(500000,kJ 98 a0.2)]⟩) (fun a7=>(.exit 0,⟨[(7,ro 500000 98)],[(500000,kJ 98 a7)]⟩)) (sp [] [(7,500000)]) (fun a0 r h=>?_) fun u k=>?_
 refine zB (z7 (zA 2 (qL aD l (y1 1 [0,1,2,7,8,9,14] [500000] (qc h (fun h=>?_) fun h=>?_)))))
 refine y4 [0,1,2,7,8,9] [500000] (zB (zC (z7 (zA 2 ?_))))
 obtain ⟨a1,a4,h⟩:=aA h
 refine qX aD a4 (y1 3 [0,1,2,7,8,9,10] [10,500000] (bV (fun (a6:Int×Int)=>⟨[(0,aW l),(1,vI x1),(2,vI y),(7,ro 500000 98),(8,vI 2147483648),(9,vI a0.1),(10,.ptr 500001 0)],[(500000,kJ 98 a0.2),(500001,.box [(vI a6.1),(vI a6.2),(vI a1.W),(vI a1.H)])]⟩) (nM a0 a1) r (by kernel_rfl) (fun a6 h=>?_) ?_))
 refine zD (zA 3 ?_)
 obtain ⟨a9,a3,h⟩:=aA h
 refine qA aD 4 a3 (z6 1 fun u k=>?_)
 refine aF (yE k [0,1,2,7,8,9] [500000] (zD (z6 3 fun u k=>?_)))
 cases h
 exact zH k
 refine zB ?_
 obtain ⟨a8,a2,h⟩:=aA h
 refine zT ⟨[(0,aW l),(1,vI x1),(2,vI y),(7,ro 500000 98),(8,vI 2147483648),(9,vI a0.1),(10,.ptr 500001 0),(44,vB a8)],[(500000,kJ 98 a0.2),(500001,.box (aD a1))]⟩ ?_ fun u k=>?_
 replace h:=a2
 refine zA 6 (qB h [0,1,2,7,8,9,10,26] [10,500000] [26] (fun h=>?_) fun h=>?_)
 refine zA 6 (qB h [0,1,2,7,8,9,10,32] [10,500000] [32] (fun h=>?_) fun h=>?_)
 refine zA 7 (qB h [0,1,2,7,8,9,10,39] [10,500000] [39] (fun h=>?_) fun h=>?_)
 refine z6 5 fun u k=>?_
 cases h
 exact bJ k (sp [] [(10,500001),(500000,500000)])
 refine z6 5 fun u k=>?_
 cases h
 exact bJ k (sp [] [(10,500001),(500000,500000)])
 refine z6 12 fun u k=>?_
 cases h
 exact bJ k (sp [] [(10,500001),(500000,500000)])
 refine z6 18 fun u k=>?_
 cases h
 exact bJ k (sp [] [(10,500001),(500000,500000)])
 refine yE k [0,1,2,7,8,9,10,44] [500000,500001] (qc h (fun h=>?_) fun h=>?_)
 refine y3 6 [0,1,2,7,8,9,10] [500000,500001] (zD (z6 6 fun u k=>?_))
 exact aV ((aM a1.X x1),(aM a1.Y y)) h k (here (by kernel_rfl))
 refine zM fun u k=>?_
 exact aV (a1.X,a1.Y) h k (here (by kernel_rfl))
 refine zL 0 fun u k=>?_
 refine aR ?_
 cases h
 exact zF k
 refine zQ (yE k [7] [500000] (z8 2 ⟨[(6,ro 500000 98)],[(500000,kJ 98 a7)]⟩ fun u k=>?_))
 obtain rfl:=osi h
 exact qW k [(6,ro 0 98)] (sp [] [(500000,0)])
theorem W.Ni {x0 dx dy r} (h:xL x0 dx dy=some r):PC G.P 98 [(.agg (aU x0)),(vI dx),(vI dy)] [] (.agg [(vS r.Name),(vS r.Material),(vI r.Gauge),(vI r.Grain),(.row (.top 1) 98),(.row (.top 2) 98),(.row (.top 3) 98)]) [(0,.box [(vS x0.Name),(vS x0.Material),(vI x0.Gauge),(vI x0.Grain),(.row (.top 1) 98),(.row (.top 2) 98),(.row (.top 3) 98)]),(1,.row 98 [] (List.map aD r.Rects)),(2,.row 98 [] (List.map aD r.Cuts)),(3,.row 98 [] (List.map aD r.Forms))]:=by
 refine zU G Tryz.func98 (yK [0,1,2] [] (y3 2 [1,2,3,6] [3,6] (z7 (zA 4 ?_))))
 obtain ⟨r2,a0,h⟩:=aA h
 refine qC [] [(0,700200)] (W.uC a0) (y1 2 [1,2,3,6] [3,6,700200] (z7 (zA 4 ?_)))
 obtain ⟨r4,a1,h⟩:=aA h
 refine qC [] [(0,700201)] (W.uC a1) (y1 2 [1,2,3,6] [3,6,700200,700201] (z7 (zA 4 ?_)))
 obtain ⟨r6,a2,h⟩:=aA h
 refine qC [] [(0,700202)] (W.uC a2) (y1 2 [3,6] [3,6,700200,700201,700202] (z8 2 ⟨[(6,.ptr 6 0)],[(6,.box [(vS x0.Name),(vS x0.Material),(vI x0.Gauge),(vI x0.Grain),(ro 700200 98),(ro 700201 98),(ro 700202 98)]),(700200,kJ 98 r2),(700201,kJ 98 r4),(700202,kJ 98 r6)]⟩ fun u k=>?_))
 obtain rfl:=osi h
 exact qW k [(6,.ptr 0 0)] (sp [] [(6,0),(700200,1),(700201,2),(700202,3)])
theorem W.Nn {x0 r} (h:tK x0=some r):PC G.P 45 [(.agg (aU x0))] [] (.tup [(.agg (aU r.1)),(vB r.2.1)]) [(0,.box [(vS r.2.2.1),(vS r.2.2.2.1),(vI r.2.2.2.2.1),(vI r.2.2.2.2.2.1),(.sl (List.map aD r.2.2.2.2.2.2.1)),(.sl (List.map aD r.2.2.2.2.2.2.2.1)),(.sl (List.map aD r.2.2.2.2.2.2.2.2))])]:=by
 refine zU G Tryz.func45 (yK [0] [] (y3 3 [1,2] [1,2] (zB (z7 (zA 2 ?_)))))
 obtain ⟨r4,a7,h⟩:=aA h
 refine qP (W.gH a7) (y1 1 [1,2,10] [1,2] (qc h (fun h=>?_) fun h=>?_))
 refine z8 3 ⟨[(2,.ptr 2 0),(3,vB false)],[(2,.box (aU x0))]⟩ fun u k=>?_
 refine aO ?_
 obtain rfl:=osi h
 exact qW k [(2,.ptr 0 0),(3,vB false)] (sp [] [(2,0)])
 refine y4 [1,2] [1,2] (zB (z7 (zA 2 (qL aD x0.Rects (y1 1 [1,2,15] [1,2] (qc h (fun h=>?_) fun h=>?_))))))
 refine z8 3 ⟨[(2,.ptr 2 0),(3,vB true)],[(2,.box (aU x0))]⟩ fun u k=>?_
 refine aO ?_
 obtain rfl:=osi h
 exact qW k [(2,.ptr 0 0),(3,vB true)] (sp [] [(2,0)])
 refine y4 [1,2] [1,2] (zB (qM 11 (dN 2 ?_)))
 obtain ⟨x9,a8,h⟩:=aA h
 refine dX aD a8 (dN 4 ?_)
 obtain ⟨b0,a2,h⟩:=aA h
 refine dX aD a2 (dN 3 (dE (oN 1 (zO fun u k=>?_))))
 refine yE k [1,2,4,5] [1,2] (zB (y3 1 [1,2,4,5,6] [1,2] (zC ?_)))
 obtain ⟨a6,a5,h⟩:=aA h
 refine ql a5 (fun a0=>⟨[(1,.ptr 500000 0),(2,.ptr 500001 0),(4,vI a0.1),(5,vI a0.2.1),(6,vI a0.2.2)],[(500000,.box (aU x0)),(500001,.box [(vS ByteArray.empty),(vS ByteArray.empty),(vI 0),(vI 0),.nl,.nl,.nl])]⟩) (fun a6=>(.exit 0,⟨[(1,.ptr 500000 0),(2,.ptr 500001 0),(4,vI a6.1),(5,vI a6.2)],[(500000,.box (aU x0)),(500001,.box [(vS ByteArray.empty),(vS ByteArray.empty),(vI 0),(vI 0),.nl,.nl,.nl])]⟩)) (sp [] [(1,500000),(2,500001)]) (fun a0 r h=>?_) fun u k=>?_
 refine zB (z7 (zA 3 (qL aD x0.Rects (y1 1 [1,2,4,5,6,31] [500000,500001] (qc h (fun h=>?_) fun h=>?_)))))
 refine y4 [1,2,4,5,6] [500000,500001] (zB (zC (z7 (zA 4 ?_))))
 obtain ⟨b1,a3,h⟩:=aA h
 refine qX aD a3 (y1 4 [1,2,4,5,6] [500000,500001] (zD (zA 4 ?_)))
 obtain ⟨b2,a4,h⟩:=aA h
 refine qX aD a4 (z6 4 fun u k=>?_)
 refine aF (yE k [1,2,4,5,6] [500000,500001] (zD (z6 3 fun u k=>?_)))
 cases h
 exact zH k
 refine zL 0 fun u k=>?_
 refine aR ?_
 cases h
 exact zF k
 refine zQ (yE k [1,2,4,5] [500000,500001] (z7 (zA 5 ?_)))
 obtain ⟨a9,a1,h⟩:=aA h
 refine qC [] [(0,700250),(1,700251),(2,700252),(3,700253)] (W.Ni a1) (y1 2 [2,3] [500001,700251,700252,700253] (zN fun u k=>?_))
 obtain rfl:=osi h
 exact qW k [(2,.ptr 0 0),(3,vB true)] (sp [.frz 700251,.frz 700252,.frz 700253] [(500001,0)])
theorem W.Jv {l r} (h:rA l=some r):PC G.P 99 [(.sl (List.map aD l))] [] (.tup [(vI r.1),(vI r.2)]) []:=by
 refine zU G Tryz.func99 (yK [0] [] (y3 2 [0] [] (zB (qM 9 (dN 1 ?_)))))
 obtain ⟨x5,a5,h⟩:=aA h
 refine dX aD a5 (dN 3 ?_)
 obtain ⟨x6,a6,h⟩:=aA h
 refine dX aD a6 (dN 3 (dE (oN 1 (zO fun u k=>?_))))
 refine yE k [0,4,5] [] (zB (y3 1 [0,4,5,6] [] (zC ?_)))
 obtain ⟨a0,a4,h⟩:=aA h
 refine ql a4 (fun a1=>⟨[(0,aW l),(4,vI a1.1),(5,vI a1.2.1),(6,vI a1.2.2)],[]⟩) (fun a0=>(.exit 0,⟨[(4,vI a0.1),(5,vI a0.2)],[]⟩)) qH (fun a1 r h=>?_) fun u k=>?_
 refine zB (z7 (zA 2 (qL aD l (y1 1 [0,4,5,6,18] [] (qc h (fun h=>?_) fun h=>?_)))))
 refine y4 [0,4,5,6] [] (zB (zC (z7 (zA 3 ?_))))
 obtain ⟨a7,a2,h⟩:=aA h
 refine qX aD a2 (y1 4 [0,4,5,6] [] (zD (zA 3 ?_)))
 obtain ⟨a8,a3,h⟩:=aA h
 refine qX aD a3 (z6 4 fun u k=>?_)
 refine aF (yE k [0,4,5,6] [] (zD (z6 3 fun u k=>?_)))
 cases h
 exact zH k
 refine zL 0 fun u k=>?_
 refine aR ?_
 cases h
 exact zF k
 refine zQ (yE k [4,5] [] (z8 4 ⟨[(2,vI a0.1),(3,vI a0.2)],[]⟩ fun u k=>?_))
 obtain rfl:=osi h
 exact zV k [(2,vI a0.1),(3,vI a0.2)]
theorem W.Fg {a b r} (h:nL a b=some r):PC G.P 104 [(.agg (aD a)),(.agg (aD b))] [] (vB r) []:=by
 refine zU G Tryz.func104 (yK [0,1] [] (y3 3 [2,3] [2,3] (zB ?_)))
 obtain ⟨j3,a0,h⟩:=aA h
 refine zT ⟨[(4,vB j3)],[]⟩ ?_ fun u k=>?_
 replace h:=a0
 refine zA 1 ?_
 obtain ⟨r4,a1,h⟩:=aA h
 refine qP (W.dG a1) (zA 1 (qB h [2,3,7] [2,3] [7] (fun h=>?_) fun h=>?_))
 refine zA 1 ?_
 obtain ⟨r5,a2,h⟩:=aA h
 refine qP (W.dG a2) (zA 2 (qB h [2,3,11] [2,3] [11] (fun h=>?_) fun h=>?_))
 refine zA 10 (qB h [2,3,21] [2,3] [21] (fun h=>?_) fun h=>?_)
 refine zA 10 (qB h [2,3,31] [2,3] [31] (fun h=>?_) fun h=>?_)
 refine zA 10 (qB h [2,3,41] [2,3] [41] (fun h=>?_) fun h=>?_)
 refine z6 10 fun u k=>?_
 cases h
 exact zG k
 refine z6 10 fun u k=>?_
 cases h
 exact zG k
 refine z6 20 fun u k=>?_
 cases h
 exact zG k
 refine z6 30 fun u k=>?_
 cases h
 exact zG k
 refine z6 40 fun u k=>?_
 cases h
 exact zG k
 refine z6 44 fun u k=>?_
 cases h
 exact zG k
 refine yE k [4] [] (zN fun u k=>?_)
 obtain rfl:=osi h
 exact zV k [(4,vB j3)]
theorem W.nK {r0 l r} (h:gZ r0 l=some r):PC G.P 48 [(.agg (aD r0)),(.sl (List.map aD l))] [] (vB r) []:=by
 refine zU G Tryz.func48 (yK [0,1] [] (y3 2 [1,2] [2] (zB (y3 1 [1,2,5] [2] (zC ?_)))))
 obtain ⟨a3,a2,h⟩:=aA h
 refine ql a2 (fun a4=>⟨[(1,aW l),(2,.ptr 500000 0),(5,vI a4)],[(500000,.box (aD r0))]⟩) (fun a3=>match a3 with | .inl a5=>(.ret,⟨[(4,vB true)],[]⟩) | .inr a6=>(.exit 0,⟨[],[]⟩)) (sp [] [(2,500000)]) (fun a4 r h=>?_) (fun u k=>?_) (hout:=(by intro x;rcases x with _ | _ <;> rfl))
 refine zB (z7 (zA 2 (qL aD l (y1 1 [1,2,5,9] [500000] (qc h (fun h=>?_) fun h=>?_)))))
 refine y4 [1,2,5] [500000] (zB (zC (zB (qM 5 (dN 3 ?_)))))
 obtain ⟨a8,a1,h⟩:=aA h
 refine dX aD a1 (dN 1 (dE ?_))
 obtain ⟨a7,a0,h⟩:=aA h
 refine oP (W.Fg a0) (zO fun u k=>?_)
 refine yE k [1,2,5,17] [500000] (qc h (fun h=>?_) fun h=>?_)
 refine z8 1 ⟨[(4,vB true)],[]⟩ fun u k=>?_
 refine aT (aO ?_)
 cases h
 exact zF k
 refine zM fun u k=>?_
 refine aF (yE k [1,2,5] [500000] (zD (z6 3 fun u k=>?_)))
 cases h
 exact zH k
 refine zL 0 fun u k=>?_
 refine aR ?_
 cases h
 exact zF k
 rcases a3 with a5 | a6
 refine aT (aO ?_)
 obtain rfl:=osi h
 exact zV k [(4,vB true)]
 refine zQ (yE k [] [] (z8 1 ⟨[(4,vB false)],[]⟩ fun u k=>?_))
 obtain rfl:=osi h
 exact zV k [(4,vB false)]
theorem W.Fh {a b r} (h:uE a b=some r):PC G.P 150 [(.agg (aD a)),(.agg (aD b))] [] (vB r) []:=by
 refine zU G Tryz.func150 (yK [0,1] [] (y3 3 [2,3] [2,3] (y3 18 [2,3,5] [2,3] (y3 18 [5,6] [] (zB ?_)))))
 obtain ⟨j1,a0,h⟩:=aA h
 refine zT ⟨[(4,vB j1)],[]⟩ ?_ fun u k=>?_
 replace h:=a0
 refine zA 3 (qB h [5,6,43] [] [43] (fun h=>?_) fun h=>?_)
 refine zA 4 (qB h [5,6,47] [] [47] (fun h=>?_) fun h=>?_)
 refine z6 8 fun u k=>?_
 cases h
 exact zG k
 refine zA 3 (qB h [5,47,50] [] [50] (fun h=>?_) fun h=>?_)
 refine z6 5 fun u k=>?_
 cases h
 exact zG k
 refine z6 5 fun u k=>?_
 cases h
 exact zG k
 refine zA 7 (qB h [5,47,50] [] [50] (fun h=>?_) fun h=>?_)
 refine z6 5 fun u k=>?_
 cases h
 exact zG k
 refine z6 5 fun u k=>?_
 cases h
 exact zG k
 refine yE k [4] [] (zN fun u k=>?_)
 obtain rfl:=osi h
 exact zV k [(4,vB j1)]
theorem W.Eg {l r} (h:mF l=some r):PC G.P 100 [(.sl (List.map aD l))] [] (vB r) []:=by
 refine zU G Tryz.func100 (yK [0] [] (y3 1 [0] [] (z7 (zA 1 (qL aD l ?_)))))
 obtain ⟨l2,c5,h⟩:=aA h
 refine iQ (Ji (c:=cB) (z:=false) (n:=(l.length:Int)) (e:=4) (d:=9) (zs:=[(vB false)]) (k1:=.i64) (k2:=.i64) (by kernel_rfl) rfl c5) (y1 1 [0,3] [9] (z7 (fK (Pq (e:=3) (d:=10) (es:=(List.map cI [0])) (by kernel_rfl)) (y1 1 [0,3,4] [9,10] (z7 (zA 1 ?_))))))
 obtain ⟨x4,b9,h⟩:=aA h
 refine qI cB b9 (qS cB true b9 (zP fun u k=>?_))
 refine yE k [0,3,4] [9,10] (zB (y3 1 [0,3,4,5] [9,10] (zC ?_)))
 obtain ⟨a2,b5,h⟩:=aA h
 refine ql b5 (fun a1=>⟨[(0,aW l),(3,ro 500000 4),(4,ro 500001 3),(5,vI a1.1)],[(500000,wB 4 a1.2.1),(500001,wI 3 a1.2.2)]⟩) (fun a2=>(.exit 0,⟨[(0,aW l),(4,ro 500000 3)],[(500000,wI 3 a2)]⟩)) (sp [] [(9,500000),(10,500001)]) (fun a1 r h=>?_) fun u k=>?_
 refine zB (z7 (zA 2 (qL cI a1.2.2 (y1 1 [0,3,4,5,16] [500000,500001] (qc h (fun h=>?_) fun h=>?_)))))
 refine y4 [0,3,4,5] [500000,500001] (zB (zC (y3 1 [0,3,4,5,6] [500000,500001] (zC ?_))))
 obtain ⟨a7,b4,h⟩:=aA h
 refine ql b4 (fun a0=>⟨[(0,aW l),(3,ro 500000 4),(4,ro 500001 3),(5,vI a1.1),(6,vI a0.1)],[(500000,wB 4 a0.2.1),(500001,wI 3 a0.2.2)]⟩) (fun a7=>(.exit 2,⟨[(0,aW l),(3,ro 500000 4),(4,ro 500001 3),(5,vI a1.1)],[(500000,wB 4 a7.1),(500001,wI 3 a7.2)]⟩)) qH (fun a0 r h=>?_) fun u k=>?_
 refine zB (z7 (zA 2 (qL aD l (y1 1 [0,3,4,5,6,22] [500000,500001] (qc h (fun h=>?_) fun h=>?_)))))
 refine y4 [0,3,4,5,6] [500000,500001] (bV (fun (a6:(List Bool)×(List Int))=>⟨[(0,aW l),(3,ro 500000 4),(4,ro 500001 3),(5,vI a1.1),(6,vI a0.1)],[(500000,wB 4 a6.1),(500001,wI 3 a6.2)]⟩) (eP a0) r (by kernel_rfl) (fun a6 h=>?_) ?_)
 refine zD (z6 3 fun u k=>?_)
 cases h
 exact zH k
 refine zC (zB ?_)
 obtain ⟨b6,a8,h⟩:=aA h
 refine gG ⟨[(0,aW l),(3,ro 500000 4),(4,ro 500001 3),(5,vI a1.1),(6,vI a0.1),(43,vB b6)],[(500000,wB 4 a0.2.1),(500001,wI 3 a0.2.2)]⟩ [] [] [] [] [] 17 (by kernel_rfl) (by kernel_rfl) (by kernel_rfl) ?_ fun u k=>?_
 replace h:=a8
 refine dN 2 ?_
 obtain ⟨b8,a3,h⟩:=aA h
 refine dI cB a3 (dR cB a3 (dN 2 (bH b8 (fun b0=>⟨[(30,vB (!b0)),(29,vB (!b0)),(28,vB b0),(27,.rptr (.top 500000) 4 (Int.toNat a0.1) 0),(26,vI a0.1),(25,ro 500000 4),(0,aW l),(3,ro 500000 4),(4,ro 500001 3),(5,vI a1.1),(6,vI a0.1)],[(500000,wB 4 a0.2.1),(500001,wI 3 a0.2.2)]⟩) (by kernel_rfl) (fun hb=>?_) fun hb=>?_)))
 replace h:=iD hb h
 refine dN 11 (dE (oN 2 (zO fun u k=>?_)))
 cases h
 exact zG k
 replace h:=iB hb h
 refine dN 3 ?_
 obtain ⟨c1,a4,h⟩:=aA h
 refine dI cI a4 (dR cI a4 ?_)
 obtain ⟨c2,b2,h⟩:=aA h
 refine dX aD b2 (dN 3 ?_)
 obtain ⟨c3,b3,h⟩:=aA h
 refine dX aD b3 (dN 1 (dE ?_))
 obtain ⟨c0,b1,h⟩:=aA h
 refine oP (W.Fh b1) (oN 1 (zO fun u k=>?_))
 cases h
 exact zG k
 refine yE k [0,3,4,5,6,43] [500000,500001] (qc h (fun h=>?_) fun h=>?_)
 refine z7 (zA 2 ?_)
 obtain ⟨c4,a5,h⟩:=aA h
 refine qI cB a5 (qS cB true a5 (zP fun u k=>?_))
 refine yE k [0,3,4,5,6] [500000,500001] (zD (zA 3 ?_))
 obtain ⟨b7,a9,h⟩:=aA h
 refine qA cI 1 a9 (z6 1 fun u k=>?_)
 exact aF (aV ((List.set a0.2.1 (Int.toNat a0.1) true),b7) h k (here (by kernel_rfl)))
 refine zM fun u k=>?_
 exact aF (aV (a0.2.1,a0.2.2) h k (here (by kernel_rfl)))
 refine zL 2 fun u k=>?_
 refine aR ?_
 cases h
 exact zF k
 refine zQ (aF (yE k [0,3,4,5] [500000,500001] (zD (z6 3 fun u k=>?_))))
 cases h
 exact zH k
 refine zL 0 fun u k=>?_
 refine aR ?_
 cases h
 exact sP k rfl (sp [] [(500001,500000)])
 refine zQ (yE k [0,4] [500000] (z7 (zA 1 (qL cI a2 (zA 1 (qL aD l ?_))))))
 refine y1 2 [2] [] (zN fun u k=>?_)
 obtain rfl:=osi h
 exact zV k [(2,vB ((a2.length:Int)==(l.length:Int)))]
theorem W.Nj {r0 l r} (h:tC r0 l=some r):PC G.P 101 [(.agg (aD r0)),(.sl (List.map aD l))] [] (vB r) []:=by
 refine zU G Tryz.func101 (yK [0,1] [] (y3 2 [1,2] [2] (zB (y3 1 [1,2,5] [2] (zC ?_)))))
 obtain ⟨a5,b4,h⟩:=aA h
 refine ql b4 (fun a0=>⟨[(1,aW l),(2,.ptr 500000 0),(5,vI a0)],[(500000,.box (aD r0))]⟩) (fun a5=>match a5 with | .inl b6=>(.ret,⟨[(4,vB true)],[]⟩) | .inr b7=>(.exit 0,⟨[],[]⟩)) (sp [] [(2,500000)]) (fun a0 r h=>?_) (fun u k=>?_) (hout:=(by intro x;rcases x with _ | _ <;> rfl))
 refine zB (z7 (zA 2 (qL aD l (y1 1 [1,2,5,9] [500000] (qc h (fun h=>?_) fun h=>?_)))))
 refine y4 [1,2,5] [500000] (zB (zC (zB ?_)))
 obtain ⟨b5,a6,h⟩:=aA h
 refine gG ⟨[(1,aW l),(2,.ptr 500000 0),(5,vI a0),(67,vB b5)],[(500000,.box (aD r0))]⟩ [] [] [] [] [] 54 (by kernel_rfl) (by kernel_rfl) (by kernel_rfl) ?_ fun u k=>?_
 replace h:=a6
 refine dN 4 ?_
 obtain ⟨a1,a7,h⟩:=aA h
 refine dX aD a7 (dN 4 (bH (decide (r0.X>a1.X)) (fun b0=>⟨[(20,vB b0),(19,vB b0),(18,vI a1.X),(17,.vptr (aD a1) 0),(16,.vptr (aD a1) 0),(15,vI a0),(14,aW l),(13,vI r0.X),(12,.ptr 500000 0),(1,aW l),(2,.ptr 500000 0),(5,vI a0)],[(500000,.box (aD r0))]⟩) (by kernel_rfl) (fun hb=>?_) fun hb=>?_))
 replace h:=iD hb h
 refine dN 4 ?_
 obtain ⟨a2,a8,h⟩:=aA h
 refine dX aD a8 (dN 5 (bH (decide (r0.Y>a2.Y)) (fun b0=>⟨[(30,vB b0),(29,vB b0),(28,vB b0),(27,vI a2.Y),(26,.vptr (aD a2) 1),(25,.vptr (aD a2) 0),(24,vI a0),(23,aW l),(22,vI r0.Y),(21,.ptr 500000 1),(20,vB true),(19,vB true),(18,vI a1.X),(17,.vptr (aD a1) 0),(16,.vptr (aD a1) 0),(15,vI a0),(14,aW l),(13,vI r0.X),(12,.ptr 500000 0),(1,aW l),(2,.ptr 500000 0),(5,vI a0)],[(500000,.box (aD r0))]⟩) (by kernel_rfl) (fun hb=>?_) fun hb=>?_))
 replace h:=iD hb h
 refine dN 7 ?_
 obtain ⟨a3,a9,h⟩:=aA h
 refine dX aD a9 (dN 4 ?_)
 obtain ⟨a4,b1,h⟩:=aA h
 refine dX aD b1 (dN 6 (bH (decide ((aM r0.X r0.W)<(aM a3.X a4.W))) (fun b0=>⟨[(49,vB b0),(48,vB b0),(47,vB b0),(46,vI (aM a3.X a4.W)),(45,vI a4.W),(44,.vptr (aD a4) 2),(43,.vptr (aD a4) 0),(42,vI a0),(41,aW l),(40,vI a3.X),(39,.vptr (aD a3) 0),(38,.vptr (aD a3) 0),(37,vI a0),(36,aW l),(35,vI (aM r0.X r0.W)),(34,vI r0.W),(33,.ptr 500000 2),(32,vI r0.X),(31,.ptr 500000 0),(30,vB true),(29,vB true),(28,vB true),(27,vI a2.Y),(26,.vptr (aD a2) 1),(25,.vptr (aD a2) 0),(24,vI a0),(23,aW l),(22,vI r0.Y),(21,.ptr 500000 1),(20,vB true),(19,vB true),(18,vI a1.X),(17,.vptr (aD a1) 0),(16,.vptr (aD a1) 0),(15,vI a0),(14,aW l),(13,vI r0.X),(12,.ptr 500000 0),(1,aW l),(2,.ptr 500000 0),(5,vI a0)],[(500000,.box (aD r0))]⟩) (by kernel_rfl) (fun hb=>?_) fun hb=>?_))
 replace h:=iD hb h
 refine dN 7 ?_
 obtain ⟨b8,b2,h⟩:=aA h
 refine dX aD b2 (dN 4 ?_)
 obtain ⟨b9,b3,h⟩:=aA h
 refine dX aD b3 (dN 3 (dE (oN 2 (zO fun u k=>?_))))
 cases h
 exact zG k
 replace h:=iB hb h
 refine dN 16 (dE (oN 2 (zO fun u k=>?_)))
 cases h
 exact zG k
 replace h:=iB hb h
 refine dN 35 (dE (oN 2 (zO fun u k=>?_)))
 cases h
 exact zG k
 replace h:=iB hb h
 refine dN 45 (dE (oN 2 (zO fun u k=>?_)))
 cases h
 exact zG k
 refine yE k [1,2,5,67] [500000] (qc h (fun h=>?_) fun h=>?_)
 refine z8 1 ⟨[(4,vB true)],[]⟩ fun u k=>?_
 refine aT (aO ?_)
 cases h
 exact zF k
 refine zM fun u k=>?_
 refine aF (yE k [1,2,5] [500000] (zD (z6 3 fun u k=>?_)))
 cases h
 exact zH k
 refine zL 0 fun u k=>?_
 refine aR ?_
 cases h
 exact zF k
 rcases a5 with b6 | b7
 refine aT (aO ?_)
 obtain rfl:=osi h
 exact zV k [(4,vB true)]
 refine zQ (yE k [] [] (z8 1 ⟨[(4,vB false)],[]⟩ fun u k=>?_))
 obtain rfl:=osi h
 exact zV k [(4,vB false)]
theorem W.Jt {a b r} (h:qY a b=some r):PC G.P 102 [(.agg (aD a)),(.agg (aD b))] [] (vI r) []:=by
 refine zU G Tryz.func102 (yK [0,1] [] (y3 3 [2,3] [2,3] (zB (zB ?_))))
 obtain ⟨j8,a1,h⟩:=aA h
 refine zT ⟨[(2,.ptr 500000 0),(3,.ptr 500001 0),(14,vB j8)],[(500000,.box (aD a)),(500001,.box (aD b))]⟩ ?_ fun u k=>?_
 replace h:=a1
 refine zA 1 ?_
 obtain ⟨r9,a2,h⟩:=aA h
 refine qP (W.dG a2) (zA 2 (zS r9 (fun b0=>⟨[(2,.ptr 2 0),(3,.ptr 3 0),(10,vB (!b0))],[(2,.box (aD a)),(3,.box (aD b))]⟩) (fun hb=>?_) fun hb=>?_))
 replace h:=iD hb h
 refine zA 1 ?_
 obtain ⟨a3,a0,h⟩:=aA h
 refine qP (W.dG a0) (z6 2 fun u k=>?_)
 cases h
 exact bJ k (sp [] [(2,500000),(3,500001)])
 replace h:=iB hb h
 refine z6 4 fun u k=>?_
 cases h
 exact bJ k (sp [] [(2,500000),(3,500001)])
 refine yE k [2,3,14] [500000,500001] (qc h (fun h=>?_) fun h=>?_)
 refine z8 1 ⟨[(4,vI 0)],[]⟩ fun u k=>?_
 refine aO ?_
 obtain rfl:=osi h
 exact zV k [(4,vI 0)]
 refine y4 [2,3] [500000,500001] (y3 18 [2,3,5] [500000,500001] (y3 18 [5,6] [] (z8 4 ⟨[(4,vI (fA (fA (fA 0 (aJ (aJ a.X b.X) b.W)) (aJ (aJ b.X a.X) a.W)) (fA (fA 0 (aJ (aJ a.Y b.Y) b.H)) (aJ (aJ b.Y a.Y) a.H))))],[]⟩ fun u k=>?_)))
 obtain rfl:=osi h
 exact zV k [(4,vI (fA (fA (fA 0 (aJ (aJ a.X b.X) b.W)) (aJ (aJ b.X a.X) a.W)) (fA (fA 0 (aJ (aJ a.Y b.Y) b.H)) (aJ (aJ b.Y a.Y) a.H))))]
theorem W.Ba {x0 r} (h:bX x0=some r):PC G.P 46 [(.agg (aU x0))] [] (vI r) []:=by
 refine zU G Tryz.func46 (yK [0] [] (y3 2 [1] [1] (z7 (zA 8 ?_))))
 obtain ⟨r2,e7,h⟩:=aA h
 refine qP (W.yF e7) (y1 1 [1,3] [1] (zB (y3 2 [1,3,21] [1] (qc h (fun h=>?_) fun h=>?_))))
 refine z8 2 ⟨[(2,vI r2)],[]⟩ fun u k=>?_
 refine aO ?_
 obtain rfl:=osi h
 exact zV k [(2,vI r2)]
 refine y4 [1] [1] (zB (zB ?_))
 obtain ⟨j4,e6,h⟩:=aA h
 refine zT ⟨[(1,.ptr 500000 0),(38,vB j4)],[(500000,.box (aU x0))]⟩ ?_ fun u k=>?_
 replace h:=e6
 refine zA 2 (qL aD x0.Rects (zA 2 (qB h [1,27] [1] [27] (fun h=>?_) fun h=>?_)))
 refine z6 11 fun u k=>?_
 cases h
 exact bJ k (sp [] [(1,500000)])
 refine zA 2 (qL aD x0.Cuts (zA 3 (qB h [1,33] [1] [33] (fun h=>?_) fun h=>?_)))
 refine z6 5 fun u k=>?_
 cases h
 exact bJ k (sp [] [(1,500000)])
 refine zA 2 (qL aD x0.Forms (z6 2 fun u k=>?_))
 cases h
 exact bJ k (sp [] [(1,500000)])
 refine yE k [1,38] [500000] (qc h (fun h=>?_) fun h=>?_)
 refine z8 1 ⟨[(2,vI 4)],[]⟩ fun u k=>?_
 refine aO ?_
 obtain rfl:=osi h
 exact zV k [(2,vI 4)]
 refine y4 [1] [500000] (zB (zB ?_))
 obtain ⟨e8,d0,h⟩:=aA h
 refine zT ⟨[(1,.ptr 500000 0),(60,vB e8)],[(500000,.box (aU x0))]⟩ ?_ fun u k=>?_
 replace h:=d0
 refine zA 2 (qL aD x0.Rects (zA 2 (qB h [1,43] [500000] [43] (fun h=>?_) fun h=>?_)))
 refine z6 17 fun u k=>?_
 cases h
 exact zG k
 refine zA 2 ?_
 obtain ⟨f4,d2,h⟩:=aA h
 refine qP (W.gH d2) (zA 3 (zS f4 (fun b0=>⟨[(1,.ptr 500000 0),(49,vB (!b0))],[(500000,.box (aU x0))]⟩) (fun hb=>?_) fun hb=>?_))
 replace h:=iD hb h
 refine zA 2 ?_
 obtain ⟨f5,d3,h⟩:=aA h
 refine qP (W.gH d3) (zA 3 (zS f5 (fun b0=>⟨[(1,.ptr 500000 0),(55,vB (!b0))],[(500000,.box (aU x0))]⟩) (fun hb=>?_) fun hb=>?_))
 replace h:=iD hb h
 refine zA 2 ?_
 obtain ⟨g1,d4,h⟩:=aA h
 refine qP (W.gH d4) (z6 2 fun u k=>?_)
 cases h
 exact zG k
 replace h:=iB hb h
 refine z6 5 fun u k=>?_
 cases h
 exact zG k
 replace h:=iB hb h
 refine z6 11 fun u k=>?_
 cases h
 exact zG k
 refine yE k [1,60] [500000] (qc h (fun h=>?_) fun h=>?_)
 refine z8 1 ⟨[(2,vI 1)],[]⟩ fun u k=>?_
 refine aO ?_
 obtain rfl:=osi h
 exact zV k [(2,vI 1)]
 refine y4 [1] [500000] (z7 (zA 2 ?_))
 obtain ⟨g3,d5,h⟩:=aA h
 refine qP (W.Jv d5) (y1 5 [1,4,5] [500000] (zB (zB ?_)))
 obtain ⟨e9,d1,h⟩:=aA h
 refine zT ⟨[(1,.ptr 500000 0),(72,vB e9)],[(500000,.box (aU x0))]⟩ ?_ fun u k=>?_
 replace h:=d1
 refine zA 3 (qB h [1,5,69] [500000] [69] (fun h=>?_) fun h=>?_)
 refine z6 3 fun u k=>?_
 cases h
 exact zG k
 refine z6 3 fun u k=>?_
 cases h
 exact zG k
 refine yE k [1,72] [500000] (qc h (fun h=>?_) fun h=>?_)
 refine z8 1 ⟨[(2,vI 1)],[]⟩ fun u k=>?_
 refine aO ?_
 obtain rfl:=osi h
 exact zV k [(2,vI 1)]
 refine y4 [1] [500000] (zB (y3 1 [1,6] [500000] (zC ?_)))
 obtain ⟨a9,c4,h⟩:=aA h
 refine ql c4 (fun a8=>⟨[(1,.ptr 500000 0),(6,vI a8)],[(500000,.box (aU x0))]⟩) (fun a9=>match a9 with | .inl d6=>(.ret,⟨[(2,vI 7)],[]⟩) | .inr d7=>(.exit 0,⟨[(1,.ptr 500000 0)],[(500000,.box (aU x0))]⟩)) qH (fun a8 r h=>?_) (fun u k=>?_) (hout:=(by intro x;rcases x with _ | _ <;> rfl))
 refine zB (z7 (zA 3 (qL aD x0.Rects (y1 1 [1,6,77] [500000] (qc h (fun h=>?_) fun h=>?_)))))
 refine y4 [1,6] [500000] (zB (zC (zB (qM 9 (dN 3 ?_)))))
 obtain ⟨f7,c3,h⟩:=aA h
 refine dX aD c3 (dN 4 ?_)
 obtain ⟨f0,b6,h⟩:=aA h
 refine xM (by kernel_rfl) (IA (c:=aD) (l:=x0.Rects) (sz:=4) (hi:=a8) (k2:=.i64) (by kernel_rfl) b6) (by kernel_rfl) (by kernel_rfl) (dE ?_)
 obtain ⟨f2,b9,h⟩:=aA h
 refine oP (W.nK b9) (zO fun u k=>?_)
 refine yE k [1,6,89] [500000] (qc h (fun h=>?_) fun h=>?_)
 refine z8 1 ⟨[(2,vI 7)],[]⟩ fun u k=>?_
 refine aT (aO ?_)
 cases h
 exact zF k
 refine zM fun u k=>?_
 refine aF (yE k [1,6] [500000] (zD (z6 3 fun u k=>?_)))
 cases h
 exact zH k
 refine zL 0 fun u k=>?_
 refine aR ?_
 cases h
 exact zF k
 rcases a9 with d6 | d7
 refine aT (aO ?_)
 obtain rfl:=osi h
 exact zV k [(2,vI 7)]
 refine zQ (yE k [1] [500000] (zB (z7 (zA 2 ?_))))
 obtain ⟨f3,c0,h⟩:=aA h
 refine qP (W.Eg c0) (y1 1 [1,93] [500000] (qc h (fun h=>?_) fun h=>?_))
 refine z8 1 ⟨[(2,vI 6)],[]⟩ fun u k=>?_
 refine aO ?_
 obtain rfl:=osi h
 exact zV k [(2,vI 6)]
 refine y4 [1] [500000] (zB (sV [(0,[94]),(3,[94,600003])] [(0,[94]),(3,[600003])] [] [(1,[94]),(2,[94]),(4,[94,600003]),(5,[94,600003])] [(0,[600003]),(1,[94,600003]),(2,[94,600003]),(4,[94,600003]),(5,[94,600003])] 6 (by kernel_rfl) (by kernel_rfl) [600003,94] (by kernel_rfl) (by kernel_rfl) (Gh (e:=98) (d:=94) (es:=(List.map aD [])) (by kernel_rfl) (by kernel_rfl) (by kernel_rfl) (by kernel_rfl) (by kernel_rfl) (by kernel_rfl) (dN 2 ?_))))
 obtain ⟨f1,b7,h⟩:=aA h
 refine Qx (c:=aD) (l:=[]) (l2:=x0.Cuts) (x:=(aW x0.Cuts)) (g:=94) (g2:=600003) (e:=98) (sz:=4) (d:=97) (by kernel_rfl) (by kernel_rfl) (by kernel_rfl) (by kernel_rfl) (by kernel_rfl) (fun _=>rfl) b7 (by kernel_rfl) (by kernel_rfl) (by kernel_rfl) (by kernel_rfl) (by kernel_rfl) (dN 2 (dE ?_))
 obtain ⟨a1,b8,h⟩:=aA h
 refine oA aD 4 b8 (oN 1 (zO fun u k=>?_))
 refine yE k [1,7] [500000,600003] (zB (y3 1 [1,7,8] [500000,600003] (zC ?_)))
 obtain ⟨b2,c5,h⟩:=aA h
 refine ql c5 (fun a0=>⟨[(1,.ptr 500000 0),(7,ro 500001 98),(8,vI a0)],[(500000,.box (aU x0)),(500001,kJ 98 a1)]⟩) (fun b2=>match b2 with | .inl d9=>(.ret,⟨[(2,vI 13)],[]⟩) | .inr e0=>(.exit 2,⟨[(7,ro 500000 98)],[(500000,kJ 98 a1)]⟩)) (sp [] [(500000,500000),(600003,500001)]) (fun a0 r h=>?_) (fun u k=>?_) (hout:=(by intro x;rcases x with _ | _ <;> rfl))
 refine zB (z7 (zA 2 (qL aD a1 (y1 1 [1,7,8,104] [500000,500001] (qc h (fun h=>?_) fun h=>?_)))))
 refine y4 [1,7,8] [500000,500001] (zB (zC (zB ?_)))
 obtain ⟨d8,b5,h⟩:=aA h
 refine gG ⟨[(1,.ptr 500000 0),(7,ro 500001 98),(8,vI a0),(137,vB d8)],[(500000,.box (aU x0)),(500001,kJ 98 a1)]⟩ [] [] [] [] [] 24 (by kernel_rfl) (by kernel_rfl) (by kernel_rfl) ?_ fun u k=>?_
 replace h:=b5
 refine dN 2 ?_
 obtain ⟨b1,a3,h⟩:=aA h
 refine dI aD a3 (dR aD a3 (dN 2 ?_))
 obtain ⟨e5,c1,h⟩:=aA h
 refine dC [] (W.Nj c1) (dN 2 (bH e5 (fun b0=>⟨[(115,vB (!b0)),(114,vB (!b0)),(113,vB b0),(112,aW x0.Rects),(111,.ptr 500000 4),(110,.agg (aD b1)),(109,.rptr (.top 500001) 98 (Int.toNat a0) 0),(108,vI a0),(107,ro 500001 98),(1,.ptr 500000 0),(7,ro 500001 98),(8,vI a0)],[(500000,.box (aU x0)),(500001,kJ 98 a1)]⟩) (by kernel_rfl) (fun hb=>?_) fun hb=>?_))
 replace h:=iD hb h
 refine dN 3 (dL aD x0.Cuts (dN 2 (bH (decide (a0<(x0.Cuts.length:Int))) (fun b0=>⟨[(121,vB b0),(120,vB b0),(119,vI (x0.Cuts.length:Int)),(118,aW x0.Cuts),(117,.ptr 500000 5),(116,vI a0),(115,vB false),(114,vB false),(113,vB true),(112,aW x0.Rects),(111,.ptr 500000 4),(110,.agg (aD b1)),(109,.rptr (.top 500001) 98 (Int.toNat a0) 0),(108,vI a0),(107,ro 500001 98),(1,.ptr 500000 0),(7,ro 500001 98),(8,vI a0)],[(500000,.box (aU x0)),(500001,kJ 98 a1)]⟩) (by kernel_rfl) (fun hb=>?_) fun hb=>?_)))
 replace h:=iD hb h
 refine dN 2 ?_
 obtain ⟨c9,a4,h⟩:=aA h
 refine dI aD a4 (dN 1 (dR aD a4 (dN 2 (bH (c9.W==1) (fun b0=>⟨[(128,vB b0),(127,vB b0),(126,vI c9.W),(125,.rptr (.top 500001) 98 (Int.toNat a0) 2),(124,.rptr (.top 500001) 98 (Int.toNat a0) 0),(123,vI a0),(122,ro 500001 98),(121,vB true),(120,vB true),(119,vI (x0.Cuts.length:Int)),(118,aW x0.Cuts),(117,.ptr 500000 5),(116,vI a0),(115,vB false),(114,vB false),(113,vB true),(112,aW x0.Rects),(111,.ptr 500000 4),(110,.agg (aD b1)),(109,.rptr (.top 500001) 98 (Int.toNat a0) 0),(108,vI a0),(107,ro 500001 98),(1,.ptr 500000 0),(7,ro 500001 98),(8,vI a0)],[(500000,.box (aU x0)),(500001,kJ 98 a1)]⟩) (by kernel_rfl) (fun hb=>?_) fun hb=>?_))))
 replace h:=iD hb h
 refine dN 2 (dE (oN 7 (zO fun u k=>?_)))
 cases h
 exact zG k
 replace h:=iB hb h
 refine dN 2 (dE ?_)
 obtain ⟨f8,a5,h⟩:=aA h
 refine oI aD a5 (oN 1 (oR aD a5 (oN 4 (zO fun u k=>?_))))
 cases h
 exact zG k
 replace h:=iB hb h
 refine dN 9 (dE (oN 7 (zO fun u k=>?_)))
 cases h
 exact zG k
 replace h:=iB hb h
 refine dN 15 (dE (oN 7 (zO fun u k=>?_)))
 cases h
 exact zG k
 refine yE k [1,7,8,137] [500000,500001] (qc h (fun h=>?_) fun h=>?_)
 refine z8 1 ⟨[(2,vI 13)],[]⟩ fun u k=>?_
 refine aT (aO ?_)
 cases h
 exact zF k
 refine zM fun u k=>?_
 refine aF (yE k [1,7,8] [500000,500001] (zD (z6 3 fun u k=>?_)))
 cases h
 exact zH k
 refine zL 2 fun u k=>?_
 refine aR ?_
 cases h
 exact sP k rfl (sp [] [(500001,500000)])
 rcases b2 with d9 | e0
 refine aT (aO ?_)
 obtain rfl:=osi h
 exact zV k [(2,vI 13)]
 refine zQ (yE k [7] [500000] (zB (y3 1 [7,9] [500000] (zC ?_))))
 obtain ⟨b4,c7,h⟩:=aA h
 refine ql c7 (fun a2=>⟨[(7,ro 500000 98),(9,vI a2)],[(500000,kJ 98 a1)]⟩) (fun b4=>match b4 with | .inl e3=>(.ret,⟨[(2,vI 7)],[]⟩) | .inr e4=>(.exit 4,⟨[],[]⟩)) qH (fun a2 r h=>?_) (fun u k=>?_) (hout:=(by intro x;rcases x with _ | _ <;> rfl))
 refine zB (z7 (zA 2 (qL aD a1 (y1 1 [7,9,141] [500000] (qc h (fun h=>?_) fun h=>?_)))))
 refine y4 [7,9] [500000] (zB (zC (y3 1 [7,9,10] [500000] (zC ?_))))
 obtain ⟨b3,c6,h⟩:=aA h
 refine ql c6 (fun c8=>⟨[(7,ro 500000 98),(9,vI a2),(10,vI c8)],[(500000,kJ 98 a1)]⟩) (fun b3=>match b3 with | .inl e1=>(.ret,⟨[(2,vI 7)],[]⟩) | .inr e2=>(.exit 6,⟨[(7,ro 500000 98),(9,vI a2)],[(500000,kJ 98 a1)]⟩)) qH (fun c8 r h=>?_) (fun u k=>?_) (hout:=(by intro x;rcases x with _ | _ <;> rfl))
 refine zB (y3 3 [7,9,10,146] [500000] (qc h (fun h=>?_) fun h=>?_))
 refine y4 [7,9,10] [500000] (zB (zC (zB (qM 8 (dN 2 ?_)))))
 obtain ⟨f9,a6,h⟩:=aA h
 refine dI aD a6 (dR aD a6 (dN 2 ?_))
 obtain ⟨g0,a7,h⟩:=aA h
 refine dI aD a7 (dR aD a7 (dE ?_))
 obtain ⟨f6,c2,h⟩:=aA h
 refine oP (W.Jt c2) (oN 1 (zO fun u k=>?_))
 refine yE k [7,9,10,158] [500000] (qc h (fun h=>?_) fun h=>?_)
 refine z8 1 ⟨[(2,vI 7)],[]⟩ fun u k=>?_
 refine aT (aO ?_)
 cases h
 exact zF k
 refine zM fun u k=>?_
 refine aF (yE k [7,9,10] [500000] (zD (z6 3 fun u k=>?_)))
 cases h
 exact zH k
 refine zL 6 fun u k=>?_
 refine aR ?_
 cases h
 exact zF k
 rcases b3 with e1 | e2
 refine aT (aT (aO ?_))
 cases h
 exact zF k
 refine zQ (aF (yE k [7,9] [500000] (zD (z6 3 fun u k=>?_))))
 cases h
 exact zH k
 refine zL 4 fun u k=>?_
 refine aR ?_
 cases h
 exact zF k
 rcases b4 with e3 | e4
 refine aT (aO ?_)
 obtain rfl:=osi h
 exact zV k [(2,vI 7)]
 refine zQ (yE k [] [] (z8 1 ⟨[(2,vI 0)],[]⟩ fun u k=>?_))
 obtain rfl:=osi h
 exact zV k [(2,vI 0)]
theorem W.Fj {l r} (h:dH l=some r):PC G.P 12 [(.agg (aQ l))] [] (vI r) []:=by
 refine zU G Tryz.func12 (yK [0] [] (y3 2 [1] [1] (z7 (zA 2 ?_))))
 obtain ⟨r2,f9,h⟩:=aA h
 refine qP (W.Bc f9) (y1 1 [1,3] [1] (zB (y3 2 [1,3,18] [1] (qc h (fun h=>?_) fun h=>?_))))
 refine z8 2 ⟨[(2,vI r2)],[]⟩ fun u k=>?_
 refine aO ?_
 obtain rfl:=osi h
 exact zV k [(2,vI r2)]
 refine y4 [1] [1] (zB (z7 (zA 2 (qL aU l.Pieces (y1 1 [1,23] [1] (qc h (fun h=>?_) fun h=>?_))))))
 refine z8 1 ⟨[(2,vI 4)],[]⟩ fun u k=>?_
 refine aO ?_
 obtain rfl:=osi h
 exact zV k [(2,vI 4)]
 refine y4 [1] [1] (zB (y3 1 [1,4] [1] (zC ?_)))
 obtain ⟨f1,e9,h⟩:=aA h
 refine ql e9 (fun f4=>⟨[(1,.ptr 500000 0),(4,vI f4)],[(500000,.box (aQ l))]⟩) (fun f1=>match f1 with | .inl f0=>(.ret,⟨[(2,vI f0)],[]⟩) | .inr g0=>(.exit 0,⟨[(1,.ptr 500000 0)],[(500000,.box (aQ l))]⟩)) (sp [] [(1,500000)]) (fun f4 r h=>?_) (fun u k=>?_) (hout:=(by intro x;rcases x with _ | _ <;> rfl))
 refine zB (z7 (zA 3 (qL aU l.Pieces (y1 1 [1,4,28] [500000] (qc h (fun h=>?_) fun h=>?_)))))
 refine y4 [1,4] [500000] (zB (zC (z7 (zA 3 ?_))))
 obtain ⟨g3,e8,h⟩:=aA h
 refine qX aU e8 (zA 1 ?_)
 obtain ⟨g2,e6,h⟩:=aA h
 refine qC [] [(0,700250)] (W.Nn e6) (y1 6 [1,4,5,6] [5,500000] (zB (y3 2 [1,4,5,41] [5,500000] (qc h (fun h=>?_) fun h=>?_))))
 refine z8 1 ⟨[(2,vI 1)],[]⟩ fun u k=>?_
 refine aO (aT (aO ?_))
 cases h
 exact zF k
 refine y4 [1,4,5] [5,500000] (z7 (zA 1 ?_))
 obtain ⟨g1,e7,h⟩:=aA h
 refine qP (W.Ba e7) (y1 1 [1,3,4] [500000] (y3 2 [1,3,4,45] [500000] (qc h (fun h=>?_) fun h=>?_)))
 refine z8 2 ⟨[(2,vI g1)],[]⟩ fun u k=>?_
 refine aT (aO ?_)
 cases h
 exact zF k
 refine zM fun u k=>?_
 refine aF (yE k [1,4] [500000] (zD (z6 3 fun u k=>?_)))
 cases h
 exact zH k
 refine zL 0 fun u k=>?_
 refine aR ?_
 cases h
 exact zF k
 rcases f1 with f0 | g0
 refine aT (aO ?_)
 obtain rfl:=osi h
 exact zV k [(2,vI f0)]
 refine zQ (yE k [1] [500000] (y3 9 [1,7] [7,500000] (zB (y3 1 [1,7,8] [7,500000] (zC ?_)))))
 obtain ⟨a7,c4,h⟩:=aA h
 refine ql c4 (fun a2=>⟨[(1,.ptr 500000 0),(7,.ptr 500001 0),(8,vI a2)],[(500000,.box (aQ l)),(500001,.box [(vI 0),(vI 0),(vI l.Sheet.Width),(vI l.Sheet.Height)])]⟩) (fun a7=>match a7 with | .inl d5=>(.ret,⟨[(2,vI 13)],[]⟩) | .inr d6=>(.exit 2,⟨[(1,.ptr 500000 0)],[(500000,.box (aQ l))]⟩)) (sp [] [(7,500001),(500000,500000)]) (fun a2 r h=>?_) (fun u k=>?_) (hout:=(by intro x;rcases x with _ | _ <;> rfl))
 refine zB (z7 (zA 3 (qL aU l.Pieces (y1 1 [1,7,8,58] [500000,500001] (qc h (fun h=>?_) fun h=>?_)))))
 refine y4 [1,7,8] [500000,500001] (zB (zC (z7 (zA 3 ?_))))
 obtain ⟨a1,b9,h⟩:=aA h
 refine qX aU b9 (y1 3 [1,7,8,9] [500000,500001] (y3 1 [1,7,8,9,10] [500000,500001] (zC ?_)))
 obtain ⟨a6,c3,h⟩:=aA h
 refine ql c3 (fun a0=>⟨[(1,.ptr 500000 0),(7,.ptr 500001 0),(8,vI a2),(9,aW a1.Rects),(10,vI a0)],[(500000,.box (aQ l)),(500001,.box [(vI 0),(vI 0),(vI l.Sheet.Width),(vI l.Sheet.Height)])]⟩) (fun a6=>match a6 with | .inl d3=>(.ret,⟨[(2,vI 13)],[]⟩) | .inr d4=>(.exit 4,⟨[(1,.ptr 500000 0),(7,.ptr 500001 0),(8,vI a2)],[(500000,.box (aQ l)),(500001,.box [(vI 0),(vI 0),(vI l.Sheet.Width),(vI l.Sheet.Height)])]⟩)) qH (fun a0 r h=>?_) (fun u k=>?_) (hout:=(by intro x;rcases x with _ | _ <;> rfl))
 refine zB (z7 (zA 2 (qL aD a1.Rects (y1 1 [1,7,8,9,10,70] [500000,500001] (qc h (fun h=>?_) fun h=>?_)))))
 refine y4 [1,7,8,9,10] [500000,500001] (zB (zC (zB ?_)))
 obtain ⟨d2,b4,h⟩:=aA h
 refine gG ⟨[(1,.ptr 500000 0),(7,.ptr 500001 0),(8,vI a2),(9,aW a1.Rects),(10,vI a0),(99,vB d2)],[(500000,.box (aQ l)),(500001,.box [(vI 0),(vI 0),(vI l.Sheet.Width),(vI l.Sheet.Height)])]⟩ [] [] [] [] [] 25 (by kernel_rfl) (by kernel_rfl) (by kernel_rfl) ?_ fun u k=>?_
 replace h:=b4
 refine dN 2 ?_
 obtain ⟨a5,c0,h⟩:=aA h
 refine dX aD c0 (dN 2 ?_)
 obtain ⟨e3,b5,h⟩:=aA h
 refine dC [] (W.rJ b5) (dN 2 (bH e3 (fun b0=>⟨[(80,vB (!b0)),(79,vB (!b0)),(78,vB b0),(77,.agg [(vI 0),(vI 0),(vI l.Sheet.Width),(vI l.Sheet.Height)]),(76,.agg (aD a5)),(75,.vptr (aD a5) 0),(74,vI a0),(73,aW a1.Rects),(1,.ptr 500000 0),(7,.ptr 500001 0),(8,vI a2),(9,aW a1.Rects),(10,vI a0)],[(500000,.box (aQ l)),(500001,.box [(vI 0),(vI 0),(vI l.Sheet.Width),(vI l.Sheet.Height)])]⟩) (by kernel_rfl) (fun hb=>?_) fun hb=>?_))
 replace h:=iD hb h
 refine dN 2 ?_
 obtain ⟨b3,c1,h⟩:=aA h
 refine dX aD c1 (dN 4 ?_)
 obtain ⟨e4,b6,h⟩:=aA h
 refine dC [] (W.nK b6) (dN 2 (bH e4 (fun b0=>⟨[(90,vB b0),(89,vB b0),(88,vB b0),(87,aW l.Sheet.Clamps),(86,.ptr 500000 6),(85,.ptr 500000 0),(84,.agg (aD b3)),(83,.vptr (aD b3) 0),(82,vI a0),(81,aW a1.Rects),(80,vB false),(79,vB false),(78,vB true),(77,.agg [(vI 0),(vI 0),(vI l.Sheet.Width),(vI l.Sheet.Height)]),(76,.agg (aD a5)),(75,.vptr (aD a5) 0),(74,vI a0),(73,aW a1.Rects),(1,.ptr 500000 0),(7,.ptr 500001 0),(8,vI a2),(9,aW a1.Rects),(10,vI a0)],[(500000,.box (aQ l)),(500001,.box [(vI 0),(vI 0),(vI l.Sheet.Width),(vI l.Sheet.Height)])]⟩) (by kernel_rfl) (fun hb=>?_) fun hb=>?_))
 replace h:=iD hb h
 refine dN 7 (dE (oN 2 (zO fun u k=>?_)))
 cases h
 exact zG k
 replace h:=iB hb h
 refine dN 2 ?_
 obtain ⟨f5,c2,h⟩:=aA h
 refine dX aD c2 (dN 4 (dE ?_))
 obtain ⟨f2,b7,h⟩:=aA h
 refine oP (W.nK b7) (oN 1 (zO fun u k=>?_))
 cases h
 exact zG k
 replace h:=iB hb h
 refine dN 17 (dE (oN 2 (zO fun u k=>?_)))
 cases h
 exact zG k
 refine yE k [1,7,8,9,10,99] [500000,500001] (qc h (fun h=>?_) fun h=>?_)
 refine z8 1 ⟨[(2,vI 13)],[]⟩ fun u k=>?_
 refine aT (aO ?_)
 cases h
 exact zF k
 refine zM fun u k=>?_
 refine aF (yE k [1,7,8,9,10] [500000,500001] (zD (z6 3 fun u k=>?_)))
 cases h
 exact zH k
 refine zL 4 fun u k=>?_
 refine aR ?_
 cases h
 exact zF k
 rcases a6 with d3 | d4
 refine aT (aT (aO ?_))
 cases h
 exact zF k
 refine zQ (aF (yE k [1,7,8] [500000,500001] (zD (z6 3 fun u k=>?_))))
 cases h
 exact zH k
 refine zL 2 fun u k=>?_
 refine aR ?_
 cases h
 exact zF k
 rcases a7 with d5 | d6
 refine aT (aO ?_)
 obtain rfl:=osi h
 exact zV k [(2,vI 13)]
 refine zQ (yE k [1] [500000] (zB (y3 1 [1,11] [500000] (zC ?_))))
 obtain ⟨b1,d1,h⟩:=aA h
 refine ql d1 (fun a3=>⟨[(1,.ptr 500000 0),(11,vI a3)],[(500000,.box (aQ l))]⟩) (fun b1=>match b1 with | .inl e1=>(.ret,⟨[(2,vI 7)],[]⟩) | .inr e2=>(.exit 6,⟨[],[]⟩)) qH (fun a3 r h=>?_) (fun u k=>?_) (hout:=(by intro x;rcases x with _ | _ <;> rfl))
 refine zB (z7 (zA 3 (qL aU l.Pieces (y1 1 [1,11,104] [500000] (qc h (fun h=>?_) fun h=>?_)))))
 refine y4 [1,11] [500000] (zB (zC (y3 1 [1,11,12] [500000] (zC ?_))))
 obtain ⟨a9,d0,h⟩:=aA h
 refine ql d0 (fun a4=>⟨[(1,.ptr 500000 0),(11,vI a3),(12,vI a4)],[(500000,.box (aQ l))]⟩) (fun a9=>match a9 with | .inl d9=>(.ret,⟨[(2,vI 7)],[]⟩) | .inr e0=>(.exit 8,⟨[(1,.ptr 500000 0),(11,vI a3)],[(500000,.box (aQ l))]⟩)) qH (fun a4 r h=>?_) (fun u k=>?_) (hout:=(by intro x;rcases x with _ | _ <;> rfl))
 refine zB (y3 3 [1,11,12,109] [500000] (qc h (fun h=>?_) fun h=>?_))
 refine y4 [1,11,12] [500000] (zB (zC (y3 1 [1,11,12,13] [500000] (zC ?_))))
 obtain ⟨a8,c9,h⟩:=aA h
 refine ql c9 (fun b2=>⟨[(1,.ptr 500000 0),(11,vI a3),(12,vI a4),(13,vI b2)],[(500000,.box (aQ l))]⟩) (fun a8=>match a8 with | .inl d7=>(.ret,⟨[(2,vI 7)],[]⟩) | .inr d8=>(.exit 10,⟨[(1,.ptr 500000 0),(11,vI a3),(12,vI a4)],[(500000,.box (aQ l))]⟩)) qH (fun b2 r h=>?_) (fun u k=>?_) (hout:=(by intro x;rcases x with _ | _ <;> rfl))
 refine zB (z7 (zA 4 ?_))
 obtain ⟨e5,c5,h⟩:=aA h
 refine qX aU c5 (zA 2 (qL aD e5.Rects (y1 1 [1,11,12,13,120] [500000] (qc h (fun h=>?_) fun h=>?_))))
 refine y4 [1,11,12,13] [500000] (zB (zC (zB (qM 15 (dN 3 ?_)))))
 obtain ⟨f6,c6,h⟩:=aA h
 refine dX aU c6 (dN 3 ?_)
 obtain ⟨f7,c7,h⟩:=aA h
 refine dX aD c7 (dN 4 ?_)
 obtain ⟨f8,c8,h⟩:=aA h
 refine dX aU c8 (dN 2 (dE ?_))
 obtain ⟨f3,b8,h⟩:=aA h
 refine oP (W.nK b8) (zO fun u k=>?_)
 refine yE k [1,11,12,13,138] [500000] (qc h (fun h=>?_) fun h=>?_)
 refine z8 1 ⟨[(2,vI 7)],[]⟩ fun u k=>?_
 refine aT (aO ?_)
 cases h
 exact zF k
 refine zM fun u k=>?_
 refine aF (yE k [1,11,12,13] [500000] (zD (z6 3 fun u k=>?_)))
 cases h
 exact zH k
 refine zL 10 fun u k=>?_
 refine aR ?_
 cases h
 exact zF k
 rcases a8 with d7 | d8
 refine aT (aT (aO ?_))
 cases h
 exact zF k
 refine zQ (aF (yE k [1,11,12] [500000] (zD (z6 3 fun u k=>?_))))
 cases h
 exact zH k
 refine zL 8 fun u k=>?_
 refine aR ?_
 cases h
 exact zF k
 rcases a9 with d9 | e0
 refine aT (aT (aO ?_))
 cases h
 exact zF k
 refine zQ (aF (yE k [1,11] [500000] (zD (z6 3 fun u k=>?_))))
 cases h
 exact zH k
 refine zL 6 fun u k=>?_
 refine aR ?_
 cases h
 exact zF k
 rcases b1 with e1 | e2
 refine aT (aO ?_)
 obtain rfl:=osi h
 exact zV k [(2,vI 7)]
 refine zQ (yE k [] [] (z8 1 ⟨[(2,vI 0)],[]⟩ fun u k=>?_))
 obtain rfl:=osi h
 exact zV k [(2,vI 0)]
theorem W.CY {x0 r} (h:bits_Len64 x0=some r):PC G.P 199 [(vK .u64 x0)] [] (vI r) []:=by
 refine zU G Tryz.func199 (yK [0] [] (y3 1 [0,2] [] (bV (fun (j1:Int×Int)=>⟨[(0,vK .u64 j1.1),(2,vI j1.2)],[]⟩) (Jm) r (by kernel_rfl) (fun j1 h=>?_) ?_)))
 refine bV (fun (j2:Int×Int)=>⟨[(0,vK .u64 j2.1),(2,vI j2.2)],[]⟩) (Jl) r (by kernel_rfl) (fun j2 h=>?_) ?_
 refine bV (fun (j3:Int×Int)=>⟨[(0,vK .u64 j3.1),(2,vI j3.2)],[]⟩) (Jk) r (by kernel_rfl) (fun j3 h=>?_) ?_
 refine z7 (zA 3 ?_)
 obtain ⟨x5,a0,h⟩:=aA h
 refine fK (Dj (s:=(ByteArray.mk #[0,1,2,2,3,3,3,3,4,4,4,4,4,4,4,4,5,5,5,5,5,5,5,5,5,5,5,5,5,5,5,5,6,6,6,6,6,6,6,6,6,6,6,6,6,6,6,6,6,6,6,6,6,6,6,6,6,6,6,6,6,6,6,6,7,7,7,7,7,7,7,7,7,7,7,7,7,7,7,7,7,7,7,7,7,7,7,7,7,7,7,7,7,7,7,7,7,7,7,7,7,7,7,7,7,7,7,7,7,7,7,7,7,7,7,7,7,7,7,7,7,7,7,7,7,7,7,7,8,8,8,8,8,8,8,8,8,8,8,8,8,8,8,8,8,8,8,8,8,8,8,8,8,8,8,8,8,8,8,8,8,8,8,8,8,8,8,8,8,8,8,8,8,8,8,8,8,8,8,8,8,8,8,8,8,8,8,8,8,8,8,8,8,8,8,8,8,8,8,8,8,8,8,8,8,8,8,8,8,8,8,8,8,8,8,8,8,8,8,8,8,8,8,8,8,8,8,8,8,8,8,8,8,8,8,8,8,8,8,8,8,8,8,8,8,8,8,8,8,8,8,8,8,8,8,8])) (i:=(IntKind.wrap .u8 j3.1)) (kd:=.u8) (by kernel_rfl) a0) (y1 3 [2] [] (zN fun u k=>?_))
 obtain rfl:=osi h
 exact zV k [(2,vI (aM j3.2 (IntKind.wrap .i64 x5)))]
 refine y3 2 [0,2,14] [] (qc h (fun h=>?_) fun h=>?_)
 refine y3 3 [0,2] [] (zD (z6 3 fun u k=>?_))
 exact aV ((Int.fdiv j2.1 (2^(min (Int.toNat 8) 64))),(aM j2.2 8)) h k (here (by kernel_rfl))
 refine zM fun u k=>?_
 exact aV (j2.1,j2.2) h k (here (by kernel_rfl))
 refine y3 2 [0,2,8] [] (qc h (fun h=>?_) fun h=>?_)
 refine y3 3 [0,2] [] (zD (z6 3 fun u k=>?_))
 exact aV ((Int.fdiv j1.1 (2^(min (Int.toNat 16) 64))),(aM j1.2 16)) h k (here (by kernel_rfl))
 refine zM fun u k=>?_
 exact aV (j1.1,j1.2) h k (here (by kernel_rfl))
 refine y3 2 [0,2,4] [] (qc h (fun h=>?_) fun h=>?_)
 refine y3 3 [0] [] (zD (z6 1 fun u k=>?_))
 exact aV ((Int.fdiv x0 (2^(min (Int.toNat 32) 64))),32) h k (here (by kernel_rfl))
 refine zM fun u k=>?_
 exact aV (x0,0) h k (here (by kernel_rfl))
theorem W.Xt {x0 r} (h:bits_Len x0=some r):PC G.P 181 [(vK .u64 x0)] [] (vI r) []:=by
 refine zU G Tryz.func181 (yK [0] [] (y3 1 [0] [] (zB (Ro (by kernel_rfl) (by kernel_rfl) (y4 [0] [] (z7 ?_))))))
 refine zA 1 ?_
 obtain ⟨r2,a0,h⟩:=aA h
 refine qP (W.CY a0) (y1 1 [2] [] (zN fun u k=>?_))
 obtain rfl:=osi h
 exact zV k [(2,vI r2)]
theorem W.Ky {x0 r} (h:cmp_isNaN_int x0=some r):PC G.P 165 [(vI x0)] [] (vB r) []:=by
 refine zU G Tryz.func165 (yK [0] [] (y3 1 [0] [] (z8 4 ⟨[(2,vB (x0 != x0))],[]⟩ fun u k=>?_)))
 obtain rfl:=osi h
 exact zV k [(2,vB (x0 != x0))]
theorem W.bN {x0 y r} (h:cmp_Compare_int x0 y=some r):PC G.P 129 [(vI x0),(vI y)] [] (vI r) []:=by
 refine zU G Tryz.func129 (yK [0,1] [] (y3 1 [0,1] [] (z7 (zA 1 ?_))))
 obtain ⟨r2,a0,h⟩:=aA h
 refine qP (W.Ky a0) (y1 1 [0,1,5] [] (z7 (zA 1 ?_)))
 obtain ⟨r4,a1,h⟩:=aA h
 refine qP (W.Ky a1) (y1 1 [0,1,5,6] [] (zB (y3 1 [0,1,6,11] [] (qc h (fun h=>?_) fun h=>?_))))
 refine zB (y3 1 [12] [] (qc h (fun h=>?_) fun h=>?_))
 refine z8 1 ⟨[(4,vI 0)],[]⟩ fun u k=>?_
 refine aO (aO ?_)
 obtain rfl:=osi h
 exact zV k [(4,vI 0)]
 refine y4 [] [] (z8 1 ⟨[(4,vI (-1))],[]⟩ fun u k=>?_)
 refine aO ?_
 obtain rfl:=osi h
 exact zV k [(4,vI (-1))]
 refine y4 [0,1,6] [] (zB (y3 1 [0,1,13] [] (qc h (fun h=>?_) fun h=>?_)))
 refine z8 1 ⟨[(4,vI 1)],[]⟩ fun u k=>?_
 refine aO ?_
 obtain rfl:=osi h
 exact zV k [(4,vI 1)]
 refine y4 [0,1] [] (zB (y3 3 [0,1,16] [] (qc h (fun h=>?_) fun h=>?_)))
 refine z8 1 ⟨[(4,vI (-1))],[]⟩ fun u k=>?_
 refine aO ?_
 obtain rfl:=osi h
 exact zV k [(4,vI (-1))]
 refine y4 [0,1] [] (zB (y3 3 [19] [] (qc h (fun h=>?_) fun h=>?_)))
 refine z8 1 ⟨[(4,vI 1)],[]⟩ fun u k=>?_
 refine aO ?_
 obtain rfl:=osi h
 exact zV k [(4,vI 1)]
 refine y4 [] [] (z8 1 ⟨[(4,vI 0)],[]⟩ fun u k=>?_)
 obtain rfl:=osi h
 exact zV k [(4,vI 0)]
theorem W.pW {a b h0 r} (h:jI a b h0=some r):PC G.P 190 [(.row (.top 1000000) 3),(vI a),(vI b),(.fn 129 [])] [(1000000,.row 3 [] (List.map cI h0))] (.tup []) [(1000000,.row 3 [] (List.map cI r))]:=by
 refine zU G Tryz.func190 (yK [0,1,2,3] [1000000] (y3 3 [0,1,2,3,8] [1000000] (zC ?_)))
 obtain ⟨b4,b2,h⟩:=aA h
 refine ql b2 (fun a1=>⟨[(0,ro 1000000 3),(1,vI a),(2,vI b),(3,.fn 129 []),(8,vI a1.1)],[(1000000,wI 3 a1.2)]⟩) (fun b4=>(.exit 0,⟨[],[(1000000,wI 3 b4)]⟩)) qH (fun a1 r h=>?_) fun u k=>?_
 refine zB (y3 3 [0,1,2,3,8,14] [1000000] (qc h (fun h=>?_) fun h=>?_))
 refine y4 [0,1,2,3,8] [1000000] (zB (zC (y3 2 [0,1,2,3,8,9] [1000000] (zC ?_))))
 obtain ⟨b3,b1,h⟩:=aA h
 refine ql b1 (fun a0=>⟨[(0,ro 1000000 3),(1,vI a),(2,vI b),(3,.fn 129 []),(8,vI a1.1),(9,vI a0.1)],[(1000000,wI 3 a0.2)]⟩) (fun b3=>(.exit 2,⟨[(0,ro 1000000 3),(1,vI a),(2,vI b),(3,.fn 129 []),(8,vI a1.1)],[(1000000,wI 3 b3)]⟩)) qH (fun a0 r h=>?_) fun u k=>?_
 refine zB (zB ?_)
 obtain ⟨b5,a8,h⟩:=aA h
 refine gG ⟨[(0,ro 1000000 3),(1,vI a),(2,vI b),(3,.fn 129 []),(8,vI a1.1),(9,vI a0.1),(34,vB b5)],[(1000000,wI 3 a0.2)]⟩ [] [] [] [] [] 14 (by kernel_rfl) (by kernel_rfl) (by kernel_rfl) ?_ fun u k=>?_
 replace h:=a8
 refine dN 4 (bH (decide (a0.1>a)) (fun b0=>⟨[(21,vB b0),(20,vB b0),(19,vI a),(18,vI a0.1),(0,ro 1000000 3),(1,vI a),(2,vI b),(3,.fn 129 []),(8,vI a1.1),(9,vI a0.1)],[(1000000,wI 3 a0.2)]⟩) (by kernel_rfl) (fun hb=>?_) fun hb=>?_)
 replace h:=iD hb h
 refine dN 3 ?_
 obtain ⟨b9,a2,h⟩:=aA h
 refine dI cI a2 (dR cI a2 (dN 3 ?_))
 obtain ⟨c0,a3,h⟩:=aA h
 refine dI cI a3 (dR cI a3 (dE ?_))
 obtain ⟨b8,a9,h⟩:=aA h
 refine oP (W.bN a9) (oN 2 (zO fun u k=>?_))
 cases h
 exact zG k
 replace h:=iB hb h
 refine dN 10 (dE (oN 3 (zO fun u k=>?_)))
 cases h
 exact zG k
 refine yE k [0,1,2,3,8,9,34] [1000000] (qc h (fun h=>?_) fun h=>?_)
 refine y4 [0,1,2,3,8,9] [1000000] (zB (zC (qN [(15,[1000000])] [] [] [(2,[1000000]),(3,[1000000]),(4,[1000000])] [] 16 (dN 8 ?_))))
 obtain ⟨b6,a4,h⟩:=aA h
 refine dI cI a4 (dR cI a4 (dN 2 ?_))
 obtain ⟨b7,a5,h⟩:=aA h
 refine dI cI a5 (dR cI a5 ?_)
 obtain ⟨c1,a6,h⟩:=aA h
 refine dI cI a6 (dS cI b6 a6 (dE ?_))
 obtain ⟨c2,a7,h⟩:=aA h
 refine oI cI a7 (oS cI b7 a7 (zO fun u k=>?_))
 refine aF (yE k [0,1,2,3,8,9] [1000000] (zD (z6 3 fun u k=>?_)))
 cases h
 exact zH k
 refine zL 2 fun u k=>?_
 refine aR ?_
 cases h
 exact zF k
 refine zQ (aF (yE k [0,1,2,3,8] [1000000] (zD (z6 3 fun u k=>?_))))
 cases h
 exact zH k
 refine zL 0 fun u k=>?_
 refine aR ?_
 cases h
 exact zF k
 refine zQ ?_
 obtain rfl:=osi h
 exact xO k [] (here (by kernel_rfl)) (by kernel_rfl)
theorem W.kC {lo hi first h0 r} (h:gD lo hi first h0=some r):PC G.P 212 [(.row (.top 1000000) 3),(vI lo),(vI hi),(vI first),(.fn 129 [])] [(1000000,.row 3 [] (List.map cI h0))] (.tup []) [(1000000,.row 3 [] (List.map cI r))]:=by
 refine zU G Tryz.func212 (yK [0,1,2,3,4] [1000000] (y3 2 [0,2,3,4,10] [1000000] (zC ?_)))
 obtain ⟨a9,b4,h⟩:=aA h
 refine ql b4 (fun a0=>⟨[(0,ro 1000000 3),(2,vI hi),(3,vI first),(4,.fn 129 []),(10,vI a0.1)],[(1000000,wI 3 a0.2)]⟩) (fun a9=>match a9 with | .inl b6=>(.exit 0,⟨[],[(1000000,wI 3 b6)]⟩) | .inr b7=>(.ret,⟨[],[(1000000,wI 3 b7)]⟩)) qH (fun a0 r h=>?_) (fun u k=>?_) (hout:=(by intro x;rcases x with _ | _ <;> rfl))
 refine zC (y3 4 [0,2,3,4,10,11] [1000000] (zB (y3 3 [0,2,3,4,10,11,18] [1000000] (qc h (fun h=>?_) fun h=>?_))))
 refine zL 0 fun u k=>?_
 refine aR (Ur (by kernel_rfl) ?_)
 cases h
 exact zF k
 refine y4 [0,2,3,4,10,11] [1000000] (bV (fun (b5:Int)=>⟨[(0,ro 1000000 3),(2,vI hi),(3,vI first),(4,.fn 129 []),(10,vI a0.1),(11,vI b5)],[(1000000,wI 3 a0.2)]⟩) (fD first a0) r (by kernel_rfl) (fun b5 h=>?_) ?_)
 refine zB (zB (qM 13 (dN 5 ?_)))
 obtain ⟨c3,a1,h⟩:=aA h
 refine dI cI a1 (dR cI a1 (dN 4 ?_))
 obtain ⟨c4,a2,h⟩:=aA h
 refine dI cI a2 (dR cI a2 (dE ?_))
 obtain ⟨c1,b2,h⟩:=aA h
 refine oP (W.bN b2) (oN 2 (zO fun u k=>?_))
 refine yE k [0,2,3,4,10,11,58] [1000000] (qc h (fun h=>?_) fun h=>?_)
 refine zN fun u k=>?_
 refine aO (aT ?_)
 cases h
 exact zF k
 refine y4 [0,2,3,4,10,11] [1000000] (zB (qN [(21,[1000000])] [] [] [(4,[1000000]),(5,[1000000]),(6,[1000000]),(7,[1000000])] [] 22 (dN 12 ?_)))
 obtain ⟨b9,a3,h⟩:=aA h
 refine dI cI a3 (dR cI a3 (dN 4 ?_))
 obtain ⟨c0,a4,h⟩:=aA h
 refine dI cI a4 (dR cI a4 ?_)
 obtain ⟨c5,a5,h⟩:=aA h
 refine dI cI a5 (dS cI b9 a5 (dE ?_))
 obtain ⟨c6,a6,h⟩:=aA h
 refine oI cI a6 (oS cI c0 a6 (zO fun u k=>?_))
 refine yE k [0,2,3,4,11] [1000000] (zD (z6 2 fun u k=>?_))
 refine aF ?_
 cases h
 exact zH k
 refine zB ?_
 obtain ⟨b8,b1,h⟩:=aA h
 refine gG ⟨[(0,ro 1000000 3),(2,vI hi),(3,vI first),(4,.fn 129 []),(10,vI a0.1),(11,vI (aM (nI 2 a0.1) 1)),(40,vB b8)],[(1000000,wI 3 a0.2)]⟩ [] [] [] [] [] 19 (by kernel_rfl) (by kernel_rfl) (by kernel_rfl) ?_ fun u k=>?_
 replace h:=b1
 refine dN 5 (bH (decide ((aM (aM (nI 2 a0.1) 1) 1)<hi)) (fun b0=>⟨[(23,vB b0),(22,vB b0),(21,vI hi),(20,vI (aM (aM (nI 2 a0.1) 1) 1)),(19,vI (aM (nI 2 a0.1) 1)),(0,ro 1000000 3),(2,vI hi),(3,vI first),(4,.fn 129 []),(10,vI a0.1),(11,vI (aM (nI 2 a0.1) 1))],[(1000000,wI 3 a0.2)]⟩) (by kernel_rfl) (fun hb=>?_) fun hb=>?_)
 replace h:=iD hb h
 refine dN 5 ?_
 obtain ⟨c7,a7,h⟩:=aA h
 refine dI cI a7 (dR cI a7 (dN 5 ?_))
 obtain ⟨c8,a8,h⟩:=aA h
 refine dI cI a8 (dR cI a8 (dE ?_))
 obtain ⟨c2,b3,h⟩:=aA h
 refine oP (W.bN b3) (oN 2 (zO fun u k=>?_))
 cases h
 exact zG k
 replace h:=iB hb h
 refine dN 14 (dE (oN 3 (zO fun u k=>?_)))
 cases h
 exact zG k
 refine yE k [0,2,3,4,10,11,40] [1000000] (qc h (fun h=>?_) fun h=>?_)
 refine zD (z6 3 fun u k=>?_)
 exact aV (aM (aM (nI 2 a0.1) 1) 1) h k (here (by kernel_rfl))
 refine zM fun u k=>?_
 exact aV (aM (nI 2 a0.1) 1) h k (here (by kernel_rfl))
 rcases a9 with b6 | b7
 refine zQ ?_
 obtain rfl:=osi h
 exact xO k [] (here (by kernel_rfl)) (by kernel_rfl)
 refine aT ?_
 obtain rfl:=osi h
 exact zV k []
theorem W.uH {a b h0 r} (h:lD a b h0=some r):PC G.P 191 [(.row (.top 1000000) 3),(vI a),(vI b),(.fn 129 [])] [(1000000,.row 3 [] (List.map cI h0))] (.tup []) [(1000000,.row 3 [] (List.map cI r))]:=by
 refine zU G Tryz.func191 (yK [0,1,2,3] [1000000] (y3 2 [0,1,2,3,8] [1000000] (y3 1 [0,1,2,3,8,9] [1000000] (y3 4 [0,3,8,9,10] [1000000] (zB (y3 4 [0,3,8,9,10,11] [1000000] ?_))))))
 refine zC ?_
 obtain ⟨b3,a8,h⟩:=aA h
 refine ql a8 (fun a9=>⟨[(0,ro 1000000 3),(3,.fn 129 []),(8,vI a),(9,vI 0),(10,vI (aJ b a)),(11,vI a9.1)],[(1000000,wI 3 a9.2)]⟩) (fun b3=>(.exit 0,⟨[(0,ro 1000000 3),(3,.fn 129 []),(8,vI a),(9,vI 0),(10,vI (aJ b a))],[(1000000,wI 3 b3)]⟩)) qH (fun a9 r h=>?_) fun u k=>?_
 refine zB (y3 2 [0,3,8,9,10,11,21] [1000000] (qc h (fun h=>?_) fun h=>?_))
 refine y4 [0,3,8,9,10,11] [1000000] (zB (zC (zD (zA 5 ?_))))
 obtain ⟨b7,a7,h⟩:=aA h
 refine qC [(1000000,1000000)] [] (W.kC a7) (zP fun u k=>?_)
 refine aF (yE k [0,3,8,9,10,11] [1000000] (zD (z6 3 fun u k=>?_)))
 cases h
 exact zH k
 refine zL 0 fun u k=>?_
 refine aR ?_
 cases h
 exact zF k
 refine zQ (yE k [0,3,8,9,10] [1000000] (y3 3 [0,3,8,9,12] [1000000] (zC ?_)))
 obtain ⟨a6,a5,h⟩:=aA h
 refine ql a5 (fun b0=>⟨[(0,ro 1000000 3),(3,.fn 129 []),(8,vI a),(9,vI 0),(12,vI b0.1)],[(1000000,wI 3 b0.2)]⟩) (fun a6=>(.exit 2,⟨[],[(1000000,wI 3 a6)]⟩)) qH (fun b0 r h=>?_) fun u k=>?_
 refine zB (y3 2 [0,3,8,9,12,33] [1000000] (qc h (fun h=>?_) fun h=>?_))
 refine y4 [0,3,8,9,12] [1000000] (zB (zC (zB (qN [(17,[1000000])] [] [] [(2,[1000000]),(3,[1000000]),(4,[1000000]),(5,[1000000])] [] 18 (dN 10 ?_)))))
 obtain ⟨b1,a0,h⟩:=aA h
 refine dI cI a0 (dR cI a0 (dN 2 ?_))
 obtain ⟨b2,a1,h⟩:=aA h
 refine dI cI a1 (dR cI a1 ?_)
 obtain ⟨b5,a2,h⟩:=aA h
 refine dI cI a2 (dS cI b1 a2 (dE ?_))
 obtain ⟨b6,a3,h⟩:=aA h
 refine oI cI a3 (oS cI b2 a3 (zO fun u k=>?_))
 refine yE k [0,3,8,9,12] [1000000] (zD (zA 5 ?_))
 obtain ⟨b4,a4,h⟩:=aA h
 refine qC [(1000000,1000000)] [] (W.kC a4) (zP fun u k=>?_)
 refine aF (yE k [0,3,8,9,12] [1000000] (zD (z6 3 fun u k=>?_)))
 cases h
 exact zH k
 refine zL 2 fun u k=>?_
 refine aR ?_
 cases h
 exact zF k
 refine zQ ?_
 obtain rfl:=osi h
 exact xO k [] (here (by kernel_rfl)) (by kernel_rfl)
theorem W.Ko {length r} (h:Bj length=some r):PC G.P 213 [(vI length)] [] (vK .u64 r) []:=by
 refine zU G Tryz.func213 (yK [0] [] (y3 1 [0] [] (z7 (zA 2 ?_))))
 obtain ⟨r2,a0,h⟩:=aA h
 refine qP (W.Xt a0) ?_
 obtain ⟨hb,h⟩:=ZA h
 refine iQ (N7 (a:=1) (b:=r2) (kd:=.u64) (k2:=.i64) (by kernel_rfl) (of_decide_eq_true hb)) (y1 1 [2] [] (zN fun u k=>?_))
 obtain rfl:=osi h
 exact zV k [(2,vK .u64 (IntKind.wrap .u64 (1*2^(min (Int.toNat r2) 64))))]
theorem W.Nr {h0_0 r} (h:Eb h0_0=some r):PC G.P 214 [(.ptr 1000000 0)] [(1000000,.box [(vK .u64 h0_0)])] (vK .u64 r) [(1000000,.box [(vK .u64 (kD .u64 (kD .u64 (kD .u64 h0_0 (IntKind.wrap .u64 (h0_0*2^(min (Int.toNat 13) 64)))) (Int.fdiv (kD .u64 h0_0 (IntKind.wrap .u64 (h0_0*2^(min (Int.toNat 13) 64)))) (2^(min (Int.toNat 7) 64)))) (IntKind.wrap .u64 ((kD .u64 (kD .u64 h0_0 (IntKind.wrap .u64 (h0_0*2^(min (Int.toNat 13) 64)))) (Int.fdiv (kD .u64 h0_0 (IntKind.wrap .u64 (h0_0*2^(min (Int.toNat 13) 64)))) (2^(min (Int.toNat 7) 64))))*2^(min (Int.toNat 17) 64)))))])]:=by
 refine zU G Tryz.func214 (yK [0] [1000000] (y3 1 [0] [1000000] (zB (qM 7 (dN 7 (dE ?_))))))
 refine oN 3 (zO fun u k=>?_)
 refine yE k [0] [1000000] (zB (qM 7 (dN 7 (dE (oN 3 (zO fun u k=>?_))))))
 refine yE k [0] [1000000] (zB (qM 7 (dN 7 (dE (oN 3 (zO fun u k=>?_))))))
 refine yE k [0] [1000000] (z8 4 ⟨[(2,vK .u64 (kD .u64 (kD .u64 (kD .u64 h0_0 (IntKind.wrap .u64 (h0_0*2^(min (Int.toNat 13) 64)))) (Int.fdiv (kD .u64 h0_0 (IntKind.wrap .u64 (h0_0*2^(min (Int.toNat 13) 64)))) (2^(min (Int.toNat 7) 64)))) (IntKind.wrap .u64 ((kD .u64 (kD .u64 h0_0 (IntKind.wrap .u64 (h0_0*2^(min (Int.toNat 13) 64)))) (Int.fdiv (kD .u64 h0_0 (IntKind.wrap .u64 (h0_0*2^(min (Int.toNat 13) 64)))) (2^(min (Int.toNat 7) 64))))*2^(min (Int.toNat 17) 64)))))],[(1000000,.box [(vK .u64 (kD .u64 (kD .u64 (kD .u64 h0_0 (IntKind.wrap .u64 (h0_0*2^(min (Int.toNat 13) 64)))) (Int.fdiv (kD .u64 h0_0 (IntKind.wrap .u64 (h0_0*2^(min (Int.toNat 13) 64)))) (2^(min (Int.toNat 7) 64)))) (IntKind.wrap .u64 ((kD .u64 (kD .u64 h0_0 (IntKind.wrap .u64 (h0_0*2^(min (Int.toNat 13) 64)))) (Int.fdiv (kD .u64 h0_0 (IntKind.wrap .u64 (h0_0*2^(min (Int.toNat 13) 64)))) (2^(min (Int.toNat 7) 64))))*2^(min (Int.toNat 17) 64)))))])]⟩ fun u k=>?_)
 obtain rfl:=osi h
 exact zV k [(2,vK .u64 (kD .u64 (kD .u64 (kD .u64 h0_0 (IntKind.wrap .u64 (h0_0*2^(min (Int.toNat 13) 64)))) (Int.fdiv (kD .u64 h0_0 (IntKind.wrap .u64 (h0_0*2^(min (Int.toNat 13) 64)))) (2^(min (Int.toNat 7) 64)))) (IntKind.wrap .u64 ((kD .u64 (kD .u64 h0_0 (IntKind.wrap .u64 (h0_0*2^(min (Int.toNat 13) 64)))) (Int.fdiv (kD .u64 h0_0 (IntKind.wrap .u64 (h0_0*2^(min (Int.toNat 13) 64)))) (2^(min (Int.toNat 7) 64))))*2^(min (Int.toNat 17) 64)))))]
theorem W.pR {a b h0 r} (h:jH a b h0=some r):PC G.P 192 [(.row (.top 1000000) 3),(vI a),(vI b),(.fn 129 [])] [(1000000,.row 3 [] (List.map cI h0))] (.tup []) [(1000000,.row 3 [] (List.map cI r))]:=by
 refine zU G Tryz.func192 (yK [0,1,2] [1000000] (y3 4 [0,1,8] [1000000] (y3 2 [0,1,8,17] [1000000] (qc h (fun h=>?_) fun h=>?_))))
 refine y3 4 [0,1,8,9] [9,1000000] (z7 (zA 1 ?_))
 obtain ⟨r2,b0,h⟩:=aA h
 refine qP (W.Ko b0) (y1 1 [0,1,8,9,10] [9,1000000] (y3 7 [0,1,8,9,10,11] [9,1000000] (zC ?_)))
 obtain ⟨a9,a6,h⟩:=aA h
 refine ql a6 (fun a0=>⟨[(0,ro 1000000 3),(1,vI a),(8,vI (aJ b a)),(9,.ptr 500000 0),(10,vK .u64 r2),(11,vI a0.1)],[(500000,.box [(vK .u64 a0.2.1)]),(1000000,wI 3 a0.2.2)]⟩) (fun a9=>(.exit 0,⟨[],[(1000000,wI 3 a9)]⟩)) (sp [] [(9,500000),(1000000,1000000)]) (fun a0 r h=>?_) fun u k=>?_
 refine zB (y3 8 [0,1,8,9,10,11,35] [500000,1000000] (qc h (fun h=>?_) fun h=>?_))
 refine y4 [0,1,8,9,10,11] [500000,1000000] (zB (zC (z7 ?_)))
 obtain ⟨a8,a5,h⟩:=aA h
 refine qC [(1000000,500000)] [] (W.Nr a5) (y1 5 [0,1,8,9,10,11,12] [500000,1000000] (bV (fun (a7:Int)=>⟨[(0,ro 1000000 3),(1,vI a),(8,vI (aJ b a)),(9,.ptr 500000 0),(10,vK .u64 r2),(11,vI a0.1),(12,vI a7)],[(500000,.box [(vK .u64 (kD .u64 (kD .u64 (kD .u64 a0.2.1 (IntKind.wrap .u64 (a0.2.1*2^(min (Int.toNat 13) 64)))) (Int.fdiv (kD .u64 a0.2.1 (IntKind.wrap .u64 (a0.2.1*2^(min (Int.toNat 13) 64)))) (2^(min (Int.toNat 7) 64)))) (IntKind.wrap .u64 ((kD .u64 (kD .u64 a0.2.1 (IntKind.wrap .u64 (a0.2.1*2^(min (Int.toNat 13) 64)))) (Int.fdiv (kD .u64 a0.2.1 (IntKind.wrap .u64 (a0.2.1*2^(min (Int.toNat 13) 64)))) (2^(min (Int.toNat 7) 64))))*2^(min (Int.toNat 17) 64)))))]),(1000000,wI 3 a0.2.2)]⟩) (dO a a0) r (by kernel_rfl) (fun a7 h=>?_) ?_))
 refine qN [(17,[1000000])] [] [] [(2,[1000000]),(3,[1000000]),(4,[1000000]),(5,[1000000])] [] 18 (dN 10 ?_)
 obtain ⟨b1,a1,h⟩:=aA h
 refine dI cI a1 (dR cI a1 (dN 2 ?_))
 obtain ⟨b2,a2,h⟩:=aA h
 refine dI cI a2 (dR cI a2 ?_)
 obtain ⟨b3,a3,h⟩:=aA h
 refine dI cI a3 (dS cI b1 a3 (dE ?_))
 obtain ⟨b4,a4,h⟩:=aA h
 refine oI cI a4 (oS cI b2 a4 (zO fun u k=>?_))
 refine aF (yE k [0,1,8,9,10,11] [500000,1000000] (zD (z6 3 fun u k=>?_)))
 cases h
 exact zH k
 refine y3 3 [0,1,8,9,10,11,12,45] [500000,1000000] (qc h (fun h=>?_) fun h=>?_)
 refine zD (z6 4 fun u k=>?_)
 exact aV (aJ (IntKind.wrap .i64 (Vn .u64 a8 (IntKind.wrap .u64 (r2-1)))) (aJ b a)) h k (here (by kernel_rfl))
 refine zM fun u k=>?_
 exact aV (IntKind.wrap .i64 (Vn .u64 a8 (IntKind.wrap .u64 (r2-1)))) h k (here (by kernel_rfl))
 refine zL 0 fun u k=>?_
 refine aR ?_
 cases h
 exact zF k
 refine zQ ?_
 obtain rfl:=osi h
 exact xO k [] (here (by kernel_rfl)) (by kernel_rfl)
 refine zM fun u k=>?_
 obtain rfl:=osi h
 exact xO k [] (here (by kernel_rfl)) (by kernel_rfl)
end Go.Proofs.YtgfjbgoehhnaeaaGreat
