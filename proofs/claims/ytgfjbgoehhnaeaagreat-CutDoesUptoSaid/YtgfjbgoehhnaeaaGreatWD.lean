/- Each Go function does what its model says; written by a program out of the translation. -/
import Derived.Test.YtgfjbgoehhnaeaaGreatBase
import Derived.Test.YtgfjbgoehhnaeaaGreatCzMD
set_option linter.unusedVariables false
set_option linter.unusedSimpArgs false
set_option linter.unusedSectionVars false
namespace Go.Proofs.YtgfjbgoehhnaeaaGreat
open Go Go.VI Go.SM Go.Proofs
set_option maxRecDepth 100000
set_option maxHeartbeats 4000000
theorem W.Rb {s sub r} (h:strings_Contains s sub=some r):PC G.P 142 [vS s,vS sub] [] (vB r) []:=by
 unfold strings_Contains at h
 split at h
 rename_i hs
 injection h with h;subst h
 exact YD (args:=[.string s,.string sub]) (by kernel_rfl) 0 (by kernel_rfl) fun m w hm=>Any.strings_Contains Tryz.CO s sub m w hs hm
 cases h
theorem W.wE {s0 r} (h:lC s0=some r):PC G.P 84 [(vS s0)] [] (vB r) []:=by
 refine zU G Tryz.func84 (yK [0] [] (y3 1 [0] [] (zB (zB ?_))))
 obtain ⟨j8,hj8,h⟩:=aA h
 refine zT ⟨[(0,vS s0),(22,vB j8)],[]⟩ ?_ fun u k=>?_
 replace h:=hj8
 refine zA 4 (qB h [0,8] [] [8] (fun h=>?_) fun h=>?_)
 refine z6 14 fun u k=>?_
 cases h
 exact zG k
 refine zA 5 (qB h [0,13] [] [13] (fun h=>?_) fun h=>?_)
 refine z6 9 fun u k=>?_
 cases h
 exact zG k
 refine zA 1 ?_
 obtain ⟨x9,hx9,h⟩:=aA h
 refine fF (Ci (s:=s0) (i:=0) (kd:=.i64) (by kernel_rfl) hx9) (zA 3 (qB h [0,18] [] [18] (fun h=>?_) fun h=>?_))
 refine z6 4 fun u k=>?_
 cases h
 exact zG k
 refine zA 1 ?_
 obtain ⟨x10,hx10,h⟩:=aA h
 refine fF (Ci (s:=s0) (i:=0) (kd:=.i64) (by kernel_rfl) hx10) (z6 2 fun u k=>?_)
 cases h
 exact zG k
 refine yE k [0,22] [] (qc h (fun h=>?_) fun h=>?_)
 refine z8 1 ⟨[(2,vB false)],[]⟩ fun u k=>?_
 refine aO ?_
 obtain rfl:=osi h
 exact zV k [(2,vB false)]
 refine y4 [0] [] (zB (y3 3 [0,24,25] [] (zC ?_)))
 obtain ⟨x54,hx54,h⟩:=aA h
 refine ql hx54 (fun s41=>⟨[(0,vS s0),(24,vI (s0.size:Int)),(25,vI s41)],[]⟩) (fun x54=>match x54 with | .inl j55=>(.ret,⟨[(2,vB false)],[]⟩) | .inr j56=>(.exit 0,⟨[(0,vS s0)],[]⟩)) qH (fun s41 r h=>?_) (fun u k=>?_) (hout:=(by intro x;rcases x with _ | _ <;> rfl))
 refine y3 1 [0,24,25,26] [] (zB (qc h (fun h=>?_) fun h=>?_))
 refine y4 [0,24,25] [] (zB (zC (y3 2 [0,3,24,25] [] (z7 (zA 2 ?_)))))
 obtain ⟨x52,hx52,h⟩:=aA h
 refine fF (Ci (s:=s0) (i:=s41) (kd:=.i64) (by kernel_rfl) hx52) (y1 1 [0,4,24,25] [] (zB ?_))
 obtain ⟨j53,hj53,h⟩:=aA h
 refine zT ⟨[(0,vS s0),(24,vI (s0.size:Int)),(25,vI s41),(44,vB j53)],[]⟩ ?_ fun u k=>?_
 replace h:=hj53
 refine zA 3 (qB h [0,4,24,25,33] [] [33] (fun h=>?_) fun h=>?_)
 refine zA 7 (qB h [0,4,24,25,37,40] [] [40] (fun h=>?_) fun h=>?_)
 refine z6 4 fun u k=>?_
 cases h
 exact zG k
 refine z6 4 fun u k=>?_
 cases h
 exact zG k
 refine zA 4 (qB h [0,4,24,25,37] [] [37] (fun h=>?_) fun h=>?_)
 refine zA 3 (qB h [0,4,24,25,37,40] [] [40] (fun h=>?_) fun h=>?_)
 refine z6 4 fun u k=>?_
 cases h
 exact zG k
 refine z6 4 fun u k=>?_
 cases h
 exact zG k
 refine z6 7 fun u k=>?_
 cases h
 exact zG k
 refine yE k [0,24,25,44] [] (qc h (fun h=>?_) fun h=>?_)
 refine z8 1 ⟨[(2,vB false)],[]⟩ fun u k=>?_
 refine aT (aO ?_)
 cases h
 exact zF k
 refine zM fun u k=>?_
 refine aH (yE k [0,24,25] [] (zD (z6 2 fun u k=>?_)))
 cases h
 exact zH k
 refine zL 0 fun u k=>?_
 refine aQ ?_
 cases h
 exact zF k
 rcases x54 with j55 | j56
 refine aT (aO ?_)
 obtain rfl:=osi h
 exact zV k [(2,vB false)]
 refine zQ (yE k [0] [] (z7 (zA 1 ?_)))
 obtain ⟨s60,hs60,h⟩:=aA h
 refine iI (FX (a:=(ByteArray.mk #[32])) (b:=s0) (by kernel_rfl) hs60) ?_
 obtain ⟨s61,hs61,h⟩:=aA h
 refine iI (FX (a:=s60) (b:=(ByteArray.mk #[32])) (by kernel_rfl) hs61) ?_
 obtain ⟨r62,hr62,h⟩:=aA h
 refine qP (W.Rb hr62) (y1 2 [2] [] (zN fun u k=>?_))
 obtain rfl:=osi h
 exact zV k [(2,vB (!r62))]
theorem W.Em {n lo hi r} (h:Bo n lo hi=some r):PC G.P 86 [(vI n),(vI lo),(vI hi)] [] (vB r) []:=by
 refine zU G Tryz.func86 (yK [0,1,2] [] (y3 1 [0,1,2] [] (zB ?_)))
 obtain ⟨j1,hj1,h⟩:=aA h
 refine zT ⟨[(6,vB j1)],[]⟩ ?_ fun u k=>?_
 replace h:=hj1
 refine zA 4 (qB h [0,2,10] [] [10] (fun h=>?_) fun h=>?_)
 refine z6 5 fun u k=>?_
 cases h
 exact zG k
 refine z6 5 fun u k=>?_
 cases h
 exact zG k
 refine yE k [6] [] (zN fun u k=>?_)
 obtain rfl:=osi h
 exact zV k [(6,vB j1)]
theorem W.Ro {gauge grain r} (h:Gt gauge grain=some r):PC G.P 85 [(vI gauge),(vI grain)] [] (vB r) []:=by
 refine zU G Tryz.func85 (yK [0,1] [] (y3 1 [0,1] [] (zB ?_)))
 obtain ⟨j3,hj3,h⟩:=aA h
 refine zT ⟨[(4,vB j3)],[]⟩ ?_ fun u k=>?_
 replace h:=hj3
 refine zA 1 ?_
 obtain ⟨r4,hr4,h⟩:=aA h
 refine qP (W.Em hr4) (zA 1 (qB h [1,7] [] [7] (fun h=>?_) fun h=>?_))
 refine zA 1 ?_
 obtain ⟨r5,hr5,h⟩:=aA h
 refine qP (W.Em hr5) (z6 2 fun u k=>?_)
 cases h
 exact zG k
 refine z6 4 fun u k=>?_
 cases h
 exact zG k
 refine yE k [4] [] (zN fun u k=>?_)
 obtain rfl:=osi h
 exact zV k [(4,vB j3)]
theorem W.AB {n most r} (h:Ik n most=some r):PC G.P 144 [(vI n),(vI most)] [] (vB r) []:=by
 refine zU G Tryz.func144 (yK [0,1] [] (y3 1 [0,1] [] (zB ?_)))
 obtain ⟨j1,hj1,h⟩:=aA h
 refine zT ⟨[(4,vB j1)],[]⟩ ?_ fun u k=>?_
 replace h:=hj1
 refine zA 5 (qB h [0,1,9] [] [9] (fun h=>?_) fun h=>?_)
 refine z6 5 fun u k=>?_
 cases h
 exact zG k
 refine z6 5 fun u k=>?_
 cases h
 exact zG k
 refine yE k [4] [] (zN fun u k=>?_)
 obtain rfl:=osi h
 exact zV k [(4,vB j1)]
theorem W.Ea {x0 w r} (h:uI x0 w=some r):PC G.P 143 [(vI x0),(vI w)] [] (vB r) []:=by
 refine zU G Tryz.func143 (yK [0,1] [] (y3 1 [0,1] [] (zB ?_)))
 obtain ⟨j2,hj2,h⟩:=aA h
 refine zT ⟨[(4,vB j2)],[]⟩ ?_ fun u k=>?_
 replace h:=hj2
 refine zA 1 ?_
 obtain ⟨r3,hr3,h⟩:=aA h
 refine qP (W.AB hr3) (zA 1 (qB h [0,1,7] [] [7] (fun h=>?_) fun h=>?_))
 refine zA 4 (qB h [0,1,11] [] [11] (fun h=>?_) fun h=>?_)
 refine zA 4 (qB h [0,1,15] [] [15] (fun h=>?_) fun h=>?_)
 refine z6 6 fun u k=>?_
 cases h
 exact zG k
 refine z6 6 fun u k=>?_
 cases h
 exact zG k
 refine z6 10 fun u k=>?_
 cases h
 exact zG k
 refine z6 14 fun u k=>?_
 cases h
 exact zG k
 refine yE k [4] [] (zN fun u k=>?_)
 obtain rfl:=osi h
 exact zV k [(4,vB j2)]
theorem W.fQ {r0 r} (h:fG r0=some r):PC G.P 89 [(.agg (aB r0))] [] (vB r) []:=by
 refine zU G Tryz.func89 (yK [0] [] (y3 2 [1] [1] (y3 1 [1,3] [1] (zB ?_))))
 obtain ⟨j3,hj3,h⟩:=aA h
 refine zT ⟨[(2,vB j3)],[]⟩ ?_ fun u k=>?_
 replace h:=hj3
 refine zA 5 ?_
 obtain ⟨r4,hr4,h⟩:=aA h
 refine qP (W.Ea hr4) (zA 1 (qB h [1,3,10] [1] [10] (fun h=>?_) fun h=>?_))
 refine zA 5 ?_
 obtain ⟨r5,hr5,h⟩:=aA h
 refine qP (W.Ea hr5) (z6 2 fun u k=>?_)
 cases h
 exact zG k
 refine z6 8 fun u k=>?_
 cases h
 exact zG k
 refine yE k [2] [] (zN fun u k=>?_)
 obtain rfl:=osi h
 exact zV k [(2,vB j3)]
theorem W.xV {l r} (h:xB l=some r):PC G.P 87 [(.sl (List.map aB l))] [] (vB r) []:=by
 refine zU G Tryz.func87 (yK [0] [] (y3 1 [0] [] (zB (z7 (zA 1 (qL aB l ?_))))))
 refine y1 1 [5,6,7] [] (zC ?_)
 obtain ⟨x56,hx56,h⟩:=aA h
 refine ql hx56 (fun s39=>⟨[(5,aW l),(6,vI (l.length:Int)),(7,vI s39)],[]⟩) (fun x56=>match x56 with | .inl j57=>(.ret,⟨[(2,vB false)],[]⟩) | .inr j58=>(.exit 0,⟨[],[]⟩)) qH (fun s39 r h=>?_) (fun u k=>?_) (hout:=(by intro x;rcases x with _ | _ <;> rfl))
 refine y3 1 [5,6,7,8] [] (zB (qc h (fun h=>?_) fun h=>?_))
 refine y4 [5,6,7] [] (zB (zC (z7 ?_)))
 obtain ⟨x53,hx53,h⟩:=aA h
 refine qX aB hx53 (y1 3 [4,5,6,7] [4] (z7 (zA 1 ?_)))
 obtain ⟨r55,hr55,h⟩:=aA h
 refine qP (W.fQ hr55) (y1 1 [5,6,7,13] [] (qc h (fun h=>?_) fun h=>?_))
 refine z8 1 ⟨[(2,vB false)],[]⟩ fun u k=>?_
 refine aT (aO ?_)
 cases h
 exact zF k
 refine zM fun u k=>?_
 refine aH (yE k [5,6,7] [] (zD (z6 2 fun u k=>?_)))
 cases h
 exact zH k
 refine zL 0 fun u k=>?_
 refine aQ ?_
 cases h
 exact zF k
 rcases x56 with j57 | j58
 refine aT (aO ?_)
 obtain rfl:=osi h
 exact zV k [(2,vB false)]
 refine zQ (yE k [] [] (z8 1 ⟨[(2,vB true)],[]⟩ fun u k=>?_))
 obtain rfl:=osi h
 exact zV k [(2,vB true)]
theorem W.CR {s0 margin r} (h:Nr s0 margin=some r):PC G.P 88 [(.agg (oH s0)),(vI margin)] [] (.tup [(.agg (aB r.1)),(vB r.2)]) [(0,.box [(vI margin),(vI margin),(vI (aJ s0.Width (mZ 2 margin))),(vI (aJ s0.Height (mZ 2 margin)))])]:=by
 refine zU G Tryz.func88 (yK [0,1] [] (y3 3 [1,2,4] [2,4] (y3 15 [4,6] [4,6] (zB (qM 3 (dN 2 ?_))))))
 obtain ⟨r3,hr3,h⟩:=aA h
 refine dC [] (W.fQ hr3) (dE (oN 2 (zO fun u k=>?_)))
 refine yE k [4,5] [4] (zN fun u k=>?_)
 obtain rfl:=osi h
 exact qW k [(4,.ptr 0 0),(5,vB r3)] (sp [] [(4,0)])
theorem W.Gg {a b r} (h:yS a b=some r):PC G.P 42 [(.agg (aB a)),(.agg (aB b))] [] (vB r) []:=by
 refine zU G Tryz.func42 (yK [0,1] [] (y3 3 [2,3] [2,3] (zB ?_)))
 obtain ⟨j3,hj3,h⟩:=aA h
 refine zT ⟨[(4,vB j3)],[]⟩ ?_ fun u k=>?_
 replace h:=hj3
 refine zA 1 ?_
 obtain ⟨r4,hr4,h⟩:=aA h
 refine qP (W.fQ hr4) (zA 1 (qB h [2,3,7] [2,3] [7] (fun h=>?_) fun h=>?_))
 refine zA 1 ?_
 obtain ⟨r5,hr5,h⟩:=aA h
 refine qP (W.fQ hr5) (zA 2 (qB h [2,3,11] [2,3] [11] (fun h=>?_) fun h=>?_))
 refine zA 7 (qB h [2,3,18] [2,3] [18] (fun h=>?_) fun h=>?_)
 refine zA 13 (qB h [2,3,31] [2,3] [31] (fun h=>?_) fun h=>?_)
 refine zA 7 (qB h [2,3,38] [2,3] [38] (fun h=>?_) fun h=>?_)
 refine z6 13 fun u k=>?_
 cases h
 exact zG k
 refine z6 13 fun u k=>?_
 cases h
 exact zG k
 refine z6 20 fun u k=>?_
 cases h
 exact zG k
 refine z6 33 fun u k=>?_
 cases h
 exact zG k
 refine z6 40 fun u k=>?_
 cases h
 exact zG k
 refine z6 44 fun u k=>?_
 cases h
 exact zG k
 refine yE k [4] [] (zN fun u k=>?_)
 obtain rfl:=osi h
 exact zV k [(4,vB j3)]
theorem W.Oq {s0 r} (h:jY s0=some r):PC G.P 40 [(.agg (oH s0))] [] (vI r) []:=by
 refine zU G Tryz.func40 (yK [0] [] (y3 2 [1] [1] (zB (zC (zB ?_)))))
 obtain ⟨j21,hj21,h⟩:=aA h
 refine zT ⟨[(1,.ptr 500000 0),(9,vB j21)],[(500000,.box (oH s0))]⟩ ?_ fun u k=>?_
 replace h:=hj21
 refine zA 2 ?_
 obtain ⟨r22,hr22,h⟩:=aA h
 refine qP (W.wE hr22) (zA 2 (zS r22 (fun b0=>⟨[(1,.ptr 1 0),(14,vB (!b0))],[(1,.box (oH s0))]⟩) (fun hb=>?_) fun hb=>?_))
 replace h:=iK hb h
 refine zA 2 ?_
 obtain ⟨r23,hr23,h⟩:=aA h
 refine qP (W.wE hr23) (z6 3 fun u k=>?_)
 cases h
 exact bH k (sp [] [(1,500000)])
 replace h:=iJ hb h
 refine z6 6 fun u k=>?_
 cases h
 exact bH k (sp [] [(1,500000)])
 refine yE k [1,9] [500000] (qc h (fun h=>?_) fun h=>?_)
 refine z8 1 ⟨[(2,vI 2)],[]⟩ fun u k=>?_
 refine aT (aO ?_)
 obtain rfl:=osi h
 exact zV k [(2,vI 2)]
 refine zB ?_
 obtain ⟨j27,hj27,h⟩:=aA h
 refine zT ⟨[(1,.ptr 500000 0),(20,vB j27)],[(500000,.box (oH s0))]⟩ ?_ fun u k=>?_
 replace h:=hj27
 refine zA 4 ?_
 obtain ⟨r28,hr28,h⟩:=aA h
 refine qP (W.Ro hr28) (zA 2 (zS r28 (fun b0=>⟨[(1,.ptr 500000 0),(27,vB (!b0))],[(500000,.box (oH s0))]⟩) (fun hb=>?_) fun hb=>?_))
 replace h:=iK hb h
 refine zA 2 ?_
 obtain ⟨r29,hr29,h⟩:=aA h
 refine qP (W.Em hr29) (zA 3 (zS r29 (fun b0=>⟨[(1,.ptr 500000 0),(33,vB (!b0))],[(500000,.box (oH s0))]⟩) (fun hb=>?_) fun hb=>?_))
 replace h:=iK hb h
 refine zA 2 ?_
 obtain ⟨r30,hr30,h⟩:=aA h
 refine qP (W.Em hr30) (z6 3 fun u k=>?_)
 cases h
 exact zG k
 replace h:=iJ hb h
 refine z6 6 fun u k=>?_
 cases h
 exact zG k
 replace h:=iJ hb h
 refine z6 12 fun u k=>?_
 cases h
 exact zG k
 refine yE k [1,20] [500000] (qc h (fun h=>?_) fun h=>?_)
 refine z8 1 ⟨[(2,vI 1)],[]⟩ fun u k=>?_
 refine aT (aO ?_)
 obtain rfl:=osi h
 exact zV k [(2,vI 1)]
 refine zB ?_
 obtain ⟨j31,hj31,h⟩:=aA h
 refine zT ⟨[(1,.ptr 500000 0),(39,vB j31)],[(500000,.box (oH s0))]⟩ ?_ fun u k=>?_
 replace h:=hj31
 refine zA 2 (qL aB s0.Clamps (zA 2 (qB h [1,44] [500000] [44] (fun h=>?_) fun h=>?_)))
 refine z6 6 fun u k=>?_
 cases h
 exact zG k
 refine zA 2 (qL aB s0.Used (z6 3 fun u k=>?_))
 cases h
 exact zG k
 refine yE k [1,39] [500000] (qc h (fun h=>?_) fun h=>?_)
 refine z8 1 ⟨[(2,vI 4)],[]⟩ fun u k=>?_
 refine aT (aO ?_)
 obtain rfl:=osi h
 exact zV k [(2,vI 4)]
 refine zB ?_
 obtain ⟨j34,hj34,h⟩:=aA h
 refine zT ⟨[(1,.ptr 500000 0),(50,vB j34)],[(500000,.box (oH s0))]⟩ ?_ fun u k=>?_
 replace h:=hj34
 refine zA 2 ?_
 obtain ⟨r35,hr35,h⟩:=aA h
 refine qP (W.xV hr35) (zA 2 (zS r35 (fun b0=>⟨[(1,.ptr 500000 0),(55,vB (!b0))],[(500000,.box (oH s0))]⟩) (fun hb=>?_) fun hb=>?_))
 replace h:=iK hb h
 refine zA 2 ?_
 obtain ⟨r36,hr36,h⟩:=aA h
 refine qP (W.xV hr36) (z6 3 fun u k=>?_)
 cases h
 exact zG k
 replace h:=iJ hb h
 refine z6 6 fun u k=>?_
 cases h
 exact zG k
 refine yE k [1,50] [500000] (qc h (fun h=>?_) fun h=>?_)
 refine z8 1 ⟨[(2,vI 1)],[]⟩ fun u k=>?_
 refine aT (aO ?_)
 obtain rfl:=osi h
 exact zV k [(2,vI 1)]
 refine zM fun u k=>?_
 refine aH (yE k [1] [500000] (z7 (zA 1 ?_)))
 obtain ⟨r38,hr38,h⟩:=aA h
 refine qC [] [(0,700050)] (W.CR hr38) (y1 6 [1,3] [3,500000] (zB (z7 (zA 5 (qL (cS aB) [s0.Clamps,s0.Used] (y1 1 [3,70,71,72] [3] ?_))))))
 refine zC ?_
 obtain ⟨x418,hx418,h⟩:=aA h
 refine ql hx418 (fun s293=>⟨[(3,.ptr 500000 0),(70,.sl (List.map (cS aB) [s0.Clamps,s0.Used])),(71,vI ([s0.Clamps,s0.Used].length:Int)),(72,vI s293)],[(500000,.box (aB r38.1))]⟩) (fun x418=>match x418 with | .inl j419=>(.ret,⟨[(2,vI 13)],[]⟩) | .inr j420=>(.exit 1,⟨[],[]⟩)) (sp [] [(3,500000)]) (fun s293 r h=>?_) (fun u k=>?_) (hout:=(by intro x;rcases x with _ | _ <;> rfl))
 refine y3 1 [3,70,71,72,73] [500000] (zB (qc h (fun h=>?_) fun h=>?_))
 refine y4 [3,70,71,72] [500000] (zB (zC (z7 ?_)))
 obtain ⟨x388,hx388,h⟩:=aA h
 refine qX (cS aB) hx388 (y1 2 [3,6,70,71,72] [500000] (z7 (zA 1 (qL aB x388 (y1 1 [3,70,71,72,76,77,78] [500000] (zC ?_))))))
 obtain ⟨x415,hx415,h⟩:=aA h
 refine ql hx415 (fun s398=>⟨[(3,.ptr 500000 0),(70,.sl (List.map (cS aB) [s0.Clamps,s0.Used])),(71,vI ([s0.Clamps,s0.Used].length:Int)),(72,vI s293),(76,aW x388),(77,vI (x388.length:Int)),(78,vI s398)],[(500000,.box (aB r38.1))]⟩) (fun x415=>match x415 with | .inl j416=>(.ret,⟨[(2,vI 13)],[]⟩) | .inr j417=>(.exit 3,⟨[(3,.ptr 500000 0),(70,.sl (List.map (cS aB) [s0.Clamps,s0.Used])),(71,vI ([s0.Clamps,s0.Used].length:Int)),(72,vI s293)],[(500000,.box (aB r38.1))]⟩)) qH (fun s398 r h=>?_) (fun u k=>?_) (hout:=(by intro x;rcases x with _ | _ <;> rfl))
 refine y3 1 [3,70,71,72,76,77,78,79] [500000] (zB (qc h (fun h=>?_) fun h=>?_))
 refine y4 [3,70,71,72,76,77,78] [500000] (zB (zC (z7 ?_)))
 obtain ⟨x412,hx412,h⟩:=aA h
 refine qX aB hx412 (y1 3 [3,8,70,71,72,76,77,78] [8,500000] (z7 (zA 2 ?_)))
 obtain ⟨r414,hr414,h⟩:=aA h
 refine qP (W.Gg hr414) (y1 1 [3,70,71,72,76,77,78,85] [500000] (qc h (fun h=>?_) fun h=>?_))
 refine z8 1 ⟨[(2,vI 13)],[]⟩ fun u k=>?_
 refine aT (aO ?_)
 cases h
 exact zF k
 refine zM fun u k=>?_
 refine aH (yE k [3,70,71,72,76,77,78] [500000] (zD (z6 2 fun u k=>?_)))
 cases h
 exact zH k
 refine zL 3 fun u k=>?_
 refine aQ ?_
 cases h
 exact zF k
 rcases x415 with j416 | j417
 refine aT (aT (aO ?_))
 cases h
 exact zF k
 refine zQ (aH (yE k [3,70,71,72] [500000] (zD (z6 2 fun u k=>?_))))
 cases h
 exact zH k
 refine zL 1 fun u k=>?_
 refine aQ ?_
 cases h
 exact zF k
 rcases x418 with j419 | j420
 refine aT (aO ?_)
 obtain rfl:=osi h
 exact zV k [(2,vI 13)]
 refine zQ (yE k [] [] (z8 1 ⟨[(2,vI 0)],[]⟩ fun u k=>?_))
 obtain rfl:=osi h
 exact zV k [(2,vI 0)]
theorem W.Oo {a b r} (h:zX a b=some r):PC G.P 94 [(.agg (aB a)),(.agg (aB b))] [] (vB r) []:=by
 refine zU G Tryz.func94 (yK [0,1] [] (y3 3 [2,3] [2,3] (zB ?_)))
 obtain ⟨j3,hj3,h⟩:=aA h
 refine zT ⟨[(4,vB j3)],[]⟩ ?_ fun u k=>?_
 replace h:=hj3
 refine zA 1 ?_
 obtain ⟨r4,hr4,h⟩:=aA h
 refine qP (W.fQ hr4) (zA 1 (qB h [2,3,7] [2,3] [7] (fun h=>?_) fun h=>?_))
 refine zA 1 ?_
 obtain ⟨r5,hr5,h⟩:=aA h
 refine qP (W.fQ hr5) (zA 2 (qB h [2,3,11] [2,3] [11] (fun h=>?_) fun h=>?_))
 refine zA 10 (qB h [2,3,21] [2,3] [21] (fun h=>?_) fun h=>?_)
 refine zA 10 (qB h [2,3,31] [2,3] [31] (fun h=>?_) fun h=>?_)
 refine zA 10 (qB h [2,3,41] [2,3] [41] (fun h=>?_) fun h=>?_)
 refine z6 10 fun u k=>?_
 cases h
 exact zG k
 refine z6 10 fun u k=>?_
 cases h
 exact zG k
 refine z6 20 fun u k=>?_
 cases h
 exact zG k
 refine z6 30 fun u k=>?_
 cases h
 exact zG k
 refine z6 40 fun u k=>?_
 cases h
 exact zG k
 refine z6 44 fun u k=>?_
 cases h
 exact zG k
 refine yE k [4] [] (zN fun u k=>?_)
 obtain rfl:=osi h
 exact zV k [(4,vB j3)]
theorem W.CS {a b r} (h:Gu a b=some r):PC G.P 175 [(.agg (aB a)),(.agg (aB b))] [] (vB r) []:=by
 refine zU G Tryz.func175 (yK [0,1] [] (y3 3 [2,3] [2,3] (y3 18 [2,3,5] [2,3] (y3 18 [5,6] [] (zB ?_)))))
 obtain ⟨j1,hj1,h⟩:=aA h
 refine zT ⟨[(4,vB j1)],[]⟩ ?_ fun u k=>?_
 replace h:=hj1
 refine zA 3 (qB h [5,6,43] [] [43] (fun h=>?_) fun h=>?_)
 refine zA 4 (qB h [5,6,47] [] [47] (fun h=>?_) fun h=>?_)
 refine z6 8 fun u k=>?_
 cases h
 exact zG k
 refine zA 3 (qB h [5,47,50] [] [50] (fun h=>?_) fun h=>?_)
 refine z6 5 fun u k=>?_
 cases h
 exact zG k
 refine z6 5 fun u k=>?_
 cases h
 exact zG k
 refine zA 7 (qB h [5,47,50] [] [50] (fun h=>?_) fun h=>?_)
 refine z6 5 fun u k=>?_
 cases h
 exact zG k
 refine z6 5 fun u k=>?_
 cases h
 exact zG k
 refine yE k [4] [] (zN fun u k=>?_)
 obtain rfl:=osi h
 exact zV k [(4,vB j1)]
theorem W.Vh {l r} (h:Ae l=some r):PC G.P 145 [(.sl (List.map aB l))] [] (vB r) []:=by
 refine zU G Tryz.func145 (yK [0] [] (y3 1 [0] [] (z7 (zA 1 (qL aB l ?_)))))
 obtain ⟨l2,hl2,h⟩:=aA h
 refine iI (Ir (c:=cB) (z:=false) (n:=(l.length:Int)) (e:=4) (d:=11) (zs:=[(vB false)]) (k1:=.i64) (k2:=.i64) (by kernel_rfl) rfl hl2) (y1 1 [0,3] [11] (z7 (zA 1 ?_)))
 obtain ⟨x4,hx4,h⟩:=aA h
 refine qI cB hx4 (qS cB true hx4 (zP fun u k=>?_))
 refine yE k [0,3] [11] (z7 (fF (Ov (e:=3) (d:=14) (es:=(List.map cI [0])) (by kernel_rfl)) (UA (g:=14) (e:=3) (l:=[0]) (by kernel_rfl) (by kernel_rfl) (by kernel_rfl) (y1 1 [0,3,4] [11,14] (zB (zC ?_))))))
 obtain ⟨x670,hx670,h⟩:=aA h
 refine ql hx670 (fun s449=>⟨[(0,aW l),(3,ro 500000 4),(4,ro 500001 3)],[(500000,wB 4 s449.1),(500001,.tl 3 s449.2)]⟩) (fun x670=>(.exit 0,⟨[(3,ro 500000 4)],[(500000,wB 4 x670)]⟩)) (sp [] [(11,500000),(14,500001)]) (fun s449 r h=>?_) fun u k=>?_
 refine zB (z7 (zA 1 (fF (WX (g:=500001) (e:=3) (l:=s449.2) (by kernel_rfl) (by kernel_rfl)) (y1 1 [0,3,4,17] [500000,500001] (qc h (fun h=>?_) fun h=>?_)))))
 refine y4 [0,3,4] [500000,500001] (zC (z7 (zA 1 ?_)))
 obtain ⟨x561,hx561,h⟩:=aA h
 refine TY (g:=500001) (e:=3) (d1:=19) (d2:=20) (l:=s449.2) (i:=0) (kd:=.i64) (by kernel_rfl) (by kernel_rfl) (by kernel_rfl) hx561 (y1 1 [0,3,4,5] [500000,500001] (z7 (zA 1 ?_)))
 obtain ⟨hb1,h⟩:=XV h
 refine fF (SH (g:=500001) (e:=3) (n:=1) (kd:=.i64) (l:=s449.2) (by kernel_rfl) (by kernel_rfl) (by kernel_rfl) hb1) (y1 1 [0,3,4,5] [500000,500001] (z7 (zA 1 (qL aB l (y1 1 [0,3,4,5,24,25] [500000,500001] (zC ?_))))))
 obtain ⟨x669,hx669,h⟩:=aA h
 refine ql hx669 (fun s598=>⟨[(0,aW l),(3,ro 500000 4),(4,ro 500001 3),(5,vI x561),(24,vI (l.length:Int)),(25,vI s598.1)],[(500000,wB 4 s598.2.1),(500001,.tl 3 s598.2.2)]⟩) (fun x669=>(.exit 2,⟨[(0,aW l),(3,ro 500000 4),(4,ro 500001 3)],[(500000,wB 4 x669.1),(500001,.tl 3 x669.2)]⟩)) qH (fun s598 r h=>?_) fun u k=>?_
 refine y3 1 [0,3,4,5,24,25,26] [500000,500001] (zB (qc h (fun h=>?_) fun h=>?_))
 refine y4 [0,3,4,5,24,25] [500000,500001] (bU (fun (j651:(List Bool)×(List Int))=>⟨[(0,aW l),(3,ro 500000 4),(4,ro 500001 3),(5,vI x561),(24,vI (l.length:Int)),(25,vI s598.1)],[(500000,wB 4 j651.1),(500001,.tl 3 j651.2)]⟩) (nQ s598) r (by kernel_rfl) (fun j651 h=>?_) ?_)
 refine zD (z6 2 fun u k=>?_)
 cases h
 exact zH k
 refine zC (y3 2 [0,3,4,5,6,24,25] [500000,500001] (zB ?_))
 obtain ⟨j660,hj660,h⟩:=aA h
 refine gK ⟨[(0,aW l),(3,ro 500000 4),(4,ro 500001 3),(5,vI x561),(6,vI s598.1),(24,vI (l.length:Int)),(25,vI s598.1),(43,vB j660)],[(500000,wB 4 s598.2.1),(500001,.tl 3 s598.2.2)]⟩ [] [] [] [] [] 14 (by kernel_rfl) (by kernel_rfl) (by kernel_rfl) ?_ fun u k=>?_
 replace h:=hj660
 refine dN 2 ?_
 obtain ⟨x661,hx661,h⟩:=aA h
 refine dI cB hx661 (dR cB hx661 (dN 2 (bI x661 (fun b0=>⟨[(33,vB (!b0)),(32,vB (!b0)),(31,vB b0),(30,.rptr (.top 500000) 4 (Int.toNat s598.1) 0),(29,vI s598.1),(28,ro 500000 4),(0,aW l),(3,ro 500000 4),(4,ro 500001 3),(5,vI x561),(6,vI s598.1),(24,vI (l.length:Int)),(25,vI s598.1)],[(500000,wB 4 s598.2.1),(500001,.tl 3 s598.2.2)]⟩) (by kernel_rfl) (fun hb=>?_) fun hb=>?_)))
 replace h:=iK hb h
 refine dN 8 (dE (oN 2 (zO fun u k=>?_)))
 cases h
 exact zG k
 replace h:=iJ hb h
 refine dN 2 ?_
 obtain ⟨x662,hx662,h⟩:=aA h
 refine dX aB hx662 (dN 3 ?_)
 obtain ⟨x663,hx663,h⟩:=aA h
 refine dX aB hx663 (dN 1 (dE ?_))
 obtain ⟨r664,hr664,h⟩:=aA h
 refine oP (W.CS hr664) (oN 1 (zO fun u k=>?_))
 cases h
 exact zG k
 refine yE k [0,3,4,5,6,24,25,43] [500000,500001] (qc h (fun h=>?_) fun h=>?_)
 refine z7 (zA 2 ?_)
 obtain ⟨x666,hx666,h⟩:=aA h
 refine qI cB hx666 (qS cB true hx666 (zP fun u k=>?_))
 refine yE k [0,3,4,5,6,24,25] [500000,500001] (zD (zA 3 ?_))
 obtain ⟨l668,hl668,h⟩:=aA h
 refine fF (WW (g:=500001) (e:=3) (l:=s598.2.2) (y:=s598.1) (x:=(sI [s598.1])) (by kernel_rfl) (by kernel_rfl) (by kernel_rfl) (by kernel_rfl) (by kernel_rfl) hl668) (z6 1 fun u k=>?_)
 exact aH (aV ((List.set s598.2.1 (Int.toNat s598.1) true),l668) h k (here (by kernel_rfl)))
 refine zM fun u k=>?_
 exact aH (aV (s598.2.1,s598.2.2) h k (here (by kernel_rfl)))
 refine zL 2 fun u k=>?_
 refine aQ ?_
 cases h
 exact zF k
 refine zQ (aH ?_)
 cases h
 exact zH k
 refine zL 0 fun u k=>?_
 refine aQ ?_
 cases h
 exact zF k
 refine zQ (yE k [3] [500000] (zB (z7 (zA 1 (qL cB x670 (y1 1 [52,53,54] [500000] ?_))))))
 refine zC ?_
 obtain ⟨x702,hx702,h⟩:=aA h
 refine ql hx702 (fun s693=>⟨[(52,ro 500000 4),(53,vI (x670.length:Int)),(54,vI s693)],[(500000,wB 4 x670)]⟩) (fun x702=>match x702 with | .inl j703=>(.ret,⟨[(2,vB false)],[]⟩) | .inr j704=>(.exit 4,⟨[],[]⟩)) qH (fun s693 r h=>?_) (fun u k=>?_) (hout:=(by intro x;rcases x with _ | _ <;> rfl))
 refine y3 1 [52,53,54,55] [500000] (zB (qc h (fun h=>?_) fun h=>?_))
 refine y4 [52,53,54] [500000] (zB (zC (z7 ?_)))
 obtain ⟨x701,hx701,h⟩:=aA h
 refine qI cB hx701 (qR cB hx701 (y1 1 [8,52,53,54] [500000] (y3 2 [52,53,54,59] [500000] (qc h (fun h=>?_) fun h=>?_))))
 refine z8 1 ⟨[(2,vB false)],[]⟩ fun u k=>?_
 refine aT (aO ?_)
 cases h
 exact zF k
 refine zM fun u k=>?_
 refine aH (yE k [52,53,54] [500000] (zD (z6 2 fun u k=>?_)))
 cases h
 exact zH k
 refine zL 4 fun u k=>?_
 refine aQ ?_
 cases h
 exact zF k
 rcases x702 with j703 | j704
 refine aT (aO ?_)
 obtain rfl:=osi h
 exact zV k [(2,vB false)]
 refine zQ (yE k [] [] (z8 1 ⟨[(2,vB true)],[]⟩ fun u k=>?_))
 obtain rfl:=osi h
 exact zV k [(2,vB true)]
theorem W.Lh {h0 l r} (h:xS h0 l=some r):PC G.P 176 [(.agg (aB h0)),(.sl (List.map aB l))] [] (vB r) []:=by
 refine zU G Tryz.func176 (yK [0,1] [] (y3 2 [1,2] [2] (zB (z7 (zA 1 (qL aB l ?_))))))
 refine y1 1 [2,7,8,9] [2] (zC ?_)
 obtain ⟨x44,hx44,h⟩:=aA h
 refine ql hx44 (fun s31=>⟨[(2,.ptr 500000 0),(7,aW l),(8,vI (l.length:Int)),(9,vI s31)],[(500000,.box (aB h0))]⟩) (fun x44=>match x44 with | .inl j45=>(.ret,⟨[(4,vB true)],[]⟩) | .inr j46=>(.exit 0,⟨[],[]⟩)) (sp [] [(2,500000)]) (fun s31 r h=>?_) (fun u k=>?_) (hout:=(by intro x;rcases x with _ | _ <;> rfl))
 refine y3 1 [2,7,8,9,10] [500000] (zB (qc h (fun h=>?_) fun h=>?_))
 refine y4 [2,7,8,9] [500000] (zB (zC (z7 ?_)))
 obtain ⟨x42,hx42,h⟩:=aA h
 refine qX aB hx42 (y1 3 [2,6,7,8,9] [6,500000] (zB ?_))
 obtain ⟨j43,hj43,h⟩:=aA h
 refine zT ⟨[(2,.ptr 500000 0),(7,aW l),(8,vI (l.length:Int)),(9,vI s31),(50,vB j43)],[(500000,.box (aB h0))]⟩ ?_ fun u k=>?_
 replace h:=hj43
 refine zA 6 (qB h [2,6,7,8,9,18] [6,500000] [18] (fun h=>?_) fun h=>?_)
 refine zA 7 (qB h [2,6,7,8,9,25] [6,500000] [25] (fun h=>?_) fun h=>?_)
 refine zA 13 (qB h [2,6,7,8,9,38] [6,500000] [38] (fun h=>?_) fun h=>?_)
 refine z6 12 fun u k=>?_
 cases h
 exact zG k
 refine z6 12 fun u k=>?_
 cases h
 exact zG k
 refine z6 25 fun u k=>?_
 cases h
 exact zG k
 refine z6 32 fun u k=>?_
 cases h
 exact zG k
 refine yE k [2,7,8,9,50] [500000] (qc h (fun h=>?_) fun h=>?_)
 refine z8 1 ⟨[(4,vB true)],[]⟩ fun u k=>?_
 refine aT (aO ?_)
 cases h
 exact zF k
 refine zM fun u k=>?_
 refine aH (yE k [2,7,8,9] [500000] (zD (z6 2 fun u k=>?_)))
 cases h
 exact zH k
 refine zL 0 fun u k=>?_
 refine aQ ?_
 cases h
 exact zF k
 rcases x44 with j45 | j46
 refine aT (aO ?_)
 obtain rfl:=osi h
 exact zV k [(4,vB true)]
 refine zQ (yE k [] [] (z8 1 ⟨[(4,vB false)],[]⟩ fun u k=>?_))
 obtain rfl:=osi h
 exact zV k [(4,vB false)]
theorem W.Wl {a b r} (h:Cm a b=some r):PC G.P 167 [(.agg (aB a)),(.agg (aB b))] [] (vI r) []:=by
 refine zU G Tryz.func167 (yK [0,1] [] (y3 3 [2,3] [2,3] (zB (zB ?_))))
 obtain ⟨j8,hj8,h⟩:=aA h
 refine zT ⟨[(2,.ptr 500000 0),(3,.ptr 500001 0),(13,vB j8)],[(500000,.box (aB a)),(500001,.box (aB b))]⟩ ?_ fun u k=>?_
 replace h:=hj8
 refine zA 1 ?_
 obtain ⟨r9,hr9,h⟩:=aA h
 refine qP (W.fQ hr9) (zA 2 (zS r9 (fun b0=>⟨[(2,.ptr 2 0),(3,.ptr 3 0),(9,vB (!b0))],[(2,.box (aB a)),(3,.box (aB b))]⟩) (fun hb=>?_) fun hb=>?_))
 replace h:=iK hb h
 refine zA 1 ?_
 obtain ⟨r10,hr10,h⟩:=aA h
 refine qP (W.fQ hr10) (z6 2 fun u k=>?_)
 cases h
 exact bH k (sp [] [(2,500000),(3,500001)])
 replace h:=iJ hb h
 refine z6 4 fun u k=>?_
 cases h
 exact bH k (sp [] [(2,500000),(3,500001)])
 refine yE k [2,3,13] [500000,500001] (qc h (fun h=>?_) fun h=>?_)
 refine z8 1 ⟨[(4,vI 0)],[]⟩ fun u k=>?_
 refine aO ?_
 obtain rfl:=osi h
 exact zV k [(4,vI 0)]
 refine y4 [2,3] [500000,500001] (y3 18 [2,3,5] [500000,500001] (z8 19 ⟨[(4,vI (eU (eU (eU (eU 0 (aJ (aJ b.X a.X) a.W)) (aJ (aJ a.X b.X) b.W)) (aJ (aJ b.Y a.Y) a.H)) (aJ (aJ a.Y b.Y) b.H)))],[]⟩ fun u k=>?_))
 obtain rfl:=osi h
 exact zV k [(4,vI (eU (eU (eU (eU 0 (aJ (aJ b.X a.X) a.W)) (aJ (aJ a.X b.X) b.W)) (aJ (aJ b.Y a.Y) a.H)) (aJ (aJ a.Y b.Y) b.H)))]
theorem W.BC {x0 r} (h:Py x0=some r):PC G.P 146 [(.agg (aU x0))] [] (vI r) []:=by
 refine zU G Tryz.func146 (yK [0] [] (y3 2 [1] [1] (zB (sK [(2,[12])] [(2,[12])] [] [(3,[12]),(4,[12])] [(0,[12]),(1,[12]),(3,[12]),(4,[12])] 5 (by kernel_rfl) (by kernel_rfl) [12] (by kernel_rfl) (by kernel_rfl) (dN 2 ?_)))))
 obtain ⟨l5,hl5,h⟩:=aA h
 refine vW (by kernel_rfl) (YR (c:=aB) (l2:=x0.Cuts) (x:=(aW x0.Cuts)) (e:=98) (sz:=4) (d:=12) (by kernel_rfl) (by kernel_rfl) (by kernel_rfl) (fun _=>rfl) hl5) (by kernel_rfl) (by kernel_rfl) (by kernel_rfl) (by kernel_rfl) (dN 2 (dE ?_))
 obtain ⟨l6,hl6,h⟩:=aA h
 refine oA aB 4 hl6 (oN 1 (zO fun u k=>?_))
 refine yE k [1,3] [1,12] (zB (z7 (zA 1 (qL aB l6 (y1 1 [1,3,16,17,18] [1,12] (zC ?_))))))
 obtain ⟨x98,hx98,h⟩:=aA h
 refine ql hx98 (fun s69=>⟨[(1,.ptr 500000 0),(3,ro 500001 98),(16,ro 500001 98),(17,vI (l6.length:Int)),(18,vI s69)],[(500000,.box (aU x0)),(500001,jZ 98 l6)]⟩) (fun x98=>match x98 with | .inl j99=>(.ret,⟨[(2,vI 13)],[]⟩) | .inr j100=>(.exit 0,⟨[(3,ro 500000 98)],[(500000,jZ 98 l6)]⟩)) (sp [] [(1,500000),(12,500001)]) (fun s69 r h=>?_) (fun u k=>?_) (hout:=(by intro x;rcases x with _ | _ <;> rfl))
 refine y3 1 [1,3,16,17,18,19] [500000,500001] (zB (qc h (fun h=>?_) fun h=>?_))
 refine y4 [1,3,16,17,18] [500000,500001] (zB (zC (z7 (zA 1 ?_))))
 obtain ⟨x92,hx92,h⟩:=aA h
 refine qI aB hx92 (qR aB hx92 (y1 3 [1,3,4,5,16,17,18] [5,500000,500001] (zB ?_)))
 obtain ⟨j95,hj95,h⟩:=aA h
 refine zT ⟨[(1,.ptr 500000 0),(3,ro 500001 98),(16,ro 500001 98),(17,vI (l6.length:Int)),(18,vI s69),(44,vB j95)],[(500000,.box (aU x0)),(500001,jZ 98 l6)]⟩ ?_ fun u k=>?_
 replace h:=hj95
 refine zA 3 (qL aB x0.Cuts (zA 2 (qB h [1,3,5,16,17,18,28] [5,500000,500001] [28] (fun h=>?_) fun h=>?_)))
 refine zA 4 (qB h [1,3,5,16,17,18,28,32] [5,500000,500001] [32] (fun h=>?_) fun h=>?_)
 refine z6 12 fun u k=>?_
 cases h
 exact zG k
 refine zA 6 (qB h [1,3,5,16,17,18,38] [5,500000,500001] [38] (fun h=>?_) fun h=>?_)
 refine z6 6 fun u k=>?_
 cases h
 exact zG k
 refine zA 3 ?_
 obtain ⟨r96,hr96,h⟩:=aA h
 refine qP (W.Lh hr96) (z6 2 fun u k=>?_)
 cases h
 exact zG k
 refine zA 13 ?_
 obtain ⟨r97,hr97,h⟩:=aA h
 refine qP (W.Lh hr97) (z6 2 fun u k=>?_)
 cases h
 exact zG k
 refine yE k [1,3,16,17,18,44] [500000,500001] (qc h (fun h=>?_) fun h=>?_)
 refine z8 1 ⟨[(2,vI 13)],[]⟩ fun u k=>?_
 refine aT (aO ?_)
 cases h
 exact zF k
 refine zM fun u k=>?_
 refine aH (yE k [1,3,16,17,18] [500000,500001] (zD (z6 2 fun u k=>?_)))
 cases h
 exact zH k
 refine zL 0 fun u k=>?_
 refine aQ ?_
 cases h
 exact xI k rfl (sp [] [(500001,500000)])
 rcases x98 with j99 | j100
 refine aT (aO ?_)
 obtain rfl:=osi h
 exact zV k [(2,vI 13)]
 refine zQ (yE k [3] [500000] (zB (z7 (zA 1 (qL aB l6 (y1 1 [3,46,47,48] [500000] ?_))))))
 refine zC ?_
 obtain ⟨x504,hx504,h⟩:=aA h
 refine ql hx504 (fun s371=>⟨[(3,aW l6),(46,aW l6),(47,vI (l6.length:Int)),(48,vI s371)],[]⟩) (fun x504=>match x504 with | .inl j505=>(.ret,⟨[(2,vI 7)],[]⟩) | .inr j506=>(.exit 2,⟨[],[]⟩)) (sp [.frz 500000] []) (fun s371 r h=>?_) (fun u k=>?_) (hout:=(by intro x;rcases x with _ | _ <;> rfl))
 refine y3 1 [3,46,47,48,49] [] (zB (qc h (fun h=>?_) fun h=>?_))
 refine y4 [3,46,47,48] [] (zB (zC (z7 (zA 1 ?_))))
 obtain ⟨x472,hx472,h⟩:=aA h
 refine qX aB hx472 (y1 4 [3,6,7,46,47,48] [7] (z7 (zA 2 ?_)))
 obtain ⟨l474,hl474,h⟩:=aA h
 refine iI (FZ (c:=aB) (l:=l6) (sz:=4) (hi:=s371) (k2:=.i64) (by kernel_rfl) hl474) (qL aB l474 (y1 1 [3,7,46,47,48,55,56,57] [7] (zC ?_)))
 obtain ⟨x501,hx501,h⟩:=aA h
 refine ql hx501 (fun s484=>⟨[(3,aW l6),(7,.ptr 500000 0),(46,aW l6),(47,vI (l6.length:Int)),(48,vI s371),(55,aW l474),(56,vI (l474.length:Int)),(57,vI s484)],[(500000,.box (aB x472))]⟩) (fun x501=>match x501 with | .inl j502=>(.ret,⟨[(2,vI 7)],[]⟩) | .inr j503=>(.exit 4,⟨[(3,aW l6),(46,aW l6),(47,vI (l6.length:Int)),(48,vI s371)],[]⟩)) (sp [] [(7,500000)]) (fun s484 r h=>?_) (fun u k=>?_) (hout:=(by intro x;rcases x with _ | _ <;> rfl))
 refine y3 1 [3,7,46,47,48,55,56,57,58] [500000] (zB (qc h (fun h=>?_) fun h=>?_))
 refine y4 [3,7,46,47,48,55,56,57] [500000] (zB (zC (z7 ?_)))
 obtain ⟨x498,hx498,h⟩:=aA h
 refine qX aB hx498 (y1 3 [3,7,9,46,47,48,55,56,57] [9,500000] (z7 (zA 2 ?_)))
 obtain ⟨r500,hr500,h⟩:=aA h
 refine qP (W.Wl hr500) (y1 1 [3,7,46,47,48,55,56,57,64] [500000] (qc h (fun h=>?_) fun h=>?_))
 refine z8 1 ⟨[(2,vI 7)],[]⟩ fun u k=>?_
 refine aT (aO ?_)
 cases h
 exact zF k
 refine zM fun u k=>?_
 refine aH (yE k [3,7,46,47,48,55,56,57] [500000] (zD (z6 2 fun u k=>?_)))
 cases h
 exact zH k
 refine zL 4 fun u k=>?_
 refine aQ ?_
 cases h
 exact zF k
 rcases x501 with j502 | j503
 refine aT (aT (aO ?_))
 cases h
 exact zF k
 refine zQ (aH (yE k [3,46,47,48] [] (zD (z6 2 fun u k=>?_))))
 cases h
 exact zH k
 refine zL 2 fun u k=>?_
 refine aQ ?_
 cases h
 exact zF k
 rcases x504 with j505 | j506
 refine aT (aO ?_)
 obtain rfl:=osi h
 exact zV k [(2,vI 7)]
 refine zQ (yE k [] [] (z8 1 ⟨[(2,vI 0)],[]⟩ fun u k=>?_))
 obtain rfl:=osi h
 exact zV k [(2,vI 0)]
theorem W.Ar {x0 r} (h:eX x0=some r):PC G.P 90 [(.agg (aU x0))] [] (vI r) []:=by
 refine zU G Tryz.func90 (yK [0] [] (y3 2 [1] [1] (zB (zC (zB ?_)))))
 obtain ⟨j18,hj18,h⟩:=aA h
 refine zT ⟨[(1,.ptr 500000 0),(11,vB j18)],[(500000,.box (aU x0))]⟩ ?_ fun u k=>?_
 replace h:=hj18
 refine zA 2 ?_
 obtain ⟨r19,hr19,h⟩:=aA h
 refine qP (W.wE hr19) (zA 2 (zS r19 (fun b0=>⟨[(1,.ptr 1 0),(16,vB (!b0))],[(1,.box (aU x0))]⟩) (fun hb=>?_) fun hb=>?_))
 replace h:=iK hb h
 refine zA 2 ?_
 obtain ⟨r20,hr20,h⟩:=aA h
 refine qP (W.wE hr20) (z6 3 fun u k=>?_)
 cases h
 exact bH k (sp [] [(1,500000)])
 replace h:=iJ hb h
 refine z6 6 fun u k=>?_
 cases h
 exact bH k (sp [] [(1,500000)])
 refine yE k [1,11] [500000] (qc h (fun h=>?_) fun h=>?_)
 refine z8 1 ⟨[(2,vI 2)],[]⟩ fun u k=>?_
 refine aT (aO ?_)
 obtain rfl:=osi h
 exact zV k [(2,vI 2)]
 refine z7 (zA 4 ?_)
 obtain ⟨r22,hr22,h⟩:=aA h
 refine qP (W.Ro hr22) (y1 2 [1,22] [500000] (qc h (fun h=>?_) fun h=>?_))
 refine z8 1 ⟨[(2,vI 1)],[]⟩ fun u k=>?_
 refine aT (aO ?_)
 obtain rfl:=osi h
 exact zV k [(2,vI 1)]
 refine zB ?_
 obtain ⟨j23,hj23,h⟩:=aA h
 refine zT ⟨[(1,.ptr 500000 0),(29,vB j23)],[(500000,.box (aU x0))]⟩ ?_ fun u k=>?_
 replace h:=hj23
 refine zA 2 (qL aB x0.Rects (zA 2 (qB h [1,34] [500000] [34] (fun h=>?_) fun h=>?_)))
 refine z6 12 fun u k=>?_
 cases h
 exact zG k
 refine zA 2 (qL aB x0.Cuts (zA 3 (qB h [1,40] [500000] [40] (fun h=>?_) fun h=>?_)))
 refine z6 6 fun u k=>?_
 cases h
 exact zG k
 refine zA 2 (qL aB x0.Forms (z6 3 fun u k=>?_))
 cases h
 exact zG k
 refine yE k [1,29] [500000] (qc h (fun h=>?_) fun h=>?_)
 refine z8 1 ⟨[(2,vI 4)],[]⟩ fun u k=>?_
 refine aT (aO ?_)
 obtain rfl:=osi h
 exact zV k [(2,vI 4)]
 refine zB ?_
 obtain ⟨j27,hj27,h⟩:=aA h
 refine zT ⟨[(1,.ptr 500000 0),(46,vB j27)],[(500000,.box (aU x0))]⟩ ?_ fun u k=>?_
 replace h:=hj27
 refine zA 2 (qL aB x0.Rects (zA 2 (qB h [1,51] [500000] [51] (fun h=>?_) fun h=>?_)))
 refine z6 18 fun u k=>?_
 cases h
 exact zG k
 refine zA 2 ?_
 obtain ⟨r28,hr28,h⟩:=aA h
 refine qP (W.xV hr28) (zA 3 (zS r28 (fun b0=>⟨[(1,.ptr 500000 0),(57,vB (!b0))],[(500000,.box (aU x0))]⟩) (fun hb=>?_) fun hb=>?_))
 replace h:=iK hb h
 refine zA 2 ?_
 obtain ⟨r29,hr29,h⟩:=aA h
 refine qP (W.xV hr29) (zA 3 (zS r29 (fun b0=>⟨[(1,.ptr 500000 0),(63,vB (!b0))],[(500000,.box (aU x0))]⟩) (fun hb=>?_) fun hb=>?_))
 replace h:=iK hb h
 refine zA 2 ?_
 obtain ⟨r30,hr30,h⟩:=aA h
 refine qP (W.xV hr30) (z6 3 fun u k=>?_)
 cases h
 exact zG k
 replace h:=iJ hb h
 refine z6 6 fun u k=>?_
 cases h
 exact zG k
 replace h:=iJ hb h
 refine z6 12 fun u k=>?_
 cases h
 exact zG k
 refine yE k [1,46] [500000] (qc h (fun h=>?_) fun h=>?_)
 refine z8 1 ⟨[(2,vI 1)],[]⟩ fun u k=>?_
 refine aT (aO ?_)
 obtain rfl:=osi h
 exact zV k [(2,vI 1)]
 refine zM fun u k=>?_
 refine aH (yE k [1] [500000] (zB (qM 11 (dN 2 ?_))))
 obtain ⟨x35,hx35,h⟩:=aA h
 refine dX aB hx35 (dN 4 ?_)
 obtain ⟨x36,hx36,h⟩:=aA h
 refine dX aB hx36 (dN 3 (dE (oN 1 (zO fun u k=>?_))))
 refine yE k [1,3,4] [500000] (zB (z7 (zA 2 (qL aB x0.Rects (y1 1 [1,3,4,80,81,82] [500000] (zC ?_))))))
 obtain ⟨x66,hx66,h⟩:=aA h
 refine ql hx66 (fun s57=>⟨[(1,.ptr 500000 0),(3,vI s57.1),(4,vI s57.2.1),(80,aW x0.Rects),(81,vI (x0.Rects.length:Int)),(82,vI s57.2.2)],[(500000,.box (aU x0))]⟩) (fun x66=>(.exit 1,⟨[(1,.ptr 500000 0),(3,vI x66.1),(4,vI x66.2)],[(500000,.box (aU x0))]⟩)) qH (fun s57 r h=>?_) fun u k=>?_
 refine y3 1 [1,3,4,80,81,82,83] [500000] (zB (qc h (fun h=>?_) fun h=>?_))
 refine y4 [1,3,4,80,81,82] [500000] (zB (zC (z7 ?_)))
 obtain ⟨x65,hx65,h⟩:=aA h
 refine qX aB hx65 (y1 3 [1,3,4,6,80,81,82] [6,500000] (qM 9 (dN 9 (dE (oN 1 (zO fun u k=>?_))))))
 refine aH (yE k [1,3,4,80,81,82] [500000] (zD (z6 2 fun u k=>?_)))
 cases h
 exact zH k
 refine zL 1 fun u k=>?_
 refine aQ ?_
 cases h
 exact zF k
 refine zQ (yE k [1,3,4] [500000] (zB (zB ?_)))
 obtain ⟨j68,hj68,h⟩:=aA h
 refine zT ⟨[(1,.ptr 500000 0),(100,vB j68)],[(500000,.box (aU x0))]⟩ ?_ fun u k=>?_
 replace h:=hj68
 refine zA 3 (qB h [1,4,97] [500000] [97] (fun h=>?_) fun h=>?_)
 refine z6 3 fun u k=>?_
 cases h
 exact zG k
 refine z6 3 fun u k=>?_
 cases h
 exact zG k
 refine yE k [1,100] [500000] (qc h (fun h=>?_) fun h=>?_)
 refine z8 1 ⟨[(2,vI 1)],[]⟩ fun u k=>?_
 refine aO ?_
 obtain rfl:=osi h
 exact zV k [(2,vI 1)]
 refine y4 [1] [500000] (zB (z7 (zA 2 (qL aB x0.Rects (y1 1 [1,102,103,104] [500000] (zC ?_))))))
 obtain ⟨x472,hx472,h⟩:=aA h
 refine ql hx472 (fun s339=>⟨[(1,.ptr 500000 0),(102,aW x0.Rects),(103,vI (x0.Rects.length:Int)),(104,vI s339)],[(500000,.box (aU x0))]⟩) (fun x472=>match x472 with | .inl j473=>(.ret,⟨[(2,vI 7)],[]⟩) | .inr j474=>(.exit 3,⟨[(1,.ptr 500000 0)],[(500000,.box (aU x0))]⟩)) qH (fun s339 r h=>?_) (fun u k=>?_) (hout:=(by intro x;rcases x with _ | _ <;> rfl))
 refine y3 1 [1,102,103,104,105] [500000] (zB (qc h (fun h=>?_) fun h=>?_))
 refine y4 [1,102,103,104] [500000] (zB (zC (z7 (zA 1 ?_))))
 obtain ⟨x440,hx440,h⟩:=aA h
 refine qX aB hx440 (y1 4 [1,7,8,102,103,104] [8,500000] (z7 (zA 3 ?_)))
 obtain ⟨l442,hl442,h⟩:=aA h
 refine iI (FZ (c:=aB) (l:=x0.Rects) (sz:=4) (hi:=s339) (k2:=.i64) (by kernel_rfl) hl442) (qL aB l442 (y1 1 [1,8,102,103,104,112,113,114] [8,500000] (zC ?_)))
 obtain ⟨x469,hx469,h⟩:=aA h
 refine ql hx469 (fun s452=>⟨[(1,.ptr 500000 0),(8,.ptr 500001 0),(102,aW x0.Rects),(103,vI (x0.Rects.length:Int)),(104,vI s339),(112,aW l442),(113,vI (l442.length:Int)),(114,vI s452)],[(500000,.box (aU x0)),(500001,.box (aB x440))]⟩) (fun x469=>match x469 with | .inl j470=>(.ret,⟨[(2,vI 7)],[]⟩) | .inr j471=>(.exit 5,⟨[(1,.ptr 500000 0),(102,aW x0.Rects),(103,vI (x0.Rects.length:Int)),(104,vI s339)],[(500000,.box (aU x0))]⟩)) (sp [] [(8,500001),(500000,500000)]) (fun s452 r h=>?_) (fun u k=>?_) (hout:=(by intro x;rcases x with _ | _ <;> rfl))
 refine y3 1 [1,8,102,103,104,112,113,114,115] [500000,500001] (zB (qc h (fun h=>?_) fun h=>?_))
 refine y4 [1,8,102,103,104,112,113,114] [500000,500001] (zB (zC (z7 ?_)))
 obtain ⟨x466,hx466,h⟩:=aA h
 refine qX aB hx466 (y1 3 [1,8,10,102,103,104,112,113,114] [10,500000,500001] (z7 (zA 2 ?_)))
 obtain ⟨r468,hr468,h⟩:=aA h
 refine qP (W.Oo hr468) (zP fun u k=>?_)
 refine yE k [1,8,102,103,104,112,113,114,120] [500000,500001] (qc h (fun h=>?_) fun h=>?_)
 refine z8 1 ⟨[(2,vI 7)],[]⟩ fun u k=>?_
 refine aT (aO ?_)
 cases h
 exact zF k
 refine zM fun u k=>?_
 refine aH (yE k [1,8,102,103,104,112,113,114] [500000,500001] (zD (z6 2 fun u k=>?_)))
 cases h
 exact zH k
 refine zL 5 fun u k=>?_
 refine aQ ?_
 cases h
 exact zF k
 rcases x469 with j470 | j471
 refine aT (aT (aO ?_))
 cases h
 exact zF k
 refine zQ (aH (yE k [1,102,103,104] [500000] (zD (z6 2 fun u k=>?_))))
 cases h
 exact zH k
 refine zL 3 fun u k=>?_
 refine aQ ?_
 cases h
 exact zF k
 rcases x472 with j473 | j474
 refine aT (aO ?_)
 obtain rfl:=osi h
 exact zV k [(2,vI 7)]
 refine zQ (yE k [1] [500000] (zB (z7 (zA 2 ?_))))
 obtain ⟨r478,hr478,h⟩:=aA h
 refine qP (W.Vh hr478) (y1 1 [1,126] [500000] (qc h (fun h=>?_) fun h=>?_))
 refine z8 1 ⟨[(2,vI 6)],[]⟩ fun u k=>?_
 refine aO ?_
 obtain rfl:=osi h
 exact zV k [(2,vI 6)]
 refine y4 [1] [500000] (z7 (zA 1 ?_))
 obtain ⟨r480,hr480,h⟩:=aA h
 refine qP (W.BC hr480) (y1 1 [2] [] (zN fun u k=>?_))
 obtain rfl:=osi h
 exact zV k [(2,vI r480)]
theorem W.yP {s r} (h:lN s=some r):PC G.P 134 [.sl (List.map aB s)] [] (.row (.top 0) 98) [(0,.row 98 [] (List.map aB r))]:=by
 replace h:app [] s=some r:=h
 refine zU G Tryz.func134 (y3 1 [0] [] (zB (z7 (zA 1 (Wj (es:=List.map aB s) (by kernel_rfl) (fun hn=>?_) ?_)))))
 obtain rfl:s=[]:=List.map_eq_nil_iff.1 hn
 obtain rfl:[]=r:=Option.some.inj ((qY (by simp [LIM])).symm.trans h)
 refine zP fun u k=>?_
 refine yE k [0,4] [] (Xa (by kernel_rfl) (by kernel_rfl) (z8 1 ⟨[(2,ro 2 98)],[(2,jZ 98 [])]⟩ fun u k=>?_))
 exact aO (Qb k [(2,ro 0 98)] (Qy [(2,0)] rfl rfl (by kernel_rfl)) (by kernel_rfl))
 refine zP fun u k=>?_
 refine yE k [0,4] [] (Qw (by kernel_rfl) (by kernel_rfl) (y4 [0] [] (z7 (fF (Ov (es:=List.map aB []) (e:=98) (d:=5) (by kernel_rfl)) (zA 1 (iI (FW (c:=aB) (l:=[]) (l2:=s) (x:=aW s) (g:=5) (e:=98) (sz:=4) (d:=7) (by kernel_rfl) (by kernel_rfl) (by kernel_rfl) (by kernel_rfl) (fun _=>rfl) rfl h) ?_))))))
 refine y1 1 [2] [5] (zN fun u k=>?_)
 exact Qb k [(2,ro 0 98)] (Qy [(5,0)] rfl rfl (by kernel_rfl)) (by kernel_rfl)
theorem W.Oz {l x1 y r} (h:Jw l x1 y=some r):PC G.P 91 [(.sl (List.map aB l)),(vI x1),(vI y)] [] (.row (.top 0) 98) [(0,.row 98 [] (List.map aB r))]:=by
 refine zU G Tryz.func91 (yK [0,1,2] [] (y3 1 [0,1,2] [] (z7 (zA 1 ?_))))
 obtain ⟨r2,hr2,h⟩:=aA h
 refine qC [] [(0,700050)] (W.yP hr2) (y1 1 [1,2,7] [700050] (zB (z7 (zA 1 (qL aB r2 (y1 1 [1,2,7,13,14] [700050] ?_))))))
 refine zC ?_
 obtain ⟨x158,hx158,h⟩:=aA h
 refine ql hx158 (fun s107=>⟨[(1,vI x1),(2,vI y),(7,ro 500000 98),(13,vI (r2.length:Int)),(14,vI s107.1)],[(500000,jZ 98 s107.2)]⟩) (fun x158=>(.exit 0,⟨[(7,ro 500000 98)],[(500000,jZ 98 x158)]⟩)) (sp [] [(700050,500000)]) (fun s107 r h=>?_) fun u k=>?_
 refine y3 1 [1,2,7,13,14,15] [500000] (zB (qc h (fun h=>?_) fun h=>?_))
 refine y4 [1,2,7,13,14] [500000] (bU (fun (j145:(List Rect))=>⟨[(1,vI x1),(2,vI y),(7,ro 500000 98),(13,vI (r2.length:Int)),(14,vI s107.1)],[(500000,jZ 98 j145)]⟩) (Ia s107) r (by kernel_rfl) (fun j145 h=>?_) ?_)
 refine zD (z6 2 fun u k=>?_)
 cases h
 exact zH k
 refine zC (y3 2 [1,2,7,8,13,14] [500000] (z7 (zA 2 ?_)))
 obtain ⟨x147,hx147,h⟩:=aA h
 refine qI aB hx147 (y1 1 [1,2,7,9,13,14] [500000] (zB (zB ?_)))
 obtain ⟨j151,hj151,h⟩:=aA h
 refine zT ⟨[(1,vI x1),(2,vI y),(7,ro 500000 98),(9,.rptr (.top 500000) 98 (Int.toNat s107.1) 0),(13,vI (r2.length:Int)),(14,vI s107.1),(45,vB j151)],[(500000,jZ 98 s107.2)]⟩ ?_ fun u k=>?_
 replace h:=hj151
 refine zA 3 (qR aB hx147 (zA 2 (qB h [1,2,7,9,13,14,25] [500000] [25] (fun h=>?_) fun h=>?_)))
 refine z6 20 fun u k=>?_
 cases h
 exact zG k
 refine zA 3 (qR aB hx147 (zA 3 (qB h [1,2,7,9,13,14,32] [500000] [32] (fun h=>?_) fun h=>?_)))
 refine z6 13 fun u k=>?_
 cases h
 exact zG k
 refine zA 3 (qR aB hx147 (zA 3 (qB h [1,2,7,9,13,14,39] [500000] [39] (fun h=>?_) fun h=>?_)))
 refine z6 6 fun u k=>?_
 cases h
 exact zG k
 refine zA 3 (qR aB hx147 (z6 2 fun u k=>?_))
 cases h
 exact zG k
 refine yE k [1,2,7,9,13,14,45] [500000] (qc h (fun h=>?_) fun h=>?_)
 refine z7 (zA 3 ?_)
 obtain ⟨x153,hx153,h⟩:=aA h
 refine iI (Qe (c:=aB) (l:=s107.2) (i:=(Int.toNat s107.1)) (x:=x153) (x':=(Rect.mk x153.X x153.Y 0 x153.H)) (v:=(vI 0)) (agg:=false) (sz:=1) (kk:=(.top 500000)) (e:=98) (off:=2) (J:=[]) (o:=jZ 98 (List.set s107.2 (Int.toNat s107.1) (Rect.mk x153.X x153.Y 0 x153.H))) (by kernel_rfl) (by kernel_rfl) (by kernel_rfl) hx153 (by kernel_rfl) (by kernel_rfl) (by kernel_rfl)) (zP fun u k=>?_)
 refine yE k [1,2,7,13,14] [500000] (zL 1 fun u k=>?_)
 exact aQ (zQ (aV (List.set s107.2 (Int.toNat s107.1) (Rect.mk x153.X x153.Y 0 x153.H)) h k (here (by kernel_rfl))))
 refine y4 [1,2,7,9,13,14] [500000] (z7 (zA 3 ?_))
 obtain ⟨x156,hx156,h⟩:=aA h
 refine iI (Jo (c:=aB) (l:=s107.2) (i:=(Int.toNat s107.1)) (v:=(vI x156.X)) (agg:=false) (sz:=1) (kk:=(.top 500000)) (e:=98) (off:=0) (J:=[]) (by kernel_rfl) (by kernel_rfl) (by kernel_rfl) hx156 (by kernel_rfl)) (zA 4 ?_)
 obtain ⟨x157,hx157,h⟩:=aA h
 refine iI (Qe (c:=aB) (l:=s107.2) (i:=(Int.toNat s107.1)) (x:=x157) (x':=(Rect.mk (aJ x156.X x1) x157.Y x157.W x157.H)) (v:=(vI (aJ x156.X x1))) (agg:=false) (sz:=1) (kk:=(.top 500000)) (e:=98) (off:=0) (J:=[]) (o:=jZ 98 (List.set s107.2 (Int.toNat s107.1) (Rect.mk (aJ x156.X x1) x157.Y x157.W x157.H))) (by kernel_rfl) (by kernel_rfl) (by kernel_rfl) hx157 (by kernel_rfl) (by kernel_rfl) (by kernel_rfl)) (zP fun u k=>?_)
 refine yE k [1,2,7,9,13,14] [500000] (zD (zA 3 (iI (Jo (c:=aB) (l:=(List.set s107.2 (Int.toNat s107.1) (Rect.mk (aJ x156.X x1) x157.Y x157.W x157.H))) (i:=(Int.toNat s107.1)) (v:=(vI (((Rect.mk (aJ x156.X x1) x157.Y x157.W x157.H)).Y))) (agg:=false) (sz:=1) (kk:=(.top 500000)) (e:=98) (off:=1) (J:=[]) (by kernel_rfl) (by kernel_rfl) (by kernel_rfl) (WG (hx157)) (by kernel_rfl)) (zA 4 (iI (Qe (c:=aB) (l:=(List.set s107.2 (Int.toNat s107.1) (Rect.mk (aJ x156.X x1) x157.Y x157.W x157.H))) (i:=(Int.toNat s107.1)) (x:=(Rect.mk (aJ x156.X x1) x157.Y x157.W x157.H)) (x':=(Rect.mk (((Rect.mk (aJ x156.X x1) x157.Y x157.W x157.H)).X) (aJ (((Rect.mk (aJ x156.X x1) x157.Y x157.W x157.H)).Y) y) (((Rect.mk (aJ x156.X x1) x157.Y x157.W x157.H)).W) (((Rect.mk (aJ x156.X x1) x157.Y x157.W x157.H)).H))) (v:=(vI (aJ (((Rect.mk (aJ x156.X x1) x157.Y x157.W x157.H)).Y) y))) (agg:=false) (sz:=1) (kk:=(.top 500000)) (e:=98) (off:=1) (J:=[]) (o:=jZ 98 (List.set (List.set s107.2 (Int.toNat s107.1) (Rect.mk (aJ x156.X x1) x157.Y x157.W x157.H)) (Int.toNat s107.1) (Rect.mk (((Rect.mk (aJ x156.X x1) x157.Y x157.W x157.H)).X) (aJ (((Rect.mk (aJ x156.X x1) x157.Y x157.W x157.H)).Y) y) (((Rect.mk (aJ x156.X x1) x157.Y x157.W x157.H)).W) (((Rect.mk (aJ x156.X x1) x157.Y x157.W x157.H)).H)))) (by kernel_rfl) (by kernel_rfl) (by kernel_rfl) (WG (hx157)) (by kernel_rfl) (by kernel_rfl) (by kernel_rfl)) (zP fun u k=>?_))))))
 exact aH (aV (List.set (List.set s107.2 (Int.toNat s107.1) (Rect.mk (aJ x156.X x1) x157.Y x157.W x157.H)) (Int.toNat s107.1) (Rect.mk (((Rect.mk (aJ x156.X x1) x157.Y x157.W x157.H)).X) (aJ (((Rect.mk (aJ x156.X x1) x157.Y x157.W x157.H)).Y) y) (((Rect.mk (aJ x156.X x1) x157.Y x157.W x157.H)).W) (((Rect.mk (aJ x156.X x1) x157.Y x157.W x157.H)).H))) h k (here (by kernel_rfl)))
 refine zL 0 fun u k=>?_
 refine aQ ?_
 cases h
 exact zF k
 refine zQ (yE k [7] [500000] (z8 2 ⟨[(6,ro 500000 98)],[(500000,jZ 98 x158)]⟩ fun u k=>?_))
 obtain rfl:=osi h
 exact qW k [(6,ro 0 98)] (sp [] [(500000,0)])
theorem W.Ul {x0 r} (h:pO x0=some r):PC G.P 41 [(.agg (aU x0))] [] (vI r) []:=by
 refine zU G Tryz.func41 (yK [0] [] (y3 2 [1] [1] (zB (z7 (zA 2 (qL aB x0.Rects ?_))))))
 refine y1 1 [1,10,11,12] [1] (zC ?_)
 obtain ⟨x56,hx56,h⟩:=aA h
 refine ql hx56 (fun s39=>⟨[(1,.ptr 500000 0),(10,aW x0.Rects),(11,vI (x0.Rects.length:Int)),(12,vI s39)],[(500000,.box (aU x0))]⟩) (fun x56=>match x56 with | .inl j57=>(.ret,⟨[(2,vI 1)],[]⟩) | .inr j58=>(.exit 0,⟨[(1,.ptr 500000 0)],[(500000,.box (aU x0))]⟩)) (sp [] [(1,500000)]) (fun s39 r h=>?_) (fun u k=>?_) (hout:=(by intro x;rcases x with _ | _ <;> rfl))
 refine y3 1 [1,10,11,12,13] [500000] (zB (qc h (fun h=>?_) fun h=>?_))
 refine y4 [1,10,11,12] [500000] (zB (zC (z7 ?_)))
 obtain ⟨x53,hx53,h⟩:=aA h
 refine qX aB hx53 (y1 3 [1,4,10,11,12] [4,500000] (z7 (zA 1 ?_)))
 obtain ⟨r55,hr55,h⟩:=aA h
 refine qP (W.fQ hr55) (y1 1 [1,10,11,12,18] [500000] (qc h (fun h=>?_) fun h=>?_))
 refine z8 1 ⟨[(2,vI 1)],[]⟩ fun u k=>?_
 refine aT (aO ?_)
 cases h
 exact zF k
 refine zM fun u k=>?_
 refine aH (yE k [1,10,11,12] [500000] (zD (z6 2 fun u k=>?_)))
 cases h
 exact zH k
 refine zL 0 fun u k=>?_
 refine aQ ?_
 cases h
 exact zF k
 rcases x56 with j57 | j58
 refine aT (aO ?_)
 obtain rfl:=osi h
 exact zV k [(2,vI 1)]
 refine zQ (yE k [1] [500000] (zB (z7 (zA 2 (qL aB x0.Rects (y1 1 [1,23] [500000] ?_))))))
 refine qc h (fun h=>?_) fun h=>?_
 refine z7 (zA 1 ?_)
 obtain ⟨r62,hr62,h⟩:=aA h
 refine qP (W.Ar hr62) (y1 1 [2] [] (zN fun u k=>?_))
 refine aO ?_
 obtain rfl:=osi h
 exact zV k [(2,vI r62)]
 refine y4 [1] [500000] (zB (qM 11 (dN 2 ?_)))
 obtain ⟨x67,hx67,h⟩:=aA h
 refine dX aB hx67 (dN 4 ?_)
 obtain ⟨x68,hx68,h⟩:=aA h
 refine dX aB hx68 (dN 3 (dE (oN 1 (zO fun u k=>?_))))
 refine yE k [1,5,6] [500000] (zB (z7 (zA 2 (qL aB x0.Rects (y1 1 [1,5,6,37,38,39] [500000] (zC ?_))))))
 obtain ⟨x98,hx98,h⟩:=aA h
 refine ql hx98 (fun s89=>⟨[(1,.ptr 500000 0),(5,vI s89.1),(6,vI s89.2.1),(37,aW x0.Rects),(38,vI (x0.Rects.length:Int)),(39,vI s89.2.2)],[(500000,.box (aU x0))]⟩) (fun x98=>(.exit 2,⟨[(1,.ptr 500000 0),(5,vI x98.1),(6,vI x98.2)],[(500000,.box (aU x0))]⟩)) qH (fun s89 r h=>?_) fun u k=>?_
 refine y3 1 [1,5,6,37,38,39,40] [500000] (zB (qc h (fun h=>?_) fun h=>?_))
 refine y4 [1,5,6,37,38,39] [500000] (zB (zC (z7 ?_)))
 obtain ⟨x97,hx97,h⟩:=aA h
 refine qX aB hx97 (y1 3 [1,5,6,8,37,38,39] [8,500000] (qM 9 (dN 9 (dE (oN 1 (zO fun u k=>?_))))))
 refine aH (yE k [1,5,6,37,38,39] [500000] (zD (z6 2 fun u k=>?_)))
 cases h
 exact zH k
 refine zL 2 fun u k=>?_
 refine aQ ?_
 cases h
 exact zF k
 refine zQ (yE k [1,5,6] [500000] (zB (sK [(4,[700200]),(9,[700450]),(14,[700700])] [(4,[700200]),(9,[700450]),(14,[700700])] [] [(5,[700200]),(6,[700200]),(7,[700200]),(8,[700200]),(10,[700200,700450]),(11,[700200,700450]),(12,[700200,700450]),(13,[700200,700450]),(15,[700450,700700])] [(0,[700200,700450,700700]),(1,[700200,700450,700700]),(2,[700200,700450,700700]),(3,[700200,700450,700700]),(4,[700450,700700]),(5,[700200,700450,700700]),(6,[700200,700450,700700]),(7,[700200,700450,700700]),(8,[700200,700450,700700]),(9,[700700]),(10,[700200,700450,700700]),(11,[700200,700450,700700]),(12,[700200,700450,700700]),(13,[700200,700450,700700]),(15,[700450,700700])] 16 (by kernel_rfl) (by kernel_rfl) [700200,700450,700700] (by kernel_rfl) (by kernel_rfl) (dN 4 ?_))))
 obtain ⟨r105,hr105,h⟩:=aA h
 refine dC [(0,700200)] (W.Oz hr105) (dN 4 ?_)
 obtain ⟨r106,hr106,h⟩:=aA h
 refine dC [(0,700450)] (W.Oz hr106) (dN 4 ?_)
 obtain ⟨r107,hr107,h⟩:=aA h
 refine dC [(0,700700)] (W.Oz hr107) (dN 1 (dE (oN 5 (zO fun u k=>?_))))
 refine yE k [1] [500000,700200,700450,700700] (z7 (zA 1 ?_))
 obtain ⟨r109,hr109,h⟩:=aA h
 refine qV [700200,700450,700700] (W.Ar hr109) (y1 1 [2] [] (zN fun u k=>?_))
 obtain rfl:=osi h
 exact zV k [(2,vI r109)]
theorem W.Zu {x0 a_0 a_1 a_2 a_3 r} (h:Ii x0 a_0 a_1 a_2 a_3=some r):PC G.P 93 [(.agg (aB x0)),(.vptr [(vI a_0),(vI a_1),(vI a_2),(vI a_3)] 0)] [] (vB r) []:=by
 refine zU G Tryz.func93 (yK [0,1] [] (y3 2 [1,2] [2] (z7 (zA 2 ?_))))
 obtain ⟨r2,hr2,h⟩:=aA h
 refine qP (W.Oo hr2) (y1 1 [3] [] (zN fun u k=>?_))
 obtain rfl:=osi h
 exact zV k [(3,vB r2)]
theorem W.pE {s0 f_0_0 f_0_1 f_0_2 f_0_3 r} (h:eB s0 f_0_0 f_0_1 f_0_2 f_0_3=some r):PC G.P 147 [(.sl (List.map aB s0)),(.fn 93 [(.vptr [(vI f_0_0),(vI f_0_1),(vI f_0_2),(vI f_0_3)] 0)])] [] (vI r) []:=by
 refine zU G Tryz.func147 (yK [0,1] [] (y3 1 [0,1] [] (zB (z7 (zA 1 (qL aB s0 ?_))))))
 refine y1 1 [0,1,7,8] [] (zC ?_)
 obtain ⟨x56,hx56,h⟩:=aA h
 refine ql hx56 (fun s39=>⟨[(0,aW s0),(1,.fn 93 [(.vptr [(vI f_0_0),(vI f_0_1),(vI f_0_2),(vI f_0_3)] 0)]),(7,vI (s0.length:Int)),(8,vI s39)],[]⟩) (fun x56=>match x56 with | .inl j57=>(.ret,⟨[(4,vI j57)],[]⟩) | .inr j58=>(.exit 0,⟨[],[]⟩)) qH (fun s39 r h=>?_) (fun u k=>?_) (hout:=(by intro x;rcases x with _ | _ <;> rfl))
 refine y3 1 [0,1,7,8,9] [] (zB (qc h (fun h=>?_) fun h=>?_))
 refine y4 [0,1,7,8] [] (zB (zC (y3 2 [0,1,5,7,8] [] (z7 (zA 3 ?_)))))
 obtain ⟨x54,hx54,h⟩:=aA h
 refine qX aB hx54 (zA 1 ?_)
 obtain ⟨r55,hr55,h⟩:=aA h
 refine qP (W.Zu hr55) (zP fun u k=>?_)
 refine yE k [0,1,5,7,8,16] [] (qc h (fun h=>?_) fun h=>?_)
 refine z8 2 ⟨[(4,vI s39)],[]⟩ fun u k=>?_
 refine aT (aO ?_)
 cases h
 exact zF k
 refine zM fun u k=>?_
 refine aH (yE k [0,1,7,8] [] (zD (z6 2 fun u k=>?_)))
 cases h
 exact zH k
 refine zL 0 fun u k=>?_
 refine aQ ?_
 cases h
 exact zF k
 rcases x56 with j57 | j58
 refine aT (aO ?_)
 obtain rfl:=osi h
 exact zV k [(4,vI j57)]
 refine zQ (yE k [] [] (z8 1 ⟨[(4,vI (-1))],[]⟩ fun u k=>?_))
 obtain rfl:=osi h
 exact zV k [(4,vI (-1))]
theorem W.oD {s0 f_0_0 f_0_1 f_0_2 f_0_3 r} (h:dH s0 f_0_0 f_0_1 f_0_2 f_0_3=some r):PC G.P 92 [(.sl (List.map aB s0)),(.fn 93 [(.vptr [(vI f_0_0),(vI f_0_1),(vI f_0_2),(vI f_0_3)] 0)])] [] (vB r) []:=by
 refine zU G Tryz.func92 (yK [0,1] [] (y3 1 [0,1] [] (z7 (zA 2 ?_))))
 obtain ⟨r2,hr2,h⟩:=aA h
 refine qP (W.pE hr2) (y1 2 [4] [] (zN fun u k=>?_))
 obtain rfl:=osi h
 exact zV k [(4,vB (decide (r2 ≥ 0)))]
theorem W.Nq {r0 l r} (h:Fe r0 l=some r):PC G.P 43 [(.agg (aB r0)),(.sl (List.map aB l))] [] (vB r) []:=by
 refine zU G Tryz.func43 (yK [0,1] [] (y3 2 [1,2] [2] (z7 (zA 2 ?_))))
 obtain ⟨r2,hr2,h⟩:=aA h
 refine qV [2] (W.oD hr2) (y1 1 [4] [] (zN fun u k=>?_))
 obtain rfl:=osi h
 exact zV k [(4,vB r2)]
theorem W.Xy {l r} (h:uV l=some r):PC G.P 11 [(.agg (aR l))] [] (vI r) []:=by
 refine zU G Tryz.func11 (yK [0] [] (y3 2 [1] [1] (zB (z7 (zA 2 ?_)))))
 obtain ⟨r4,hr4,h⟩:=aA h
 refine qP (W.Oq hr4) (y1 1 [1,3] [1] (y3 2 [1,3,22] [1] (qc h (fun h=>?_) fun h=>?_)))
 refine z8 2 ⟨[(2,vI r4)],[]⟩ fun u k=>?_
 refine aO ?_
 obtain rfl:=osi h
 exact zV k [(2,vI r4)]
 refine y4 [1] [1] (zB (z7 (zA 2 (qL aU l.Pieces (y1 1 [1,27] [1] (qc h (fun h=>?_) fun h=>?_))))))
 refine z8 1 ⟨[(2,vI 4)],[]⟩ fun u k=>?_
 refine aO ?_
 obtain rfl:=osi h
 exact zV k [(2,vI 4)]
 refine y4 [1] [1] (zB (z7 (zA 2 (qL aU l.Pieces (y1 1 [1,29,30,31] [1] (zC ?_))))))
 obtain ⟨x60,hx60,h⟩:=aA h
 refine ql hx60 (fun s43=>⟨[(1,.ptr 500000 0),(29,cZ l.Pieces),(30,vI (l.Pieces.length:Int)),(31,vI s43)],[(500000,.box (aR l))]⟩) (fun x60=>match x60 with | .inl j61=>(.ret,⟨[(2,vI j61)],[]⟩) | .inr j62=>(.exit 0,⟨[(1,.ptr 500000 0)],[(500000,.box (aR l))]⟩)) (sp [] [(1,500000)]) (fun s43 r h=>?_) (fun u k=>?_) (hout:=(by intro x;rcases x with _ | _ <;> rfl))
 refine y3 1 [1,29,30,31,32] [500000] (zB (qc h (fun h=>?_) fun h=>?_))
 refine y4 [1,29,30,31] [500000] (zB (zC (z7 ?_)))
 obtain ⟨x57,hx57,h⟩:=aA h
 refine qX aU hx57 (y1 3 [1,5,29,30,31] [5,500000] (z7 (zA 1 ?_)))
 obtain ⟨r59,hr59,h⟩:=aA h
 refine qP (W.Ul hr59) (y1 1 [1,6,29,30,31] [500000] (y3 2 [1,6,29,30,31,38] [500000] (qc h (fun h=>?_) fun h=>?_)))
 refine z8 2 ⟨[(2,vI r59)],[]⟩ fun u k=>?_
 refine aT (aO ?_)
 cases h
 exact zF k
 refine zM fun u k=>?_
 refine aH (yE k [1,29,30,31] [500000] (zD (z6 2 fun u k=>?_)))
 cases h
 exact zH k
 refine zL 0 fun u k=>?_
 refine aQ ?_
 cases h
 exact zF k
 rcases x60 with j61 | j62
 refine aT (aO ?_)
 obtain rfl:=osi h
 exact zV k [(2,vI j61)]
 refine zQ (yE k [1] [500000] (y3 9 [1,7] [7,500000] (zB (z7 (zA 2 (qL aU l.Pieces ?_))))))
 refine y1 1 [1,7,49,50,51] [7,500000] (zC ?_)
 obtain ⟨x802,hx802,h⟩:=aA h
 refine ql hx802 (fun s557=>⟨[(1,.ptr 500000 0),(7,.ptr 500001 0),(49,cZ l.Pieces),(50,vI (l.Pieces.length:Int)),(51,vI s557)],[(500000,.box (aR l)),(500001,.box [(vI 0),(vI 0),(vI l.Sheet.Width),(vI l.Sheet.Height)])]⟩) (fun x802=>match x802 with | .inl j803=>(.ret,⟨[(2,vI 13)],[]⟩) | .inr j804=>(.exit 2,⟨[(1,.ptr 500000 0)],[(500000,.box (aR l))]⟩)) (sp [] [(7,500001),(500000,500000)]) (fun s557 r h=>?_) (fun u k=>?_) (hout:=(by intro x;rcases x with _ | _ <;> rfl))
 refine y3 1 [1,7,49,50,51,52] [500000,500001] (zB (qc h (fun h=>?_) fun h=>?_))
 refine y4 [1,7,49,50,51] [500000,500001] (zB (zC (z7 ?_)))
 obtain ⟨x742,hx742,h⟩:=aA h
 refine qX aU hx742 (y1 3 [1,7,9,49,50,51] [9,500000,500001] (z7 (zA 2 (qL aB x742.Rects (y1 1 [1,7,49,50,51,56,57,58] [500000,500001] (zC ?_))))))
 obtain ⟨x799,hx799,h⟩:=aA h
 refine ql hx799 (fun s762=>⟨[(1,.ptr 500000 0),(7,.ptr 500001 0),(49,cZ l.Pieces),(50,vI (l.Pieces.length:Int)),(51,vI s557),(56,aW x742.Rects),(57,vI (x742.Rects.length:Int)),(58,vI s762)],[(500000,.box (aR l)),(500001,.box [(vI 0),(vI 0),(vI l.Sheet.Width),(vI l.Sheet.Height)])]⟩) (fun x799=>match x799 with | .inl j800=>(.ret,⟨[(2,vI 13)],[]⟩) | .inr j801=>(.exit 4,⟨[(1,.ptr 500000 0),(7,.ptr 500001 0),(49,cZ l.Pieces),(50,vI (l.Pieces.length:Int)),(51,vI s557)],[(500000,.box (aR l)),(500001,.box [(vI 0),(vI 0),(vI l.Sheet.Width),(vI l.Sheet.Height)])]⟩)) qH (fun s762 r h=>?_) (fun u k=>?_) (hout:=(by intro x;rcases x with _ | _ <;> rfl))
 refine y3 1 [1,7,49,50,51,56,57,58,59] [500000,500001] (zB (qc h (fun h=>?_) fun h=>?_))
 refine y4 [1,7,49,50,51,56,57,58] [500000,500001] (zB (zC (z7 ?_)))
 obtain ⟨x791,hx791,h⟩:=aA h
 refine qX aB hx791 (y1 3 [1,7,11,49,50,51,56,57,58] [11,500000,500001] (zB ?_))
 obtain ⟨j795,hj795,h⟩:=aA h
 refine zT ⟨[(1,.ptr 500000 0),(7,.ptr 500001 0),(49,cZ l.Pieces),(50,vI (l.Pieces.length:Int)),(51,vI s557),(56,aW x742.Rects),(57,vI (x742.Rects.length:Int)),(58,vI s762),(79,vB j795)],[(500000,.box (aR l)),(500001,.box [(vI 0),(vI 0),(vI l.Sheet.Width),(vI l.Sheet.Height)])]⟩ ?_ fun u k=>?_
 replace h:=hj795
 refine zA 2 ?_
 obtain ⟨r796,hr796,h⟩:=aA h
 refine qP (W.Gg hr796) (zA 2 (zS r796 (fun b0=>⟨[(1,.ptr 500000 0),(7,.ptr 500001 0),(11,.ptr 11 0),(49,cZ l.Pieces),(50,vI (l.Pieces.length:Int)),(51,vI s557),(56,aW x742.Rects),(57,vI (x742.Rects.length:Int)),(58,vI s762),(66,vB (!b0))],[(11,.box (aB x791)),(500000,.box (aR l)),(500001,.box [(vI 0),(vI 0),(vI l.Sheet.Width),(vI l.Sheet.Height)])]⟩) (fun hb=>?_) fun hb=>?_))
 replace h:=iK hb h
 refine zA 4 ?_
 obtain ⟨r797,hr797,h⟩:=aA h
 refine qP (W.Nq hr797) (zA 2 (qB h [1,7,11,49,50,51,56,57,58,73] [11,500000,500001] [73] (fun h=>?_) fun h=>?_))
 refine z6 6 fun u k=>?_
 cases h
 exact zG k
 refine zA 4 ?_
 obtain ⟨r798,hr798,h⟩:=aA h
 refine qP (W.Nq hr798) (z6 1 fun u k=>?_)
 cases h
 exact zG k
 replace h:=iJ hb h
 refine z6 13 fun u k=>?_
 cases h
 exact zG k
 refine yE k [1,7,49,50,51,56,57,58,79] [500000,500001] (qc h (fun h=>?_) fun h=>?_)
 refine z8 1 ⟨[(2,vI 13)],[]⟩ fun u k=>?_
 refine aT (aO ?_)
 cases h
 exact zF k
 refine zM fun u k=>?_
 refine aH (yE k [1,7,49,50,51,56,57,58] [500000,500001] (zD (z6 2 fun u k=>?_)))
 cases h
 exact zH k
 refine zL 4 fun u k=>?_
 refine aQ ?_
 cases h
 exact zF k
 rcases x799 with j800 | j801
 refine aT (aT (aO ?_))
 cases h
 exact zF k
 refine zQ (aH (yE k [1,7,49,50,51] [500000,500001] (zD (z6 2 fun u k=>?_))))
 cases h
 exact zH k
 refine zL 2 fun u k=>?_
 refine aQ ?_
 cases h
 exact zF k
 rcases x802 with j803 | j804
 refine aT (aO ?_)
 obtain rfl:=osi h
 exact zV k [(2,vI 13)]
 refine zQ (yE k [1] [500000] (zB (z7 (zA 2 (qL aU l.Pieces (y1 1 [1,83,84,85] [500000] ?_))))))
 refine zC ?_
 obtain ⟨x3152,hx3152,h⟩:=aA h
 refine ql hx3152 (fun s2371=>⟨[(1,.ptr 500000 0),(83,cZ l.Pieces),(84,vI (l.Pieces.length:Int)),(85,vI s2371)],[(500000,.box (aR l))]⟩) (fun x3152=>match x3152 with | .inl j3153=>(.ret,⟨[(2,vI 7)],[]⟩) | .inr j3154=>(.exit 6,⟨[],[]⟩)) qH (fun s2371 r h=>?_) (fun u k=>?_) (hout:=(by intro x;rcases x with _ | _ <;> rfl))
 refine y3 1 [1,83,84,85,86] [500000] (zB (qc h (fun h=>?_) fun h=>?_))
 refine y4 [1,83,84,85] [500000] (zB (zC (z7 (zA 1 ?_))))
 obtain ⟨x2958,hx2958,h⟩:=aA h
 refine qX aU hx2958 (y1 4 [1,12,13,83,84,85] [13,500000] (z7 (zA 3 ?_)))
 obtain ⟨l2960,hl2960,h⟩:=aA h
 refine iI (FZ (c:=aU) (l:=l.Pieces) (sz:=7) (hi:=s2371) (k2:=.i64) (by kernel_rfl) hl2960) (qL aU l2960 (y1 1 [1,13,83,84,85,93,94,95] [13,500000] (zC ?_)))
 obtain ⟨x3149,hx3149,h⟩:=aA h
 refine ql hx3149 (fun s3024=>⟨[(1,.ptr 500000 0),(13,.ptr 500001 0),(83,cZ l.Pieces),(84,vI (l.Pieces.length:Int)),(85,vI s2371),(93,cZ l2960),(94,vI (l2960.length:Int)),(95,vI s3024)],[(500000,.box (aR l)),(500001,.box (aU x2958))]⟩) (fun x3149=>match x3149 with | .inl j3150=>(.ret,⟨[(2,vI 7)],[]⟩) | .inr j3151=>(.exit 8,⟨[(1,.ptr 500000 0),(83,cZ l.Pieces),(84,vI (l.Pieces.length:Int)),(85,vI s2371)],[(500000,.box (aR l))]⟩)) (sp [] [(13,500001),(500000,500000)]) (fun s3024 r h=>?_) (fun u k=>?_) (hout:=(by intro x;rcases x with _ | _ <;> rfl))
 refine y3 1 [1,13,83,84,85,93,94,95,96] [500000,500001] (zB (qc h (fun h=>?_) fun h=>?_))
 refine y4 [1,13,83,84,85,93,94,95] [500000,500001] (zB (zC (z7 ?_)))
 obtain ⟨x3119,hx3119,h⟩:=aA h
 refine qX aU hx3119 (y1 3 [1,13,15,83,84,85,93,94,95] [15,500000,500001] (z7 (zA 2 (qL aB x2958.Rects (y1 1 [1,13,15,83,84,85,93,94,95,100,101,102] [15,500000,500001] (zC ?_))))))
 obtain ⟨x3146,hx3146,h⟩:=aA h
 refine ql hx3146 (fun s3129=>⟨[(1,.ptr 500000 0),(13,.ptr 500001 0),(15,.ptr 500002 0),(83,cZ l.Pieces),(84,vI (l.Pieces.length:Int)),(85,vI s2371),(93,cZ l2960),(94,vI (l2960.length:Int)),(95,vI s3024),(100,aW x2958.Rects),(101,vI (x2958.Rects.length:Int)),(102,vI s3129)],[(500000,.box (aR l)),(500001,.box (aU x2958)),(500002,.box (aU x3119))]⟩) (fun x3146=>match x3146 with | .inl j3147=>(.ret,⟨[(2,vI 7)],[]⟩) | .inr j3148=>(.exit 10,⟨[(1,.ptr 500000 0),(13,.ptr 500001 0),(83,cZ l.Pieces),(84,vI (l.Pieces.length:Int)),(85,vI s2371),(93,cZ l2960),(94,vI (l2960.length:Int)),(95,vI s3024)],[(500000,.box (aR l)),(500001,.box (aU x2958))]⟩)) (sp [] [(15,500002),(500000,500000),(500001,500001)]) (fun s3129 r h=>?_) (fun u k=>?_) (hout:=(by intro x;rcases x with _ | _ <;> rfl))
 refine y3 1 [1,13,15,83,84,85,93,94,95,100,101,102,103] [500000,500001,500002] (zB (qc h (fun h=>?_) fun h=>?_))
 refine y4 [1,13,15,83,84,85,93,94,95,100,101,102] [500000,500001,500002] (zB (zC (z7 ?_)))
 obtain ⟨x3143,hx3143,h⟩:=aA h
 refine qX aB hx3143 (y1 3 [1,13,15,17,83,84,85,93,94,95,100,101,102] [17,500000,500001,500002] (z7 (zA 3 ?_)))
 obtain ⟨r3145,hr3145,h⟩:=aA h
 refine qP (W.Nq hr3145) (zP fun u k=>?_)
 refine yE k [1,13,15,83,84,85,93,94,95,100,101,102,109] [500000,500001,500002] (qc h (fun h=>?_) fun h=>?_)
 refine z8 1 ⟨[(2,vI 7)],[]⟩ fun u k=>?_
 refine aT (aO ?_)
 cases h
 exact zF k
 refine zM fun u k=>?_
 refine aH (yE k [1,13,15,83,84,85,93,94,95,100,101,102] [500000,500001,500002] (zD (z6 2 fun u k=>?_)))
 cases h
 exact zH k
 refine zL 10 fun u k=>?_
 refine aQ ?_
 cases h
 exact zF k
 rcases x3146 with j3147 | j3148
 refine aT (aT (aO ?_))
 cases h
 exact zF k
 refine zQ (aH (yE k [1,13,83,84,85,93,94,95] [500000,500001] (zD (z6 2 fun u k=>?_))))
 cases h
 exact zH k
 refine zL 8 fun u k=>?_
 refine aQ ?_
 cases h
 exact zF k
 rcases x3149 with j3150 | j3151
 refine aT (aT (aO ?_))
 cases h
 exact zF k
 refine zQ (aH (yE k [1,83,84,85] [500000] (zD (z6 2 fun u k=>?_))))
 cases h
 exact zH k
 refine zL 6 fun u k=>?_
 refine aQ ?_
 cases h
 exact zF k
 rcases x3152 with j3153 | j3154
 refine aT (aO ?_)
 obtain rfl:=osi h
 exact zV k [(2,vI 7)]
 refine zQ (yE k [] [] (z8 1 ⟨[(2,vI 0)],[]⟩ fun u k=>?_))
 obtain rfl:=osi h
 exact zV k [(2,vI 0)]
theorem W.Hr {n lo hi r} (h:uY n lo hi=some r):PC G.P 177 [(vI n),(vI lo),(vI hi)] [] (vB r) []:=by
 refine zU G Tryz.func177 (yK [0,1,2] [] (y3 1 [0,1,2] [] (zB ?_)))
 obtain ⟨j1,hj1,h⟩:=aA h
 refine zT ⟨[(6,vB j1)],[]⟩ ?_ fun u k=>?_
 replace h:=hj1
 refine zA 4 (qB h [0,2,10] [] [10] (fun h=>?_) fun h=>?_)
 refine z6 5 fun u k=>?_
 cases h
 exact zG k
 refine z6 5 fun u k=>?_
 cases h
 exact zG k
 refine yE k [6] [] (zN fun u k=>?_)
 obtain rfl:=osi h
 exact zV k [(6,vB j1)]
theorem W.Et {r} (h:tO=some r):PC G.P 179 [] [] (vS r) []:=by
 refine zU G Tryz.func179 (yK [] [] (y3 1 [] [] (z8 1 ⟨[(0,vS (ByteArray.mk #[32,112,97,114,116,32,109,97,116,101,114,105,97,108,32,98,97,115,101,32,102,108,97,110,103,101,32,104,111,108,101,32,99,117,116,32,102,111,114,109,32,101,97,115,116,32,115,111,117,116,104,32,119,101,115,116,32,110,111,114,116,104,32,117,112,32,100,111,119,110,32,99,108,111,115,101,117,112,32,99,108,111,115,101,100,111,119,110,32,103,114,97,105,110,32,120,32,121,32,116,97,98,108,101,32,97,110,103,108,101,32,109,97,99,104,105,110,101,32,112,117,110,99,104,32,100,105,101,32,102,114,97,109,101,32,103,97,117,103,101,32,112,111,108,121,32,115,116,97,116,105,111,110,115,32]))],[]⟩ fun u k=>?_)))
 obtain rfl:=osi h
 exact zV k [(0,vS (ByteArray.mk #[32,112,97,114,116,32,109,97,116,101,114,105,97,108,32,98,97,115,101,32,102,108,97,110,103,101,32,104,111,108,101,32,99,117,116,32,102,111,114,109,32,101,97,115,116,32,115,111,117,116,104,32,119,101,115,116,32,110,111,114,116,104,32,117,112,32,100,111,119,110,32,99,108,111,115,101,117,112,32,99,108,111,115,101,100,111,119,110,32,103,114,97,105,110,32,120,32,121,32,116,97,98,108,101,32,97,110,103,108,101,32,109,97,99,104,105,110,101,32,112,117,110,99,104,32,100,105,101,32,102,114,97,109,101,32,103,97,117,103,101,32,112,111,108,121,32,115,116,97,116,105,111,110,115,32]))]
theorem W.Hq {text s1 r} (h:oK text s1=some r):PC G.P 178 [(vS text),(vS s1)] [] (vB r) []:=by
 refine zU G Tryz.func178 (yK [0,1] [] (y3 1 [0,1] [] (zB (y3 1 [0,1,5] [] (zC ?_)))))
 obtain ⟨x80,hx80,h⟩:=aA h
 refine ql hx80 (fun s55=>⟨[(0,vS text),(1,vS s1),(5,vI s55)],[]⟩) (fun x80=>match x80 with | .inl j81=>(.ret,⟨[(4,vB true)],[]⟩) | .inr j82=>(.exit 0,⟨[],[]⟩)) qH (fun s55 r h=>?_) (fun u k=>?_) (hout:=(by intro x;rcases x with _ | _ <;> rfl))
 refine zB (y3 8 [0,1,5,13] [] (qc h (fun h=>?_) fun h=>?_))
 refine y4 [0,1,5] [] (zB (zC (z7 (zA 7 ?_))))
 obtain ⟨s77,hs77,h⟩:=aA h
 refine fF (ZZ (s:=text) (lo:=s55) (hi:=(aL (aL s55 (s1.size:Int)) 2)) (k1:=.i64) (k2:=.i64) (by kernel_rfl) hs77) (zA 1 ?_)
 obtain ⟨s78,hs78,h⟩:=aA h
 refine iI (FX (a:=(ByteArray.mk #[32])) (b:=s1) (by kernel_rfl) hs78) ?_
 obtain ⟨s79,hs79,h⟩:=aA h
 refine iI (FX (a:=s78) (b:=(ByteArray.mk #[32])) (by kernel_rfl) hs79) (y1 1 [0,1,5,27] [] (qc h (fun h=>?_) fun h=>?_))
 refine z8 1 ⟨[(4,vB true)],[]⟩ fun u k=>?_
 refine aT (aO ?_)
 cases h
 exact zF k
 refine zM fun u k=>?_
 refine aH (yE k [0,1,5] [] (zD (z6 3 fun u k=>?_)))
 cases h
 exact zH k
 refine zL 0 fun u k=>?_
 refine aQ ?_
 cases h
 exact zF k
 rcases x80 with j81 | j82
 refine aT (aO ?_)
 obtain rfl:=osi h
 exact zV k [(4,vB true)]
 refine zQ (yE k [] [] (z8 1 ⟨[(4,vB false)],[]⟩ fun u k=>?_))
 obtain rfl:=osi h
 exact zV k [(4,vB false)]
theorem W.vQ {s0 r} (h:dY s0=some r):PC G.P 148 [(vS s0)] [] (vB r) []:=by
 refine zU G Tryz.func148 (yK [0] [] (y3 1 [0] [] (zB (zB ?_))))
 obtain ⟨j11,hj11,h⟩:=aA h
 refine zT ⟨[(0,vS s0),(18,vB j11)],[]⟩ ?_ fun u k=>?_
 replace h:=hj11
 refine zA 2 ?_
 obtain ⟨r12,hr12,h⟩:=aA h
 refine qP (W.Hr hr12) (zA 2 (zS r12 (fun b0=>⟨[(0,vS s0),(9,vB (!b0))],[]⟩) (fun hb=>?_) fun hb=>?_))
 replace h:=iK hb h
 refine zA 1 ?_
 obtain ⟨x13,hx13,h⟩:=aA h
 refine fF (Ci (s:=s0) (i:=0) (kd:=.i64) (by kernel_rfl) hx13) (zA 3 (qB h [0,14] [] [14] (fun h=>?_) fun h=>?_))
 refine z6 4 fun u k=>?_
 cases h
 exact zG k
 refine zA 1 ?_
 obtain ⟨x14,hx14,h⟩:=aA h
 refine fF (Ci (s:=s0) (i:=0) (kd:=.i64) (by kernel_rfl) hx14) (z6 2 fun u k=>?_)
 cases h
 exact zG k
 replace h:=iJ hb h
 refine z6 9 fun u k=>?_
 cases h
 exact zG k
 refine yE k [0,18] [] (qc h (fun h=>?_) fun h=>?_)
 refine z8 1 ⟨[(2,vB false)],[]⟩ fun u k=>?_
 refine aO ?_
 obtain rfl:=osi h
 exact zV k [(2,vB false)]
 refine y4 [0] [] (zB (y3 1 [0,3] [] (zC ?_)))
 obtain ⟨x142,hx142,h⟩:=aA h
 refine ql hx142 (fun s101=>⟨[(0,vS s0),(3,vI s101)],[]⟩) (fun x142=>match x142 with | .inl j143=>(.ret,⟨[(2,vB false)],[]⟩) | .inr j144=>(.exit 0,⟨[(0,vS s0)],[]⟩)) qH (fun s101 r h=>?_) (fun u k=>?_) (hout:=(by intro x;rcases x with _ | _ <;> rfl))
 refine zB (y3 4 [0,3,22] [] (qc h (fun h=>?_) fun h=>?_))
 refine y4 [0,3] [] (zB (zC (zB ?_)))
 obtain ⟨j134,hj134,h⟩:=aA h
 refine zT ⟨[(0,vS s0),(3,vI s101),(4,vB j134)],[]⟩ ?_ fun u k=>?_
 replace h:=hj134
 refine zA 2 ?_
 obtain ⟨x135,hx135,h⟩:=aA h
 refine fF (Ci (s:=s0) (i:=s101) (kd:=.i64) (by kernel_rfl) hx135) (zA 2 (qB h [0,3,29] [] [29] (fun h=>?_) fun h=>?_))
 refine zA 2 ?_
 obtain ⟨x136,hx136,h⟩:=aA h
 refine fF (Ci (s:=s0) (i:=s101) (kd:=.i64) (by kernel_rfl) hx136) (z6 3 fun u k=>?_)
 cases h
 exact zG k
 refine z6 6 fun u k=>?_
 cases h
 exact zG k
 refine yE k [0,3,4] [] (zB ?_)
 obtain ⟨j139,hj139,h⟩:=aA h
 refine zT ⟨[(0,vS s0),(3,vI s101),(48,vB j139)],[]⟩ ?_ fun u k=>?_
 replace h:=hj139
 refine zA 3 (zS j134 (fun b0=>⟨[(0,vS s0),(3,vI s101),(37,vB (!b0))],[]⟩) (fun hb=>?_) fun hb=>?_)
 replace h:=iK hb h
 refine z6 11 fun u k=>?_
 cases h
 exact zG k
 replace h:=iJ hb h
 refine zA 2 ?_
 obtain ⟨x140,hx140,h⟩:=aA h
 refine fF (Ci (s:=s0) (i:=s101) (kd:=.i64) (by kernel_rfl) hx140) (zA 2 (qB h [0,3,37,42] [] [42] (fun h=>?_) fun h=>?_))
 refine z6 6 fun u k=>?_
 cases h
 exact zG k
 refine zA 2 ?_
 obtain ⟨x141,hx141,h⟩:=aA h
 refine fF (Ci (s:=s0) (i:=s101) (kd:=.i64) (by kernel_rfl) hx141) (z6 3 fun u k=>?_)
 cases h
 exact zG k
 refine yE k [0,3,48] [] (qc h (fun h=>?_) fun h=>?_)
 refine z8 1 ⟨[(2,vB false)],[]⟩ fun u k=>?_
 refine aT (aO ?_)
 cases h
 exact zF k
 refine zM fun u k=>?_
 refine aH (yE k [0,3] [] (zD (z6 3 fun u k=>?_)))
 cases h
 exact zH k
 refine zL 0 fun u k=>?_
 refine aQ ?_
 cases h
 exact zF k
 rcases x142 with j143 | j144
 refine aT (aO ?_)
 obtain rfl:=osi h
 exact zV k [(2,vB false)]
 refine zQ (yE k [0] [] (z7 ?_))
 obtain ⟨r147,hr147,h⟩:=aA h
 refine qP (W.Et hr147) (zA 1 ?_)
 obtain ⟨r148,hr148,h⟩:=aA h
 refine qP (W.Hq hr148) (y1 2 [2] [] (zN fun u k=>?_))
 obtain rfl:=osi h
 exact zV k [(2,vB (!r148))]
theorem W.xX {name material gauge grain r} (h:mH name material gauge grain=some r):PC G.P 95 [(vS name),(vS material),(vI gauge),(vI grain)] [] (vI r) []:=by
 refine zU G Tryz.func95 (yK [0,1,2,3] [] (y3 1 [0,1,2,3] [] (zB (zB ?_))))
 obtain ⟨j8,hj8,h⟩:=aA h
 refine zT ⟨[(2,vI gauge),(3,vI grain),(16,vB j8)],[]⟩ ?_ fun u k=>?_
 replace h:=hj8
 refine zA 1 ?_
 obtain ⟨r9,hr9,h⟩:=aA h
 refine qP (W.vQ hr9) (zA 2 (zS r9 (fun b0=>⟨[(1,vS material),(2,vI gauge),(3,vI grain),(12,vB (!b0))],[]⟩) (fun hb=>?_) fun hb=>?_))
 replace h:=iK hb h
 refine zA 1 ?_
 obtain ⟨r10,hr10,h⟩:=aA h
 refine qP (W.vQ hr10) (z6 2 fun u k=>?_)
 cases h
 exact zG k
 replace h:=iJ hb h
 refine z6 4 fun u k=>?_
 cases h
 exact zG k
 refine yE k [2,3,16] [] (qc h (fun h=>?_) fun h=>?_)
 refine z8 1 ⟨[(8,vI 2)],[]⟩ fun u k=>?_
 refine aO ?_
 obtain rfl:=osi h
 exact zV k [(8,vI 2)]
 refine y4 [2,3] [] (zB (zB ?_))
 obtain ⟨j12,hj12,h⟩:=aA h
 refine zT ⟨[(30,vB j12)],[]⟩ ?_ fun u k=>?_
 replace h:=hj12
 refine zA 3 (qB h [2,3,19] [] [19] (fun h=>?_) fun h=>?_)
 refine z6 11 fun u k=>?_
 cases h
 exact zG k
 refine zA 4 (qB h [3,23] [] [23] (fun h=>?_) fun h=>?_)
 refine z6 7 fun u k=>?_
 cases h
 exact zG k
 refine zA 4 (qB h [3,27] [] [27] (fun h=>?_) fun h=>?_)
 refine z6 3 fun u k=>?_
 cases h
 exact zG k
 refine z6 3 fun u k=>?_
 cases h
 exact zG k
 refine yE k [30] [] (qc h (fun h=>?_) fun h=>?_)
 refine z8 1 ⟨[(8,vI 1)],[]⟩ fun u k=>?_
 refine aO ?_
 obtain rfl:=osi h
 exact zV k [(8,vI 1)]
 refine y4 [] [] (z8 1 ⟨[(8,vI 0)],[]⟩ fun u k=>?_)
 obtain rfl:=osi h
 exact zV k [(8,vI 0)]
theorem W.nT {n r} (h:iP n=some r):PC G.P 139 [(vI n)] [] (vB r) []:=by
 refine zU G Tryz.func139 (yK [0] [] (y3 1 [0] [] (zB ?_)))
 obtain ⟨j1,hj1,h⟩:=aA h
 refine zT ⟨[(2,vB j1)],[]⟩ ?_ fun u k=>?_
 replace h:=hj1
 refine zA 3 (qB h [0,5] [] [5] (fun h=>?_) fun h=>?_)
 refine z6 4 fun u k=>?_
 cases h
 exact zG k
 refine z6 4 fun u k=>?_
 cases h
 exact zG k
 refine yE k [2] [] (zN fun u k=>?_)
 obtain rfl:=osi h
 exact zV k [(2,vB j1)]
theorem W.dF {r0 r} (h:bQ r0=some r):PC G.P 103 [(.agg (aB r0))] [] (vB r) []:=by
 refine zU G Tryz.func103 (yK [0] [] (y3 2 [1] [1] (zB (zB ?_))))
 obtain ⟨j8,hj8,h⟩:=aA h
 refine zT ⟨[(1,.ptr 500000 0),(32,vB j8)],[(500000,.box (aB r0))]⟩ ?_ fun u k=>?_
 replace h:=hj8
 refine zA 2 ?_
 obtain ⟨r9,hr9,h⟩:=aA h
 refine qP (W.nT hr9) (zA 2 (zS r9 (fun b0=>⟨[(1,.ptr 1 0),(7,vB (!b0))],[(1,.box (aB r0))]⟩) (fun hb=>?_) fun hb=>?_))
 replace h:=iK hb h
 refine zA 2 ?_
 obtain ⟨r10,hr10,h⟩:=aA h
 refine qP (W.nT hr10) (zA 3 (zS r10 (fun b0=>⟨[(1,.ptr 1 0),(13,vB (!b0))],[(1,.box (aB r0))]⟩) (fun hb=>?_) fun hb=>?_))
 replace h:=iK hb h
 refine zA 5 (qB h [1,18] [1] [18] (fun h=>?_) fun h=>?_)
 refine z6 14 fun u k=>?_
 cases h
 exact bH k (sp [] [(1,500000)])
 refine zA 5 (qB h [1,23] [1] [23] (fun h=>?_) fun h=>?_)
 refine z6 9 fun u k=>?_
 cases h
 exact bH k (sp [] [(1,500000)])
 refine zA 5 (qB h [1,28] [1] [28] (fun h=>?_) fun h=>?_)
 refine z6 4 fun u k=>?_
 cases h
 exact bH k (sp [] [(1,500000)])
 refine z6 4 fun u k=>?_
 cases h
 exact bH k (sp [] [(1,500000)])
 replace h:=iJ hb h
 refine z6 19 fun u k=>?_
 cases h
 exact bH k (sp [] [(1,500000)])
 replace h:=iJ hb h
 refine z6 25 fun u k=>?_
 cases h
 exact bH k (sp [] [(1,500000)])
 refine yE k [1,32] [500000] (qc h (fun h=>?_) fun h=>?_)
 refine z8 1 ⟨[(2,vB false)],[]⟩ fun u k=>?_
 refine aO ?_
 obtain rfl:=osi h
 exact zV k [(2,vB false)]
 refine y4 [1] [500000] (zB ?_)
 obtain ⟨j13,hj13,h⟩:=aA h
 refine zT ⟨[(2,vB j13)],[]⟩ ?_ fun u k=>?_
 replace h:=hj13
 refine zA 5 ?_
 obtain ⟨r14,hr14,h⟩:=aA h
 refine qP (W.nT hr14) (zA 1 (qB h [1,39] [500000] [39] (fun h=>?_) fun h=>?_))
 refine zA 5 ?_
 obtain ⟨r15,hr15,h⟩:=aA h
 refine qP (W.nT hr15) (z6 2 fun u k=>?_)
 cases h
 exact zG k
 refine z6 8 fun u k=>?_
 cases h
 exact zG k
 refine yE k [2] [] (zN fun u k=>?_)
 obtain rfl:=osi h
 exact zV k [(2,vB j13)]
theorem W.fV {l r} (h:dA l=some r):PC G.P 96 [(.sl (List.map aB l))] [] (vB r) []:=by
 refine zU G Tryz.func96 (yK [0] [] (y3 1 [0] [] (zB (y3 1 [0,3] [] (zC ?_)))))
 obtain ⟨x56,hx56,h⟩:=aA h
 refine ql hx56 (fun s39=>⟨[(0,aW l),(3,vI s39)],[]⟩) (fun x56=>match x56 with | .inl j57=>(.ret,⟨[(2,vB false)],[]⟩) | .inr j58=>(.exit 0,⟨[],[]⟩)) qH (fun s39 r h=>?_) (fun u k=>?_) (hout:=(by intro x;rcases x with _ | _ <;> rfl))
 refine zB (z7 (zA 2 (qL aB l (y1 1 [0,3,7] [] (qc h (fun h=>?_) fun h=>?_)))))
 refine y4 [0,3] [] (zB (zC (z7 (zA 2 ?_))))
 obtain ⟨x54,hx54,h⟩:=aA h
 refine qX aB hx54 (zA 1 ?_)
 obtain ⟨r55,hr55,h⟩:=aA h
 refine qP (W.dF hr55) (y1 1 [0,3,15] [] (qc h (fun h=>?_) fun h=>?_))
 refine z8 1 ⟨[(2,vB false)],[]⟩ fun u k=>?_
 refine aT (aO ?_)
 cases h
 exact zF k
 refine zM fun u k=>?_
 refine aH (yE k [0,3] [] (zD (z6 3 fun u k=>?_)))
 cases h
 exact zH k
 refine zL 0 fun u k=>?_
 refine aQ ?_
 cases h
 exact zF k
 rcases x56 with j57 | j58
 refine aT (aO ?_)
 obtain rfl:=osi h
 exact zV k [(2,vB false)]
 refine zQ (yE k [] [] (z8 1 ⟨[(2,vB true)],[]⟩ fun u k=>?_))
 obtain rfl:=osi h
 exact zV k [(2,vB true)]
theorem W.qZ {a b r} (h:iT a b=some r):PC G.P 47 [(.agg (aB a)),(.agg (aB b))] [] (vB r) []:=by
 refine zU G Tryz.func47 (yK [0,1] [] (y3 3 [2,3] [2,3] (zB ?_)))
 obtain ⟨j3,hj3,h⟩:=aA h
 refine zT ⟨[(4,vB j3)],[]⟩ ?_ fun u k=>?_
 replace h:=hj3
 refine zA 1 ?_
 obtain ⟨r4,hr4,h⟩:=aA h
 refine qP (W.dF hr4) (zA 1 (qB h [2,3,7] [2,3] [7] (fun h=>?_) fun h=>?_))
 refine zA 1 ?_
 obtain ⟨r5,hr5,h⟩:=aA h
 refine qP (W.dF hr5) (zA 2 (qB h [2,3,11] [2,3] [11] (fun h=>?_) fun h=>?_))
 refine zA 7 (qB h [2,3,18] [2,3] [18] (fun h=>?_) fun h=>?_)
 refine zA 7 (qB h [2,3,25] [2,3] [25] (fun h=>?_) fun h=>?_)
 refine zA 13 (qB h [2,3,38] [2,3] [38] (fun h=>?_) fun h=>?_)
 refine z6 13 fun u k=>?_
 cases h
 exact zG k
 refine z6 13 fun u k=>?_
 cases h
 exact zG k
 refine z6 26 fun u k=>?_
 cases h
 exact zG k
 refine z6 33 fun u k=>?_
 cases h
 exact zG k
 refine z6 40 fun u k=>?_
 cases h
 exact zG k
 refine z6 44 fun u k=>?_
 cases h
 exact zG k
 refine yE k [4] [] (zN fun u k=>?_)
 obtain rfl:=osi h
 exact zV k [(4,vB j3)]
theorem W.xK {s0 l r} (h:lF s0 l=some r):PC G.P 97 [(.agg (oH s0)),(.sl (List.map aB l))] [] (vB r) []:=by
 refine zU G Tryz.func97 (yK [0,1] [] (y3 2 [1,2] [2] (zB (y3 1 [1,2,5] [2] (zC ?_)))))
 obtain ⟨x80,hx80,h⟩:=aA h
 refine ql hx80 (fun s55=>⟨[(1,aW l),(2,.ptr 500000 0),(5,vI s55)],[(500000,.box (oH s0))]⟩) (fun x80=>match x80 with | .inl j81=>(.ret,⟨[(4,vB false)],[]⟩) | .inr j82=>(.exit 0,⟨[],[]⟩)) (sp [] [(2,500000)]) (fun s55 r h=>?_) (fun u k=>?_) (hout:=(by intro x;rcases x with _ | _ <;> rfl))
 refine zB (z7 (zA 2 (qL aB l (y1 1 [1,2,5,9] [500000] (qc h (fun h=>?_) fun h=>?_)))))
 refine y4 [1,2,5] [500000] (zB (zC (zB (qM 9 (dN 2 ?_)))))
 obtain ⟨x78,hx78,h⟩:=aA h
 refine dX aB hx78 (dN 6 (dE ?_))
 obtain ⟨r79,hr79,h⟩:=aA h
 refine oP (W.qZ hr79) (oN 1 (zO fun u k=>?_))
 refine yE k [1,2,5,22] [500000] (qc h (fun h=>?_) fun h=>?_)
 refine z8 1 ⟨[(4,vB false)],[]⟩ fun u k=>?_
 refine aT (aO ?_)
 cases h
 exact zF k
 refine zM fun u k=>?_
 refine aH (yE k [1,2,5] [500000] (zD (z6 3 fun u k=>?_)))
 cases h
 exact zH k
 refine zL 0 fun u k=>?_
 refine aQ ?_
 cases h
 exact zF k
 rcases x80 with j81 | j82
 refine aT (aO ?_)
 obtain rfl:=osi h
 exact zV k [(4,vB false)]
 refine zQ (yE k [] [] (z8 1 ⟨[(4,vB true)],[]⟩ fun u k=>?_))
 obtain rfl:=osi h
 exact zV k [(4,vB true)]
theorem W.Am {s0 r} (h:jE s0=some r):PC G.P 44 [(.agg (oH s0))] [] (vI r) []:=by
 refine zU G Tryz.func44 (yK [0] [] (y3 2 [1] [1] (z7 (zA 8 ?_))))
 obtain ⟨r2,hr2,h⟩:=aA h
 refine qP (W.xX hr2) (y1 1 [1,3] [1] (zB (y3 2 [1,3,14] [1] (qc h (fun h=>?_) fun h=>?_))))
 refine z8 2 ⟨[(2,vI r2)],[]⟩ fun u k=>?_
 refine aO ?_
 obtain rfl:=osi h
 exact zV k [(2,vI r2)]
 refine y4 [1] [1] (zB (zB ?_))
 obtain ⟨j4,hj4,h⟩:=aA h
 refine zT ⟨[(1,.ptr 500000 0),(33,vB j4)],[(500000,.box (oH s0))]⟩ ?_ fun u k=>?_
 replace h:=hj4
 refine zA 4 (qB h [1,19] [1] [19] (fun h=>?_) fun h=>?_)
 refine z6 14 fun u k=>?_
 cases h
 exact bH k (sp [] [(1,500000)])
 refine zA 5 (qB h [1,24] [1] [24] (fun h=>?_) fun h=>?_)
 refine z6 9 fun u k=>?_
 cases h
 exact bH k (sp [] [(1,500000)])
 refine zA 5 (qB h [1,29] [1] [29] (fun h=>?_) fun h=>?_)
 refine z6 4 fun u k=>?_
 cases h
 exact bH k (sp [] [(1,500000)])
 refine z6 4 fun u k=>?_
 cases h
 exact bH k (sp [] [(1,500000)])
 refine yE k [1,33] [500000] (qc h (fun h=>?_) fun h=>?_)
 refine z8 1 ⟨[(2,vI 1)],[]⟩ fun u k=>?_
 refine aO ?_
 obtain rfl:=osi h
 exact zV k [(2,vI 1)]
 refine y4 [1] [500000] (zB (zB ?_))
 obtain ⟨j6,hj6,h⟩:=aA h
 refine zT ⟨[(1,.ptr 500000 0),(43,vB j6)],[(500000,.box (oH s0))]⟩ ?_ fun u k=>?_
 replace h:=hj6
 refine zA 2 (qL aB s0.Clamps (zA 2 (qB h [1,38] [500000] [38] (fun h=>?_) fun h=>?_)))
 refine z6 5 fun u k=>?_
 cases h
 exact zG k
 refine zA 2 (qL aB s0.Used (z6 2 fun u k=>?_))
 cases h
 exact zG k
 refine yE k [1,43] [500000] (qc h (fun h=>?_) fun h=>?_)
 refine z8 1 ⟨[(2,vI 4)],[]⟩ fun u k=>?_
 refine aO ?_
 obtain rfl:=osi h
 exact zV k [(2,vI 4)]
 refine y4 [1] [500000] (zB (zB ?_))
 obtain ⟨j14,hj14,h⟩:=aA h
 refine zT ⟨[(1,.ptr 500000 0),(53,vB j14)],[(500000,.box (oH s0))]⟩ ?_ fun u k=>?_
 replace h:=hj14
 refine zA 2 ?_
 obtain ⟨r15,hr15,h⟩:=aA h
 refine qP (W.fV hr15) (zA 2 (zS r15 (fun b0=>⟨[(1,.ptr 500000 0),(48,vB (!b0))],[(500000,.box (oH s0))]⟩) (fun hb=>?_) fun hb=>?_))
 replace h:=iK hb h
 refine zA 2 ?_
 obtain ⟨r16,hr16,h⟩:=aA h
 refine qP (W.fV hr16) (z6 2 fun u k=>?_)
 cases h
 exact zG k
 replace h:=iJ hb h
 refine z6 5 fun u k=>?_
 cases h
 exact zG k
 refine yE k [1,53] [500000] (qc h (fun h=>?_) fun h=>?_)
 refine z8 1 ⟨[(2,vI 1)],[]⟩ fun u k=>?_
 refine aO ?_
 obtain rfl:=osi h
 exact zV k [(2,vI 1)]
 refine y4 [1] [500000] (zB (zB ?_))
 obtain ⟨j24,hj24,h⟩:=aA h
 refine zT ⟨[(65,vB j24)],[]⟩ ?_ fun u k=>?_
 replace h:=hj24
 refine zA 3 ?_
 obtain ⟨r25,hr25,h⟩:=aA h
 refine qP (W.xK hr25) (zA 2 (zS r25 (fun b0=>⟨[(1,.ptr 500000 0),(59,vB (!b0))],[(500000,.box (oH s0))]⟩) (fun hb=>?_) fun hb=>?_))
 replace h:=iK hb h
 refine zA 3 ?_
 obtain ⟨r26,hr26,h⟩:=aA h
 refine qP (W.xK hr26) (z6 2 fun u k=>?_)
 cases h
 exact zG k
 replace h:=iJ hb h
 refine z6 6 fun u k=>?_
 cases h
 exact zG k
 refine yE k [65] [] (qc h (fun h=>?_) fun h=>?_)
 refine z8 1 ⟨[(2,vI 13)],[]⟩ fun u k=>?_
 refine aO ?_
 obtain rfl:=osi h
 exact zV k [(2,vI 13)]
 refine y4 [] [] (z8 1 ⟨[(2,vI 0)],[]⟩ fun u k=>?_)
 obtain rfl:=osi h
 exact zV k [(2,vI 0)]
theorem W.tQ {l x1 y r} (h:jJ l x1 y=some r):PC G.P 149 [(.sl (List.map aB l)),(vI x1),(vI y)] [] (.row (.top 0) 98) [(0,.row 98 [] (List.map aB r))]:=by
 refine zU G Tryz.func149 (yK [0,1,2] [] (y3 1 [0,1,2] [] (y3 1 [0,1,2,7] [7] (y3 1 [0,1,2,7,8] [7] (zB (y3 1 [0,1,2,7,8,9] [7] ?_))))))
 refine zC ?_
 obtain ⟨x90,hx90,h⟩:=aA h
 refine ql hx90 (fun s61=>⟨[(0,aW l),(1,vI x1),(2,vI y),(7,ro 500000 98),(8,vI 2147483648),(9,vI s61.1)],[(500000,jZ 98 s61.2)]⟩) (fun x90=>(.exit 0,⟨[(7,ro 500000 98)],[(500000,jZ 98 x90)]⟩)) (sp [] [(7,500000)]) (fun s61 r h=>?_) fun u k=>?_
 refine zB (z7 (zA 2 (qL aB l (y1 1 [0,1,2,7,8,9,14] [500000] (qc h (fun h=>?_) fun h=>?_)))))
 refine y4 [0,1,2,7,8,9] [500000] (zB (zC (z7 (zA 2 ?_))))
 obtain ⟨x84,hx84,h⟩:=aA h
 refine qX aB hx84 (y1 3 [0,1,2,7,8,9,10] [10,500000] (bU (fun (j86:Int×Int)=>⟨[(0,aW l),(1,vI x1),(2,vI y),(7,ro 500000 98),(8,vI 2147483648),(9,vI s61.1),(10,.ptr 500001 0)],[(500000,jZ 98 s61.2),(500001,.box [(vI j86.1),(vI j86.2),(vI x84.W),(vI x84.H)])]⟩) (nE s61 x84) r (by kernel_rfl) (fun j86 h=>?_) ?_))
 refine zD (zA 3 ?_)
 obtain ⟨l88,hl88,h⟩:=aA h
 refine qA aB 4 hl88 (z6 1 fun u k=>?_)
 refine aH (yE k [0,1,2,7,8,9] [500000] (zD (z6 3 fun u k=>?_)))
 cases h
 exact zH k
 refine zB ?_
 obtain ⟨j89,hj89,h⟩:=aA h
 refine zT ⟨[(0,aW l),(1,vI x1),(2,vI y),(7,ro 500000 98),(8,vI 2147483648),(9,vI s61.1),(10,.ptr 500001 0),(44,vB j89)],[(500000,jZ 98 s61.2),(500001,.box (aB x84))]⟩ ?_ fun u k=>?_
 replace h:=hj89
 refine zA 6 (qB h [0,1,2,7,8,9,10,26] [10,500000] [26] (fun h=>?_) fun h=>?_)
 refine zA 6 (qB h [0,1,2,7,8,9,10,32] [10,500000] [32] (fun h=>?_) fun h=>?_)
 refine zA 7 (qB h [0,1,2,7,8,9,10,39] [10,500000] [39] (fun h=>?_) fun h=>?_)
 refine z6 5 fun u k=>?_
 cases h
 exact bH k (sp [] [(10,500001),(500000,500000)])
 refine z6 5 fun u k=>?_
 cases h
 exact bH k (sp [] [(10,500001),(500000,500000)])
 refine z6 12 fun u k=>?_
 cases h
 exact bH k (sp [] [(10,500001),(500000,500000)])
 refine z6 18 fun u k=>?_
 cases h
 exact bH k (sp [] [(10,500001),(500000,500000)])
 refine yE k [0,1,2,7,8,9,10,44] [500000,500001] (qc h (fun h=>?_) fun h=>?_)
 refine y3 6 [0,1,2,7,8,9,10] [500000,500001] (zD (z6 6 fun u k=>?_))
 exact aV ((aL x84.X x1),(aL x84.Y y)) h k (here (by kernel_rfl))
 refine zM fun u k=>?_
 exact aV (x84.X,x84.Y) h k (here (by kernel_rfl))
 refine zL 0 fun u k=>?_
 refine aQ ?_
 cases h
 exact zF k
 refine zQ (yE k [7] [500000] (z8 2 ⟨[(6,ro 500000 98)],[(500000,jZ 98 x90)]⟩ fun u k=>?_))
 obtain rfl:=osi h
 exact qW k [(6,ro 0 98)] (sp [] [(500000,0)])
theorem W.Ls {x0 dx dy r} (h:xE x0 dx dy=some r):PC G.P 98 [(.agg (aU x0)),(vI dx),(vI dy)] [] (.agg [(vS r.Name),(vS r.Material),(vI r.Gauge),(vI r.Grain),(.row (.top 1) 98),(.row (.top 2) 98),(.row (.top 3) 98)]) [(0,.box [(vS x0.Name),(vS x0.Material),(vI x0.Gauge),(vI x0.Grain),(.row (.top 1) 98),(.row (.top 2) 98),(.row (.top 3) 98)]),(1,.row 98 [] (List.map aB r.Rects)),(2,.row 98 [] (List.map aB r.Cuts)),(3,.row 98 [] (List.map aB r.Forms))]:=by
 refine zU G Tryz.func98 (yK [0,1,2] [] (y3 2 [1,2,3,6] [3,6] (z7 (zA 4 ?_))))
 obtain ⟨r2,hr2,h⟩:=aA h
 refine qC [] [(0,700200)] (W.tQ hr2) (y1 2 [1,2,3,6] [3,6,700200] (z7 (zA 4 ?_)))
 obtain ⟨r4,hr4,h⟩:=aA h
 refine qC [] [(0,700201)] (W.tQ hr4) (y1 2 [1,2,3,6] [3,6,700200,700201] (z7 (zA 4 ?_)))
 obtain ⟨r6,hr6,h⟩:=aA h
 refine qC [] [(0,700202)] (W.tQ hr6) (y1 2 [3,6] [3,6,700200,700201,700202] (z8 2 ⟨[(6,.ptr 6 0)],[(6,.box [(vS x0.Name),(vS x0.Material),(vI x0.Gauge),(vI x0.Grain),(ro 700200 98),(ro 700201 98),(ro 700202 98)]),(700200,jZ 98 r2),(700201,jZ 98 r4),(700202,jZ 98 r6)]⟩ fun u k=>?_))
 obtain rfl:=osi h
 exact qW k [(6,.ptr 0 0)] (sp [] [(6,0),(700200,1),(700201,2),(700202,3)])
theorem W.Mc {x0 r} (h:sS x0=some r):PC G.P 45 [(.agg (aU x0))] [] (.tup [(.agg (aU r.1)),(vB r.2.1)]) [(0,.box [(vS r.2.2.1),(vS r.2.2.2.1),(vI r.2.2.2.2.1),(vI r.2.2.2.2.2.1),(.sl (List.map aB r.2.2.2.2.2.2.1)),(.sl (List.map aB r.2.2.2.2.2.2.2.1)),(.sl (List.map aB r.2.2.2.2.2.2.2.2))])]:=by
 refine zU G Tryz.func45 (yK [0] [] (y3 3 [1,2] [1,2] (zB (z7 (zA 2 ?_)))))
 obtain ⟨r4,hr4,h⟩:=aA h
 refine qP (W.fV hr4) (y1 1 [1,2,10] [1,2] (qc h (fun h=>?_) fun h=>?_))
 refine z8 3 ⟨[(2,.ptr 2 0),(3,vB false)],[(2,.box (aU x0))]⟩ fun u k=>?_
 refine aO ?_
 obtain rfl:=osi h
 exact qW k [(2,.ptr 0 0),(3,vB false)] (sp [] [(2,0)])
 refine y4 [1,2] [1,2] (zB (z7 (zA 2 (qL aB x0.Rects (y1 1 [1,2,15] [1,2] (qc h (fun h=>?_) fun h=>?_))))))
 refine z8 3 ⟨[(2,.ptr 2 0),(3,vB true)],[(2,.box (aU x0))]⟩ fun u k=>?_
 refine aO ?_
 obtain rfl:=osi h
 exact qW k [(2,.ptr 0 0),(3,vB true)] (sp [] [(2,0)])
 refine y4 [1,2] [1,2] (zB (qM 11 (dN 2 ?_)))
 obtain ⟨x9,hx9,h⟩:=aA h
 refine dX aB hx9 (dN 4 ?_)
 obtain ⟨x10,hx10,h⟩:=aA h
 refine dX aB hx10 (dN 3 (dE (oN 1 (zO fun u k=>?_))))
 refine yE k [1,2,4,5] [1,2] (zB (y3 1 [1,2,4,5,6] [1,2] (zC ?_)))
 obtain ⟨x64,hx64,h⟩:=aA h
 refine ql hx64 (fun s47=>⟨[(1,.ptr 500000 0),(2,.ptr 500001 0),(4,vI s47.1),(5,vI s47.2.1),(6,vI s47.2.2)],[(500000,.box (aU x0)),(500001,.box [(vS ByteArray.empty),(vS ByteArray.empty),(vI 0),(vI 0),.nl,.nl,.nl])]⟩) (fun x64=>(.exit 0,⟨[(1,.ptr 500000 0),(2,.ptr 500001 0),(4,vI x64.1),(5,vI x64.2)],[(500000,.box (aU x0)),(500001,.box [(vS ByteArray.empty),(vS ByteArray.empty),(vI 0),(vI 0),.nl,.nl,.nl])]⟩)) (sp [] [(1,500000),(2,500001)]) (fun s47 r h=>?_) fun u k=>?_
 refine zB (z7 (zA 3 (qL aB x0.Rects (y1 1 [1,2,4,5,6,31] [500000,500001] (qc h (fun h=>?_) fun h=>?_)))))
 refine y4 [1,2,4,5,6] [500000,500001] (zB (zC (z7 (zA 4 ?_))))
 obtain ⟨x61,hx61,h⟩:=aA h
 refine qX aB hx61 (y1 4 [1,2,4,5,6] [500000,500001] (zD (zA 4 ?_)))
 obtain ⟨x63,hx63,h⟩:=aA h
 refine qX aB hx63 (z6 4 fun u k=>?_)
 refine aH (yE k [1,2,4,5,6] [500000,500001] (zD (z6 3 fun u k=>?_)))
 cases h
 exact zH k
 refine zL 0 fun u k=>?_
 refine aQ ?_
 cases h
 exact zF k
 refine zQ (yE k [1,2,4,5] [500000,500001] (z7 (zA 5 ?_)))
 obtain ⟨r66,hr66,h⟩:=aA h
 refine qC [] [(0,700250),(1,700251),(2,700252),(3,700253)] (W.Ls hr66) (y1 2 [2,3] [500001,700251,700252,700253] (zN fun u k=>?_))
 obtain rfl:=osi h
 exact qW k [(2,.ptr 0 0),(3,vB true)] (sp [.frz 700251,.frz 700252,.frz 700253] [(500001,0)])
theorem W.Jh {l r} (h:qG l=some r):PC G.P 99 [(.sl (List.map aB l))] [] (.tup [(vI r.1),(vI r.2)]) []:=by
 refine zU G Tryz.func99 (yK [0] [] (y3 2 [0] [] (zB (qM 9 (dN 1 ?_)))))
 obtain ⟨x5,hx5,h⟩:=aA h
 refine dX aB hx5 (dN 3 ?_)
 obtain ⟨x6,hx6,h⟩:=aA h
 refine dX aB hx6 (dN 3 (dE (oN 1 (zO fun u k=>?_))))
 refine yE k [0,4,5] [] (zB (y3 1 [0,4,5,6] [] (zC ?_)))
 obtain ⟨x60,hx60,h⟩:=aA h
 refine ql hx60 (fun s43=>⟨[(0,aW l),(4,vI s43.1),(5,vI s43.2.1),(6,vI s43.2.2)],[]⟩) (fun x60=>(.exit 0,⟨[(4,vI x60.1),(5,vI x60.2)],[]⟩)) qH (fun s43 r h=>?_) fun u k=>?_
 refine zB (z7 (zA 2 (qL aB l (y1 1 [0,4,5,6,18] [] (qc h (fun h=>?_) fun h=>?_)))))
 refine y4 [0,4,5,6] [] (zB (zC (z7 (zA 3 ?_))))
 obtain ⟨x57,hx57,h⟩:=aA h
 refine qX aB hx57 (y1 4 [0,4,5,6] [] (zD (zA 3 ?_)))
 obtain ⟨x59,hx59,h⟩:=aA h
 refine qX aB hx59 (z6 4 fun u k=>?_)
 refine aH (yE k [0,4,5,6] [] (zD (z6 3 fun u k=>?_)))
 cases h
 exact zH k
 refine zL 0 fun u k=>?_
 refine aQ ?_
 cases h
 exact zF k
 refine zQ (yE k [4,5] [] (z8 4 ⟨[(2,vI x60.1),(3,vI x60.2)],[]⟩ fun u k=>?_))
 obtain rfl:=osi h
 exact zV k [(2,vI x60.1),(3,vI x60.2)]
theorem W.Eu {a b r} (h:nD a b=some r):PC G.P 104 [(.agg (aB a)),(.agg (aB b))] [] (vB r) []:=by
 refine zU G Tryz.func104 (yK [0,1] [] (y3 3 [2,3] [2,3] (zB ?_)))
 obtain ⟨j3,hj3,h⟩:=aA h
 refine zT ⟨[(4,vB j3)],[]⟩ ?_ fun u k=>?_
 replace h:=hj3
 refine zA 1 ?_
 obtain ⟨r4,hr4,h⟩:=aA h
 refine qP (W.dF hr4) (zA 1 (qB h [2,3,7] [2,3] [7] (fun h=>?_) fun h=>?_))
 refine zA 1 ?_
 obtain ⟨r5,hr5,h⟩:=aA h
 refine qP (W.dF hr5) (zA 2 (qB h [2,3,11] [2,3] [11] (fun h=>?_) fun h=>?_))
 refine zA 10 (qB h [2,3,21] [2,3] [21] (fun h=>?_) fun h=>?_)
 refine zA 10 (qB h [2,3,31] [2,3] [31] (fun h=>?_) fun h=>?_)
 refine zA 10 (qB h [2,3,41] [2,3] [41] (fun h=>?_) fun h=>?_)
 refine z6 10 fun u k=>?_
 cases h
 exact zG k
 refine z6 10 fun u k=>?_
 cases h
 exact zG k
 refine z6 20 fun u k=>?_
 cases h
 exact zG k
 refine z6 30 fun u k=>?_
 cases h
 exact zG k
 refine z6 40 fun u k=>?_
 cases h
 exact zG k
 refine z6 44 fun u k=>?_
 cases h
 exact zG k
 refine yE k [4] [] (zN fun u k=>?_)
 obtain rfl:=osi h
 exact zV k [(4,vB j3)]
theorem W.nC {r0 l r} (h:gQ r0 l=some r):PC G.P 48 [(.agg (aB r0)),(.sl (List.map aB l))] [] (vB r) []:=by
 refine zU G Tryz.func48 (yK [0,1] [] (y3 2 [1,2] [2] (zB (y3 1 [1,2,5] [2] (zC ?_)))))
 obtain ⟨x80,hx80,h⟩:=aA h
 refine ql hx80 (fun s55=>⟨[(1,aW l),(2,.ptr 500000 0),(5,vI s55)],[(500000,.box (aB r0))]⟩) (fun x80=>match x80 with | .inl j81=>(.ret,⟨[(4,vB true)],[]⟩) | .inr j82=>(.exit 0,⟨[],[]⟩)) (sp [] [(2,500000)]) (fun s55 r h=>?_) (fun u k=>?_) (hout:=(by intro x;rcases x with _ | _ <;> rfl))
 refine zB (z7 (zA 2 (qL aB l (y1 1 [1,2,5,9] [500000] (qc h (fun h=>?_) fun h=>?_)))))
 refine y4 [1,2,5] [500000] (zB (zC (zB (qM 5 (dN 3 ?_)))))
 obtain ⟨x78,hx78,h⟩:=aA h
 refine dX aB hx78 (dN 1 (dE ?_))
 obtain ⟨r79,hr79,h⟩:=aA h
 refine oP (W.Eu hr79) (zO fun u k=>?_)
 refine yE k [1,2,5,17] [500000] (qc h (fun h=>?_) fun h=>?_)
 refine z8 1 ⟨[(4,vB true)],[]⟩ fun u k=>?_
 refine aT (aO ?_)
 cases h
 exact zF k
 refine zM fun u k=>?_
 refine aH (yE k [1,2,5] [500000] (zD (z6 3 fun u k=>?_)))
 cases h
 exact zH k
 refine zL 0 fun u k=>?_
 refine aQ ?_
 cases h
 exact zF k
 rcases x80 with j81 | j82
 refine aT (aO ?_)
 obtain rfl:=osi h
 exact zV k [(4,vB true)]
 refine zQ (yE k [] [] (z8 1 ⟨[(4,vB false)],[]⟩ fun u k=>?_))
 obtain rfl:=osi h
 exact zV k [(4,vB false)]
theorem W.Ew {a b r} (h:tV a b=some r):PC G.P 150 [(.agg (aB a)),(.agg (aB b))] [] (vB r) []:=by
 refine zU G Tryz.func150 (yK [0,1] [] (y3 3 [2,3] [2,3] (y3 18 [2,3,5] [2,3] (y3 18 [5,6] [] (zB ?_)))))
 obtain ⟨j1,hj1,h⟩:=aA h
 refine zT ⟨[(4,vB j1)],[]⟩ ?_ fun u k=>?_
 replace h:=hj1
 refine zA 3 (qB h [5,6,43] [] [43] (fun h=>?_) fun h=>?_)
 refine zA 4 (qB h [5,6,47] [] [47] (fun h=>?_) fun h=>?_)
 refine z6 8 fun u k=>?_
 cases h
 exact zG k
 refine zA 3 (qB h [5,47,50] [] [50] (fun h=>?_) fun h=>?_)
 refine z6 5 fun u k=>?_
 cases h
 exact zG k
 refine z6 5 fun u k=>?_
 cases h
 exact zG k
 refine zA 7 (qB h [5,47,50] [] [50] (fun h=>?_) fun h=>?_)
 refine z6 5 fun u k=>?_
 cases h
 exact zG k
 refine z6 5 fun u k=>?_
 cases h
 exact zG k
 refine yE k [4] [] (zN fun u k=>?_)
 obtain rfl:=osi h
 exact zV k [(4,vB j1)]
theorem W.Dx {l r} (h:lU l=some r):PC G.P 100 [(.sl (List.map aB l))] [] (vB r) []:=by
 refine zU G Tryz.func100 (yK [0] [] (y3 1 [0] [] (z7 (zA 1 (qL aB l ?_)))))
 obtain ⟨l2,hl2,h⟩:=aA h
 refine iI (Ir (c:=cB) (z:=false) (n:=(l.length:Int)) (e:=4) (d:=9) (zs:=[(vB false)]) (k1:=.i64) (k2:=.i64) (by kernel_rfl) rfl hl2) (y1 1 [0,3] [9] (z7 (fF (Ov (e:=3) (d:=10) (es:=(List.map cI [0])) (by kernel_rfl)) (y1 1 [0,3,4] [9,10] (z7 (zA 1 ?_))))))
 obtain ⟨x4,hx4,h⟩:=aA h
 refine qI cB hx4 (qS cB true hx4 (zP fun u k=>?_))
 refine yE k [0,3,4] [9,10] (zB (y3 1 [0,3,4,5] [9,10] (zC ?_)))
 obtain ⟨x1522,hx1522,h⟩:=aA h
 refine ql hx1522 (fun s1017=>⟨[(0,aW l),(3,ro 500000 4),(4,ro 500001 3),(5,vI s1017.1)],[(500000,wB 4 s1017.2.1),(500001,wI 3 s1017.2.2)]⟩) (fun x1522=>(.exit 0,⟨[(0,aW l),(4,ro 500000 3)],[(500000,wI 3 x1522)]⟩)) (sp [] [(9,500000),(10,500001)]) (fun s1017 r h=>?_) fun u k=>?_
 refine zB (z7 (zA 2 (qL cI s1017.2.2 (y1 1 [0,3,4,5,16] [500000,500001] (qc h (fun h=>?_) fun h=>?_)))))
 refine y4 [0,3,4,5] [500000,500001] (zB (zC (y3 1 [0,3,4,5,6] [500000,500001] (zC ?_))))
 obtain ⟨x1521,hx1521,h⟩:=aA h
 refine ql hx1521 (fun s1438=>⟨[(0,aW l),(3,ro 500000 4),(4,ro 500001 3),(5,vI s1017.1),(6,vI s1438.1)],[(500000,wB 4 s1438.2.1),(500001,wI 3 s1438.2.2)]⟩) (fun x1521=>(.exit 2,⟨[(0,aW l),(3,ro 500000 4),(4,ro 500001 3),(5,vI s1017.1)],[(500000,wB 4 x1521.1),(500001,wI 3 x1521.2)]⟩)) qH (fun s1438 r h=>?_) fun u k=>?_
 refine zB (z7 (zA 2 (qL aB l (y1 1 [0,3,4,5,6,22] [500000,500001] (qc h (fun h=>?_) fun h=>?_)))))
 refine y4 [0,3,4,5,6] [500000,500001] (bU (fun (j1500:(List Bool)×(List Int))=>⟨[(0,aW l),(3,ro 500000 4),(4,ro 500001 3),(5,vI s1017.1),(6,vI s1438.1)],[(500000,wB 4 j1500.1),(500001,wI 3 j1500.2)]⟩) (eF s1438) r (by kernel_rfl) (fun j1500 h=>?_) ?_)
 refine zD (z6 3 fun u k=>?_)
 cases h
 exact zH k
 refine zC (zB ?_)
 obtain ⟨j1511,hj1511,h⟩:=aA h
 refine gK ⟨[(0,aW l),(3,ro 500000 4),(4,ro 500001 3),(5,vI s1017.1),(6,vI s1438.1),(43,vB j1511)],[(500000,wB 4 s1438.2.1),(500001,wI 3 s1438.2.2)]⟩ [] [] [] [] [] 17 (by kernel_rfl) (by kernel_rfl) (by kernel_rfl) ?_ fun u k=>?_
 replace h:=hj1511
 refine dN 2 ?_
 obtain ⟨x1512,hx1512,h⟩:=aA h
 refine dI cB hx1512 (dR cB hx1512 (dN 2 (bI x1512 (fun b0=>⟨[(30,vB (!b0)),(29,vB (!b0)),(28,vB b0),(27,.rptr (.top 500000) 4 (Int.toNat s1438.1) 0),(26,vI s1438.1),(25,ro 500000 4),(0,aW l),(3,ro 500000 4),(4,ro 500001 3),(5,vI s1017.1),(6,vI s1438.1)],[(500000,wB 4 s1438.2.1),(500001,wI 3 s1438.2.2)]⟩) (by kernel_rfl) (fun hb=>?_) fun hb=>?_)))
 replace h:=iK hb h
 refine dN 11 (dE (oN 2 (zO fun u k=>?_)))
 cases h
 exact zG k
 replace h:=iJ hb h
 refine dN 3 ?_
 obtain ⟨x1513,hx1513,h⟩:=aA h
 refine dI cI hx1513 (dR cI hx1513 ?_)
 obtain ⟨x1514,hx1514,h⟩:=aA h
 refine dX aB hx1514 (dN 3 ?_)
 obtain ⟨x1515,hx1515,h⟩:=aA h
 refine dX aB hx1515 (dN 1 (dE ?_))
 obtain ⟨r1516,hr1516,h⟩:=aA h
 refine oP (W.Ew hr1516) (oN 1 (zO fun u k=>?_))
 cases h
 exact zG k
 refine yE k [0,3,4,5,6,43] [500000,500001] (qc h (fun h=>?_) fun h=>?_)
 refine z7 (zA 2 ?_)
 obtain ⟨x1518,hx1518,h⟩:=aA h
 refine qI cB hx1518 (qS cB true hx1518 (zP fun u k=>?_))
 refine yE k [0,3,4,5,6] [500000,500001] (zD (zA 3 ?_))
 obtain ⟨l1520,hl1520,h⟩:=aA h
 refine qA cI 1 hl1520 (z6 1 fun u k=>?_)
 exact aH (aV ((List.set s1438.2.1 (Int.toNat s1438.1) true),l1520) h k (here (by kernel_rfl)))
 refine zM fun u k=>?_
 exact aH (aV (s1438.2.1,s1438.2.2) h k (here (by kernel_rfl)))
 refine zL 2 fun u k=>?_
 refine aQ ?_
 cases h
 exact zF k
 refine zQ (aH (yE k [0,3,4,5] [500000,500001] (zD (z6 3 fun u k=>?_))))
 cases h
 exact zH k
 refine zL 0 fun u k=>?_
 refine aQ ?_
 cases h
 exact xI k rfl (sp [] [(500001,500000)])
 refine zQ (yE k [0,4] [500000] (z7 (zA 1 (qL cI x1522 (zA 1 (qL aB l ?_))))))
 refine y1 2 [2] [] (zN fun u k=>?_)
 obtain rfl:=osi h
 exact zV k [(2,vB ((x1522.length:Int)==(l.length:Int)))]
theorem W.Lt {r0 l r} (h:sN r0 l=some r):PC G.P 101 [(.agg (aB r0)),(.sl (List.map aB l))] [] (vB r) []:=by
 refine zU G Tryz.func101 (yK [0,1] [] (y3 2 [1,2] [2] (zB (y3 1 [1,2,5] [2] (zC ?_)))))
 obtain ⟨x236,hx236,h⟩:=aA h
 refine ql hx236 (fun s159=>⟨[(1,aW l),(2,.ptr 500000 0),(5,vI s159)],[(500000,.box (aB r0))]⟩) (fun x236=>match x236 with | .inl j237=>(.ret,⟨[(4,vB true)],[]⟩) | .inr j238=>(.exit 0,⟨[],[]⟩)) (sp [] [(2,500000)]) (fun s159 r h=>?_) (fun u k=>?_) (hout:=(by intro x;rcases x with _ | _ <;> rfl))
 refine zB (z7 (zA 2 (qL aB l (y1 1 [1,2,5,9] [500000] (qc h (fun h=>?_) fun h=>?_)))))
 refine y4 [1,2,5] [500000] (zB (zC (zB ?_)))
 obtain ⟨j229,hj229,h⟩:=aA h
 refine gK ⟨[(1,aW l),(2,.ptr 500000 0),(5,vI s159),(67,vB j229)],[(500000,.box (aB r0))]⟩ [] [] [] [] [] 54 (by kernel_rfl) (by kernel_rfl) (by kernel_rfl) ?_ fun u k=>?_
 replace h:=hj229
 refine dN 4 ?_
 obtain ⟨x230,hx230,h⟩:=aA h
 refine dX aB hx230 (dN 4 (bI (decide (r0.X>x230.X)) (fun b0=>⟨[(20,vB b0),(19,vB b0),(18,vI x230.X),(17,.vptr (aB x230) 0),(16,.vptr (aB x230) 0),(15,vI s159),(14,aW l),(13,vI r0.X),(12,.ptr 500000 0),(1,aW l),(2,.ptr 500000 0),(5,vI s159)],[(500000,.box (aB r0))]⟩) (by kernel_rfl) (fun hb=>?_) fun hb=>?_))
 replace h:=iK hb h
 refine dN 4 ?_
 obtain ⟨x231,hx231,h⟩:=aA h
 refine dX aB hx231 (dN 5 (bI (decide (r0.Y>x231.Y)) (fun b0=>⟨[(30,vB b0),(29,vB b0),(28,vB b0),(27,vI x231.Y),(26,.vptr (aB x231) 1),(25,.vptr (aB x231) 0),(24,vI s159),(23,aW l),(22,vI r0.Y),(21,.ptr 500000 1),(20,vB true),(19,vB true),(18,vI x230.X),(17,.vptr (aB x230) 0),(16,.vptr (aB x230) 0),(15,vI s159),(14,aW l),(13,vI r0.X),(12,.ptr 500000 0),(1,aW l),(2,.ptr 500000 0),(5,vI s159)],[(500000,.box (aB r0))]⟩) (by kernel_rfl) (fun hb=>?_) fun hb=>?_))
 replace h:=iK hb h
 refine dN 7 ?_
 obtain ⟨x232,hx232,h⟩:=aA h
 refine dX aB hx232 (dN 4 ?_)
 obtain ⟨x233,hx233,h⟩:=aA h
 refine dX aB hx233 (dN 6 (bI (decide ((aL r0.X r0.W)<(aL x232.X x233.W))) (fun b0=>⟨[(49,vB b0),(48,vB b0),(47,vB b0),(46,vI (aL x232.X x233.W)),(45,vI x233.W),(44,.vptr (aB x233) 2),(43,.vptr (aB x233) 0),(42,vI s159),(41,aW l),(40,vI x232.X),(39,.vptr (aB x232) 0),(38,.vptr (aB x232) 0),(37,vI s159),(36,aW l),(35,vI (aL r0.X r0.W)),(34,vI r0.W),(33,.ptr 500000 2),(32,vI r0.X),(31,.ptr 500000 0),(30,vB true),(29,vB true),(28,vB true),(27,vI x231.Y),(26,.vptr (aB x231) 1),(25,.vptr (aB x231) 0),(24,vI s159),(23,aW l),(22,vI r0.Y),(21,.ptr 500000 1),(20,vB true),(19,vB true),(18,vI x230.X),(17,.vptr (aB x230) 0),(16,.vptr (aB x230) 0),(15,vI s159),(14,aW l),(13,vI r0.X),(12,.ptr 500000 0),(1,aW l),(2,.ptr 500000 0),(5,vI s159)],[(500000,.box (aB r0))]⟩) (by kernel_rfl) (fun hb=>?_) fun hb=>?_))
 replace h:=iK hb h
 refine dN 7 ?_
 obtain ⟨x234,hx234,h⟩:=aA h
 refine dX aB hx234 (dN 4 ?_)
 obtain ⟨x235,hx235,h⟩:=aA h
 refine dX aB hx235 (dN 3 (dE (oN 2 (zO fun u k=>?_))))
 cases h
 exact zG k
 replace h:=iJ hb h
 refine dN 16 (dE (oN 2 (zO fun u k=>?_)))
 cases h
 exact zG k
 replace h:=iJ hb h
 refine dN 35 (dE (oN 2 (zO fun u k=>?_)))
 cases h
 exact zG k
 replace h:=iJ hb h
 refine dN 45 (dE (oN 2 (zO fun u k=>?_)))
 cases h
 exact zG k
 refine yE k [1,2,5,67] [500000] (qc h (fun h=>?_) fun h=>?_)
 refine z8 1 ⟨[(4,vB true)],[]⟩ fun u k=>?_
 refine aT (aO ?_)
 cases h
 exact zF k
 refine zM fun u k=>?_
 refine aH (yE k [1,2,5] [500000] (zD (z6 3 fun u k=>?_)))
 cases h
 exact zH k
 refine zL 0 fun u k=>?_
 refine aQ ?_
 cases h
 exact zF k
 rcases x236 with j237 | j238
 refine aT (aO ?_)
 obtain rfl:=osi h
 exact zV k [(4,vB true)]
 refine zQ (yE k [] [] (z8 1 ⟨[(4,vB false)],[]⟩ fun u k=>?_))
 obtain rfl:=osi h
 exact zV k [(4,vB false)]
theorem W.Jf {a b r} (h:qE a b=some r):PC G.P 102 [(.agg (aB a)),(.agg (aB b))] [] (vI r) []:=by
 refine zU G Tryz.func102 (yK [0,1] [] (y3 3 [2,3] [2,3] (zB (zB ?_))))
 obtain ⟨j8,hj8,h⟩:=aA h
 refine zT ⟨[(2,.ptr 500000 0),(3,.ptr 500001 0),(14,vB j8)],[(500000,.box (aB a)),(500001,.box (aB b))]⟩ ?_ fun u k=>?_
 replace h:=hj8
 refine zA 1 ?_
 obtain ⟨r9,hr9,h⟩:=aA h
 refine qP (W.dF hr9) (zA 2 (zS r9 (fun b0=>⟨[(2,.ptr 2 0),(3,.ptr 3 0),(10,vB (!b0))],[(2,.box (aB a)),(3,.box (aB b))]⟩) (fun hb=>?_) fun hb=>?_))
 replace h:=iK hb h
 refine zA 1 ?_
 obtain ⟨r10,hr10,h⟩:=aA h
 refine qP (W.dF hr10) (z6 2 fun u k=>?_)
 cases h
 exact bH k (sp [] [(2,500000),(3,500001)])
 replace h:=iJ hb h
 refine z6 4 fun u k=>?_
 cases h
 exact bH k (sp [] [(2,500000),(3,500001)])
 refine yE k [2,3,14] [500000,500001] (qc h (fun h=>?_) fun h=>?_)
 refine z8 1 ⟨[(4,vI 0)],[]⟩ fun u k=>?_
 refine aO ?_
 obtain rfl:=osi h
 exact zV k [(4,vI 0)]
 refine y4 [2,3] [500000,500001] (y3 18 [2,3,5] [500000,500001] (y3 18 [5,6] [] (z8 4 ⟨[(4,vI (eU (eU (eU 0 (aJ (aJ a.X b.X) b.W)) (aJ (aJ b.X a.X) a.W)) (eU (eU 0 (aJ (aJ a.Y b.Y) b.H)) (aJ (aJ b.Y a.Y) a.H))))],[]⟩ fun u k=>?_)))
 obtain rfl:=osi h
 exact zV k [(4,vI (eU (eU (eU 0 (aJ (aJ a.X b.X) b.W)) (aJ (aJ b.X a.X) a.W)) (eU (eU 0 (aJ (aJ a.Y b.Y) b.H)) (aJ (aJ b.Y a.Y) a.H))))]
theorem W.Ak {x0 r} (h:bW x0=some r):PC G.P 46 [(.agg (aU x0))] [] (vI r) []:=by
 refine zU G Tryz.func46 (yK [0] [] (y3 2 [1] [1] (z7 (zA 8 ?_))))
 obtain ⟨r2,hr2,h⟩:=aA h
 refine qP (W.xX hr2) (y1 1 [1,3] [1] (zB (y3 2 [1,3,21] [1] (qc h (fun h=>?_) fun h=>?_))))
 refine z8 2 ⟨[(2,vI r2)],[]⟩ fun u k=>?_
 refine aO ?_
 obtain rfl:=osi h
 exact zV k [(2,vI r2)]
 refine y4 [1] [1] (zB (zB ?_))
 obtain ⟨j4,hj4,h⟩:=aA h
 refine zT ⟨[(1,.ptr 500000 0),(38,vB j4)],[(500000,.box (aU x0))]⟩ ?_ fun u k=>?_
 replace h:=hj4
 refine zA 2 (qL aB x0.Rects (zA 2 (qB h [1,27] [1] [27] (fun h=>?_) fun h=>?_)))
 refine z6 11 fun u k=>?_
 cases h
 exact bH k (sp [] [(1,500000)])
 refine zA 2 (qL aB x0.Cuts (zA 3 (qB h [1,33] [1] [33] (fun h=>?_) fun h=>?_)))
 refine z6 5 fun u k=>?_
 cases h
 exact bH k (sp [] [(1,500000)])
 refine zA 2 (qL aB x0.Forms (z6 2 fun u k=>?_))
 cases h
 exact bH k (sp [] [(1,500000)])
 refine yE k [1,38] [500000] (qc h (fun h=>?_) fun h=>?_)
 refine z8 1 ⟨[(2,vI 4)],[]⟩ fun u k=>?_
 refine aO ?_
 obtain rfl:=osi h
 exact zV k [(2,vI 4)]
 refine y4 [1] [500000] (zB (zB ?_))
 obtain ⟨j15,hj15,h⟩:=aA h
 refine zT ⟨[(1,.ptr 500000 0),(60,vB j15)],[(500000,.box (aU x0))]⟩ ?_ fun u k=>?_
 replace h:=hj15
 refine zA 2 (qL aB x0.Rects (zA 2 (qB h [1,43] [500000] [43] (fun h=>?_) fun h=>?_)))
 refine z6 17 fun u k=>?_
 cases h
 exact zG k
 refine zA 2 ?_
 obtain ⟨r16,hr16,h⟩:=aA h
 refine qP (W.fV hr16) (zA 3 (zS r16 (fun b0=>⟨[(1,.ptr 500000 0),(49,vB (!b0))],[(500000,.box (aU x0))]⟩) (fun hb=>?_) fun hb=>?_))
 replace h:=iK hb h
 refine zA 2 ?_
 obtain ⟨r17,hr17,h⟩:=aA h
 refine qP (W.fV hr17) (zA 3 (zS r17 (fun b0=>⟨[(1,.ptr 500000 0),(55,vB (!b0))],[(500000,.box (aU x0))]⟩) (fun hb=>?_) fun hb=>?_))
 replace h:=iK hb h
 refine zA 2 ?_
 obtain ⟨r18,hr18,h⟩:=aA h
 refine qP (W.fV hr18) (z6 2 fun u k=>?_)
 cases h
 exact zG k
 replace h:=iJ hb h
 refine z6 5 fun u k=>?_
 cases h
 exact zG k
 replace h:=iJ hb h
 refine z6 11 fun u k=>?_
 cases h
 exact zG k
 refine yE k [1,60] [500000] (qc h (fun h=>?_) fun h=>?_)
 refine z8 1 ⟨[(2,vI 1)],[]⟩ fun u k=>?_
 refine aO ?_
 obtain rfl:=osi h
 exact zV k [(2,vI 1)]
 refine y4 [1] [500000] (z7 (zA 2 ?_))
 obtain ⟨r20,hr20,h⟩:=aA h
 refine qP (W.Jh hr20) (y1 5 [1,4,5] [500000] (zB (zB ?_)))
 obtain ⟨j22,hj22,h⟩:=aA h
 refine zT ⟨[(1,.ptr 500000 0),(72,vB j22)],[(500000,.box (aU x0))]⟩ ?_ fun u k=>?_
 replace h:=hj22
 refine zA 3 (qB h [1,5,69] [500000] [69] (fun h=>?_) fun h=>?_)
 refine z6 3 fun u k=>?_
 cases h
 exact zG k
 refine z6 3 fun u k=>?_
 cases h
 exact zG k
 refine yE k [1,72] [500000] (qc h (fun h=>?_) fun h=>?_)
 refine z8 1 ⟨[(2,vI 1)],[]⟩ fun u k=>?_
 refine aO ?_
 obtain rfl:=osi h
 exact zV k [(2,vI 1)]
 refine y4 [1] [500000] (zB (y3 1 [1,6] [500000] (zC ?_)))
 obtain ⟨x138,hx138,h⟩:=aA h
 refine ql hx138 (fun s101=>⟨[(1,.ptr 500000 0),(6,vI s101)],[(500000,.box (aU x0))]⟩) (fun x138=>match x138 with | .inl j139=>(.ret,⟨[(2,vI 7)],[]⟩) | .inr j140=>(.exit 0,⟨[(1,.ptr 500000 0)],[(500000,.box (aU x0))]⟩)) qH (fun s101 r h=>?_) (fun u k=>?_) (hout:=(by intro x;rcases x with _ | _ <;> rfl))
 refine zB (z7 (zA 3 (qL aB x0.Rects (y1 1 [1,6,77] [500000] (qc h (fun h=>?_) fun h=>?_)))))
 refine y4 [1,6] [500000] (zB (zC (zB (qM 9 (dN 3 ?_)))))
 obtain ⟨x135,hx135,h⟩:=aA h
 refine dX aB hx135 (dN 4 ?_)
 obtain ⟨l136,hl136,h⟩:=aA h
 refine xG (by kernel_rfl) (FZ (c:=aB) (l:=x0.Rects) (sz:=4) (hi:=s101) (k2:=.i64) (by kernel_rfl) hl136) (by kernel_rfl) (by kernel_rfl) (dE ?_)
 obtain ⟨r137,hr137,h⟩:=aA h
 refine oP (W.nC hr137) (zO fun u k=>?_)
 refine yE k [1,6,89] [500000] (qc h (fun h=>?_) fun h=>?_)
 refine z8 1 ⟨[(2,vI 7)],[]⟩ fun u k=>?_
 refine aT (aO ?_)
 cases h
 exact zF k
 refine zM fun u k=>?_
 refine aH (yE k [1,6] [500000] (zD (z6 3 fun u k=>?_)))
 cases h
 exact zH k
 refine zL 0 fun u k=>?_
 refine aQ ?_
 cases h
 exact zF k
 rcases x138 with j139 | j140
 refine aT (aO ?_)
 obtain rfl:=osi h
 exact zV k [(2,vI 7)]
 refine zQ (yE k [1] [500000] (zB (z7 (zA 2 ?_))))
 obtain ⟨r144,hr144,h⟩:=aA h
 refine qP (W.Dx hr144) (y1 1 [1,93] [500000] (qc h (fun h=>?_) fun h=>?_))
 refine z8 1 ⟨[(2,vI 6)],[]⟩ fun u k=>?_
 refine aO ?_
 obtain rfl:=osi h
 exact zV k [(2,vI 6)]
 refine y4 [1] [500000] (zB (sK [(0,[94]),(3,[94,600003])] [(0,[94]),(3,[600003])] [] [(1,[94]),(2,[94]),(4,[94,600003]),(5,[94,600003])] [(0,[600003]),(1,[94,600003]),(2,[94,600003]),(4,[94,600003]),(5,[94,600003])] 6 (by kernel_rfl) (by kernel_rfl) [600003,94] (by kernel_rfl) (by kernel_rfl) (Ff (e:=98) (d:=94) (es:=(List.map aB [])) (by kernel_rfl) (by kernel_rfl) (by kernel_rfl) (by kernel_rfl) (by kernel_rfl) (by kernel_rfl) (dN 2 ?_))))
 obtain ⟨l149,hl149,h⟩:=aA h
 refine Qm (c:=aB) (l:=[]) (l2:=x0.Cuts) (x:=(aW x0.Cuts)) (g:=94) (g2:=600003) (e:=98) (sz:=4) (d:=97) (by kernel_rfl) (by kernel_rfl) (by kernel_rfl) (by kernel_rfl) (by kernel_rfl) (fun _=>rfl) hl149 (by kernel_rfl) (by kernel_rfl) (by kernel_rfl) (by kernel_rfl) (by kernel_rfl) (dN 2 (dE ?_))
 obtain ⟨l150,hl150,h⟩:=aA h
 refine oA aB 4 hl150 (oN 1 (zO fun u k=>?_))
 refine yE k [1,7] [500000,600003] (zB (y3 1 [1,7,8] [500000,600003] (zC ?_)))
 obtain ⟨x314,hx314,h⟩:=aA h
 refine ql hx314 (fun s261=>⟨[(1,.ptr 500000 0),(7,ro 500001 98),(8,vI s261)],[(500000,.box (aU x0)),(500001,jZ 98 l150)]⟩) (fun x314=>match x314 with | .inl j315=>(.ret,⟨[(2,vI 13)],[]⟩) | .inr j316=>(.exit 2,⟨[(7,ro 500000 98)],[(500000,jZ 98 l150)]⟩)) (sp [] [(500000,500000),(600003,500001)]) (fun s261 r h=>?_) (fun u k=>?_) (hout:=(by intro x;rcases x with _ | _ <;> rfl))
 refine zB (z7 (zA 2 (qL aB l150 (y1 1 [1,7,8,104] [500000,500001] (qc h (fun h=>?_) fun h=>?_)))))
 refine y4 [1,7,8] [500000,500001] (zB (zC (zB ?_)))
 obtain ⟨j309,hj309,h⟩:=aA h
 refine gK ⟨[(1,.ptr 500000 0),(7,ro 500001 98),(8,vI s261),(137,vB j309)],[(500000,.box (aU x0)),(500001,jZ 98 l150)]⟩ [] [] [] [] [] 24 (by kernel_rfl) (by kernel_rfl) (by kernel_rfl) ?_ fun u k=>?_
 replace h:=hj309
 refine dN 2 ?_
 obtain ⟨x310,hx310,h⟩:=aA h
 refine dI aB hx310 (dR aB hx310 (dN 2 ?_))
 obtain ⟨r311,hr311,h⟩:=aA h
 refine dC [] (W.Lt hr311) (dN 2 (bI r311 (fun b0=>⟨[(115,vB (!b0)),(114,vB (!b0)),(113,vB b0),(112,aW x0.Rects),(111,.ptr 500000 4),(110,.agg (aB x310)),(109,.rptr (.top 500001) 98 (Int.toNat s261) 0),(108,vI s261),(107,ro 500001 98),(1,.ptr 500000 0),(7,ro 500001 98),(8,vI s261)],[(500000,.box (aU x0)),(500001,jZ 98 l150)]⟩) (by kernel_rfl) (fun hb=>?_) fun hb=>?_))
 replace h:=iK hb h
 refine dN 3 (dL aB x0.Cuts (dN 2 (bI (decide (s261<(x0.Cuts.length:Int))) (fun b0=>⟨[(121,vB b0),(120,vB b0),(119,vI (x0.Cuts.length:Int)),(118,aW x0.Cuts),(117,.ptr 500000 5),(116,vI s261),(115,vB false),(114,vB false),(113,vB true),(112,aW x0.Rects),(111,.ptr 500000 4),(110,.agg (aB x310)),(109,.rptr (.top 500001) 98 (Int.toNat s261) 0),(108,vI s261),(107,ro 500001 98),(1,.ptr 500000 0),(7,ro 500001 98),(8,vI s261)],[(500000,.box (aU x0)),(500001,jZ 98 l150)]⟩) (by kernel_rfl) (fun hb=>?_) fun hb=>?_)))
 replace h:=iK hb h
 refine dN 2 ?_
 obtain ⟨x312,hx312,h⟩:=aA h
 refine dI aB hx312 (dN 1 (dR aB hx312 (dN 2 (bI (x312.W==1) (fun b0=>⟨[(128,vB b0),(127,vB b0),(126,vI x312.W),(125,.rptr (.top 500001) 98 (Int.toNat s261) 2),(124,.rptr (.top 500001) 98 (Int.toNat s261) 0),(123,vI s261),(122,ro 500001 98),(121,vB true),(120,vB true),(119,vI (x0.Cuts.length:Int)),(118,aW x0.Cuts),(117,.ptr 500000 5),(116,vI s261),(115,vB false),(114,vB false),(113,vB true),(112,aW x0.Rects),(111,.ptr 500000 4),(110,.agg (aB x310)),(109,.rptr (.top 500001) 98 (Int.toNat s261) 0),(108,vI s261),(107,ro 500001 98),(1,.ptr 500000 0),(7,ro 500001 98),(8,vI s261)],[(500000,.box (aU x0)),(500001,jZ 98 l150)]⟩) (by kernel_rfl) (fun hb=>?_) fun hb=>?_))))
 replace h:=iK hb h
 refine dN 2 (dE (oN 7 (zO fun u k=>?_)))
 cases h
 exact zG k
 replace h:=iJ hb h
 refine dN 2 (dE ?_)
 obtain ⟨x313,hx313,h⟩:=aA h
 refine oI aB hx313 (oN 1 (oR aB hx313 (oN 4 (zO fun u k=>?_))))
 cases h
 exact zG k
 replace h:=iJ hb h
 refine dN 9 (dE (oN 7 (zO fun u k=>?_)))
 cases h
 exact zG k
 replace h:=iJ hb h
 refine dN 15 (dE (oN 7 (zO fun u k=>?_)))
 cases h
 exact zG k
 refine yE k [1,7,8,137] [500000,500001] (qc h (fun h=>?_) fun h=>?_)
 refine z8 1 ⟨[(2,vI 13)],[]⟩ fun u k=>?_
 refine aT (aO ?_)
 cases h
 exact zF k
 refine zM fun u k=>?_
 refine aH (yE k [1,7,8] [500000,500001] (zD (z6 3 fun u k=>?_)))
 cases h
 exact zH k
 refine zL 2 fun u k=>?_
 refine aQ ?_
 cases h
 exact xI k rfl (sp [] [(500001,500000)])
 rcases x314 with j315 | j316
 refine aT (aO ?_)
 obtain rfl:=osi h
 exact zV k [(2,vI 13)]
 refine zQ (yE k [7] [500000] (zB (y3 1 [7,9] [500000] (zC ?_))))
 obtain ⟨x804,hx804,h⟩:=aA h
 refine ql hx804 (fun s567=>⟨[(7,ro 500000 98),(9,vI s567)],[(500000,jZ 98 l150)]⟩) (fun x804=>match x804 with | .inl j805=>(.ret,⟨[(2,vI 7)],[]⟩) | .inr j806=>(.exit 4,⟨[],[]⟩)) qH (fun s567 r h=>?_) (fun u k=>?_) (hout:=(by intro x;rcases x with _ | _ <;> rfl))
 refine zB (z7 (zA 2 (qL aB l150 (y1 1 [7,9,141] [500000] (qc h (fun h=>?_) fun h=>?_)))))
 refine y4 [7,9] [500000] (zB (zC (y3 1 [7,9,10] [500000] (zC ?_))))
 obtain ⟨x801,hx801,h⟩:=aA h
 refine ql hx801 (fun s764=>⟨[(7,ro 500000 98),(9,vI s567),(10,vI s764)],[(500000,jZ 98 l150)]⟩) (fun x801=>match x801 with | .inl j802=>(.ret,⟨[(2,vI 7)],[]⟩) | .inr j803=>(.exit 6,⟨[(7,ro 500000 98),(9,vI s567)],[(500000,jZ 98 l150)]⟩)) qH (fun s764 r h=>?_) (fun u k=>?_) (hout:=(by intro x;rcases x with _ | _ <;> rfl))
 refine zB (y3 3 [7,9,10,146] [500000] (qc h (fun h=>?_) fun h=>?_))
 refine y4 [7,9,10] [500000] (zB (zC (zB (qM 8 (dN 2 ?_)))))
 obtain ⟨x798,hx798,h⟩:=aA h
 refine dI aB hx798 (dR aB hx798 (dN 2 ?_))
 obtain ⟨x799,hx799,h⟩:=aA h
 refine dI aB hx799 (dR aB hx799 (dE ?_))
 obtain ⟨r800,hr800,h⟩:=aA h
 refine oP (W.Jf hr800) (oN 1 (zO fun u k=>?_))
 refine yE k [7,9,10,158] [500000] (qc h (fun h=>?_) fun h=>?_)
 refine z8 1 ⟨[(2,vI 7)],[]⟩ fun u k=>?_
 refine aT (aO ?_)
 cases h
 exact zF k
 refine zM fun u k=>?_
 refine aH (yE k [7,9,10] [500000] (zD (z6 3 fun u k=>?_)))
 cases h
 exact zH k
 refine zL 6 fun u k=>?_
 refine aQ ?_
 cases h
 exact zF k
 rcases x801 with j802 | j803
 refine aT (aT (aO ?_))
 cases h
 exact zF k
 refine zQ (aH (yE k [7,9] [500000] (zD (z6 3 fun u k=>?_))))
 cases h
 exact zH k
 refine zL 4 fun u k=>?_
 refine aQ ?_
 cases h
 exact zF k
 rcases x804 with j805 | j806
 refine aT (aO ?_)
 obtain rfl:=osi h
 exact zV k [(2,vI 7)]
 refine zQ (yE k [] [] (z8 1 ⟨[(2,vI 0)],[]⟩ fun u k=>?_))
 obtain rfl:=osi h
 exact zV k [(2,vI 0)]
theorem W.wH {l r} (h:dG l=some r):PC G.P 12 [(.agg (aR l))] [] (vI r) []:=by
 refine zU G Tryz.func12 (yK [0] [] (y3 2 [1] [1] (z7 (zA 2 ?_))))
 obtain ⟨r2,hr2,h⟩:=aA h
 refine qP (W.Am hr2) (y1 1 [1,3] [1] (zB (y3 2 [1,3,18] [1] (qc h (fun h=>?_) fun h=>?_))))
 refine z8 2 ⟨[(2,vI r2)],[]⟩ fun u k=>?_
 refine aO ?_
 obtain rfl:=osi h
 exact zV k [(2,vI r2)]
 refine y4 [1] [1] (zB (z7 (zA 2 (qL aU l.Pieces (y1 1 [1,23] [1] (qc h (fun h=>?_) fun h=>?_))))))
 refine z8 1 ⟨[(2,vI 4)],[]⟩ fun u k=>?_
 refine aO ?_
 obtain rfl:=osi h
 exact zV k [(2,vI 4)]
 refine y4 [1] [1] (zB (y3 1 [1,4] [1] (zC ?_)))
 obtain ⟨x82,hx82,h⟩:=aA h
 refine ql hx82 (fun s57=>⟨[(1,.ptr 500000 0),(4,vI s57)],[(500000,.box (aR l))]⟩) (fun x82=>match x82 with | .inl j83=>(.ret,⟨[(2,vI j83)],[]⟩) | .inr j84=>(.exit 0,⟨[(1,.ptr 500000 0)],[(500000,.box (aR l))]⟩)) (sp [] [(1,500000)]) (fun s57 r h=>?_) (fun u k=>?_) (hout:=(by intro x;rcases x with _ | _ <;> rfl))
 refine zB (z7 (zA 3 (qL aU l.Pieces (y1 1 [1,4,28] [500000] (qc h (fun h=>?_) fun h=>?_)))))
 refine y4 [1,4] [500000] (zB (zC (z7 (zA 3 ?_))))
 obtain ⟨x78,hx78,h⟩:=aA h
 refine qX aU hx78 (zA 1 ?_)
 obtain ⟨r79,hr79,h⟩:=aA h
 refine qC [] [(0,700250)] (W.Mc hr79) (y1 6 [1,4,5,6] [5,500000] (zB (y3 2 [1,4,5,41] [5,500000] (qc h (fun h=>?_) fun h=>?_))))
 refine z8 1 ⟨[(2,vI 1)],[]⟩ fun u k=>?_
 refine aO (aT (aO ?_))
 cases h
 exact zF k
 refine y4 [1,4,5] [5,500000] (z7 (zA 1 ?_))
 obtain ⟨r81,hr81,h⟩:=aA h
 refine qP (W.Ak hr81) (y1 1 [1,3,4] [500000] (y3 2 [1,3,4,45] [500000] (qc h (fun h=>?_) fun h=>?_)))
 refine z8 2 ⟨[(2,vI r81)],[]⟩ fun u k=>?_
 refine aT (aO ?_)
 cases h
 exact zF k
 refine zM fun u k=>?_
 refine aH (yE k [1,4] [500000] (zD (z6 3 fun u k=>?_)))
 cases h
 exact zH k
 refine zL 0 fun u k=>?_
 refine aQ ?_
 cases h
 exact zF k
 rcases x82 with j83 | j84
 refine aT (aO ?_)
 obtain rfl:=osi h
 exact zV k [(2,vI j83)]
 refine zQ (yE k [1] [500000] (y3 9 [1,7] [7,500000] (zB (y3 1 [1,7,8] [7,500000] (zC ?_)))))
 obtain ⟨x1544,hx1544,h⟩:=aA h
 refine ql hx1544 (fun s1059=>⟨[(1,.ptr 500000 0),(7,.ptr 500001 0),(8,vI s1059)],[(500000,.box (aR l)),(500001,.box [(vI 0),(vI 0),(vI l.Sheet.Width),(vI l.Sheet.Height)])]⟩) (fun x1544=>match x1544 with | .inl j1545=>(.ret,⟨[(2,vI 13)],[]⟩) | .inr j1546=>(.exit 2,⟨[(1,.ptr 500000 0)],[(500000,.box (aR l))]⟩)) (sp [] [(7,500001),(500000,500000)]) (fun s1059 r h=>?_) (fun u k=>?_) (hout:=(by intro x;rcases x with _ | _ <;> rfl))
 refine zB (z7 (zA 3 (qL aU l.Pieces (y1 1 [1,7,8,58] [500000,500001] (qc h (fun h=>?_) fun h=>?_)))))
 refine y4 [1,7,8] [500000,500001] (zB (zC (z7 (zA 3 ?_))))
 obtain ⟨x1424,hx1424,h⟩:=aA h
 refine qX aU hx1424 (y1 3 [1,7,8,9] [500000,500001] (y3 1 [1,7,8,9,10] [500000,500001] (zC ?_)))
 obtain ⟨x1541,hx1541,h⟩:=aA h
 refine ql hx1541 (fun s1464=>⟨[(1,.ptr 500000 0),(7,.ptr 500001 0),(8,vI s1059),(9,aW x1424.Rects),(10,vI s1464)],[(500000,.box (aR l)),(500001,.box [(vI 0),(vI 0),(vI l.Sheet.Width),(vI l.Sheet.Height)])]⟩) (fun x1541=>match x1541 with | .inl j1542=>(.ret,⟨[(2,vI 13)],[]⟩) | .inr j1543=>(.exit 4,⟨[(1,.ptr 500000 0),(7,.ptr 500001 0),(8,vI s1059)],[(500000,.box (aR l)),(500001,.box [(vI 0),(vI 0),(vI l.Sheet.Width),(vI l.Sheet.Height)])]⟩)) qH (fun s1464 r h=>?_) (fun u k=>?_) (hout:=(by intro x;rcases x with _ | _ <;> rfl))
 refine zB (z7 (zA 2 (qL aB x1424.Rects (y1 1 [1,7,8,9,10,70] [500000,500001] (qc h (fun h=>?_) fun h=>?_)))))
 refine y4 [1,7,8,9,10] [500000,500001] (zB (zC (zB ?_)))
 obtain ⟨j1534,hj1534,h⟩:=aA h
 refine gK ⟨[(1,.ptr 500000 0),(7,.ptr 500001 0),(8,vI s1059),(9,aW x1424.Rects),(10,vI s1464),(99,vB j1534)],[(500000,.box (aR l)),(500001,.box [(vI 0),(vI 0),(vI l.Sheet.Width),(vI l.Sheet.Height)])]⟩ [] [] [] [] [] 25 (by kernel_rfl) (by kernel_rfl) (by kernel_rfl) ?_ fun u k=>?_
 replace h:=hj1534
 refine dN 2 ?_
 obtain ⟨x1535,hx1535,h⟩:=aA h
 refine dX aB hx1535 (dN 2 ?_)
 obtain ⟨r1536,hr1536,h⟩:=aA h
 refine dC [] (W.qZ hr1536) (dN 2 (bI r1536 (fun b0=>⟨[(80,vB (!b0)),(79,vB (!b0)),(78,vB b0),(77,.agg [(vI 0),(vI 0),(vI l.Sheet.Width),(vI l.Sheet.Height)]),(76,.agg (aB x1535)),(75,.vptr (aB x1535) 0),(74,vI s1464),(73,aW x1424.Rects),(1,.ptr 500000 0),(7,.ptr 500001 0),(8,vI s1059),(9,aW x1424.Rects),(10,vI s1464)],[(500000,.box (aR l)),(500001,.box [(vI 0),(vI 0),(vI l.Sheet.Width),(vI l.Sheet.Height)])]⟩) (by kernel_rfl) (fun hb=>?_) fun hb=>?_))
 replace h:=iK hb h
 refine dN 2 ?_
 obtain ⟨x1537,hx1537,h⟩:=aA h
 refine dX aB hx1537 (dN 4 ?_)
 obtain ⟨r1538,hr1538,h⟩:=aA h
 refine dC [] (W.nC hr1538) (dN 2 (bI r1538 (fun b0=>⟨[(90,vB b0),(89,vB b0),(88,vB b0),(87,aW l.Sheet.Clamps),(86,.ptr 500000 6),(85,.ptr 500000 0),(84,.agg (aB x1537)),(83,.vptr (aB x1537) 0),(82,vI s1464),(81,aW x1424.Rects),(80,vB false),(79,vB false),(78,vB true),(77,.agg [(vI 0),(vI 0),(vI l.Sheet.Width),(vI l.Sheet.Height)]),(76,.agg (aB x1535)),(75,.vptr (aB x1535) 0),(74,vI s1464),(73,aW x1424.Rects),(1,.ptr 500000 0),(7,.ptr 500001 0),(8,vI s1059),(9,aW x1424.Rects),(10,vI s1464)],[(500000,.box (aR l)),(500001,.box [(vI 0),(vI 0),(vI l.Sheet.Width),(vI l.Sheet.Height)])]⟩) (by kernel_rfl) (fun hb=>?_) fun hb=>?_))
 replace h:=iK hb h
 refine dN 7 (dE (oN 2 (zO fun u k=>?_)))
 cases h
 exact zG k
 replace h:=iJ hb h
 refine dN 2 ?_
 obtain ⟨x1539,hx1539,h⟩:=aA h
 refine dX aB hx1539 (dN 4 (dE ?_))
 obtain ⟨r1540,hr1540,h⟩:=aA h
 refine oP (W.nC hr1540) (oN 1 (zO fun u k=>?_))
 cases h
 exact zG k
 replace h:=iJ hb h
 refine dN 17 (dE (oN 2 (zO fun u k=>?_)))
 cases h
 exact zG k
 refine yE k [1,7,8,9,10,99] [500000,500001] (qc h (fun h=>?_) fun h=>?_)
 refine z8 1 ⟨[(2,vI 13)],[]⟩ fun u k=>?_
 refine aT (aO ?_)
 cases h
 exact zF k
 refine zM fun u k=>?_
 refine aH (yE k [1,7,8,9,10] [500000,500001] (zD (z6 3 fun u k=>?_)))
 cases h
 exact zH k
 refine zL 4 fun u k=>?_
 refine aQ ?_
 cases h
 exact zF k
 rcases x1541 with j1542 | j1543
 refine aT (aT (aO ?_))
 cases h
 exact zF k
 refine zQ (aH (yE k [1,7,8] [500000,500001] (zD (z6 3 fun u k=>?_))))
 cases h
 exact zH k
 refine zL 2 fun u k=>?_
 refine aQ ?_
 cases h
 exact zF k
 rcases x1544 with j1545 | j1546
 refine aT (aO ?_)
 obtain rfl:=osi h
 exact zV k [(2,vI 13)]
 refine zQ (yE k [1] [500000] (zB (y3 1 [1,11] [500000] (zC ?_))))
 obtain ⟨x5874,hx5874,h⟩:=aA h
 refine ql hx5874 (fun s3717=>⟨[(1,.ptr 500000 0),(11,vI s3717)],[(500000,.box (aR l))]⟩) (fun x5874=>match x5874 with | .inl j5875=>(.ret,⟨[(2,vI 7)],[]⟩) | .inr j5876=>(.exit 6,⟨[],[]⟩)) qH (fun s3717 r h=>?_) (fun u k=>?_) (hout:=(by intro x;rcases x with _ | _ <;> rfl))
 refine zB (z7 (zA 3 (qL aU l.Pieces (y1 1 [1,11,104] [500000] (qc h (fun h=>?_) fun h=>?_)))))
 refine y4 [1,11] [500000] (zB (zC (y3 1 [1,11,12] [500000] (zC ?_))))
 obtain ⟨x5871,hx5871,h⟩:=aA h
 refine ql hx5871 (fun s5514=>⟨[(1,.ptr 500000 0),(11,vI s3717),(12,vI s5514)],[(500000,.box (aR l))]⟩) (fun x5871=>match x5871 with | .inl j5872=>(.ret,⟨[(2,vI 7)],[]⟩) | .inr j5873=>(.exit 8,⟨[(1,.ptr 500000 0),(11,vI s3717)],[(500000,.box (aR l))]⟩)) qH (fun s5514 r h=>?_) (fun u k=>?_) (hout:=(by intro x;rcases x with _ | _ <;> rfl))
 refine zB (y3 3 [1,11,12,109] [500000] (qc h (fun h=>?_) fun h=>?_))
 refine y4 [1,11,12] [500000] (zB (zC (y3 1 [1,11,12,13] [500000] (zC ?_))))
 obtain ⟨x5868,hx5868,h⟩:=aA h
 refine ql hx5868 (fun s5811=>⟨[(1,.ptr 500000 0),(11,vI s3717),(12,vI s5514),(13,vI s5811)],[(500000,.box (aR l))]⟩) (fun x5868=>match x5868 with | .inl j5869=>(.ret,⟨[(2,vI 7)],[]⟩) | .inr j5870=>(.exit 10,⟨[(1,.ptr 500000 0),(11,vI s3717),(12,vI s5514)],[(500000,.box (aR l))]⟩)) qH (fun s5811 r h=>?_) (fun u k=>?_) (hout:=(by intro x;rcases x with _ | _ <;> rfl))
 refine zB (z7 (zA 4 ?_))
 obtain ⟨x5843,hx5843,h⟩:=aA h
 refine qX aU hx5843 (zA 2 (qL aB x5843.Rects (y1 1 [1,11,12,13,120] [500000] (qc h (fun h=>?_) fun h=>?_))))
 refine y4 [1,11,12,13] [500000] (zB (zC (zB (qM 15 (dN 3 ?_)))))
 obtain ⟨x5864,hx5864,h⟩:=aA h
 refine dX aU hx5864 (dN 3 ?_)
 obtain ⟨x5865,hx5865,h⟩:=aA h
 refine dX aB hx5865 (dN 4 ?_)
 obtain ⟨x5866,hx5866,h⟩:=aA h
 refine dX aU hx5866 (dN 2 (dE ?_))
 obtain ⟨r5867,hr5867,h⟩:=aA h
 refine oP (W.nC hr5867) (zO fun u k=>?_)
 refine yE k [1,11,12,13,138] [500000] (qc h (fun h=>?_) fun h=>?_)
 refine z8 1 ⟨[(2,vI 7)],[]⟩ fun u k=>?_
 refine aT (aO ?_)
 cases h
 exact zF k
 refine zM fun u k=>?_
 refine aH (yE k [1,11,12,13] [500000] (zD (z6 3 fun u k=>?_)))
 cases h
 exact zH k
 refine zL 10 fun u k=>?_
 refine aQ ?_
 cases h
 exact zF k
 rcases x5868 with j5869 | j5870
 refine aT (aT (aO ?_))
 cases h
 exact zF k
 refine zQ (aH (yE k [1,11,12] [500000] (zD (z6 3 fun u k=>?_))))
 cases h
 exact zH k
 refine zL 8 fun u k=>?_
 refine aQ ?_
 cases h
 exact zF k
 rcases x5871 with j5872 | j5873
 refine aT (aT (aO ?_))
 cases h
 exact zF k
 refine zQ (aH (yE k [1,11] [500000] (zD (z6 3 fun u k=>?_))))
 cases h
 exact zH k
 refine zL 6 fun u k=>?_
 refine aQ ?_
 cases h
 exact zF k
 rcases x5874 with j5875 | j5876
 refine aT (aO ?_)
 obtain rfl:=osi h
 exact zV k [(2,vI 7)]
 refine zQ (yE k [] [] (z8 1 ⟨[(2,vI 0)],[]⟩ fun u k=>?_))
 obtain rfl:=osi h
 exact zV k [(2,vI 0)]
theorem W.CF {x0 r} (h:bits_Len64 x0=some r):PC G.P 199 [(vK .u64 x0)] [] (vI r) []:=by
 refine zU G Tryz.func199 (yK [0] [] (y3 1 [0,2] [] (bU (fun (j1:Int×Int)=>⟨[(0,vK .u64 j1.1),(2,vI j1.2)],[]⟩) (Iz) r (by kernel_rfl) (fun j1 h=>?_) ?_)))
 refine bU (fun (j2:Int×Int)=>⟨[(0,vK .u64 j2.1),(2,vI j2.2)],[]⟩) (Iy) r (by kernel_rfl) (fun j2 h=>?_) ?_
 refine bU (fun (j3:Int×Int)=>⟨[(0,vK .u64 j3.1),(2,vI j3.2)],[]⟩) (Iw) r (by kernel_rfl) (fun j3 h=>?_) ?_
 refine z7 (zA 3 ?_)
 obtain ⟨x5,hx5,h⟩:=aA h
 refine fF (Ci (s:=(ByteArray.mk #[0,1,2,2,3,3,3,3,4,4,4,4,4,4,4,4,5,5,5,5,5,5,5,5,5,5,5,5,5,5,5,5,6,6,6,6,6,6,6,6,6,6,6,6,6,6,6,6,6,6,6,6,6,6,6,6,6,6,6,6,6,6,6,6,7,7,7,7,7,7,7,7,7,7,7,7,7,7,7,7,7,7,7,7,7,7,7,7,7,7,7,7,7,7,7,7,7,7,7,7,7,7,7,7,7,7,7,7,7,7,7,7,7,7,7,7,7,7,7,7,7,7,7,7,7,7,7,7,8,8,8,8,8,8,8,8,8,8,8,8,8,8,8,8,8,8,8,8,8,8,8,8,8,8,8,8,8,8,8,8,8,8,8,8,8,8,8,8,8,8,8,8,8,8,8,8,8,8,8,8,8,8,8,8,8,8,8,8,8,8,8,8,8,8,8,8,8,8,8,8,8,8,8,8,8,8,8,8,8,8,8,8,8,8,8,8,8,8,8,8,8,8,8,8,8,8,8,8,8,8,8,8,8,8,8,8,8,8,8,8,8,8,8,8,8,8,8,8,8,8,8,8,8,8,8,8])) (i:=(IntKind.wrap .u8 j3.1)) (kd:=.u8) (by kernel_rfl) hx5) (y1 3 [2] [] (zN fun u k=>?_))
 obtain rfl:=osi h
 exact zV k [(2,vI (aL j3.2 (IntKind.wrap .i64 x5)))]
 refine y3 2 [0,2,14] [] (qc h (fun h=>?_) fun h=>?_)
 refine y3 3 [0,2] [] (zD (z6 3 fun u k=>?_))
 exact aV ((Int.fdiv j2.1 (2^(min (Int.toNat 8) 64))),(aL j2.2 8)) h k (here (by kernel_rfl))
 refine zM fun u k=>?_
 exact aV (j2.1,j2.2) h k (here (by kernel_rfl))
 refine y3 2 [0,2,8] [] (qc h (fun h=>?_) fun h=>?_)
 refine y3 3 [0,2] [] (zD (z6 3 fun u k=>?_))
 exact aV ((Int.fdiv j1.1 (2^(min (Int.toNat 16) 64))),(aL j1.2 16)) h k (here (by kernel_rfl))
 refine zM fun u k=>?_
 exact aV (j1.1,j1.2) h k (here (by kernel_rfl))
 refine y3 2 [0,2,4] [] (qc h (fun h=>?_) fun h=>?_)
 refine y3 3 [0] [] (zD (z6 1 fun u k=>?_))
 exact aV ((Int.fdiv x0 (2^(min (Int.toNat 32) 64))),32) h k (here (by kernel_rfl))
 refine zM fun u k=>?_
 exact aV (x0,0) h k (here (by kernel_rfl))
theorem W.Xg {x0 r} (h:bits_Len x0=some r):PC G.P 181 [(vK .u64 x0)] [] (vI r) []:=by
 refine zU G Tryz.func181 (yK [0] [] (y3 1 [0] [] (zB (Qw (by kernel_rfl) (by kernel_rfl) (y4 [0] [] (z7 ?_))))))
 refine zA 1 ?_
 obtain ⟨r2,hr2,h⟩:=aA h
 refine qP (W.CF hr2) (y1 1 [2] [] (zN fun u k=>?_))
 obtain rfl:=osi h
 exact zV k [(2,vI r2)]
theorem W.Jt {x0 r} (h:cmp_isNaN_int x0=some r):PC G.P 165 [(vI x0)] [] (vB r) []:=by
 refine zU G Tryz.func165 (yK [0] [] (y3 1 [0] [] (z8 4 ⟨[(2,vB (x0 != x0))],[]⟩ fun u k=>?_)))
 obtain rfl:=osi h
 exact zV k [(2,vB (x0 != x0))]
theorem W.bL {x0 y r} (h:cmp_Compare_int x0 y=some r):PC G.P 129 [(vI x0),(vI y)] [] (vI r) []:=by
 refine zU G Tryz.func129 (yK [0,1] [] (y3 1 [0,1] [] (z7 (zA 1 ?_))))
 obtain ⟨r2,hr2,h⟩:=aA h
 refine qP (W.Jt hr2) (y1 1 [0,1,5] [] (z7 (zA 1 ?_)))
 obtain ⟨r4,hr4,h⟩:=aA h
 refine qP (W.Jt hr4) (y1 1 [0,1,5,6] [] (zB (y3 1 [0,1,6,11] [] (qc h (fun h=>?_) fun h=>?_))))
 refine zB (y3 1 [12] [] (qc h (fun h=>?_) fun h=>?_))
 refine z8 1 ⟨[(4,vI 0)],[]⟩ fun u k=>?_
 refine aO (aO ?_)
 obtain rfl:=osi h
 exact zV k [(4,vI 0)]
 refine y4 [] [] (z8 1 ⟨[(4,vI (-1))],[]⟩ fun u k=>?_)
 refine aO ?_
 obtain rfl:=osi h
 exact zV k [(4,vI (-1))]
 refine y4 [0,1,6] [] (zB (y3 1 [0,1,13] [] (qc h (fun h=>?_) fun h=>?_)))
 refine z8 1 ⟨[(4,vI 1)],[]⟩ fun u k=>?_
 refine aO ?_
 obtain rfl:=osi h
 exact zV k [(4,vI 1)]
 refine y4 [0,1] [] (zB (y3 3 [0,1,16] [] (qc h (fun h=>?_) fun h=>?_)))
 refine z8 1 ⟨[(4,vI (-1))],[]⟩ fun u k=>?_
 refine aO ?_
 obtain rfl:=osi h
 exact zV k [(4,vI (-1))]
 refine y4 [0,1] [] (zB (y3 3 [19] [] (qc h (fun h=>?_) fun h=>?_)))
 refine z8 1 ⟨[(4,vI 1)],[]⟩ fun u k=>?_
 refine aO ?_
 obtain rfl:=osi h
 exact zV k [(4,vI 1)]
 refine y4 [] [] (z8 1 ⟨[(4,vI 0)],[]⟩ fun u k=>?_)
 obtain rfl:=osi h
 exact zV k [(4,vI 0)]
theorem W.pK {a b h0 r} (h:jC a b h0=some r):PC G.P 190 [(.row (.top 1000000) 3),(vI a),(vI b),(.fn 129 [])] [(1000000,.row 3 [] (List.map cI h0))] (.tup []) [(1000000,.row 3 [] (List.map cI r))]:=by
 refine zU G Tryz.func190 (yK [0,1,2,3] [1000000] (y3 3 [0,1,2,3,8] [1000000] (zC ?_)))
 obtain ⟨x813,hx813,h⟩:=aA h
 refine ql hx813 (fun s272=>⟨[(0,ro 1000000 3),(1,vI a),(2,vI b),(3,.fn 129 []),(8,vI s272.1)],[(1000000,wI 3 s272.2)]⟩) (fun x813=>(.exit 0,⟨[],[(1000000,wI 3 x813)]⟩)) qH (fun s272 r h=>?_) fun u k=>?_
 refine zB (y3 3 [0,1,2,3,8,14] [1000000] (qc h (fun h=>?_) fun h=>?_))
 refine y4 [0,1,2,3,8] [1000000] (zB (zC (y3 2 [0,1,2,3,8,9] [1000000] (zC ?_))))
 obtain ⟨x812,hx812,h⟩:=aA h
 refine ql hx812 (fun s723=>⟨[(0,ro 1000000 3),(1,vI a),(2,vI b),(3,.fn 129 []),(8,vI s272.1),(9,vI s723.1)],[(1000000,wI 3 s723.2)]⟩) (fun x812=>(.exit 2,⟨[(0,ro 1000000 3),(1,vI a),(2,vI b),(3,.fn 129 []),(8,vI s272.1)],[(1000000,wI 3 x812)]⟩)) qH (fun s723 r h=>?_) fun u k=>?_
 refine zB (zB ?_)
 obtain ⟨j784,hj784,h⟩:=aA h
 refine gK ⟨[(0,ro 1000000 3),(1,vI a),(2,vI b),(3,.fn 129 []),(8,vI s272.1),(9,vI s723.1),(34,vB j784)],[(1000000,wI 3 s723.2)]⟩ [] [] [] [] [] 14 (by kernel_rfl) (by kernel_rfl) (by kernel_rfl) ?_ fun u k=>?_
 replace h:=hj784
 refine dN 4 (bI (decide (s723.1>a)) (fun b0=>⟨[(21,vB b0),(20,vB b0),(19,vI a),(18,vI s723.1),(0,ro 1000000 3),(1,vI a),(2,vI b),(3,.fn 129 []),(8,vI s272.1),(9,vI s723.1)],[(1000000,wI 3 s723.2)]⟩) (by kernel_rfl) (fun hb=>?_) fun hb=>?_)
 replace h:=iK hb h
 refine dN 3 ?_
 obtain ⟨x785,hx785,h⟩:=aA h
 refine dI cI hx785 (dR cI hx785 (dN 3 ?_))
 obtain ⟨x786,hx786,h⟩:=aA h
 refine dI cI hx786 (dR cI hx786 (dE ?_))
 obtain ⟨r787,hr787,h⟩:=aA h
 refine oP (W.bL hr787) (oN 2 (zO fun u k=>?_))
 cases h
 exact zG k
 replace h:=iJ hb h
 refine dN 10 (dE (oN 3 (zO fun u k=>?_)))
 cases h
 exact zG k
 refine yE k [0,1,2,3,8,9,34] [1000000] (qc h (fun h=>?_) fun h=>?_)
 refine y4 [0,1,2,3,8,9] [1000000] (zB (zC (qN [(15,[1000000])] [] [] [(2,[1000000]),(3,[1000000]),(4,[1000000])] [] 16 (dN 8 ?_))))
 obtain ⟨x808,hx808,h⟩:=aA h
 refine dI cI hx808 (dR cI hx808 (dN 2 ?_))
 obtain ⟨x809,hx809,h⟩:=aA h
 refine dI cI hx809 (dR cI hx809 ?_)
 obtain ⟨x810,hx810,h⟩:=aA h
 refine dI cI hx810 (dS cI x808 hx810 (dE ?_))
 obtain ⟨x811,hx811,h⟩:=aA h
 refine oI cI hx811 (oS cI x809 hx811 (zO fun u k=>?_))
 refine aH (yE k [0,1,2,3,8,9] [1000000] (zD (z6 3 fun u k=>?_)))
 cases h
 exact zH k
 refine zL 2 fun u k=>?_
 refine aQ ?_
 cases h
 exact zF k
 refine zQ (aH (yE k [0,1,2,3,8] [1000000] (zD (z6 3 fun u k=>?_))))
 cases h
 exact zH k
 refine zL 0 fun u k=>?_
 refine aQ ?_
 cases h
 exact zF k
 refine zQ ?_
 obtain rfl:=osi h
 exact yU k [] (here (by kernel_rfl)) (by kernel_rfl)
theorem W.jS {lo hi first h0 r} (h:fT lo hi first h0=some r):PC G.P 212 [(.row (.top 1000000) 3),(vI lo),(vI hi),(vI first),(.fn 129 [])] [(1000000,.row 3 [] (List.map cI h0))] (.tup []) [(1000000,.row 3 [] (List.map cI r))]:=by
 refine zU G Tryz.func212 (yK [0,1,2,3,4] [1000000] (y3 2 [0,2,3,4,10] [1000000] (zC ?_)))
 obtain ⟨x156,hx156,h⟩:=aA h
 refine ql hx156 (fun s53=>⟨[(0,ro 1000000 3),(2,vI hi),(3,vI first),(4,.fn 129 []),(10,vI s53.1)],[(1000000,wI 3 s53.2)]⟩) (fun x156=>match x156 with | .inl j157=>(.exit 0,⟨[],[(1000000,wI 3 j157)]⟩) | .inr j158=>(.ret,⟨[],[(1000000,wI 3 j158)]⟩)) qH (fun s53 r h=>?_) (fun u k=>?_) (hout:=(by intro x;rcases x with _ | _ <;> rfl))
 refine zC (y3 4 [0,2,3,4,10,11] [1000000] (zB (y3 3 [0,2,3,4,10,11,18] [1000000] (qc h (fun h=>?_) fun h=>?_))))
 refine zL 0 fun u k=>?_
 refine aQ (Ue (by kernel_rfl) ?_)
 cases h
 exact zF k
 refine y4 [0,2,3,4,10,11] [1000000] (bU (fun (j115:Int)=>⟨[(0,ro 1000000 3),(2,vI hi),(3,vI first),(4,.fn 129 []),(10,vI s53.1),(11,vI j115)],[(1000000,wI 3 s53.2)]⟩) (eZ first s53) r (by kernel_rfl) (fun j115 h=>?_) ?_)
 refine zB (zB (qM 13 (dN 5 ?_)))
 obtain ⟨x131,hx131,h⟩:=aA h
 refine dI cI hx131 (dR cI hx131 (dN 4 ?_))
 obtain ⟨x132,hx132,h⟩:=aA h
 refine dI cI hx132 (dR cI hx132 (dE ?_))
 obtain ⟨r133,hr133,h⟩:=aA h
 refine oP (W.bL hr133) (oN 2 (zO fun u k=>?_))
 refine yE k [0,2,3,4,10,11,58] [1000000] (qc h (fun h=>?_) fun h=>?_)
 refine zN fun u k=>?_
 refine aO (aT ?_)
 cases h
 exact zF k
 refine y4 [0,2,3,4,10,11] [1000000] (zB (qN [(21,[1000000])] [] [] [(4,[1000000]),(5,[1000000]),(6,[1000000]),(7,[1000000])] [] 22 (dN 12 ?_)))
 obtain ⟨x142,hx142,h⟩:=aA h
 refine dI cI hx142 (dR cI hx142 (dN 4 ?_))
 obtain ⟨x143,hx143,h⟩:=aA h
 refine dI cI hx143 (dR cI hx143 ?_)
 obtain ⟨x144,hx144,h⟩:=aA h
 refine dI cI hx144 (dS cI x142 hx144 (dE ?_))
 obtain ⟨x145,hx145,h⟩:=aA h
 refine oI cI hx145 (oS cI x143 hx145 (zO fun u k=>?_))
 refine yE k [0,2,3,4,11] [1000000] (zD (z6 2 fun u k=>?_))
 refine aH ?_
 cases h
 exact zH k
 refine zB ?_
 obtain ⟨j152,hj152,h⟩:=aA h
 refine gK ⟨[(0,ro 1000000 3),(2,vI hi),(3,vI first),(4,.fn 129 []),(10,vI s53.1),(11,vI (aL (mZ 2 s53.1) 1)),(40,vB j152)],[(1000000,wI 3 s53.2)]⟩ [] [] [] [] [] 19 (by kernel_rfl) (by kernel_rfl) (by kernel_rfl) ?_ fun u k=>?_
 replace h:=hj152
 refine dN 5 (bI (decide ((aL (aL (mZ 2 s53.1) 1) 1)<hi)) (fun b0=>⟨[(23,vB b0),(22,vB b0),(21,vI hi),(20,vI (aL (aL (mZ 2 s53.1) 1) 1)),(19,vI (aL (mZ 2 s53.1) 1)),(0,ro 1000000 3),(2,vI hi),(3,vI first),(4,.fn 129 []),(10,vI s53.1),(11,vI (aL (mZ 2 s53.1) 1))],[(1000000,wI 3 s53.2)]⟩) (by kernel_rfl) (fun hb=>?_) fun hb=>?_)
 replace h:=iK hb h
 refine dN 5 ?_
 obtain ⟨x153,hx153,h⟩:=aA h
 refine dI cI hx153 (dR cI hx153 (dN 5 ?_))
 obtain ⟨x154,hx154,h⟩:=aA h
 refine dI cI hx154 (dR cI hx154 (dE ?_))
 obtain ⟨r155,hr155,h⟩:=aA h
 refine oP (W.bL hr155) (oN 2 (zO fun u k=>?_))
 cases h
 exact zG k
 replace h:=iJ hb h
 refine dN 14 (dE (oN 3 (zO fun u k=>?_)))
 cases h
 exact zG k
 refine yE k [0,2,3,4,10,11,40] [1000000] (qc h (fun h=>?_) fun h=>?_)
 refine zD (z6 3 fun u k=>?_)
 exact aV (aL (aL (mZ 2 s53.1) 1) 1) h k (here (by kernel_rfl))
 refine zM fun u k=>?_
 exact aV (aL (mZ 2 s53.1) 1) h k (here (by kernel_rfl))
 rcases x156 with j157 | j158
 refine zQ ?_
 obtain rfl:=osi h
 exact yU k [] (here (by kernel_rfl)) (by kernel_rfl)
 refine aT ?_
 obtain rfl:=osi h
 exact zV k []
theorem W.tZ {a b h0 r} (h:kT a b h0=some r):PC G.P 191 [(.row (.top 1000000) 3),(vI a),(vI b),(.fn 129 [])] [(1000000,.row 3 [] (List.map cI h0))] (.tup []) [(1000000,.row 3 [] (List.map cI r))]:=by
 refine zU G Tryz.func191 (yK [0,1,2,3] [1000000] (y3 2 [0,1,2,3,8] [1000000] (y3 1 [0,1,2,3,8,9] [1000000] (y3 4 [0,3,8,9,10] [1000000] (zB (y3 4 [0,3,8,9,10,11] [1000000] ?_))))))
 refine zC ?_
 obtain ⟨x30,hx30,h⟩:=aA h
 refine ql hx30 (fun s21=>⟨[(0,ro 1000000 3),(3,.fn 129 []),(8,vI a),(9,vI 0),(10,vI (aJ b a)),(11,vI s21.1)],[(1000000,wI 3 s21.2)]⟩) (fun x30=>(.exit 0,⟨[(0,ro 1000000 3),(3,.fn 129 []),(8,vI a),(9,vI 0),(10,vI (aJ b a))],[(1000000,wI 3 x30)]⟩)) qH (fun s21 r h=>?_) fun u k=>?_
 refine zB (y3 2 [0,3,8,9,10,11,21] [1000000] (qc h (fun h=>?_) fun h=>?_))
 refine y4 [0,3,8,9,10,11] [1000000] (zB (zC (zD (zA 5 ?_))))
 obtain ⟨r29,hr29,h⟩:=aA h
 refine qC [(1000000,1000000)] [] (W.jS hr29) (zP fun u k=>?_)
 refine aH (yE k [0,3,8,9,10,11] [1000000] (zD (z6 3 fun u k=>?_)))
 cases h
 exact zH k
 refine zL 0 fun u k=>?_
 refine aQ ?_
 cases h
 exact zF k
 refine zQ (yE k [0,3,8,9,10] [1000000] (y3 3 [0,3,8,9,12] [1000000] (zC ?_)))
 obtain ⟨x117,hx117,h⟩:=aA h
 refine ql hx117 (fun s60=>⟨[(0,ro 1000000 3),(3,.fn 129 []),(8,vI a),(9,vI 0),(12,vI s60.1)],[(1000000,wI 3 s60.2)]⟩) (fun x117=>(.exit 2,⟨[],[(1000000,wI 3 x117)]⟩)) qH (fun s60 r h=>?_) fun u k=>?_
 refine zB (y3 2 [0,3,8,9,12,33] [1000000] (qc h (fun h=>?_) fun h=>?_))
 refine y4 [0,3,8,9,12] [1000000] (zB (zC (zB (qN [(17,[1000000])] [] [] [(2,[1000000]),(3,[1000000]),(4,[1000000]),(5,[1000000])] [] 18 (dN 10 ?_)))))
 obtain ⟨x111,hx111,h⟩:=aA h
 refine dI cI hx111 (dR cI hx111 (dN 2 ?_))
 obtain ⟨x112,hx112,h⟩:=aA h
 refine dI cI hx112 (dR cI hx112 ?_)
 obtain ⟨x113,hx113,h⟩:=aA h
 refine dI cI hx113 (dS cI x111 hx113 (dE ?_))
 obtain ⟨x114,hx114,h⟩:=aA h
 refine oI cI hx114 (oS cI x112 hx114 (zO fun u k=>?_))
 refine yE k [0,3,8,9,12] [1000000] (zD (zA 5 ?_))
 obtain ⟨r116,hr116,h⟩:=aA h
 refine qC [(1000000,1000000)] [] (W.jS hr116) (zP fun u k=>?_)
 refine aH (yE k [0,3,8,9,12] [1000000] (zD (z6 3 fun u k=>?_)))
 cases h
 exact zH k
 refine zL 2 fun u k=>?_
 refine aQ ?_
 cases h
 exact zF k
 refine zQ ?_
 obtain rfl:=osi h
 exact yU k [] (here (by kernel_rfl)) (by kernel_rfl)
theorem W.Jm {length r} (h:Av length=some r):PC G.P 213 [(vI length)] [] (vK .u64 r) []:=by
 refine zU G Tryz.func213 (yK [0] [] (y3 1 [0] [] (z7 (zA 2 ?_))))
 obtain ⟨r2,hr2,h⟩:=aA h
 refine qP (W.Xg hr2) ?_
 obtain ⟨hb,h⟩:=XV h
 refine iI (H8 (a:=1) (b:=r2) (kd:=.u64) (k2:=.i64) (by kernel_rfl) (of_decide_eq_true hb)) (y1 1 [2] [] (zN fun u k=>?_))
 obtain rfl:=osi h
 exact zV k [(2,vK .u64 (IntKind.wrap .u64 (1*2^(min (Int.toNat r2) 64))))]
theorem W.Na {h0_0 r} (h:Dr h0_0=some r):PC G.P 214 [(.ptr 1000000 0)] [(1000000,.box [(vK .u64 h0_0)])] (vK .u64 r) [(1000000,.box [(vK .u64 (jT .u64 (jT .u64 (jT .u64 h0_0 (IntKind.wrap .u64 (h0_0*2^(min (Int.toNat 13) 64)))) (Int.fdiv (jT .u64 h0_0 (IntKind.wrap .u64 (h0_0*2^(min (Int.toNat 13) 64)))) (2^(min (Int.toNat 7) 64)))) (IntKind.wrap .u64 ((jT .u64 (jT .u64 h0_0 (IntKind.wrap .u64 (h0_0*2^(min (Int.toNat 13) 64)))) (Int.fdiv (jT .u64 h0_0 (IntKind.wrap .u64 (h0_0*2^(min (Int.toNat 13) 64)))) (2^(min (Int.toNat 7) 64))))*2^(min (Int.toNat 17) 64)))))])]:=by
 refine zU G Tryz.func214 (yK [0] [1000000] (y3 1 [0] [1000000] (zB (qM 7 (dN 7 (dE ?_))))))
 refine oN 3 (zO fun u k=>?_)
 refine yE k [0] [1000000] (zB (qM 7 (dN 7 (dE (oN 3 (zO fun u k=>?_))))))
 refine yE k [0] [1000000] (zB (qM 7 (dN 7 (dE (oN 3 (zO fun u k=>?_))))))
 refine yE k [0] [1000000] (z8 4 ⟨[(2,vK .u64 (jT .u64 (jT .u64 (jT .u64 h0_0 (IntKind.wrap .u64 (h0_0*2^(min (Int.toNat 13) 64)))) (Int.fdiv (jT .u64 h0_0 (IntKind.wrap .u64 (h0_0*2^(min (Int.toNat 13) 64)))) (2^(min (Int.toNat 7) 64)))) (IntKind.wrap .u64 ((jT .u64 (jT .u64 h0_0 (IntKind.wrap .u64 (h0_0*2^(min (Int.toNat 13) 64)))) (Int.fdiv (jT .u64 h0_0 (IntKind.wrap .u64 (h0_0*2^(min (Int.toNat 13) 64)))) (2^(min (Int.toNat 7) 64))))*2^(min (Int.toNat 17) 64)))))],[(1000000,.box [(vK .u64 (jT .u64 (jT .u64 (jT .u64 h0_0 (IntKind.wrap .u64 (h0_0*2^(min (Int.toNat 13) 64)))) (Int.fdiv (jT .u64 h0_0 (IntKind.wrap .u64 (h0_0*2^(min (Int.toNat 13) 64)))) (2^(min (Int.toNat 7) 64)))) (IntKind.wrap .u64 ((jT .u64 (jT .u64 h0_0 (IntKind.wrap .u64 (h0_0*2^(min (Int.toNat 13) 64)))) (Int.fdiv (jT .u64 h0_0 (IntKind.wrap .u64 (h0_0*2^(min (Int.toNat 13) 64)))) (2^(min (Int.toNat 7) 64))))*2^(min (Int.toNat 17) 64)))))])]⟩ fun u k=>?_)
 obtain rfl:=osi h
 exact zV k [(2,vK .u64 (jT .u64 (jT .u64 (jT .u64 h0_0 (IntKind.wrap .u64 (h0_0*2^(min (Int.toNat 13) 64)))) (Int.fdiv (jT .u64 h0_0 (IntKind.wrap .u64 (h0_0*2^(min (Int.toNat 13) 64)))) (2^(min (Int.toNat 7) 64)))) (IntKind.wrap .u64 ((jT .u64 (jT .u64 h0_0 (IntKind.wrap .u64 (h0_0*2^(min (Int.toNat 13) 64)))) (Int.fdiv (jT .u64 h0_0 (IntKind.wrap .u64 (h0_0*2^(min (Int.toNat 13) 64)))) (2^(min (Int.toNat 7) 64))))*2^(min (Int.toNat 17) 64)))))]
theorem W.pG {a b h0 r} (h:jB a b h0=some r):PC G.P 192 [(.row (.top 1000000) 3),(vI a),(vI b),(.fn 129 [])] [(1000000,.row 3 [] (List.map cI h0))] (.tup []) [(1000000,.row 3 [] (List.map cI r))]:=by
 refine zU G Tryz.func192 (yK [0,1,2] [1000000] (y3 4 [0,1,8] [1000000] (y3 2 [0,1,8,17] [1000000] (qc h (fun h=>?_) fun h=>?_))))
 refine y3 4 [0,1,8,9] [9,1000000] (z7 (zA 1 ?_))
 obtain ⟨r2,hr2,h⟩:=aA h
 refine qP (W.Jm hr2) (y1 1 [0,1,8,9,10] [9,1000000] (y3 7 [0,1,8,9,10,11] [9,1000000] (zC ?_)))
 obtain ⟨x95,hx95,h⟩:=aA h
 refine ql hx95 (fun s34=>⟨[(0,ro 1000000 3),(1,vI a),(8,vI (aJ b a)),(9,.ptr 500000 0),(10,vK .u64 r2),(11,vI s34.1)],[(500000,.box [(vK .u64 s34.2.1)]),(1000000,wI 3 s34.2.2)]⟩) (fun x95=>(.exit 0,⟨[],[(1000000,wI 3 x95)]⟩)) (sp [] [(9,500000),(1000000,1000000)]) (fun s34 r h=>?_) fun u k=>?_
 refine zB (y3 8 [0,1,8,9,10,11,35] [500000,1000000] (qc h (fun h=>?_) fun h=>?_))
 refine y4 [0,1,8,9,10,11] [500000,1000000] (zB (zC (z7 ?_)))
 obtain ⟨r81,hr81,h⟩:=aA h
 refine qC [(1000000,500000)] [] (W.Na hr81) (y1 5 [0,1,8,9,10,11,12] [500000,1000000] (bU (fun (j82:Int)=>⟨[(0,ro 1000000 3),(1,vI a),(8,vI (aJ b a)),(9,.ptr 500000 0),(10,vK .u64 r2),(11,vI s34.1),(12,vI j82)],[(500000,.box [(vK .u64 (jT .u64 (jT .u64 (jT .u64 s34.2.1 (IntKind.wrap .u64 (s34.2.1*2^(min (Int.toNat 13) 64)))) (Int.fdiv (jT .u64 s34.2.1 (IntKind.wrap .u64 (s34.2.1*2^(min (Int.toNat 13) 64)))) (2^(min (Int.toNat 7) 64)))) (IntKind.wrap .u64 ((jT .u64 (jT .u64 s34.2.1 (IntKind.wrap .u64 (s34.2.1*2^(min (Int.toNat 13) 64)))) (Int.fdiv (jT .u64 s34.2.1 (IntKind.wrap .u64 (s34.2.1*2^(min (Int.toNat 13) 64)))) (2^(min (Int.toNat 7) 64))))*2^(min (Int.toNat 17) 64)))))]),(1000000,wI 3 s34.2.2)]⟩) (dK a s34) r (by kernel_rfl) (fun j82 h=>?_) ?_))
 refine qN [(17,[1000000])] [] [] [(2,[1000000]),(3,[1000000]),(4,[1000000]),(5,[1000000])] [] 18 (dN 10 ?_)
 obtain ⟨x91,hx91,h⟩:=aA h
 refine dI cI hx91 (dR cI hx91 (dN 2 ?_))
 obtain ⟨x92,hx92,h⟩:=aA h
 refine dI cI hx92 (dR cI hx92 ?_)
 obtain ⟨x93,hx93,h⟩:=aA h
 refine dI cI hx93 (dS cI x91 hx93 (dE ?_))
 obtain ⟨x94,hx94,h⟩:=aA h
 refine oI cI hx94 (oS cI x92 hx94 (zO fun u k=>?_))
 refine aH (yE k [0,1,8,9,10,11] [500000,1000000] (zD (z6 3 fun u k=>?_)))
 cases h
 exact zH k
 refine y3 3 [0,1,8,9,10,11,12,45] [500000,1000000] (qc h (fun h=>?_) fun h=>?_)
 refine zD (z6 4 fun u k=>?_)
 exact aV (aJ (IntKind.wrap .i64 (Uz .u64 r81 (IntKind.wrap .u64 (r2-1)))) (aJ b a)) h k (here (by kernel_rfl))
 refine zM fun u k=>?_
 exact aV (IntKind.wrap .i64 (Uz .u64 r81 (IntKind.wrap .u64 (r2-1)))) h k (here (by kernel_rfl))
 refine zL 0 fun u k=>?_
 refine aQ ?_
 cases h
 exact zF k
 refine zQ ?_
 obtain rfl:=osi h
 exact yU k [] (here (by kernel_rfl)) (by kernel_rfl)
 refine zM fun u k=>?_
 obtain rfl:=osi h
 exact yU k [] (here (by kernel_rfl)) (by kernel_rfl)
end Go.Proofs.YtgfjbgoehhnaeaaGreat
