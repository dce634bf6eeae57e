/- Each Go function does what its model says; written by a program out of the translation. -/
import Derived.Test.YtgfjbgoehhnaeaaGreatWG
import Derived.Test.YtgfjbgoehhnaeaaGreatCzMG
set_option linter.unusedVariables false
set_option linter.unusedSimpArgs false
set_option linter.unusedSectionVars false
namespace Go.Proofs.YtgfjbgoehhnaeaaGreat
open Go Go.VI Go.SM Go.Proofs
set_option maxRecDepth 100000
set_option maxHeartbeats 4000000
theorem W.slices_order2CmpFunc_int__cmp_Compare_int_ok {data a b h0_0 r} (h : slices_order2CmpFunc_int__cmp_Compare_int data a b h0_0=some r) : PC G.P 220 [(.sl (List.map cI data)),(vI a),(vI b),(.ptr 1000000 0),(.fn 129 [])] [(1000000,.box [(vI h0_0)])] (.tup [(vI r.1),(vI r.2.1)]) [(1000000,.box [(vI r.2.2)])]:=by
 refine zU G Tryz.func220 (yK [0,1,2,3,4] [1000000] (y3 2 [0,1,2,3,4] [1000000] (zB (zB (qM 9 (dN 3 ?_))))))
 obtain ⟨x16,hx16,h⟩:=bindS h
 refine dX cI hx16 (dN 3 ?_)
 obtain ⟨x17,hx17,h⟩:=bindS h
 refine dX cI hx17 (dN 1 (dE ?_))
 obtain ⟨r18,hr18,h⟩:=bindS h
 refine oP (W.cmp_Compare_int_ok hr18) (oN 1 (zO fun τ hτ=>?_))
 refine yE hτ [1,2,3,22] [1000000] (qc h (fun h=>?_) fun h=>?_)
 refine y3 6 [1,2] [1000000] (z8 4 ⟨[(10,vI b),(11,vI a)],[(1000000,.box [(vI (iadd h0_0 1))])]⟩ fun τ hτ=>?_)
 refine th_ret ?_
 obtain rfl:=osi h
 exact zV hτ [(10,vI b),(11,vI a)]
 refine y4 [1,2] [1000000] (z8 4 ⟨[(10,vI a),(11,vI b)],[(1000000,.box [(vI h0_0)])]⟩ fun τ hτ=>?_)
 obtain rfl:=osi h
 exact zV hτ [(10,vI a),(11,vI b)]
theorem W.slices_medianCmpFunc_int__cmp_Compare_int_ok {data a b c h0_0 r} (h : slices_medianCmpFunc_int__cmp_Compare_int data a b c h0_0=some r) : PC G.P 216 [(.sl (List.map cI data)),(vI a),(vI b),(vI c),(.ptr 1000000 0),(.fn 129 [])] [(1000000,.box [(vI h0_0)])] (vI r.1) [(1000000,.box [(vI r.2)])]:=by
 refine zU G Tryz.func216 (yK [0,1,2,3,4,5] [1000000] (y3 1 [0,1,2,3,4,5] [1000000] (z7 (zA 5 ?_))))
 obtain ⟨r2,hr2,h⟩:=bindS h
 refine qC [(1000000,1000000)] [] (W.slices_order2CmpFunc_int__cmp_Compare_int_ok hr2) (y1 5 [0,1,2,3,4,5] [1000000] (z7 (zA 5 ?_)))
 obtain ⟨r4,hr4,h⟩:=bindS h
 refine qC [(1000000,1000000)] [] (W.slices_order2CmpFunc_int__cmp_Compare_int_ok hr4) (y1 5 [0,1,2,4,5] [1000000] (z7 (zA 5 ?_)))
 obtain ⟨r6,hr6,h⟩:=bindS h
 refine qC [(1000000,1000000)] [] (W.slices_order2CmpFunc_int__cmp_Compare_int_ok hr6) (y1 5 [2] [1000000] (z8 2 ⟨[(12,vI r6.2.1)],[(1000000,.box [(vI r6.2.2)])]⟩ fun τ hτ=>?_))
 obtain rfl:=osi h
 exact zV hτ [(12,vI r6.2.1)]
theorem W.slices_medianAdjacentCmpFunc_int__cmp_Compare_int_ok {data a h0_0 r} (h : slices_medianAdjacentCmpFunc_int__cmp_Compare_int data a h0_0=some r) : PC G.P 215 [(.sl (List.map cI data)),(vI a),(.ptr 1000000 0),(.fn 129 [])] [(1000000,.box [(vI h0_0)])] (vI r.1) [(1000000,.box [(vI r.2)])]:=by
 refine zU G Tryz.func215 (yK [0,1,2,3] [1000000] (y3 1 [0,1,2,3] [1000000] (z7 (zA 8 ?_))))
 obtain ⟨r2,hr2,h⟩:=bindS h
 refine qC [(1000000,1000000)] [] (W.slices_medianCmpFunc_int__cmp_Compare_int_ok hr2) (y1 1 [8] [1000000] (zN fun τ hτ=>?_))
 obtain rfl:=osi h
 exact zV hτ [(8,vI r2.1)]
theorem W.slices_choosePivotCmpFunc_int__cmp_Compare_int_ok {data a b r} (h : slices_choosePivotCmpFunc_int__cmp_Compare_int data a b=some r) : PC G.P 193 [(.sl (List.map cI data)),(vI a),(vI b),(.fn 129 [])] [] (.tup [(vI r.1),(vI r.2)]) []:=by
 refine zU G Tryz.func193 (yK [0,1,2,3] [] (y3 2 [0,1,2,3] [] (y3 4 [0,1,3,10] [] (y3 1 [0,1,3,10,11] [11] (y3 6 [0,1,3,10,11,12] [11] (y3 6 [0,1,3,10,11,12,13] [11] ?_))))))
 refine y3 6 [0,3,10,11,12,13,14] [11] (sem_seqJ (fun (j16 : Int×Int)=>⟨[(11,.ptr 500000 0),(13,vI j16.1)],[(500000,.box [(vI j16.2)])]⟩) (slices_choosePivotCmpFunc_int__cmp_Compare_int_k1) r (by kernel_rfl) (fun j16 h=>?_) ?_)
 refine y3 1 [13,55] [] (zC (y3 2 [13,55,57] [] (qc h (fun h=>?_) fun h=>?_)))
 refine z8 3 ⟨[(8,vI j16.1),(9,vI 1)],[]⟩ fun τ hτ=>?_
 refine bl_ret ?_
 obtain rfl:=osi h
 exact zV hτ [(8,vI j16.1),(9,vI 1)]
 refine y3 2 [13,60] [] (qc h (fun h=>?_) fun h=>?_)
 refine z8 3 ⟨[(8,vI j16.1),(9,vI 2)],[]⟩ fun τ hτ=>?_
 refine bl_ret ?_
 obtain rfl:=osi h
 exact zV hτ [(8,vI j16.1),(9,vI 2)]
 refine z8 3 ⟨[(8,vI j16.1),(9,vI 0)],[]⟩ fun τ hτ=>?_
 refine bl_ret ?_
 obtain rfl:=osi h
 exact zV hτ [(8,vI j16.1),(9,vI 0)]
 refine y3 2 [0,3,10,11,12,13,14,34] [11] (qc h (fun h=>?_) fun h=>?_)
 refine sem_seqJ (fun (j23 : Int×Int×Int×Int)=>⟨[(0,sI data),(3,.fn 129 []),(11,.ptr 500000 0),(12,vI j23.1),(13,vI j23.2.1),(14,vI j23.2.2.1)],[(500000,.box [(vI j23.2.2.2)])]⟩) (slices_choosePivotCmpFunc_int__cmp_Compare_int_k2 data) r (by kernel_rfl) (fun j23 h=>?_) ?_
 refine zD (zA 5 ?_)
 obtain ⟨r25,hr25,h⟩:=bindS h
 refine qC [(1000000,500000)] [] (W.slices_medianCmpFunc_int__cmp_Compare_int_ok hr25) (z6 1 fun τ hτ=>?_)
 exact jk_normal (r25.1,r25.2) h hτ (here (by kernel_rfl))
 refine y3 2 [0,3,11,12,13,14,36] [11] (qc h (fun h=>?_) fun h=>?_)
 refine z7 (zA 3 ?_)
 obtain ⟨r27,hr27,h⟩:=bindS h
 refine qC [(1000000,11)] [] (W.slices_medianAdjacentCmpFunc_int__cmp_Compare_int_ok hr27) (y1 1 [0,3,11,12,13,14] [11] (z7 (zA 3 ?_)))
 obtain ⟨r29,hr29,h⟩:=bindS h
 refine qC [(1000000,11)] [] (W.slices_medianAdjacentCmpFunc_int__cmp_Compare_int_ok hr29) (y1 1 [0,3,11,12,13,14] [11] (zD (zA 3 ?_)))
 obtain ⟨r31,hr31,h⟩:=bindS h
 refine qC [(1000000,11)] [] (W.slices_medianAdjacentCmpFunc_int__cmp_Compare_int_ok hr31) (z6 1 fun τ hτ=>?_)
 exact jk_normal (r27.1,r29.1,r31.1,r31.2) h hτ (sp [] [(11,500000)])
 refine zM fun τ hτ=>?_
 exact jk_normal ((iadd a (imul (iquo (isub b a) 4) 1)),(iadd a (imul (iquo (isub b a) 4) 2)),(iadd a (imul (iquo (isub b a) 4) 3)),0) h hτ (sp [] [(11,500000)])
 refine zM fun τ hτ=>?_
 exact jk_normal ((iadd a (imul (iquo (isub b a) 4) 2)),0) h hτ (sp [] [(11,500000)])
theorem W.slices_reverseRangeCmpFunc_int__cmp_Compare_int_ok {a b h0 r} (h : slices_reverseRangeCmpFunc_int__cmp_Compare_int a b h0=some r) : PC G.P 194 [(.row (.top 1000000) 3),(vI a),(vI b),(.fn 129 [])] [(1000000,.row 3 [] (List.map cI h0))] (.tup []) [(1000000,.row 3 [] (List.map cI r))]:=by
 refine zU G Tryz.func194 (yK [0,1,2] [1000000] (y3 2 [0,2,8] [1000000] (y3 3 [0,8,9] [1000000] (zC ?_))))
 obtain ⟨x39,hx39,h⟩:=bindS h
 refine ql hx39 (fun s14=>⟨[(0,ro 1000000 3),(8,vI s14.1),(9,vI s14.2.1)],[(1000000,wI 3 s14.2.2)]⟩) (fun x39=>(.exit 0,⟨[],[(1000000,wI 3 x39)]⟩)) qH (fun s14 r h=>?_) fun τ hτ=>?_
 refine zB (y3 3 [0,8,9,15] [1000000] (qc h (fun h=>?_) fun h=>?_))
 refine y4 [0,8,9] [1000000] (zC (zB (qN [(13,[1000000])] [] [] [(2,[1000000]),(3,[1000000])] [] 14 (dN 6 ?_))))
 obtain ⟨x35,hx35,h⟩:=bindS h
 refine dI cI hx35 (dR cI hx35 (dN 2 ?_))
 obtain ⟨x36,hx36,h⟩:=bindS h
 refine dI cI hx36 (dR cI hx36 ?_)
 obtain ⟨x37,hx37,h⟩:=bindS h
 refine dI cI hx37 (dS cI x35 hx37 (dE ?_))
 obtain ⟨x38,hx38,h⟩:=bindS h
 refine oI cI hx38 (oS cI x36 hx38 (zO fun τ hτ=>?_))
 refine yE hτ [0,8,9] [1000000] (y3 3 [0,8,9] [1000000] (zD (z6 3 fun τ hτ=>?_)))
 refine bl_normal ?_
 cases h
 exact zH hτ
 refine zL 0 fun τ hτ=>?_
 refine th_exit ?_
 cases h
 exact zF hτ
 refine zQ ?_
 obtain rfl:=osi h
 exact rk_normal hτ [] (here (by kernel_rfl)) (by kernel_rfl)
theorem W.slices_partialInsertionSortCmpFunc_int__cmp_Compare_int_ok {a b h0 r} (h : slices_partialInsertionSortCmpFunc_int__cmp_Compare_int a b h0=some r) : PC G.P 195 [(.row (.top 1000000) 3),(vI a),(vI b),(.fn 129 [])] [(1000000,.row 3 [] (List.map cI h0))] (vB r.1) [(1000000,.row 3 [] (List.map cI r.2))]:=by
 refine zU G Tryz.func195 (yK [0,1,2,3] [1000000] (y3 1 [0,1,2,3] [1000000] (y3 3 [0,1,2,3,9] [1000000] (zB (y3 1 [0,1,2,3,9,10] [1000000] (zC ?_))))))
 obtain ⟨x8270,hx8270,h⟩:=bindS h
 refine ql hx8270 (fun s5515=>⟨[(0,ro 1000000 3),(1,vI a),(2,vI b),(3,.fn 129 []),(9,vI s5515.1),(10,vI s5515.2.1)],[(1000000,wI 3 s5515.2.2)]⟩) (fun x8270=>match x8270 with | .inl j8271=>(.ret,⟨[(8,vB j8271.1)],[(1000000,wI 3 j8271.2)]⟩) | .inr j8272=>(.exit 0,⟨[],[(1000000,wI 3 j8272)]⟩)) qH (fun s5515 r h=>?_) (fun τ hτ=>?_) (hout:=(by intro x; rcases x with _ | _ <;> rfl))
 refine zB (y3 2 [0,1,2,3,9,10,16] [1000000] (qc h (fun h=>?_) fun h=>?_))
 refine y4 [0,1,2,3,9,10] [1000000] (sem_seqJ (fun (j7581 : Int×(List Int))=>⟨[(0,ro 1000000 3),(1,vI a),(2,vI b),(3,.fn 129 []),(9,vI j7581.1),(10,vI s5515.2.1)],[(1000000,wI 3 j7581.2)]⟩) (slices_partialInsertionSortCmpFunc_int__cmp_Compare_int_k1 s5515) r (by kernel_rfl) (fun j7581 h=>?_) ?_)
 refine zD (z6 3 fun τ hτ=>?_)
 cases h
 exact zH hτ
 refine zC (zB (zC ?_))
 obtain ⟨x7707,hx7707,h⟩:=bindS h
 refine ql hx7707 (fun s7666=>⟨[(0,ro 1000000 3),(1,vI a),(2,vI b),(3,.fn 129 []),(9,vI s7666),(10,vI s5515.2.1)],[(1000000,wI 3 s5515.2.2)]⟩) (fun x7707=>(.exit 2,⟨[(0,ro 1000000 3),(1,vI a),(2,vI b),(3,.fn 129 []),(9,vI x7707),(10,vI s5515.2.1)],[(1000000,wI 3 s5515.2.2)]⟩)) qH (fun s7666 r h=>?_) fun τ hτ=>?_
 refine zB (zB ?_)
 obtain ⟨j7703,hj7703,h⟩:=bindS h
 refine sem_drawP ⟨[(0,ro 1000000 3),(1,vI a),(2,vI b),(3,.fn 129 []),(9,vI s7666),(10,vI s5515.2.1),(36,vB j7703)],[(1000000,wI 3 s5515.2.2)]⟩ [] [] [] [] [] 14 (by kernel_rfl) (by kernel_rfl) (by kernel_rfl) ?_ fun τ hτ=>?_
 replace h:=hj7703
 refine dN 4 (evd_split (decide (s7666 < b)) (fun b0=>⟨[(22,vB b0),(21,vB b0),(20,vI b),(19,vI s7666),(0,ro 1000000 3),(1,vI a),(2,vI b),(3,.fn 129 []),(9,vI s7666),(10,vI s5515.2.1)],[(1000000,wI 3 s5515.2.2)]⟩) (by kernel_rfl) (fun hb=>?_) fun hb=>?_)
 replace h:=iteT hb h
 refine dN 3 ?_
 obtain ⟨x7704,hx7704,h⟩:=bindS h
 refine dI cI hx7704 (dR cI hx7704 (dN 3 ?_))
 obtain ⟨x7705,hx7705,h⟩:=bindS h
 refine dI cI hx7705 (dR cI hx7705 (dE ?_))
 obtain ⟨r7706,hr7706,h⟩:=bindS h
 refine oP (W.cmp_Compare_int_ok hr7706) (oN 3 (zO fun τ hτ=>?_))
 cases h
 exact zG hτ
 replace h:=iteF hb h
 refine dN 10 (dE (oN 4 (zO fun τ hτ=>?_)))
 cases h
 exact zG hτ
 refine yE hτ [0,1,2,3,9,10,36] [1000000] (qc h (fun h=>?_) fun h=>?_)
 refine y4 [0,1,2,3,9,10] [1000000] (zC (zD (z6 3 fun τ hτ=>?_)))
 refine bl_normal ?_
 cases h
 exact zH hτ
 refine zL 2 fun τ hτ=>?_
 refine th_exit ?_
 cases h
 exact zF hτ
 refine zQ (yE hτ [0,1,2,3,9,10] [1000000] (zB (y3 3 [0,1,2,3,9,10,41] [1000000] (qc h (fun h=>?_) fun h=>?_))))
 refine z8 1 ⟨[(8,vB true)],[(1000000,wI 3 s5515.2.2)]⟩ fun τ hτ=>?_
 refine th_ret (bl_ret (jk_ret ?_))
 cases h
 exact zF hτ
 refine y4 [0,1,2,3,9,10] [1000000] (zB (y3 4 [0,1,2,3,9,10,45] [1000000] (qc h (fun h=>?_) fun h=>?_)))
 refine z8 1 ⟨[(8,vB false)],[(1000000,wI 3 s5515.2.2)]⟩ fun τ hτ=>?_
 refine th_ret (bl_ret (jk_ret ?_))
 cases h
 exact zF hτ
 refine y4 [0,1,2,3,9,10] [1000000] (zB (qN [(15,[1000000])] [] [] [(2,[1000000]),(3,[1000000]),(4,[1000000])] [] 16 (dN 8 ?_)))
 obtain ⟨x7716,hx7716,h⟩:=bindS h
 refine dI cI hx7716 (dR cI hx7716 (dN 2 ?_))
 obtain ⟨x7717,hx7717,h⟩:=bindS h
 refine dI cI hx7717 (dR cI hx7717 ?_)
 obtain ⟨x7718,hx7718,h⟩:=bindS h
 refine dI cI hx7718 (dS cI x7716 hx7718 (dE ?_))
 obtain ⟨x7719,hx7719,h⟩:=bindS h
 refine oI cI hx7719 (oS cI x7717 hx7719 (zO fun τ hτ=>?_))
 refine yE hτ [0,1,2,3,9,10] [1000000] (sem_seqJ (fun (j7903 : (List Int))=>⟨[(0,ro 1000000 3),(1,vI a),(2,vI b),(3,.fn 129 []),(9,vI x7707),(10,vI s5515.2.1)],[(1000000,wI 3 j7903)]⟩) (slices_partialInsertionSortCmpFunc_int__cmp_Compare_int_k4 b s5515 x7707) r (by kernel_rfl) (fun j7903 h=>?_) ?_)
 refine y3 4 [0,1,2,3,9,10,104] [1000000] (qc h (fun h=>?_) fun h=>?_)
 refine y3 3 [0,1,2,3,9,10,12] [1000000] (zC ?_)
 obtain ⟨x8086,hx8086,h⟩:=bindS h
 refine ql hx8086 (fun s7965=>⟨[(0,ro 1000000 3),(1,vI a),(2,vI b),(3,.fn 129 []),(9,vI x7707),(10,vI s5515.2.1),(12,vI s7965.1)],[(1000000,wI 3 s7965.2)]⟩) (fun x8086=>(.exit 6,⟨[(0,ro 1000000 3),(1,vI a),(2,vI b),(3,.fn 129 []),(9,vI x7707),(10,vI s5515.2.1)],[(1000000,wI 3 x8086)]⟩)) qH (fun s7965 r h=>?_) fun τ hτ=>?_
 refine zB (y3 3 [0,1,2,3,9,10,12,109] [1000000] (qc h (fun h=>?_) fun h=>?_))
 refine y4 [0,1,2,3,9,10,12] [1000000] (zB (zC (zB (zB (qM 10 (dN 3 ?_))))))
 obtain ⟨x8071,hx8071,h⟩:=bindS h
 refine dI cI hx8071 (dR cI hx8071 (dN 3 ?_))
 obtain ⟨x8072,hx8072,h⟩:=bindS h
 refine dI cI hx8072 (dR cI hx8072 (dE ?_))
 obtain ⟨r8073,hr8073,h⟩:=bindS h
 refine oP (W.cmp_Compare_int_ok hr8073) (oN 2 (zO fun τ hτ=>?_))
 refine yE hτ [0,1,2,3,9,10,12,124] [1000000] (qc h (fun h=>?_) fun h=>?_)
 refine zL 6 fun τ hτ=>?_
 refine th_exit (bl_miss (by kernel_rfl) (th_exit ?_))
 cases h
 exact zF hτ
 refine y4 [0,1,2,3,9,10,12] [1000000] (qN [(15,[1000000])] [] [] [(2,[1000000]),(3,[1000000]),(4,[1000000])] [] 16 (dN 8 ?_))
 obtain ⟨x8082,hx8082,h⟩:=bindS h
 refine dI cI hx8082 (dR cI hx8082 (dN 2 ?_))
 obtain ⟨x8083,hx8083,h⟩:=bindS h
 refine dI cI hx8083 (dR cI hx8083 ?_)
 obtain ⟨x8084,hx8084,h⟩:=bindS h
 refine dI cI hx8084 (dS cI x8082 hx8084 (dE ?_))
 obtain ⟨x8085,hx8085,h⟩:=bindS h
 refine oI cI hx8085 (oS cI x8083 hx8085 (zO fun τ hτ=>?_))
 refine bl_normal (yE hτ [0,1,2,3,9,10,12] [1000000] (zD (z6 3 fun τ hτ=>?_)))
 cases h
 exact zH hτ
 refine zL 6 fun τ hτ=>?_
 refine th_exit ?_
 cases h
 exact zF hτ
 exact zQ (bl_normal (jk_normal (x7707,x8086) h hτ (here (by kernel_rfl))))
 refine zM fun τ hτ=>?_
 exact bl_normal (jk_normal (x7707,j7903) h hτ (here (by kernel_rfl)))
 refine y3 4 [0,1,2,3,9,10,65] [1000000] (qc h (fun h=>?_) fun h=>?_)
 refine y3 3 [0,1,2,3,9,10,11] [1000000] (zC ?_)
 obtain ⟨x8269,hx8269,h⟩:=bindS h
 refine ql hx8269 (fun s8148=>⟨[(0,ro 1000000 3),(1,vI a),(2,vI b),(3,.fn 129 []),(9,vI x7707),(10,vI s5515.2.1),(11,vI s8148.1)],[(1000000,wI 3 s8148.2)]⟩) (fun x8269=>(.exit 4,⟨[(0,ro 1000000 3),(1,vI a),(2,vI b),(3,.fn 129 []),(9,vI x7707),(10,vI s5515.2.1)],[(1000000,wI 3 x8269)]⟩)) qH (fun s8148 r h=>?_) fun τ hτ=>?_
 refine zB (y3 2 [0,1,2,3,9,10,11,69] [1000000] (qc h (fun h=>?_) fun h=>?_))
 refine y4 [0,1,2,3,9,10,11] [1000000] (zB (zC (zB (zB (qM 10 (dN 3 ?_))))))
 obtain ⟨x8254,hx8254,h⟩:=bindS h
 refine dI cI hx8254 (dR cI hx8254 (dN 3 ?_))
 obtain ⟨x8255,hx8255,h⟩:=bindS h
 refine dI cI hx8255 (dR cI hx8255 (dE ?_))
 obtain ⟨r8256,hr8256,h⟩:=bindS h
 refine oP (W.cmp_Compare_int_ok hr8256) (oN 2 (zO fun τ hτ=>?_))
 refine yE hτ [0,1,2,3,9,10,11,84] [1000000] (qc h (fun h=>?_) fun h=>?_)
 refine zL 4 fun τ hτ=>?_
 refine th_exit (bl_miss (by kernel_rfl) (th_exit ?_))
 cases h
 exact zF hτ
 refine y4 [0,1,2,3,9,10,11] [1000000] (qN [(15,[1000000])] [] [] [(2,[1000000]),(3,[1000000]),(4,[1000000])] [] 16 (dN 8 ?_))
 obtain ⟨x8265,hx8265,h⟩:=bindS h
 refine dI cI hx8265 (dR cI hx8265 (dN 2 ?_))
 obtain ⟨x8266,hx8266,h⟩:=bindS h
 refine dI cI hx8266 (dR cI hx8266 ?_)
 obtain ⟨x8267,hx8267,h⟩:=bindS h
 refine dI cI hx8267 (dS cI x8265 hx8267 (dE ?_))
 obtain ⟨x8268,hx8268,h⟩:=bindS h
 refine oI cI hx8268 (oS cI x8266 hx8268 (zO fun τ hτ=>?_))
 refine bl_normal (yE hτ [0,1,2,3,9,10,11] [1000000] (zD (z6 3 fun τ hτ=>?_)))
 cases h
 exact zH hτ
 refine zL 4 fun τ hτ=>?_
 refine th_exit ?_
 cases h
 exact zF hτ
 exact zQ (jk_normal x8269 h hτ (here (by kernel_rfl)))
 refine zM fun τ hτ=>?_
 exact jk_normal (List.set (List.set s5515.2.2 (Int.toNat x7707) x7716) (Int.toNat (isub x7707 1)) x7717) h hτ (here (by kernel_rfl))
 refine zL 0 fun τ hτ=>?_
 refine th_exit ?_
 cases h
 exact zF hτ
 rcases x8270 with j8271 | j8272
 refine bl_ret (th_ret ?_)
 obtain rfl:=osi h
 exact zV hτ [(8,vB j8271.1)]
 refine zQ (yE hτ [] [1000000] (z8 1 ⟨[(8,vB false)],[(1000000,wI 3 j8272)]⟩ fun τ hτ=>?_))
 obtain rfl:=osi h
 exact zV hτ [(8,vB false)]
theorem W.slices_partitionEqualCmpFunc_int__cmp_Compare_int_ok {a b pivot h0 r} (h : slices_partitionEqualCmpFunc_int__cmp_Compare_int a b pivot h0=some r) : PC G.P 196 [(.row (.top 1000000) 3),(vI a),(vI b),(vI pivot),(.fn 129 [])] [(1000000,.row 3 [] (List.map cI h0))] (vI r.1) [(1000000,.row 3 [] (List.map cI r.2))]:=by
 refine zU G Tryz.func196 (yK [0,1,2,3,4] [1000000] (y3 1 [0,1,2,3,4] [1000000] (zB (qN [(13,[1000000])] [] [] [(2,[1000000]),(3,[1000000])] [] 14 (dN 6 ?_)))))
 obtain ⟨x9,hx9,h⟩:=bindS h
 refine dI cI hx9 (dR cI hx9 (dN 2 ?_))
 obtain ⟨x10,hx10,h⟩:=bindS h
 refine dI cI hx10 (dR cI hx10 ?_)
 obtain ⟨x11,hx11,h⟩:=bindS h
 refine dI cI hx11 (dS cI x9 hx11 (dE ?_))
 obtain ⟨x12,hx12,h⟩:=bindS h
 refine oI cI hx12 (oS cI x10 hx12 (zO fun τ hτ=>?_))
 refine yE hτ [0,1,2,4] [1000000] (y3 6 [0,1,4,11,12] [1000000] (zB (zC ?_)))
 obtain ⟨x1602,hx1602,h⟩:=bindS h
 refine ql hx1602 (fun s1073=>⟨[(0,ro 1000000 3),(1,vI a),(4,.fn 129 []),(11,vI s1073.1),(12,vI s1073.2.1)],[(1000000,wI 3 s1073.2.2)]⟩) (fun x1602=>(.exit 0,⟨[(11,vI x1602.1)],[(1000000,wI 3 x1602.2)]⟩)) qH (fun s1073 r h=>?_) fun τ hτ=>?_
 refine zC (zB (zC ?_))
 obtain ⟨x1463,hx1463,h⟩:=bindS h
 refine ql hx1463 (fun s1422=>⟨[(0,ro 1000000 3),(1,vI a),(4,.fn 129 []),(11,vI s1422),(12,vI s1073.2.1)],[(1000000,wI 3 s1073.2.2)]⟩) (fun x1463=>(.exit 2,⟨[(0,ro 1000000 3),(1,vI a),(4,.fn 129 []),(11,vI x1463),(12,vI s1073.2.1)],[(1000000,wI 3 s1073.2.2)]⟩)) qH (fun s1422 r h=>?_) fun τ hτ=>?_
 refine zB (zB ?_)
 obtain ⟨j1459,hj1459,h⟩:=bindS h
 refine sem_drawP ⟨[(0,ro 1000000 3),(1,vI a),(4,.fn 129 []),(11,vI s1422),(12,vI s1073.2.1),(47,vB j1459)],[(1000000,wI 3 s1073.2.2)]⟩ [] [] [] [] [] 13 (by kernel_rfl) (by kernel_rfl) (by kernel_rfl) ?_ fun τ hτ=>?_
 replace h:=hj1459
 refine dN 4 (evd_split (decide (s1422≤s1073.2.1)) (fun b0=>⟨[(34,vB b0),(33,vB b0),(32,vI s1073.2.1),(31,vI s1422),(0,ro 1000000 3),(1,vI a),(4,.fn 129 []),(11,vI s1422),(12,vI s1073.2.1)],[(1000000,wI 3 s1073.2.2)]⟩) (by kernel_rfl) (fun hb=>?_) fun hb=>?_)
 replace h:=iteT hb h
 refine dN 3 ?_
 obtain ⟨x1460,hx1460,h⟩:=bindS h
 refine dI cI hx1460 (dR cI hx1460 (dN 2 ?_))
 obtain ⟨x1461,hx1461,h⟩:=bindS h
 refine dI cI hx1461 (dR cI hx1461 (dE ?_))
 obtain ⟨r1462,hr1462,h⟩:=bindS h
 refine oP (W.cmp_Compare_int_ok hr1462) (oN 3 (zO fun τ hτ=>?_))
 cases h
 exact zG hτ
 replace h:=iteF hb h
 refine dN 9 (dE (oN 4 (zO fun τ hτ=>?_)))
 cases h
 exact zG hτ
 refine yE hτ [0,1,4,11,12,47] [1000000] (qc h (fun h=>?_) fun h=>?_)
 refine y4 [0,1,4,11,12] [1000000] (zC (zD (z6 3 fun τ hτ=>?_)))
 refine bl_normal ?_
 cases h
 exact zH hτ
 refine zL 2 fun τ hτ=>?_
 refine th_exit ?_
 cases h
 exact zF hτ
 refine zQ (yE hτ [0,1,4,11,12] [1000000] (zB (zC ?_)))
 obtain ⟨x1589,hx1589,h⟩:=bindS h
 refine ql hx1589 (fun s1548=>⟨[(0,ro 1000000 3),(1,vI a),(4,.fn 129 []),(11,vI x1463),(12,vI s1548)],[(1000000,wI 3 s1073.2.2)]⟩) (fun x1589=>(.exit 4,⟨[(0,ro 1000000 3),(1,vI a),(4,.fn 129 []),(11,vI x1463),(12,vI x1589)],[(1000000,wI 3 s1073.2.2)]⟩)) qH (fun s1548 r h=>?_) fun τ hτ=>?_
 refine zB (zB ?_)
 obtain ⟨j1585,hj1585,h⟩:=bindS h
 refine sem_drawP ⟨[(0,ro 1000000 3),(1,vI a),(4,.fn 129 []),(11,vI x1463),(12,vI s1548),(65,vB j1585)],[(1000000,wI 3 s1073.2.2)]⟩ [] [] [] [] [] 13 (by kernel_rfl) (by kernel_rfl) (by kernel_rfl) ?_ fun τ hτ=>?_
 replace h:=hj1585
 refine dN 4 (evd_split (decide (x1463≤s1548)) (fun b0=>⟨[(53,vB b0),(52,vB b0),(51,vI s1548),(50,vI x1463),(0,ro 1000000 3),(1,vI a),(4,.fn 129 []),(11,vI x1463),(12,vI s1548)],[(1000000,wI 3 s1073.2.2)]⟩) (by kernel_rfl) (fun hb=>?_) fun hb=>?_)
 replace h:=iteT hb h
 refine dN 3 ?_
 obtain ⟨x1586,hx1586,h⟩:=bindS h
 refine dI cI hx1586 (dR cI hx1586 (dN 2 ?_))
 obtain ⟨x1587,hx1587,h⟩:=bindS h
 refine dI cI hx1587 (dR cI hx1587 (dE ?_))
 obtain ⟨r1588,hr1588,h⟩:=bindS h
 refine oP (W.cmp_Compare_int_ok hr1588) (oN 2 (zO fun τ hτ=>?_))
 cases h
 exact zG hτ
 replace h:=iteF hb h
 refine dN 9 (dE (oN 3 (zO fun τ hτ=>?_)))
 cases h
 exact zG hτ
 refine yE hτ [0,1,4,11,12,65] [1000000] (qc h (fun h=>?_) fun h=>?_)
 refine y4 [0,1,4,11,12] [1000000] (zC (zD (z6 3 fun τ hτ=>?_)))
 refine bl_normal ?_
 cases h
 exact zH hτ
 refine zL 4 fun τ hτ=>?_
 refine th_exit ?_
 cases h
 exact zF hτ
 refine zQ (yE hτ [0,1,4,11,12] [1000000] (zB (y3 3 [0,1,4,11,12,70] [1000000] (qc h (fun h=>?_) fun h=>?_))))
 refine zL 0 fun τ hτ=>?_
 refine th_exit (bl_miss (by kernel_rfl) ?_)
 cases h
 exact zF hτ
 refine y4 [0,1,4,11,12] [1000000] (zB (qN [(13,[1000000])] [] [] [(2,[1000000]),(3,[1000000])] [] 14 (dN 6 ?_)))
 obtain ⟨x1598,hx1598,h⟩:=bindS h
 refine dI cI hx1598 (dR cI hx1598 (dN 2 ?_))
 obtain ⟨x1599,hx1599,h⟩:=bindS h
 refine dI cI hx1599 (dR cI hx1599 ?_)
 obtain ⟨x1600,hx1600,h⟩:=bindS h
 refine dI cI hx1600 (dS cI x1598 hx1600 (dE ?_))
 obtain ⟨x1601,hx1601,h⟩:=bindS h
 refine oI cI hx1601 (oS cI x1599 hx1601 (zO fun τ hτ=>?_))
 refine yE hτ [0,1,4,11,12] [1000000] (y3 3 [0,1,4,11,12] [1000000] (zD (z6 3 fun τ hτ=>?_)))
 refine bl_normal ?_
 cases h
 exact zH hτ
 refine zQ (yE hτ [11] [1000000] (z8 2 ⟨[(10,vI x1602.1)],[(1000000,wI 3 x1602.2)]⟩ fun τ hτ=>?_))
 obtain rfl:=osi h
 exact zV hτ [(10,vI x1602.1)]
theorem W.slices_partitionCmpFunc_int__cmp_Compare_int_ok {a b pivot h0 r} (h : slices_partitionCmpFunc_int__cmp_Compare_int a b pivot h0=some r) : PC G.P 197 [(.row (.top 1000000) 3),(vI a),(vI b),(vI pivot),(.fn 129 [])] [(1000000,.row 3 [] (List.map cI h0))] (.tup [(vI r.1),(vB r.2.1)]) [(1000000,.row 3 [] (List.map cI r.2.2))]:=by
 refine zU G Tryz.func197 (yK [0,1,2,3,4] [1000000] (y3 2 [0,1,2,3,4] [1000000] (zB (qN [(13,[1000000])] [] [] [(2,[1000000]),(3,[1000000])] [] 14 (dN 6 ?_)))))
 obtain ⟨x9,hx9,h⟩:=bindS h
 refine dI cI hx9 (dR cI hx9 (dN 2 ?_))
 obtain ⟨x10,hx10,h⟩:=bindS h
 refine dI cI hx10 (dR cI hx10 ?_)
 obtain ⟨x11,hx11,h⟩:=bindS h
 refine dI cI hx11 (dS cI x9 hx11 (dE ?_))
 obtain ⟨x12,hx12,h⟩:=bindS h
 refine oI cI hx12 (oS cI x10 hx12 (zO fun τ hτ=>?_))
 refine yE hτ [0,1,2,4] [1000000] (y3 6 [0,1,4,12,13] [1000000] (zB (zC ?_)))
 obtain ⟨x138,hx138,h⟩:=bindS h
 refine ql hx138 (fun s97=>⟨[(0,ro 1000000 3),(1,vI a),(4,.fn 129 []),(12,vI s97),(13,vI (isub b 1))],[(1000000,wI 3 (List.set (List.set h0 (Int.toNat a) x9) (Int.toNat pivot) x10))]⟩) (fun x138=>(.exit 0,⟨[(0,ro 1000000 3),(1,vI a),(4,.fn 129 []),(12,vI x138),(13,vI (isub b 1))],[(1000000,wI 3 (List.set (List.set h0 (Int.toNat a) x9) (Int.toNat pivot) x10))]⟩)) qH (fun s97 r h=>?_) fun τ hτ=>?_
 refine zB (zB ?_)
 obtain ⟨j134,hj134,h⟩:=bindS h
 refine sem_drawP ⟨[(0,ro 1000000 3),(1,vI a),(4,.fn 129 []),(12,vI s97),(13,vI (isub b 1)),(47,vB j134)],[(1000000,wI 3 (List.set (List.set h0 (Int.toNat a) x9) (Int.toNat pivot) x10))]⟩ [] [] [] [] [] 13 (by kernel_rfl) (by kernel_rfl) (by kernel_rfl) ?_ fun τ hτ=>?_
 replace h:=hj134
 refine dN 4 (evd_split (decide (s97≤(isub b 1))) (fun b0=>⟨[(35,vB b0),(34,vB b0),(33,vI (isub b 1)),(32,vI s97),(0,ro 1000000 3),(1,vI a),(4,.fn 129 []),(12,vI s97),(13,vI (isub b 1))],[(1000000,wI 3 (List.set (List.set h0 (Int.toNat a) x9) (Int.toNat pivot) x10))]⟩) (by kernel_rfl) (fun hb=>?_) fun hb=>?_)
 replace h:=iteT hb h
 refine dN 3 ?_
 obtain ⟨x135,hx135,h⟩:=bindS h
 refine dI cI hx135 (dR cI hx135 (dN 2 ?_))
 obtain ⟨x136,hx136,h⟩:=bindS h
 refine dI cI hx136 (dR cI hx136 (dE ?_))
 obtain ⟨r137,hr137,h⟩:=bindS h
 refine oP (W.cmp_Compare_int_ok hr137) (oN 2 (zO fun τ hτ=>?_))
 cases h
 exact zG hτ
 replace h:=iteF hb h
 refine dN 9 (dE (oN 3 (zO fun τ hτ=>?_)))
 cases h
 exact zG hτ
 refine yE hτ [0,1,4,12,13,47] [1000000] (qc h (fun h=>?_) fun h=>?_)
 refine y4 [0,1,4,12,13] [1000000] (zC (zD (z6 3 fun τ hτ=>?_)))
 refine bl_normal ?_
 cases h
 exact zH hτ
 refine zL 0 fun τ hτ=>?_
 refine th_exit ?_
 cases h
 exact zF hτ
 refine zQ (yE hτ [0,1,4,12,13] [1000000] (zB (zC ?_)))
 obtain ⟨x264,hx264,h⟩:=bindS h
 refine ql hx264 (fun s223=>⟨[(0,ro 1000000 3),(1,vI a),(4,.fn 129 []),(12,vI x138),(13,vI s223)],[(1000000,wI 3 (List.set (List.set h0 (Int.toNat a) x9) (Int.toNat pivot) x10))]⟩) (fun x264=>(.exit 2,⟨[(0,ro 1000000 3),(1,vI a),(4,.fn 129 []),(12,vI x138),(13,vI x264)],[(1000000,wI 3 (List.set (List.set h0 (Int.toNat a) x9) (Int.toNat pivot) x10))]⟩)) qH (fun s223 r h=>?_) fun τ hτ=>?_
 refine zB (zB ?_)
 obtain ⟨j260,hj260,h⟩:=bindS h
 refine sem_drawP ⟨[(0,ro 1000000 3),(1,vI a),(4,.fn 129 []),(12,vI x138),(13,vI s223),(66,vB j260)],[(1000000,wI 3 (List.set (List.set h0 (Int.toNat a) x9) (Int.toNat pivot) x10))]⟩ [] [] [] [] [] 13 (by kernel_rfl) (by kernel_rfl) (by kernel_rfl) ?_ fun τ hτ=>?_
 replace h:=hj260
 refine dN 4 (evd_split (decide (x138≤s223)) (fun b0=>⟨[(53,vB b0),(52,vB b0),(51,vI s223),(50,vI x138),(0,ro 1000000 3),(1,vI a),(4,.fn 129 []),(12,vI x138),(13,vI s223)],[(1000000,wI 3 (List.set (List.set h0 (Int.toNat a) x9) (Int.toNat pivot) x10))]⟩) (by kernel_rfl) (fun hb=>?_) fun hb=>?_)
 replace h:=iteT hb h
 refine dN 3 ?_
 obtain ⟨x261,hx261,h⟩:=bindS h
 refine dI cI hx261 (dR cI hx261 (dN 2 ?_))
 obtain ⟨x262,hx262,h⟩:=bindS h
 refine dI cI hx262 (dR cI hx262 (dE ?_))
 obtain ⟨r263,hr263,h⟩:=bindS h
 refine oP (W.cmp_Compare_int_ok hr263) (oN 3 (zO fun τ hτ=>?_))
 cases h
 exact zG hτ
 replace h:=iteF hb h
 refine dN 9 (dE (oN 4 (zO fun τ hτ=>?_)))
 cases h
 exact zG hτ
 refine yE hτ [0,1,4,12,13,66] [1000000] (qc h (fun h=>?_) fun h=>?_)
 refine y4 [0,1,4,12,13] [1000000] (zC (zD (z6 3 fun τ hτ=>?_)))
 refine bl_normal ?_
 cases h
 exact zH hτ
 refine zL 2 fun τ hτ=>?_
 refine th_exit ?_
 cases h
 exact zF hτ
 refine zQ (yE hτ [0,1,4,12,13] [1000000] (zB (y3 3 [0,1,4,12,13,71] [1000000] (qc h (fun h=>?_) fun h=>?_))))
 refine zB (qN [(13,[1000000])] [] [] [(2,[1000000]),(3,[1000000])] [] 14 (dN 6 ?_))
 obtain ⟨x285,hx285,h⟩:=bindS h
 refine dI cI hx285 (dR cI hx285 (dN 2 ?_))
 obtain ⟨x286,hx286,h⟩:=bindS h
 refine dI cI hx286 (dR cI hx286 ?_)
 obtain ⟨x287,hx287,h⟩:=bindS h
 refine dI cI hx287 (dS cI x285 hx287 (dE ?_))
 obtain ⟨x288,hx288,h⟩:=bindS h
 refine oI cI hx288 (oS cI x286 hx288 (zO fun τ hτ=>?_))
 refine yE hτ [13] [1000000] (z8 3 ⟨[(10,vI x264),(11,vB true)],[(1000000,wI 3 (List.set (List.set (List.set (List.set h0 (Int.toNat a) x9) (Int.toNat pivot) x10) (Int.toNat x264) x285) (Int.toNat a) x286))]⟩ fun τ hτ=>?_)
 refine th_ret ?_
 obtain rfl:=osi h
 exact zV hτ [(10,vI x264),(11,vB true)]
 refine y4 [0,1,4,12,13] [1000000] (zB (qN [(13,[1000000])] [] [] [(2,[1000000]),(3,[1000000])] [] 14 (dN 6 ?_)))
 obtain ⟨x297,hx297,h⟩:=bindS h
 refine dI cI hx297 (dR cI hx297 (dN 2 ?_))
 obtain ⟨x298,hx298,h⟩:=bindS h
 refine dI cI hx298 (dR cI hx298 ?_)
 obtain ⟨x299,hx299,h⟩:=bindS h
 refine dI cI hx299 (dS cI x297 hx299 (dE ?_))
 obtain ⟨x300,hx300,h⟩:=bindS h
 refine oI cI hx300 (oS cI x298 hx300 (zO fun τ hτ=>?_))
 refine yE hτ [0,1,4,12,13] [1000000] (y3 3 [0,1,4,12,13] [1000000] (y3 3 [0,1,4,12,13] [1000000] (zB (zC ?_))))
 obtain ⟨x1890,hx1890,h⟩:=bindS h
 refine ql hx1890 (fun s1361=>⟨[(0,ro 1000000 3),(1,vI a),(4,.fn 129 []),(12,vI s1361.1),(13,vI s1361.2.1)],[(1000000,wI 3 s1361.2.2)]⟩) (fun x1890=>(.exit 4,⟨[(0,ro 1000000 3),(1,vI a),(13,vI x1890.1)],[(1000000,wI 3 x1890.2)]⟩)) qH (fun s1361 r h=>?_) fun τ hτ=>?_
 refine zC (zB (zC ?_))
 obtain ⟨x1751,hx1751,h⟩:=bindS h
 refine ql hx1751 (fun s1710=>⟨[(0,ro 1000000 3),(1,vI a),(4,.fn 129 []),(12,vI s1710),(13,vI s1361.2.1)],[(1000000,wI 3 s1361.2.2)]⟩) (fun x1751=>(.exit 6,⟨[(0,ro 1000000 3),(1,vI a),(4,.fn 129 []),(12,vI x1751),(13,vI s1361.2.1)],[(1000000,wI 3 s1361.2.2)]⟩)) qH (fun s1710 r h=>?_) fun τ hτ=>?_
 refine zB (zB ?_)
 obtain ⟨j1747,hj1747,h⟩:=bindS h
 refine sem_drawP ⟨[(0,ro 1000000 3),(1,vI a),(4,.fn 129 []),(12,vI s1710),(13,vI s1361.2.1),(120,vB j1747)],[(1000000,wI 3 s1361.2.2)]⟩ [] [] [] [] [] 13 (by kernel_rfl) (by kernel_rfl) (by kernel_rfl) ?_ fun τ hτ=>?_
 replace h:=hj1747
 refine dN 4 (evd_split (decide (s1710≤s1361.2.1)) (fun b0=>⟨[(108,vB b0),(107,vB b0),(106,vI s1361.2.1),(105,vI s1710),(0,ro 1000000 3),(1,vI a),(4,.fn 129 []),(12,vI s1710),(13,vI s1361.2.1)],[(1000000,wI 3 s1361.2.2)]⟩) (by kernel_rfl) (fun hb=>?_) fun hb=>?_)
 replace h:=iteT hb h
 refine dN 3 ?_
 obtain ⟨x1748,hx1748,h⟩:=bindS h
 refine dI cI hx1748 (dR cI hx1748 (dN 2 ?_))
 obtain ⟨x1749,hx1749,h⟩:=bindS h
 refine dI cI hx1749 (dR cI hx1749 (dE ?_))
 obtain ⟨r1750,hr1750,h⟩:=bindS h
 refine oP (W.cmp_Compare_int_ok hr1750) (oN 2 (zO fun τ hτ=>?_))
 cases h
 exact zG hτ
 replace h:=iteF hb h
 refine dN 9 (dE (oN 3 (zO fun τ hτ=>?_)))
 cases h
 exact zG hτ
 refine yE hτ [0,1,4,12,13,120] [1000000] (qc h (fun h=>?_) fun h=>?_)
 refine y4 [0,1,4,12,13] [1000000] (zC (zD (z6 3 fun τ hτ=>?_)))
 refine bl_normal ?_
 cases h
 exact zH hτ
 refine zL 6 fun τ hτ=>?_
 refine th_exit ?_
 cases h
 exact zF hτ
 refine zQ (yE hτ [0,1,4,12,13] [1000000] (zB (zC ?_)))
 obtain ⟨x1877,hx1877,h⟩:=bindS h
 refine ql hx1877 (fun s1836=>⟨[(0,ro 1000000 3),(1,vI a),(4,.fn 129 []),(12,vI x1751),(13,vI s1836)],[(1000000,wI 3 s1361.2.2)]⟩) (fun x1877=>(.exit 8,⟨[(0,ro 1000000 3),(1,vI a),(4,.fn 129 []),(12,vI x1751),(13,vI x1877)],[(1000000,wI 3 s1361.2.2)]⟩)) qH (fun s1836 r h=>?_) fun τ hτ=>?_
 refine zB (zB ?_)
 obtain ⟨j1873,hj1873,h⟩:=bindS h
 refine sem_drawP ⟨[(0,ro 1000000 3),(1,vI a),(4,.fn 129 []),(12,vI x1751),(13,vI s1836),(139,vB j1873)],[(1000000,wI 3 s1361.2.2)]⟩ [] [] [] [] [] 13 (by kernel_rfl) (by kernel_rfl) (by kernel_rfl) ?_ fun τ hτ=>?_
 replace h:=hj1873
 refine dN 4 (evd_split (decide (x1751≤s1836)) (fun b0=>⟨[(126,vB b0),(125,vB b0),(124,vI s1836),(123,vI x1751),(0,ro 1000000 3),(1,vI a),(4,.fn 129 []),(12,vI x1751),(13,vI s1836)],[(1000000,wI 3 s1361.2.2)]⟩) (by kernel_rfl) (fun hb=>?_) fun hb=>?_)
 replace h:=iteT hb h
 refine dN 3 ?_
 obtain ⟨x1874,hx1874,h⟩:=bindS h
 refine dI cI hx1874 (dR cI hx1874 (dN 2 ?_))
 obtain ⟨x1875,hx1875,h⟩:=bindS h
 refine dI cI hx1875 (dR cI hx1875 (dE ?_))
 obtain ⟨r1876,hr1876,h⟩:=bindS h
 refine oP (W.cmp_Compare_int_ok hr1876) (oN 3 (zO fun τ hτ=>?_))
 cases h
 exact zG hτ
 replace h:=iteF hb h
 refine dN 9 (dE (oN 4 (zO fun τ hτ=>?_)))
 cases h
 exact zG hτ
 refine yE hτ [0,1,4,12,13,139] [1000000] (qc h (fun h=>?_) fun h=>?_)
 refine y4 [0,1,4,12,13] [1000000] (zC (zD (z6 3 fun τ hτ=>?_)))
 refine bl_normal ?_
 cases h
 exact zH hτ
 refine zL 8 fun τ hτ=>?_
 refine th_exit ?_
 cases h
 exact zF hτ
 refine zQ (yE hτ [0,1,4,12,13] [1000000] (zB (y3 3 [0,1,4,12,13,144] [1000000] (qc h (fun h=>?_) fun h=>?_))))
 refine zL 4 fun τ hτ=>?_
 refine th_exit (bl_miss (by kernel_rfl) ?_)
 cases h
 exact zF hτ
 refine y4 [0,1,4,12,13] [1000000] (zB (qN [(13,[1000000])] [] [] [(2,[1000000]),(3,[1000000])] [] 14 (dN 6 ?_)))
 obtain ⟨x1886,hx1886,h⟩:=bindS h
 refine dI cI hx1886 (dR cI hx1886 (dN 2 ?_))
 obtain ⟨x1887,hx1887,h⟩:=bindS h
 refine dI cI hx1887 (dR cI hx1887 ?_)
 obtain ⟨x1888,hx1888,h⟩:=bindS h
 refine dI cI hx1888 (dS cI x1886 hx1888 (dE ?_))
 obtain ⟨x1889,hx1889,h⟩:=bindS h
 refine oI cI hx1889 (oS cI x1887 hx1889 (zO fun τ hτ=>?_))
 refine yE hτ [0,1,4,12,13] [1000000] (y3 3 [0,1,4,12,13] [1000000] (zD (z6 3 fun τ hτ=>?_)))
 refine bl_normal ?_
 cases h
 exact zH hτ
 refine zQ (yE hτ [0,1,13] [1000000] (zB (qN [(13,[1000000])] [] [] [(2,[1000000]),(3,[1000000])] [] 14 (dN 6 ?_))))
 obtain ⟨x1899,hx1899,h⟩:=bindS h
 refine dI cI hx1899 (dR cI hx1899 (dN 2 ?_))
 obtain ⟨x1900,hx1900,h⟩:=bindS h
 refine dI cI hx1900 (dR cI hx1900 ?_)
 obtain ⟨x1901,hx1901,h⟩:=bindS h
 refine dI cI hx1901 (dS cI x1899 hx1901 (dE ?_))
 obtain ⟨x1902,hx1902,h⟩:=bindS h
 refine oI cI hx1902 (oS cI x1900 hx1902 (zO fun τ hτ=>?_))
 refine yE hτ [13] [1000000] (z8 3 ⟨[(10,vI x1890.1),(11,vB false)],[(1000000,wI 3 (List.set (List.set x1890.2 (Int.toNat x1890.1) x1899) (Int.toNat a) x1900))]⟩ fun τ hτ=>?_)
 obtain rfl:=osi h
 exact zV hτ [(10,vI x1890.1),(11,vB false)]
theorem W.slices_pdqsortCmpFunc_int__cmp_Compare_int_body_ok (self : Int→Int→Int→(List Int)→Option ((List Int))) (hself : ∀ {a : Int} {b : Int} {limit : Int} {h0 : (List Int)} {r : (List Int)},self a b limit h0=some r→PC G.P 180 [(.row (.top 1000000) 3),(vI a),(vI b),(vI limit),(.fn 129 [])] [(1000000,.row 3 [] (List.map cI h0))] (.tup []) [(1000000,.row 3 [] (List.map cI r))]) {a : Int} {b : Int} {limit : Int} {h0 : (List Int)} {r : (List Int)} (h : slices_pdqsortCmpFunc_int__cmp_Compare_int_body self a b limit h0=some r) : PC G.P 180 [(.row (.top 1000000) 3),(vI a),(vI b),(vI limit),(.fn 129 [])] [(1000000,.row 3 [] (List.map cI h0))] (.tup []) [(1000000,.row 3 [] (List.map cI r))]:=by
 refine zU G Tryz.func180 (yK [0,1,2,3,4] [1000000] (y3 1 [0,1,2,3,4,10] [1000000] (y3 1 [0,1,2,3,4,10,11] [1000000] (zC ?_))))
 obtain ⟨x174,hx174,h⟩:=bindS h
 refine ql hx174 (fun s59=>⟨[(0,ro 1000000 3),(1,vI s59.1),(2,vI s59.2.1),(3,vI s59.2.2.1),(4,.fn 129 []),(10,vB s59.2.2.2.1),(11,vB s59.2.2.2.2.1)],[(1000000,wI 3 s59.2.2.2.2.2)]⟩) (fun x174=>(.ret,⟨[],[(1000000,wI 3 x174)]⟩)) qH (fun s59 r h=>?_) fun τ hτ=>?_
 refine zC (y3 4 [0,1,2,3,4,10,11,12] [1000000] (zB (y3 2 [0,1,2,3,4,10,11,12,25] [1000000] (qc h (fun h=>?_) fun h=>?_))))
 refine z7 (zA 4 ?_)
 obtain ⟨r120,hr120,h⟩:=bindS h
 refine qC [(1000000,1000000)] [] (W.slices_insertionSortCmpFunc_int__cmp_Compare_int_ok hr120) (zP fun τ hτ=>?_)
 refine yE hτ [] [1000000] (zN fun τ hτ=>?_)
 refine th_ret (bl_ret ?_)
 cases h
 exact zF hτ
 refine y4 [0,1,2,3,4,10,11,12] [1000000] (zB (y3 2 [0,1,2,3,4,10,11,12,32] [1000000] (qc h (fun h=>?_) fun h=>?_)))
 refine z7 (zA 4 ?_)
 obtain ⟨r124,hr124,h⟩:=bindS h
 refine qC [(1000000,1000000)] [] (W.slices_heapSortCmpFunc_int__cmp_Compare_int_ok hr124) (zP fun τ hτ=>?_)
 refine yE hτ [] [1000000] (zN fun τ hτ=>?_)
 refine th_ret (bl_ret ?_)
 cases h
 exact zF hτ
 refine y4 [0,1,2,3,4,10,11,12] [1000000] (sem_seqJ (fun (j127 : Int×(List Int))=>⟨[(0,ro 1000000 3),(1,vI s59.1),(2,vI s59.2.1),(3,vI j127.1),(4,.fn 129 []),(10,vB s59.2.2.2.1),(11,vB s59.2.2.2.2.1),(12,vI (isub s59.2.1 s59.1))],[(1000000,wI 3 j127.2)]⟩) (slices_pdqsortCmpFunc_int__cmp_Compare_int_k3 self s59) r (by kernel_rfl) (fun j127 h=>?_) ?_)
 refine z7 (zA 4 ?_)
 obtain ⟨r129,hr129,h⟩:=bindS h
 refine qV [1000000] (W.slices_choosePivotCmpFunc_int__cmp_Compare_int_ok hr129) (y1 5 [0,1,2,3,4,10,11,12,13,14] [1000000] (sem_seqJ (fun (j132 : Int×Int×(List Int))=>⟨[(0,ro 1000000 3),(1,vI s59.1),(2,vI s59.2.1),(3,vI j127.1),(4,.fn 129 []),(10,vB s59.2.2.2.1),(11,vB s59.2.2.2.2.1),(12,vI (isub s59.2.1 s59.1)),(13,vI j132.1),(14,vI j132.2.1)],[(1000000,wI 3 j132.2.2)]⟩) (slices_pdqsortCmpFunc_int__cmp_Compare_int_k2 self s59 j127) r (by kernel_rfl) (fun j132 h=>?_) ?_))
 refine sem_seqJ (fun (j136 : Bool×Bool×(List Int))=>⟨[(0,ro 1000000 3),(1,vI s59.1),(2,vI s59.2.1),(3,vI j127.1),(4,.fn 129 []),(10,vB j136.1),(11,vB j136.2.1),(12,vI (isub s59.2.1 s59.1)),(13,vI j132.1)],[(1000000,wI 3 j136.2.2)]⟩) (slices_pdqsortCmpFunc_int__cmp_Compare_int_k1 self s59 j127 j132) r (by kernel_rfl) (fun j136 h=>?_) ?_
 refine zB (zB ?_)
 obtain ⟨j155,hj155,h⟩:=bindS h
 refine sem_drawP ⟨[(0,ro 1000000 3),(1,vI s59.1),(2,vI s59.2.1),(3,vI j127.1),(4,.fn 129 []),(10,vB j136.1),(11,vB j136.2.1),(12,vI (isub s59.2.1 s59.1)),(13,vI j132.1),(97,vB j155)],[(1000000,wI 3 j136.2.2)]⟩ [] [] [] [] [] 13 (by kernel_rfl) (by kernel_rfl) (by kernel_rfl) ?_ fun τ hτ=>?_
 replace h:=hj155
 refine dN 3 (evd_split (decide (s59.1 > 0)) (fun b0=>⟨[(83,vB b0),(82,vB b0),(81,vI s59.1),(0,ro 1000000 3),(1,vI s59.1),(2,vI s59.2.1),(3,vI j127.1),(4,.fn 129 []),(10,vB j136.1),(11,vB j136.2.1),(12,vI (isub s59.2.1 s59.1)),(13,vI j132.1)],[(1000000,wI 3 j136.2.2)]⟩) (by kernel_rfl) (fun hb=>?_) fun hb=>?_)
 replace h:=iteT hb h
 refine dN 4 ?_
 obtain ⟨x156,hx156,h⟩:=bindS h
 refine dI cI hx156 (dR cI hx156 (dN 2 ?_))
 obtain ⟨x157,hx157,h⟩:=bindS h
 refine dI cI hx157 (dR cI hx157 (dE ?_))
 obtain ⟨r158,hr158,h⟩:=bindS h
 refine oP (W.cmp_Compare_int_ok hr158) (oN 3 (zO fun τ hτ=>?_))
 cases h
 exact zG hτ
 replace h:=iteF hb h
 refine dN 10 (dE (oN 4 (zO fun τ hτ=>?_)))
 cases h
 exact zG hτ
 refine yE hτ [0,1,2,3,4,10,11,12,13,97] [1000000] (qc h (fun h=>?_) fun h=>?_)
 refine z7 (zA 5 ?_)
 obtain ⟨r160,hr160,h⟩:=bindS h
 refine qC [(1000000,1000000)] [] (W.slices_partitionEqualCmpFunc_int__cmp_Compare_int_ok hr160) (y1 1 [0,2,3,4,10,11,15] [1000000] (y3 2 [0,1,2,3,4,10,11] [1000000] (zL 1 fun τ hτ=>?_)))
 refine th_exit (zQ ?_)
 cases h
 exact zH hτ
 refine y4 [0,1,2,3,4,12,13] [1000000] (z7 (zA 5 ?_))
 obtain ⟨r162,hr162,h⟩:=bindS h
 refine qC [(1000000,1000000)] [] (W.slices_partitionCmpFunc_int__cmp_Compare_int_ok hr162) (y1 5 [0,1,2,3,4,12,16,17] [1000000] (y3 2 [0,1,2,3,4,11,12,16] [1000000] (y3 8 [0,1,2,3,4,11,12,16,18,19] [1000000] (y3 3 [0,1,2,3,4,11,16,18,19,20] [1000000] (y3 3 [0,1,2,3,4,11,16,18,19,20,125] [1000000] (qc h (fun h=>?_) fun h=>?_))))))
 refine y3 4 [0,1,2,3,4,10,11,16] [1000000] (z7 (zA 5 ?_))
 obtain ⟨r164,hr164,h⟩:=bindS h
 refine evs_callS [(1000000,1000000)] [] [] (by kernel_rfl) (hself hr164) (by kernel_rfl) (by kernel_rfl) (.inl rfl) (zP fun τ hτ=>?_)
 refine yE hτ [0,2,3,4,10,11,16] [1000000] (zD (z6 3 fun τ hτ=>?_))
 refine bl_normal ?_
 cases h
 exact zH hτ
 refine y3 4 [0,1,2,3,4,10,11,16] [1000000] (z7 (zA 6 ?_))
 obtain ⟨r166,hr166,h⟩:=bindS h
 refine evs_callS [(1000000,1000000)] [] [] (by kernel_rfl) (hself hr166) (by kernel_rfl) (by kernel_rfl) (.inl rfl) (zP fun τ hτ=>?_)
 refine yE hτ [0,1,3,4,10,11,16] [1000000] (zD (z6 2 fun τ hτ=>?_))
 refine bl_normal ?_
 cases h
 exact zH hτ
 refine zB ?_
 obtain ⟨j167,hj167,h⟩:=bindS h
 refine zT ⟨[(0,ro 1000000 3),(1,vI s59.1),(2,vI s59.2.1),(3,vI j127.1),(4,.fn 129 []),(10,vB j167.1),(11,vB j167.2.1),(12,vI (isub s59.2.1 s59.1)),(13,vI j132.1),(75,vB j167.2.2)],[(1000000,wI 3 j132.2.2)]⟩ ?_ fun τ hτ=>?_
 replace h:=hj167
 refine zA 2 (qB h [0,1,2,3,4,10,11,12,13,14,69] [1000000] [10,69] (fun h=>?_) fun h=>?_)
 refine zA 3 (qB h [0,1,2,3,4,10,11,12,13,14,72] [1000000] [11,72] (fun h=>?_) fun h=>?_)
 refine z6 3 fun τ hτ=>?_
 cases h
 exact zG hτ
 refine z6 3 fun τ hτ=>?_
 cases h
 exact zG hτ
 refine z6 6 fun τ hτ=>?_
 cases h
 exact zG hτ
 refine yE hτ [0,1,2,3,4,10,11,12,13,75] [1000000] (qc h (fun h=>?_) fun h=>?_)
 refine z7 (zA 4 ?_)
 obtain ⟨r169,hr169,h⟩:=bindS h
 refine qC [(1000000,1000000)] [] (W.slices_partialInsertionSortCmpFunc_int__cmp_Compare_int_ok hr169) (zP fun τ hτ=>?_)
 refine yE hτ [0,1,2,3,4,10,11,12,13,80] [1000000] (qc h (fun h=>?_) fun h=>?_)
 refine zN fun τ hτ=>?_
 refine jk_ret (bl_ret ?_)
 cases h
 exact zF hτ
 refine zM fun τ hτ=>?_
 exact jk_normal (j167.1,j167.2.1,r169.2) h hτ (here (by kernel_rfl))
 refine zM fun τ hτ=>?_
 exact jk_normal (j167.1,j167.2.1,j132.2.2) h hτ (here (by kernel_rfl))
 refine y3 2 [0,1,2,3,4,10,11,12,13,14,56] [1000000] (qc h (fun h=>?_) fun h=>?_)
 refine z7 (zA 4 ?_)
 obtain ⟨r171,hr171,h⟩:=bindS h
 refine qC [(1000000,1000000)] [] (W.slices_reverseRangeCmpFunc_int__cmp_Compare_int_ok hr171) (zP fun τ hτ=>?_)
 refine yE hτ [0,1,2,3,4,10,11,12,13] [1000000] (y3 7 [0,1,2,3,4,10,11,12,13] [1000000] (zD (z6 1 fun τ hτ=>?_)))
 exact jk_normal ((isub (isub s59.2.1 1) (isub r129.1 s59.1)),1,r171) h hτ (here (by kernel_rfl))
 refine zM fun τ hτ=>?_
 exact jk_normal (r129.1,r129.2,j127.2) h hτ (here (by kernel_rfl))
 refine y3 2 [0,1,2,3,4,10,11,12,39] [1000000] (qc h (fun h=>?_) fun h=>?_)
 refine z7 (zA 4 ?_)
 obtain ⟨r173,hr173,h⟩:=bindS h
 refine qC [(1000000,1000000)] [] (W.slices_breakPatternsCmpFunc_int__cmp_Compare_int_ok hr173) (zP fun τ hτ=>?_)
 refine yE hτ [0,1,2,3,4,10,11,12] [1000000] (zD (z6 3 fun τ hτ=>?_))
 exact jk_normal ((isub s59.2.2.1 1),r173) h hτ (here (by kernel_rfl))
 refine zM fun τ hτ=>?_
 exact jk_normal (s59.2.2.1,s59.2.2.2.2.2) h hτ (here (by kernel_rfl))
 refine bl_ret ?_
 obtain rfl:=osi h
 exact zV hτ []
theorem W.slices_pdqsortCmpFunc_int__cmp_Compare_int_n_ok : ∀ (n : Nat) {a : Int} {b : Int} {limit : Int} {h0 : (List Int)} {r : (List Int)},slices_pdqsortCmpFunc_int__cmp_Compare_int_n n a b limit h0=some r→PC G.P 180 [(.row (.top 1000000) 3),(vI a),(vI b),(vI limit),(.fn 129 [])] [(1000000,.row 3 [] (List.map cI h0))] (.tup []) [(1000000,.row 3 [] (List.map cI r))]
  | 0,_,_,_,_,_,h=>by simp [slices_pdqsortCmpFunc_int__cmp_Compare_int_n] at h
  | n+1,_,_,_,_,_,h=>W.slices_pdqsortCmpFunc_int__cmp_Compare_int_body_ok (slices_pdqsortCmpFunc_int__cmp_Compare_int_n n) (W.slices_pdqsortCmpFunc_int__cmp_Compare_int_n_ok n) h
theorem W.slices_pdqsortCmpFunc_int__cmp_Compare_int_ok {a : Int} {b : Int} {limit : Int} {h0 : (List Int)} {r : (List Int)} (h : slices_pdqsortCmpFunc_int__cmp_Compare_int a b limit h0=some r) : PC G.P 180 [(.row (.top 1000000) 3),(vI a),(vI b),(vI limit),(.fn 129 [])] [(1000000,.row 3 [] (List.map cI h0))] (.tup []) [(1000000,.row 3 [] (List.map cI r))]:=W.slices_pdqsortCmpFunc_int__cmp_Compare_int_n_ok 1000 h
theorem W.slices_SortFunc_Lint_int__cmp_Compare_int_ok {h0 r} (h : slices_SortFunc_Lint_int__cmp_Compare_int h0=some r) : PC G.P 151 [(.row (.top 1000000) 3),(.fn 129 [])] [(1000000,.row 3 [] (List.map cI h0))] (.tup []) [(1000000,.row 3 [] (List.map cI r))]:=by
 refine zU G Tryz.func151 (yK [0,1] [1000000] (z7 (zA 1 (qL cI h0 (y1 1 [0,1,4] [1000000] (zD ?_))))))
 refine zA 4 ?_
 obtain ⟨r3,hr3,h⟩:=bindS h
 refine qP (W.bits_Len_ok hr3) (zA 1 ?_)
 obtain ⟨r4,hr4,h⟩:=bindS h
 refine qC [(1000000,1000000)] [] (W.slices_pdqsortCmpFunc_int__cmp_Compare_int_ok hr4) (zP fun τ hτ=>?_)
 obtain rfl:=osi h
 exact rk_normal hτ [] (here (by kernel_rfl)) (by kernel_rfl)
theorem W.slices_Compact_Lint_int_ok {h0 r} (h : slices_Compact_Lint_int h0=some r) : PC G.P 152 [(.row (.top 300000) 3)] [(300000,.row 3 [] (List.map cI h0))] (.row (.top 0) 3) [(0,.row 3 [] (List.map cI r))]:=by
 refine zU G Tryz.func152 (yK [0] [300000] (y3 1 [0] [300000] (zB (z7 (zA 1 (qL cI h0 ?_))))))
 refine y1 1 [0,8] [300000] (qc h (fun h=>?_) fun h=>?_)
 refine z8 2 ⟨[(2,ro 300000 3)],[(300000,wI 3 h0)]⟩ fun τ hτ=>?_
 refine th_ret ?_
 obtain rfl:=osi h
 exact qW hτ [(2,ro 0 3)] (sp [] [(300000,0)])
 refine y4 [0] [300000] (zB (y3 1 [0,3] [300000] (zC ?_)))
 obtain ⟨x1688,hx1688,h⟩:=bindS h
 refine ql hx1688 (fun s1127=>⟨[(0,ro 500000 3),(3,vI s1127)],[(500000,wI 3 h0)]⟩) (fun x1688=>match x1688 with | .inl j1689=>(.ret,⟨[(2,ro 500000 3)],[(500000,wI 3 j1689)]⟩) | .inr j1690=>(.exit 0,⟨[(0,ro 500000 3)],[(500000,wI 3 h0)]⟩)) (sp [] [(300000,500000)]) (fun s1127 r h=>?_) (fun τ hτ=>?_) (hout:=(by intro x; rcases x with _ | _ <;> rfl))
 refine zB (z7 (zA 2 (qL cI h0 (y1 1 [0,3,13] [500000] (qc h (fun h=>?_) fun h=>?_)))))
 refine y4 [0,3] [500000] (zB (zC (zB (qM 9 (dN 2 ?_)))))
 obtain ⟨x1552,hx1552,h⟩:=bindS h
 refine dI cI hx1552 (dR cI hx1552 (dN 3 ?_))
 obtain ⟨x1553,hx1553,h⟩:=bindS h
 refine dI cI hx1553 (dR cI hx1553 (dE (oN 1 (zO fun τ hτ=>?_))))
 refine yE hτ [0,3,25] [500000] (qc h (fun h=>?_) fun h=>?_)
 refine z7 (zA 2 ?_)
 obtain ⟨hp2,h⟩:=iteN h
 refine evs_op (st_slPL (c:=cI) (l:=h0) (kk:=(.top 500000)) (e:=3) (sz:=1) (lo:=s1127) (k1:=.i64) (by kernel_rfl) (by kernel_rfl) (fun _=>rfl) hp2) (y1 1 [0,3,4] [500000] (zB (y3 1 [0,3,4,5] [500000] (zC ?_))))
 obtain ⟨x1685,hx1685,h⟩:=bindS h
 refine ql hx1685 (fun s1642=>⟨[(0,ro 500000 3),(3,vI s1642.1),(4,.part (.top 500000) 3 (Int.toNat s1127) (Int.toNat (h0.length : Int) - Int.toNat s1127)),(5,vI s1642.2.1)],[(500000,wI 3 s1642.2.2)]⟩) (fun x1685=>(.exit 2,⟨[(0,ro 500000 3),(3,vI x1685.1)],[(500000,wI 3 x1685.2)]⟩)) qH (fun s1642 r h=>?_) fun τ hτ=>?_
 refine zB (z7 (zA 2 (evs_op (st_lenP (kk:=(.top 500000)) (e:=3) (lo:=(Int.toNat s1127)) (n:=(Int.toNat (h0.length : Int) - Int.toNat s1127)) (by kernel_rfl)) (y1 1 [0,3,4,5,32] [500000] (qc h (fun h=>?_) fun h=>?_)))))
 refine y4 [0,3,4,5] [500000] (sem_seqJ (fun (j1674 : Int×(List Int))=>⟨[(0,ro 500000 3),(3,vI j1674.1),(4,.part (.top 500000) 3 (Int.toNat s1127) (Int.toNat (h0.length : Int) - Int.toNat s1127)),(5,vI s1642.2.1)],[(500000,wI 3 j1674.2)]⟩) (slices_Compact_Lint_int_k1 s1642) r (by kernel_rfl) (fun j1674 h=>?_) ?_)
 refine zD (z6 3 fun τ hτ=>?_)
 cases h
 exact zH hτ
 refine zC (zB (qM 9 (dN 2 ?_)))
 obtain ⟨x1679,hx1679,h⟩:=bindS h
 refine evd_val (by kernel_rfl) (st_idxP (c:=cI) (l:=s1642.2.2) (i:=s1642.2.1) (kd:=.i64) (kk:=(.top 500000)) (e:=3) (sz:=1) (lo:=(Int.toNat s1127)) (n:=(Int.toNat (h0.length : Int) - Int.toNat s1127)) (by kernel_rfl) (by kernel_rfl) hx1679 rfl) (by kernel_rfl) (by kernel_rfl) (evd_val (by kernel_rfl) (st_ldO (c:=cI) (l:=s1642.2.2) (i:=((Int.toNat s1127)+Int.toNat s1642.2.1)) (v:=(vI x1679)) (agg:=false) (sz:=1) (kk:=(.top 500000)) (e:=3) (off:=0) (J:=[]) (by kernel_rfl) (by kernel_rfl) (by kernel_rfl) (idx_part hx1679) (by kernel_rfl)) (by kernel_rfl) (by kernel_rfl) (dN 3 ?_))
 obtain ⟨x1680,hx1680,h⟩:=bindS h
 refine evd_val (by kernel_rfl) (st_idxP (c:=cI) (l:=s1642.2.2) (i:=(isub s1642.2.1 1)) (kd:=.i64) (kk:=(.top 500000)) (e:=3) (sz:=1) (lo:=(Int.toNat s1127)) (n:=(Int.toNat (h0.length : Int) - Int.toNat s1127)) (by kernel_rfl) (by kernel_rfl) hx1680 rfl) (by kernel_rfl) (by kernel_rfl) (evd_val (by kernel_rfl) (st_ldO (c:=cI) (l:=s1642.2.2) (i:=((Int.toNat s1127)+Int.toNat (isub s1642.2.1 1))) (v:=(vI x1680)) (agg:=false) (sz:=1) (kk:=(.top 500000)) (e:=3) (off:=0) (J:=[]) (by kernel_rfl) (by kernel_rfl) (by kernel_rfl) (idx_part hx1680) (by kernel_rfl)) (by kernel_rfl) (by kernel_rfl) (dE (oN 1 (zO fun τ hτ=>?_))))
 refine yE hτ [0,3,4,5,44] [500000] (qc h (fun h=>?_) fun h=>?_)
 refine z7 (zA 4 ?_)
 obtain ⟨x1683,hx1683,h⟩:=bindS h
 refine evs_op (st_idxP (c:=cI) (l:=s1642.2.2) (i:=s1642.2.1) (kd:=.i64) (kk:=(.top 500000)) (e:=3) (sz:=1) (lo:=(Int.toNat s1127)) (n:=(Int.toNat (h0.length : Int) - Int.toNat s1127)) (by kernel_rfl) (by kernel_rfl) hx1683 rfl) (evs_op (st_ldO (c:=cI) (l:=s1642.2.2) (i:=((Int.toNat s1127)+Int.toNat s1642.2.1)) (v:=(vI x1683)) (agg:=false) (sz:=1) (kk:=(.top 500000)) (e:=3) (off:=0) (J:=[]) (by kernel_rfl) (by kernel_rfl) (by kernel_rfl) (idx_part hx1683) (by kernel_rfl)) ?_)
 obtain ⟨x1684,hx1684,h⟩:=bindS h
 refine qI cI hx1684 (qS cI x1683 hx1684 (zP fun τ hτ=>?_))
 refine yE hτ [0,3,4,5] [500000] (zD (z6 3 fun τ hτ=>?_))
 exact bl_normal (jk_normal ((iadd s1642.1 1),(List.set s1642.2.2 (Int.toNat s1642.1) x1683)) h hτ (here (by kernel_rfl)))
 refine zM fun τ hτ=>?_
 exact bl_normal (jk_normal (s1642.1,s1642.2.2) h hτ (here (by kernel_rfl)))
 refine zL 2 fun τ hτ=>?_
 refine th_exit ?_
 cases h
 exact zF hτ
 refine zQ (yE hτ [0,3] [500000] (z7 (zA 2 ?_)))
 obtain ⟨hp2,h⟩:=iteN h
 refine evs_op (st_slPL (c:=cI) (l:=x1685.2) (kk:=(.top 500000)) (e:=3) (sz:=1) (lo:=x1685.1) (k1:=.i64) (by kernel_rfl) (by kernel_rfl) (fun _=>rfl) hp2) (evs_at (at_clear (c:=cI) (l:=x1685.2) (z:=0) (d:=(.part (.top 500000) 3 (Int.toNat x1685.1) (Int.toNat (x1685.2.length : Int) - Int.toNat x1685.1))) (e:=3) (g:=500000) (lo:=(Int.toNat x1685.1)) (n:=(Int.toNat (x1685.2.length : Int) - Int.toNat x1685.1)) (zs:=[(vI 0)]) (by kernel_rfl) (by kernel_rfl) (by kernel_rfl) (part_fit hp2) rfl) (zP fun τ hτ=>?_))
 refine yE hτ [0,3] [500000] (z7 (zA 2 ?_))
 obtain ⟨l1687,hl1687,h⟩:=bindS h
 refine evs_at (at_cut (J:=[]) (c:=cI) (l:=(cpy x1685.2 (Int.toNat x1685.1) (List.replicate (Int.toNat (x1685.2.length : Int) - Int.toNat x1685.1) 0))) (e:=3) (g:=500000) (hi:=x1685.1) (k2:=.i64) (by kernel_rfl) (by kernel_rfl) rfl hl1687) (y1 1 [2] [500000] (zN fun τ hτ=>?_))
 refine bl_ret (th_ret ?_)
 cases h
 exact zF hτ
 refine zM fun τ hτ=>?_
 refine bl_normal (yE hτ [0,3] [500000] (zD (z6 3 fun τ hτ=>?_)))
 cases h
 exact zH hτ
 refine zL 0 fun τ hτ=>?_
 refine th_exit ?_
 cases h
 exact zF hτ
 rcases x1688 with j1689 | j1690
 refine bl_ret (th_ret ?_)
 obtain rfl:=osi h
 exact qW hτ [(2,ro 0 3)] (sp [] [(500000,0)])
 refine zQ (yE hτ [0] [500000] (z8 2 ⟨[(2,ro 500000 3)],[(500000,wI 3 h0)]⟩ fun τ hτ=>?_))
 obtain rfl:=osi h
 exact qW hτ [(2,ro 0 3)] (sp [] [(500000,0)])
theorem W.cut_set_ok {h0 r} (h : cut_set h0=some r) : PC G.P 105 [(.row (.top 300000) 3)] [(300000,.row 3 [] (List.map cI h0))] (.row (.top 0) 3) [(0,.row 3 [] (List.map cI r))]:=by
 refine zU G Tryz.func105 (yK [0] [300000] (y3 1 [0] [300000] (z7 (zA 1 ?_))))
 obtain ⟨r2,hr2,h⟩:=bindS h
 refine qC [(1000000,300000)] [] (W.slices_SortFunc_Lint_int__cmp_Compare_int_ok hr2) (zP fun τ hτ=>?_)
 refine yE hτ [0] [300000] (z7 (zA 1 ?_))
 obtain ⟨r4,hr4,h⟩:=bindS h
 refine qC [(300000,300000)] [(0,700050)] (W.slices_Compact_Lint_int_ok hr4) (y1 1 [2] [700050] (zN fun τ hτ=>?_))
 obtain rfl:=osi h
 exact qW hτ [(2,ro 0 3)] (sp [] [(700050,0)])
theorem W.cut_at_ok {l x1 y r} (h : cut_at l x1 y=some r) : PC G.P 108 [(.agg (c_LayoutT l)),(vI x1),(vI y)] [] (vF 198 194 r) []:=by
 refine zU G Tryz.func108 (yK [0,1,2] [] (y3 2 [1,2,3] [3] (zB (z7 (zA 2 (qL c_Piece l.Pieces ?_))))))
 refine y1 1 [1,2,12,13,14] [] (zC ?_)
 obtain ⟨x308,hx308,h⟩:=bindS h
 refine ql hx308 (fun s207=>⟨[(1,vI x1),(2,vI y),(12,s_Piece l.Pieces),(13,vI (l.Pieces.length : Int)),(14,vI s207)],[]⟩) (fun x308=>match x308 with | .inl j309=>(.ret,⟨[(6,vF 198 194 j309)],[]⟩) | .inr j310=>(.exit 0,⟨[],[]⟩)) qH (fun s207 r h=>?_) (fun τ hτ=>?_) (hout:=(by intro x; rcases x with _ | _ <;> rfl))
 refine y3 1 [1,2,12,13,14,15] [] (zB (qc h (fun h=>?_) fun h=>?_))
 refine y4 [1,2,12,13,14] [] (zB (zC (z7 (zA 1 ?_))))
 obtain ⟨x284,hx284,h⟩:=bindS h
 refine qX c_Piece hx284 (y1 4 [1,2,7,8,12,13,14] [8] (z7 (zA 2 (qL c_Rect x284.Rects (y1 1 [1,2,7,12,13,14,20,21,22] [] (zC ?_))))))
 obtain ⟨x305,hx305,h⟩:=bindS h
 refine ql hx305 (fun s292=>⟨[(1,vI x1),(2,vI y),(7,vI s207),(12,s_Piece l.Pieces),(13,vI (l.Pieces.length : Int)),(14,vI s207),(20,s_Rect x284.Rects),(21,vI (x284.Rects.length : Int)),(22,vI s292)],[]⟩) (fun x305=>match x305 with | .inl j306=>(.ret,⟨[(6,vF 198 194 (some s207))],[]⟩) | .inr j307=>(.exit 2,⟨[(1,vI x1),(2,vI y),(12,s_Piece l.Pieces),(13,vI (l.Pieces.length : Int)),(14,vI s207)],[]⟩)) qH (fun s292 r h=>?_) (fun τ hτ=>?_) (hout:=(by intro x; rcases x with _ | _ <;> rfl))
 refine y3 1 [1,2,7,12,13,14,20,21,22,23] [] (zB (qc h (fun h=>?_) fun h=>?_))
 refine y4 [1,2,7,12,13,14,20,21,22] [] (zB (zC (z7 ?_)))
 obtain ⟨x303,hx303,h⟩:=bindS h
 refine qX c_Rect hx303 (y1 3 [1,2,7,10,12,13,14,20,21,22] [10] (zB ?_))
 obtain ⟨j304,hj304,h⟩:=bindS h
 refine zT ⟨[(1,vI x1),(2,vI y),(7,vI s207),(12,s_Piece l.Pieces),(13,vI (l.Pieces.length : Int)),(14,vI s207),(20,s_Rect x284.Rects),(21,vI (x284.Rects.length : Int)),(22,vI s292),(53,vB j304)],[]⟩ ?_ fun τ hτ=>?_
 replace h:=hj304
 refine zA 5 (qB h [1,2,7,10,12,13,14,20,21,22,30] [10] [30] (fun h=>?_) fun h=>?_)
 refine zA 9 (qB h [1,2,7,10,12,13,14,20,21,22,39] [10] [39] (fun h=>?_) fun h=>?_)
 refine zA 6 (qB h [1,2,7,10,12,13,14,20,21,22,45] [10] [45] (fun h=>?_) fun h=>?_)
 refine z6 8 fun τ hτ=>?_
 cases h
 exact zG hτ
 refine z6 8 fun τ hτ=>?_
 cases h
 exact zG hτ
 refine z6 14 fun τ hτ=>?_
 cases h
 exact zG hτ
 refine z6 23 fun τ hτ=>?_
 cases h
 exact zG hτ
 refine yE hτ [1,2,7,12,13,14,20,21,22,53] [] (qc h (fun h=>?_) fun h=>?_)
 refine z7 (zA 1 (evs_at (at_mkif (x:=(some s207)) ifc_ (by kernel_rfl)) (y1 1 [6] [] (zN fun τ hτ=>?_))))
 refine bl_ret (th_ret ?_)
 cases h
 exact zF hτ
 refine zM fun τ hτ=>?_
 refine bl_normal (yE hτ [1,2,7,12,13,14,20,21,22] [] (zD (z6 2 fun τ hτ=>?_)))
 cases h
 exact zH hτ
 refine zL 2 fun τ hτ=>?_
 refine th_exit ?_
 cases h
 exact zF hτ
 rcases x305 with j306 | j307
 refine bl_ret (bl_ret (th_ret ?_))
 cases h
 exact zF hτ
 refine zQ (bl_normal (yE hτ [1,2,12,13,14] [] (zD (z6 2 fun τ hτ=>?_))))
 cases h
 exact zH hτ
 refine zL 0 fun τ hτ=>?_
 refine th_exit ?_
 cases h
 exact zF hτ
 rcases x308 with j309 | j310
 refine bl_ret (th_ret ?_)
 obtain rfl:=osi h
 exact zV hτ [(6,vF 198 194 j309)]
 refine zQ (yE hτ [] [] (z7 (zA 1 (evs_at (at_mkif (x:=none) ifc_ (by kernel_rfl)) (y1 1 [6] [] (zN fun τ hτ=>?_))))))
 obtain rfl:=osi h
 exact zV hτ [(6,vF 198 194 none)]
theorem W.cut_edges_1_ok {x0 a_0 a_1 a_2 a_3 a_4 a_5 a_6 a_7 a_8 a2_0 r} (h : cut_edges_1 x0 a_0 a_1 a_2 a_3 a_4 a_5 a_6 a_7 a_8 a2_0=some r) : PC G.P 107 [(vI x0),(.vptr [(vS a_0),(vS a_1),(vI a_2),(vI a_3),(vI a_4),(vI a_5),(.sl (List.map c_Rect a_6)),(.sl (List.map c_Rect a_7)),(.sl (List.map c_Piece a_8))] 0),(.vptr [(vI a2_0)] 0)] [] (.tup [(vF 198 194 r.1),(vF 198 194 r.2)]) []:=by
 refine zU G Tryz.func107 (yK [0,1,2] [] (y3 2 [0,1,2] [] (zB (qM 8 (dN 3 ?_)))))
 obtain ⟨r5,hr5,h⟩:=bindS h
 refine dC [] (W.cut_at_ok hr5) (dN 4 (dE ?_))
 obtain ⟨r6,hr6,h⟩:=bindS h
 refine oP (W.cut_at_ok hr6) (oN 2 (zO fun τ hτ=>?_))
 refine yE hτ [4,5] [] (zN fun τ hτ=>?_)
 obtain rfl:=osi h
 exact zV hτ [(4,vF 198 194 r5),(5,vF 198 194 r6)]
theorem W.cut_pieceNo_solid_ok {a r} (h : cut_pieceNo_solid a=some r) : PC G.P 237 [(vI a)] [] (vB r) []:=by
 refine zU G Tryz.func237 (yK [] [] (y3 1 [] [] (z8 1 ⟨[(2,vB true)],[]⟩ fun τ hτ=>?_)))
 obtain rfl:=osi h
 exact zV hτ [(2,vB true)]
theorem W.cut_nothing_solid_ok {a r} (h : cut_nothing_solid a=some r) : PC G.P 236 [(.agg [])] [] (vB r) []:=by
 refine zU G Tryz.func236 (yK [0] [] (y3 2 [] [] (z8 1 ⟨[(2,vB false)],[]⟩ fun τ hτ=>?_)))
 obtain rfl:=osi h
 exact zV hτ [(2,vB false)]
theorem W.cut_edges_2_ok {from0 to1 a_0 r} (h : cut_edges_2 from0 to1 a_0=some r) : PC G.P 109 [(vI from0),(vI to1),(.vptr [(vI a_0)] 0)] [] (.agg (c_Segment r)) [(0,.box [(vI from0),(vI a_0),(vI to1),(vI a_0)])]:=by
 refine zU G Tryz.func109 (yK [0,1,2] [] (y3 1 [0,1,2,5] [5] (z8 6 ⟨[(5,.ptr 5 0)],[(5,.box [(vI from0),(vI a_0),(vI to1),(vI a_0)])]⟩ fun τ hτ=>?_)))
 obtain rfl:=osi h
 exact qW hτ [(5,.ptr 0 0)] (sp [] [(5,0)])
theorem W.cut_number_ok {t r} (h : cut_number t=some r) : PC G.P 154 [(vF 198 194 t)] [] (vI r) []:=by
 refine zU G Tryz.func154 (yK [0] [] (y3 1 [0] [] (y3 1 [5] [] (zC (z7 (evs_at (at_tas (x:=t) ifc_ (by kernel_rfl)) ?_))))))
 refine y1 2 [5,7,8] [] (qc h (fun h=>?_) fun h=>?_)
 refine y3 1 [3] [] (z8 2 ⟨[(2,vI (Option.getD t 0))],[]⟩ fun τ hτ=>?_)
 refine bl_ret ?_
 obtain rfl:=osi h
 exact zV hτ [(2,vI (Option.getD t 0))]
 refine y3 1 [] [] (z8 1 ⟨[(2,vI (-1))],[]⟩ fun τ hτ=>?_)
 refine bl_ret ?_
 obtain rfl:=osi h
 exact zV hτ [(2,vI (-1))]
theorem W.cut_edge_ok {s0 a b r} (h : cut_edge s0 a b=some r) : PC G.P 153 [(.agg (c_Segment s0)),(vI a),(vI b)] [] (.agg (c_EdgeT r.1)) [(0,.box [(vI s0.X1),(vI s0.Y1),(vI s0.X2),(vI s0.Y2),(vI r.2.1),(vI r.2.2)])]:=by
 refine zU G Tryz.func153 (yK [0,1,2] [] (y3 2 [1,2,3,6] [3,6] (sem_seqJ (fun (j2 : Int×Int)=>⟨[(1,vI j2.1),(2,vI j2.2),(3,.ptr 500000 0),(6,.ptr 500001 0)],[(500000,.box (c_Segment s0)),(500001,.box [(vI 0),(vI 0),(vI 0),(vI 0),(vI 0),(vI 0)])]⟩) (cut_edge_k1 s0) r (by kernel_rfl) (fun j2 h=>?_) ?_)))
 refine z8 5 ⟨[(6,.ptr 500001 0)],[(500001,.box [(vI s0.X1),(vI s0.Y1),(vI s0.X2),(vI s0.Y2),(vI j2.1),(vI j2.2)])]⟩ fun τ hτ=>?_
 obtain rfl:=osi h
 exact qW hτ [(6,.ptr 0 0)] (sp [] [(500001,0)])
 refine zB ?_
 obtain ⟨j3,hj3,h⟩:=bindS h
 refine zT ⟨[(1,vI a),(2,vI b),(3,.ptr 500000 0),(6,.ptr 500001 0),(17,vB j3)],[(500000,.box (c_Segment s0)),(500001,.box [(vI 0),(vI 0),(vI 0),(vI 0),(vI 0),(vI 0)])]⟩ ?_ fun τ hτ=>?_
 replace h:=hj3
 refine zA 3 (qB h [1,2,3,6,9] [3,6] [9] (fun h=>?_) fun h=>?_)
 refine z6 8 fun τ hτ=>?_
 cases h
 exact leafC hτ (sp [] [(3,500000),(6,500001)])
 refine zA 3 (qB h [1,2,3,6,9,12] [3,6] [12] (fun h=>?_) fun h=>?_)
 refine z6 5 fun τ hτ=>?_
 cases h
 exact leafC hτ (sp [] [(3,500000),(6,500001)])
 refine z6 5 fun τ hτ=>?_
 cases h
 exact leafC hτ (sp [] [(3,500000),(6,500001)])
 refine yE hτ [1,2,3,6,17] [500000,500001] (qc h (fun h=>?_) fun h=>?_)
 refine zD (z6 4 fun τ hτ=>?_)
 exact jk_normal (b,a) h hτ (here (by kernel_rfl))
 refine zM fun τ hτ=>?_
 exact jk_normal (a,b) h hτ (here (by kernel_rfl))
theorem W.cut_along__cut_edges_1__cut_edges_2_ok {ends sides_0_0 sides_0_1 sides_0_2 sides_0_3 sides_0_4 sides_0_5 sides_0_6 sides_0_7 sides_0_8 sides_1_0 line_0_0 r} (h : cut_along__cut_edges_1__cut_edges_2 ends sides_0_0 sides_0_1 sides_0_2 sides_0_3 sides_0_4 sides_0_5 sides_0_6 sides_0_7 sides_0_8 sides_1_0 line_0_0=some r) : PC G.P 106 [(.sl (List.map cI ends)),(.fn 107 [(.vptr [(vS sides_0_0),(vS sides_0_1),(vI sides_0_2),(vI sides_0_3),(vI sides_0_4),(vI sides_0_5),(.sl (List.map c_Rect sides_0_6)),(.sl (List.map c_Rect sides_0_7)),(.sl (List.map c_Piece sides_0_8))] 0),(.vptr [(vI sides_1_0)] 0)]),(.fn 109 [(.vptr [(vI line_0_0)] 0)])] [] (.row (.top 0) 74) [(0,.row 74 [] (List.map c_EdgeT r))]:=by
 refine zU G Tryz.func106 (yK [0,1,2] [] (y3 1 [0,1,2] [] (y3 1 [0,1,2,7] [7] (y3 1 [0,1,2,7,8] [7] (z7 (zA 1 ?_))))))
 refine evs_at (at_mkif (x:=none) ifc_ (by kernel_rfl)) (zA 1 (evs_at (at_mkif (x:=none) ifc_ (by kernel_rfl)) (y1 2 [0,1,2,7,8,9,10] [7] (zB (z7 (zA 1 ?_))))))
 refine qL cI ends (y1 1 [0,1,2,7,8,9,10,19,20,21] [7] (zC ?_))
 obtain ⟨x492,hx492,h⟩:=bindS h
 refine ql hx492 (fun s329=>⟨[(0,sI ends),(1,.fn 107 [(.vptr [(vS sides_0_0),(vS sides_0_1),(vI sides_0_2),(vI sides_0_3),(vI sides_0_4),(vI sides_0_5),(s_Rect sides_0_6),(s_Rect sides_0_7),(s_Piece sides_0_8)] 0),(.vptr [(vI sides_1_0)] 0)]),(2,.fn 109 [(.vptr [(vI line_0_0)] 0)]),(7,ro 500000 74),(8,vI s329.1),(9,vF 198 194 s329.2.1),(10,vF 198 194 s329.2.2.1),(19,sI ends),(20,vI (ends.length : Int)),(21,vI s329.2.2.2.1)],[(500000,w_EdgeT 74 s329.2.2.2.2)]⟩) (fun x492=>(.exit 0,⟨[(7,ro 500000 74)],[(500000,w_EdgeT 74 x492)]⟩)) (sp [] [(7,500000)]) (fun s329 r h=>?_) fun τ hτ=>?_
 refine y3 1 [0,1,2,7,8,9,10,19,20,21,22] [500000] (zB (qc h (fun h=>?_) fun h=>?_))
 refine y4 [0,1,2,7,8,9,10,19,20,21] [500000] (sem_seqJ (fun (j451 : Int×(Option Int)×(Option Int)×(List EdgeT))=>⟨[(0,sI ends),(1,.fn 107 [(.vptr [(vS sides_0_0),(vS sides_0_1),(vI sides_0_2),(vI sides_0_3),(vI sides_0_4),(vI sides_0_5),(s_Rect sides_0_6),(s_Rect sides_0_7),(s_Piece sides_0_8)] 0),(.vptr [(vI sides_1_0)] 0)]),(2,.fn 109 [(.vptr [(vI line_0_0)] 0)]),(7,ro 500000 74),(8,vI j451.1),(9,vF 198 194 j451.2.1),(10,vF 198 194 j451.2.2.1),(19,sI ends),(20,vI (ends.length : Int)),(21,vI s329.2.2.2.1)],[(500000,w_EdgeT 74 j451.2.2.2)]⟩) (cut_along__cut_edges_1__cut_edges_2_k1 s329) r (by kernel_rfl) (fun j451 h=>?_) ?_)
 refine zD (z6 2 fun τ hτ=>?_)
 cases h
 exact zH hτ
 refine zC (z7 (zA 1 ?_))
 obtain ⟨x453,hx453,h⟩:=bindS h
 refine qX cI hx453 (y1 3 [0,1,2,7,8,9,10,11,12,19,20,21] [500000] (z7 (zA 1 (evs_at (at_mkif (x:=none) ifc_ (by kernel_rfl)) (zA 1 (evs_at (at_mkif (x:=none) ifc_ (by kernel_rfl)) ?_))))))
 refine y1 2 [0,1,2,7,8,9,10,11,12,13,14,19,20,21] [500000] (sem_seqJ (fun (j456 : (Option Int)×(Option Int))=>⟨[(0,sI ends),(1,.fn 107 [(.vptr [(vS sides_0_0),(vS sides_0_1),(vI sides_0_2),(vI sides_0_3),(vI sides_0_4),(vI sides_0_5),(s_Rect sides_0_6),(s_Rect sides_0_7),(s_Piece sides_0_8)] 0),(.vptr [(vI sides_1_0)] 0)]),(2,.fn 109 [(.vptr [(vI line_0_0)] 0)]),(7,ro 500000 74),(8,vI s329.1),(9,vF 198 194 s329.2.1),(10,vF 198 194 s329.2.2.1),(12,vI x453),(13,vF 198 194 j456.1),(14,vF 198 194 j456.2),(19,sI ends),(20,vI (ends.length : Int)),(21,vI s329.2.2.2.1)],[(500000,w_EdgeT 74 s329.2.2.2.2)]⟩) (cut_along__cut_edges_1__cut_edges_2_k3 line_0_0 s329 x453) r (by kernel_rfl) (fun j456 h=>?_) ?_)
 refine zB (zB ?_)
 obtain ⟨j458,hj458,h⟩:=bindS h
 refine zT ⟨[(0,sI ends),(1,.fn 107 [(.vptr [(vS sides_0_0),(vS sides_0_1),(vI sides_0_2),(vI sides_0_3),(vI sides_0_4),(vI sides_0_5),(s_Rect sides_0_6),(s_Rect sides_0_7),(s_Piece sides_0_8)] 0),(.vptr [(vI sides_1_0)] 0)]),(2,.fn 109 [(.vptr [(vI line_0_0)] 0)]),(7,ro 500000 74),(8,vI s329.1),(9,vF 198 194 s329.2.1),(10,vF 198 194 s329.2.2.1),(12,vI x453),(13,vF 198 194 j456.1),(14,vF 198 194 j456.2),(19,sI ends),(20,vI (ends.length : Int)),(21,vI s329.2.2.2.1),(48,vB j458)],[(500000,w_EdgeT 74 s329.2.2.2.2)]⟩ ?_ fun τ hτ=>?_
 replace h:=hj458
 refine zA 2 (evs_at (at_ife (x:=j456.1) (y:=s329.2.1) ifc_ (by kernel_rfl)) (zA 1 (qB h [0,1,2,7,8,9,10,12,13,14,19,20,21,44] [500000] [44] (fun h=>?_) fun h=>?_)))
 refine zA 2 (evs_at (at_ife (x:=j456.2) (y:=s329.2.2.1) ifc_ (by kernel_rfl)) (z6 1 fun τ hτ=>?_))
 cases h
 exact zG hτ
 refine z6 4 fun τ hτ=>?_
 cases h
 exact zG hτ
 refine yE hτ [0,1,2,7,8,9,10,12,13,14,19,20,21,48] [500000] (qc h (fun h=>?_) fun h=>?_)
 refine zL 1 fun τ hτ=>?_
 exact th_exit (zQ (jk_normal (s329.1,s329.2.1,s329.2.2.1,s329.2.2.2.2) h hτ (here (by kernel_rfl))))
 refine y4 [0,1,2,7,8,9,10,12,13,14,19,20,21] [500000] (sem_seqJ (fun (j474 : (List EdgeT))=>⟨[(0,sI ends),(1,.fn 107 [(.vptr [(vS sides_0_0),(vS sides_0_1),(vI sides_0_2),(vI sides_0_3),(vI sides_0_4),(vI sides_0_5),(s_Rect sides_0_6),(s_Rect sides_0_7),(s_Piece sides_0_8)] 0),(.vptr [(vI sides_1_0)] 0)]),(2,.fn 109 [(.vptr [(vI line_0_0)] 0)]),(7,ro 500000 74),(12,vI x453),(13,vF 198 194 j456.1),(14,vF 198 194 j456.2),(19,sI ends),(20,vI (ends.length : Int)),(21,vI s329.2.2.2.1)],[(500000,w_EdgeT 74 j474)]⟩) (cut_along__cut_edges_1__cut_edges_2_k2 s329 x453 j456) r (by kernel_rfl) (fun j474 h=>?_) ?_)
 refine zD (z6 6 fun τ hτ=>?_)
 exact bl_normal (jk_normal (x453,j456.1,j456.2,j474) h hτ (here (by kernel_rfl)))
 refine zB ?_
 obtain ⟨j477,hj477,h⟩:=bindS h
 refine zT ⟨[(0,sI ends),(1,.fn 107 [(.vptr [(vS sides_0_0),(vS sides_0_1),(vI sides_0_2),(vI sides_0_3),(vI sides_0_4),(vI sides_0_5),(s_Rect sides_0_6),(s_Rect sides_0_7),(s_Piece sides_0_8)] 0),(.vptr [(vI sides_1_0)] 0)]),(2,.fn 109 [(.vptr [(vI line_0_0)] 0)]),(7,ro 500000 74),(8,vI s329.1),(9,vF 198 194 s329.2.1),(10,vF 198 194 s329.2.2.1),(12,vI x453),(13,vF 198 194 j456.1),(14,vF 198 194 j456.2),(19,sI ends),(20,vI (ends.length : Int)),(21,vI s329.2.2.2.1),(59,vB j477)],[(500000,w_EdgeT 74 s329.2.2.2.2)]⟩ ?_ fun τ hτ=>?_
 replace h:=hj477
 refine zA 2 (evs_at (at_ifn (x:=s329.2.1) (y:=s329.2.2.1) ifc_ (by kernel_rfl)) (zA 1 (zS (s329.2.1==s329.2.2.1) (fun b0=>⟨[(0,sI ends),(1,.fn 107 [(.vptr [(vS sides_0_0),(vS sides_0_1),(vI sides_0_2),(vI sides_0_3),(vI sides_0_4),(vI sides_0_5),(s_Rect sides_0_6),(s_Rect sides_0_7),(s_Piece sides_0_8)] 0),(.vptr [(vI sides_1_0)] 0)]),(2,.fn 109 [(.vptr [(vI line_0_0)] 0)]),(7,ro 500000 74),(8,vI s329.1),(9,vF 198 194 s329.2.1),(10,vF 198 194 s329.2.2.1),(12,vI x453),(13,vF 198 194 j456.1),(14,vF 198 194 j456.2),(19,sI ends),(20,vI (ends.length : Int)),(21,vI s329.2.2.2.1),(52,vB (!b0))],[(500000,w_EdgeT 74 s329.2.2.2.2)]⟩) (fun hb=>?_) fun hb=>?_)))
 replace h:=iteT hb h
 refine z6 7 fun τ hτ=>?_
 cases h
 exact zG hτ
 replace h:=iteF hb h
 refine zA 1 ?_
 obtain ⟨b478,hb478,h⟩:=bindS h
 refine evs_inv (x:=s329.2.1) (r:=b478) ifc_ (by kernel_rfl) (inv_pc hb478 (fun n h=>W.cut_pieceNo_solid_ok h) (fun h=>W.cut_nothing_solid_ok h)) (zA 1 (qB h [0,1,2,7,8,9,10,12,13,14,19,20,21,52,55] [500000] [55] (fun h=>?_) fun h=>?_))
 refine z6 4 fun τ hτ=>?_
 cases h
 exact zG hτ
 refine zA 1 ?_
 obtain ⟨b479,hb479,h⟩:=bindS h
 refine evs_inv (x:=s329.2.2.1) (r:=b479) ifc_ (by kernel_rfl) (inv_pc hb479 (fun n h=>W.cut_pieceNo_solid_ok h) (fun h=>W.cut_nothing_solid_ok h)) (z6 2 fun τ hτ=>?_)
 cases h
 exact zG hτ
 refine yE hτ [0,1,2,7,8,9,10,12,13,14,19,20,21,59] [500000] (qc h (fun h=>?_) fun h=>?_)
 refine zD (zA 4 ?_)
 obtain ⟨r485,hr485,h⟩:=bindS h
 refine qC [] [(0,700200)] (W.cut_edges_2_ok hr485) (zA 1 ?_)
 obtain ⟨r486,hr486,h⟩:=bindS h
 refine qP (W.cut_number_ok hr486) (zA 1 ?_)
 obtain ⟨r487,hr487,h⟩:=bindS h
 refine qP (W.cut_number_ok hr487) ?_
 obtain ⟨r488,hr488,h⟩:=bindS h
 refine qC [] [(0,700450)] (W.cut_edge_ok hr488) (zA 1 ?_)
 obtain ⟨l489,hl489,h⟩:=bindS h
 refine qA c_EdgeT 6 hl489 (z6 1 fun τ hτ=>?_)
 exact jk_normal l489 h hτ (here (by kernel_rfl))
 refine zM fun τ hτ=>?_
 exact jk_normal s329.2.2.2.2 h hτ (here (by kernel_rfl))
 refine z7 (zA 3 (qL cI ends (y1 1 [0,1,2,7,8,9,10,12,13,14,19,20,21,34] [500000] (qc h (fun h=>?_) fun h=>?_))))
 refine zD (zA 2 ?_)
 obtain ⟨r491,hr491,h⟩:=bindS h
 refine qP (W.cut_edges_1_ok hr491) (z6 5 fun τ hτ=>?_)
 exact jk_normal (r491.1,r491.2) h hτ (here (by kernel_rfl))
 refine zM fun τ hτ=>?_
 exact jk_normal (none,none) h hτ (here (by kernel_rfl))
 refine zL 0 fun τ hτ=>?_
 refine th_exit ?_
 cases h
 exact zF hτ
 refine zQ (yE hτ [7] [500000] (z8 2 ⟨[(6,ro 500000 74)],[(500000,w_EdgeT 74 x492)]⟩ fun τ hτ=>?_))
 obtain rfl:=osi h
 exact qW hτ [(6,ro 0 74)] (sp [] [(500000,0)])
theorem W.cut_edges_3_ok {y a_0 a_1 a_2 a_3 a_4 a_5 a_6 a_7 a_8 a2_0 r} (h : cut_edges_3 y a_0 a_1 a_2 a_3 a_4 a_5 a_6 a_7 a_8 a2_0=some r) : PC G.P 110 [(vI y),(.vptr [(vS a_0),(vS a_1),(vI a_2),(vI a_3),(vI a_4),(vI a_5),(.sl (List.map c_Rect a_6)),(.sl (List.map c_Rect a_7)),(.sl (List.map c_Piece a_8))] 0),(.vptr [(vI a2_0)] 0)] [] (.tup [(vF 198 194 r.1),(vF 198 194 r.2)]) []:=by
 refine zU G Tryz.func110 (yK [0,1,2] [] (y3 2 [0,1,2] [] (zB (qM 8 (dN 3 ?_)))))
 obtain ⟨r5,hr5,h⟩:=bindS h
 refine dC [] (W.cut_at_ok hr5) (dN 4 (dE ?_))
 obtain ⟨r6,hr6,h⟩:=bindS h
 refine oP (W.cut_at_ok hr6) (oN 2 (zO fun τ hτ=>?_))
 refine yE hτ [4,5] [] (zN fun τ hτ=>?_)
 obtain rfl:=osi h
 exact zV hτ [(4,vF 198 194 r5),(5,vF 198 194 r6)]
theorem W.cut_edges_4_ok {from0 to1 a_0 r} (h : cut_edges_4 from0 to1 a_0=some r) : PC G.P 111 [(vI from0),(vI to1),(.vptr [(vI a_0)] 0)] [] (.agg (c_Segment r)) [(0,.box [(vI a_0),(vI from0),(vI a_0),(vI to1)])]:=by
 refine zU G Tryz.func111 (yK [0,1,2] [] (y3 1 [0,1,2,5] [5] (z8 6 ⟨[(5,.ptr 5 0)],[(5,.box [(vI a_0),(vI from0),(vI a_0),(vI to1)])]⟩ fun τ hτ=>?_)))
 obtain rfl:=osi h
 exact qW hτ [(5,.ptr 0 0)] (sp [] [(5,0)])
theorem W.cut_along__cut_edges_3__cut_edges_4_ok {ends sides_0_0 sides_0_1 sides_0_2 sides_0_3 sides_0_4 sides_0_5 sides_0_6 sides_0_7 sides_0_8 sides_1_0 line_0_0 r} (h : cut_along__cut_edges_3__cut_edges_4 ends sides_0_0 sides_0_1 sides_0_2 sides_0_3 sides_0_4 sides_0_5 sides_0_6 sides_0_7 sides_0_8 sides_1_0 line_0_0=some r) : PC G.P 106 [(.sl (List.map cI ends)),(.fn 110 [(.vptr [(vS sides_0_0),(vS sides_0_1),(vI sides_0_2),(vI sides_0_3),(vI sides_0_4),(vI sides_0_5),(.sl (List.map c_Rect sides_0_6)),(.sl (List.map c_Rect sides_0_7)),(.sl (List.map c_Piece sides_0_8))] 0),(.vptr [(vI sides_1_0)] 0)]),(.fn 111 [(.vptr [(vI line_0_0)] 0)])] [] (.row (.top 0) 74) [(0,.row 74 [] (List.map c_EdgeT r))]:=by
 refine zU G Tryz.func106 (yK [0,1,2] [] (y3 1 [0,1,2] [] (y3 1 [0,1,2,7] [7] (y3 1 [0,1,2,7,8] [7] (z7 (zA 1 ?_))))))
 refine evs_at (at_mkif (x:=none) ifc_ (by kernel_rfl)) (zA 1 (evs_at (at_mkif (x:=none) ifc_ (by kernel_rfl)) (y1 2 [0,1,2,7,8,9,10] [7] (zB (z7 (zA 1 ?_))))))
 refine qL cI ends (y1 1 [0,1,2,7,8,9,10,19,20,21] [7] (zC ?_))
 obtain ⟨x492,hx492,h⟩:=bindS h
 refine ql hx492 (fun s329=>⟨[(0,sI ends),(1,.fn 110 [(.vptr [(vS sides_0_0),(vS sides_0_1),(vI sides_0_2),(vI sides_0_3),(vI sides_0_4),(vI sides_0_5),(s_Rect sides_0_6),(s_Rect sides_0_7),(s_Piece sides_0_8)] 0),(.vptr [(vI sides_1_0)] 0)]),(2,.fn 111 [(.vptr [(vI line_0_0)] 0)]),(7,ro 500000 74),(8,vI s329.1),(9,vF 198 194 s329.2.1),(10,vF 198 194 s329.2.2.1),(19,sI ends),(20,vI (ends.length : Int)),(21,vI s329.2.2.2.1)],[(500000,w_EdgeT 74 s329.2.2.2.2)]⟩) (fun x492=>(.exit 0,⟨[(7,ro 500000 74)],[(500000,w_EdgeT 74 x492)]⟩)) (sp [] [(7,500000)]) (fun s329 r h=>?_) fun τ hτ=>?_
 refine y3 1 [0,1,2,7,8,9,10,19,20,21,22] [500000] (zB (qc h (fun h=>?_) fun h=>?_))
 refine y4 [0,1,2,7,8,9,10,19,20,21] [500000] (sem_seqJ (fun (j451 : Int×(Option Int)×(Option Int)×(List EdgeT))=>⟨[(0,sI ends),(1,.fn 110 [(.vptr [(vS sides_0_0),(vS sides_0_1),(vI sides_0_2),(vI sides_0_3),(vI sides_0_4),(vI sides_0_5),(s_Rect sides_0_6),(s_Rect sides_0_7),(s_Piece sides_0_8)] 0),(.vptr [(vI sides_1_0)] 0)]),(2,.fn 111 [(.vptr [(vI line_0_0)] 0)]),(7,ro 500000 74),(8,vI j451.1),(9,vF 198 194 j451.2.1),(10,vF 198 194 j451.2.2.1),(19,sI ends),(20,vI (ends.length : Int)),(21,vI s329.2.2.2.1)],[(500000,w_EdgeT 74 j451.2.2.2)]⟩) (cut_along__cut_edges_3__cut_edges_4_k1 s329) r (by kernel_rfl) (fun j451 h=>?_) ?_)
 refine zD (z6 2 fun τ hτ=>?_)
 cases h
 exact zH hτ
 refine zC (z7 (zA 1 ?_))
 obtain ⟨x453,hx453,h⟩:=bindS h
 refine qX cI hx453 (y1 3 [0,1,2,7,8,9,10,11,12,19,20,21] [500000] (z7 (zA 1 (evs_at (at_mkif (x:=none) ifc_ (by kernel_rfl)) (zA 1 (evs_at (at_mkif (x:=none) ifc_ (by kernel_rfl)) ?_))))))
 refine y1 2 [0,1,2,7,8,9,10,11,12,13,14,19,20,21] [500000] (sem_seqJ (fun (j456 : (Option Int)×(Option Int))=>⟨[(0,sI ends),(1,.fn 110 [(.vptr [(vS sides_0_0),(vS sides_0_1),(vI sides_0_2),(vI sides_0_3),(vI sides_0_4),(vI sides_0_5),(s_Rect sides_0_6),(s_Rect sides_0_7),(s_Piece sides_0_8)] 0),(.vptr [(vI sides_1_0)] 0)]),(2,.fn 111 [(.vptr [(vI line_0_0)] 0)]),(7,ro 500000 74),(8,vI s329.1),(9,vF 198 194 s329.2.1),(10,vF 198 194 s329.2.2.1),(12,vI x453),(13,vF 198 194 j456.1),(14,vF 198 194 j456.2),(19,sI ends),(20,vI (ends.length : Int)),(21,vI s329.2.2.2.1)],[(500000,w_EdgeT 74 s329.2.2.2.2)]⟩) (cut_along__cut_edges_3__cut_edges_4_k3 line_0_0 s329 x453) r (by kernel_rfl) (fun j456 h=>?_) ?_)
 refine zB (zB ?_)
 obtain ⟨j458,hj458,h⟩:=bindS h
 refine zT ⟨[(0,sI ends),(1,.fn 110 [(.vptr [(vS sides_0_0),(vS sides_0_1),(vI sides_0_2),(vI sides_0_3),(vI sides_0_4),(vI sides_0_5),(s_Rect sides_0_6),(s_Rect sides_0_7),(s_Piece sides_0_8)] 0),(.vptr [(vI sides_1_0)] 0)]),(2,.fn 111 [(.vptr [(vI line_0_0)] 0)]),(7,ro 500000 74),(8,vI s329.1),(9,vF 198 194 s329.2.1),(10,vF 198 194 s329.2.2.1),(12,vI x453),(13,vF 198 194 j456.1),(14,vF 198 194 j456.2),(19,sI ends),(20,vI (ends.length : Int)),(21,vI s329.2.2.2.1),(48,vB j458)],[(500000,w_EdgeT 74 s329.2.2.2.2)]⟩ ?_ fun τ hτ=>?_
 replace h:=hj458
 refine zA 2 (evs_at (at_ife (x:=j456.1) (y:=s329.2.1) ifc_ (by kernel_rfl)) (zA 1 (qB h [0,1,2,7,8,9,10,12,13,14,19,20,21,44] [500000] [44] (fun h=>?_) fun h=>?_)))
 refine zA 2 (evs_at (at_ife (x:=j456.2) (y:=s329.2.2.1) ifc_ (by kernel_rfl)) (z6 1 fun τ hτ=>?_))
 cases h
 exact zG hτ
 refine z6 4 fun τ hτ=>?_
 cases h
 exact zG hτ
 refine yE hτ [0,1,2,7,8,9,10,12,13,14,19,20,21,48] [500000] (qc h (fun h=>?_) fun h=>?_)
 refine zL 1 fun τ hτ=>?_
 exact th_exit (zQ (jk_normal (s329.1,s329.2.1,s329.2.2.1,s329.2.2.2.2) h hτ (here (by kernel_rfl))))
 refine y4 [0,1,2,7,8,9,10,12,13,14,19,20,21] [500000] (sem_seqJ (fun (j474 : (List EdgeT))=>⟨[(0,sI ends),(1,.fn 110 [(.vptr [(vS sides_0_0),(vS sides_0_1),(vI sides_0_2),(vI sides_0_3),(vI sides_0_4),(vI sides_0_5),(s_Rect sides_0_6),(s_Rect sides_0_7),(s_Piece sides_0_8)] 0),(.vptr [(vI sides_1_0)] 0)]),(2,.fn 111 [(.vptr [(vI line_0_0)] 0)]),(7,ro 500000 74),(12,vI x453),(13,vF 198 194 j456.1),(14,vF 198 194 j456.2),(19,sI ends),(20,vI (ends.length : Int)),(21,vI s329.2.2.2.1)],[(500000,w_EdgeT 74 j474)]⟩) (cut_along__cut_edges_3__cut_edges_4_k2 s329 x453 j456) r (by kernel_rfl) (fun j474 h=>?_) ?_)
 refine zD (z6 6 fun τ hτ=>?_)
 exact bl_normal (jk_normal (x453,j456.1,j456.2,j474) h hτ (here (by kernel_rfl)))
 refine zB ?_
 obtain ⟨j477,hj477,h⟩:=bindS h
 refine zT ⟨[(0,sI ends),(1,.fn 110 [(.vptr [(vS sides_0_0),(vS sides_0_1),(vI sides_0_2),(vI sides_0_3),(vI sides_0_4),(vI sides_0_5),(s_Rect sides_0_6),(s_Rect sides_0_7),(s_Piece sides_0_8)] 0),(.vptr [(vI sides_1_0)] 0)]),(2,.fn 111 [(.vptr [(vI line_0_0)] 0)]),(7,ro 500000 74),(8,vI s329.1),(9,vF 198 194 s329.2.1),(10,vF 198 194 s329.2.2.1),(12,vI x453),(13,vF 198 194 j456.1),(14,vF 198 194 j456.2),(19,sI ends),(20,vI (ends.length : Int)),(21,vI s329.2.2.2.1),(59,vB j477)],[(500000,w_EdgeT 74 s329.2.2.2.2)]⟩ ?_ fun τ hτ=>?_
 replace h:=hj477
 refine zA 2 (evs_at (at_ifn (x:=s329.2.1) (y:=s329.2.2.1) ifc_ (by kernel_rfl)) (zA 1 (zS (s329.2.1==s329.2.2.1) (fun b0=>⟨[(0,sI ends),(1,.fn 110 [(.vptr [(vS sides_0_0),(vS sides_0_1),(vI sides_0_2),(vI sides_0_3),(vI sides_0_4),(vI sides_0_5),(s_Rect sides_0_6),(s_Rect sides_0_7),(s_Piece sides_0_8)] 0),(.vptr [(vI sides_1_0)] 0)]),(2,.fn 111 [(.vptr [(vI line_0_0)] 0)]),(7,ro 500000 74),(8,vI s329.1),(9,vF 198 194 s329.2.1),(10,vF 198 194 s329.2.2.1),(12,vI x453),(13,vF 198 194 j456.1),(14,vF 198 194 j456.2),(19,sI ends),(20,vI (ends.length : Int)),(21,vI s329.2.2.2.1),(52,vB (!b0))],[(500000,w_EdgeT 74 s329.2.2.2.2)]⟩) (fun hb=>?_) fun hb=>?_)))
 replace h:=iteT hb h
 refine z6 7 fun τ hτ=>?_
 cases h
 exact zG hτ
 replace h:=iteF hb h
 refine zA 1 ?_
 obtain ⟨b478,hb478,h⟩:=bindS h
 refine evs_inv (x:=s329.2.1) (r:=b478) ifc_ (by kernel_rfl) (inv_pc hb478 (fun n h=>W.cut_pieceNo_solid_ok h) (fun h=>W.cut_nothing_solid_ok h)) (zA 1 (qB h [0,1,2,7,8,9,10,12,13,14,19,20,21,52,55] [500000] [55] (fun h=>?_) fun h=>?_))
 refine z6 4 fun τ hτ=>?_
 cases h
 exact zG hτ
 refine zA 1 ?_
 obtain ⟨b479,hb479,h⟩:=bindS h
 refine evs_inv (x:=s329.2.2.1) (r:=b479) ifc_ (by kernel_rfl) (inv_pc hb479 (fun n h=>W.cut_pieceNo_solid_ok h) (fun h=>W.cut_nothing_solid_ok h)) (z6 2 fun τ hτ=>?_)
 cases h
 exact zG hτ
 refine yE hτ [0,1,2,7,8,9,10,12,13,14,19,20,21,59] [500000] (qc h (fun h=>?_) fun h=>?_)
 refine zD (zA 4 ?_)
 obtain ⟨r485,hr485,h⟩:=bindS h
 refine qC [] [(0,700200)] (W.cut_edges_4_ok hr485) (zA 1 ?_)
 obtain ⟨r486,hr486,h⟩:=bindS h
 refine qP (W.cut_number_ok hr486) (zA 1 ?_)
 obtain ⟨r487,hr487,h⟩:=bindS h
 refine qP (W.cut_number_ok hr487) ?_
 obtain ⟨r488,hr488,h⟩:=bindS h
 refine qC [] [(0,700450)] (W.cut_edge_ok hr488) (zA 1 ?_)
 obtain ⟨l489,hl489,h⟩:=bindS h
 refine qA c_EdgeT 6 hl489 (z6 1 fun τ hτ=>?_)
 exact jk_normal l489 h hτ (here (by kernel_rfl))
 refine zM fun τ hτ=>?_
 exact jk_normal s329.2.2.2.2 h hτ (here (by kernel_rfl))
 refine z7 (zA 3 (qL cI ends (y1 1 [0,1,2,7,8,9,10,12,13,14,19,20,21,34] [500000] (qc h (fun h=>?_) fun h=>?_))))
 refine zD (zA 2 ?_)
 obtain ⟨r491,hr491,h⟩:=bindS h
 refine qP (W.cut_edges_3_ok hr491) (z6 5 fun τ hτ=>?_)
 exact jk_normal (r491.1,r491.2) h hτ (here (by kernel_rfl))
 refine zM fun τ hτ=>?_
 exact jk_normal (none,none) h hτ (here (by kernel_rfl))
 refine zL 0 fun τ hτ=>?_
 refine th_exit ?_
 cases h
 exact zF hτ
 refine zQ (yE hτ [7] [500000] (z8 2 ⟨[(6,ro 500000 74)],[(500000,w_EdgeT 74 x492)]⟩ fun τ hτ=>?_))
 obtain rfl:=osi h
 exact qW hτ [(6,ro 0 74)] (sp [] [(500000,0)])
theorem W.cut_edges_ok {l r} (h : cut_edges l=some r) : PC G.P 49 [(.agg (c_LayoutT l))] [] (.row (.top 0) 74) [(0,.row 74 [] (List.map c_EdgeT r))]:=by
 refine zU G Tryz.func49 (yK [0] [] (y3 2 [1] [1] (y3 2 [1,3,4] [1,3,4] (zB (z7 (zA 2 ?_))))))
 refine qL c_Piece l.Pieces (y1 1 [1,3,4,15,16,17] [1,3,4] (zC ?_))
 obtain ⟨x498,hx498,h⟩:=bindS h
 refine ql hx498 (fun s333=>⟨[(1,.ptr 500000 0),(3,ro 500001 3),(4,ro 500002 3),(15,s_Piece l.Pieces),(16,vI (l.Pieces.length : Int)),(17,vI s333.1)],[(500000,.box (c_LayoutT l)),(500001,wI 3 s333.2.1),(500002,wI 3 s333.2.2)]⟩) (fun x498=>(.exit 0,⟨[(1,.ptr 500000 0),(3,ro 500001 3),(4,ro 500002 3)],[(500000,.box (c_LayoutT l)),(500001,wI 3 x498.1),(500002,wI 3 x498.2)]⟩)) (sp [] [(1,500000),(3,500001),(4,500002)]) (fun s333 r h=>?_) fun τ hτ=>?_
 refine y3 1 [1,3,4,15,16,17,18] [500000,500001,500002] (zB (qc h (fun h=>?_) fun h=>?_))
 refine y4 [1,3,4,15,16,17] [500000,500001,500002] (zB (zC (z7 ?_)))
 obtain ⟨x458,hx458,h⟩:=bindS h
 refine qX c_Piece hx458 (y1 3 [1,3,4,6,15,16,17] [6,500000,500001,500002] (z7 (zA 2 (qL c_Rect x458.Rects (y1 1 [1,3,4,15,16,17,22,23,24] [500000,500001,500002] (zC ?_))))))
 obtain ⟨x497,hx497,h⟩:=bindS h
 refine ql hx497 (fun s472=>⟨[(1,.ptr 500000 0),(3,ro 500001 3),(4,ro 500002 3),(15,s_Piece l.Pieces),(16,vI (l.Pieces.length : Int)),(17,vI s333.1),(22,s_Rect x458.Rects),(23,vI (x458.Rects.length : Int)),(24,vI s472.1)],[(500000,.box (c_LayoutT l)),(500001,wI 3 s472.2.1),(500002,wI 3 s472.2.2)]⟩) (fun x497=>(.exit 2,⟨[(1,.ptr 500000 0),(3,ro 500001 3),(4,ro 500002 3),(15,s_Piece l.Pieces),(16,vI (l.Pieces.length : Int)),(17,vI s333.1)],[(500000,.box (c_LayoutT l)),(500001,wI 3 x497.1),(500002,wI 3 x497.2)]⟩)) qH (fun s472 r h=>?_) fun τ hτ=>?_
 refine y3 1 [1,3,4,15,16,17,22,23,24,25] [500000,500001,500002] (zB (qc h (fun h=>?_) fun h=>?_))
 refine y4 [1,3,4,15,16,17,22,23,24] [500000,500001,500002] (zB (zC (z7 ?_)))
 obtain ⟨x492,hx492,h⟩:=bindS h
 refine qX c_Rect hx492 (y1 3 [1,3,4,8,15,16,17,22,23,24] [8,500000,500001,500002] (z7 (zA 9 ?_)))
 obtain ⟨l494,hl494,h⟩:=bindS h
 refine qA cI 1 hl494 (y1 1 [1,3,4,8,15,16,17,22,23,24] [8,500000,500001,500002] (zD (zA 9 ?_)))
 obtain ⟨l496,hl496,h⟩:=bindS h
 refine qA cI 1 hl496 (z6 1 fun τ hτ=>?_)
 refine bl_normal (yE hτ [1,3,4,15,16,17,22,23,24] [500000,500001,500002] (zD (z6 2 fun τ hτ=>?_)))
 cases h
 exact zH hτ
 refine zL 2 fun τ hτ=>?_
 refine th_exit ?_
 cases h
 exact zF hτ
 refine zQ (bl_normal (yE hτ [1,3,4,15,16,17] [500000,500001,500002] (zD (z6 2 fun τ hτ=>?_))))
 cases h
 exact zH hτ
 refine zL 0 fun τ hτ=>?_
 refine th_exit ?_
 cases h
 exact zF hτ
 refine zQ (yE hτ [1,3,4] [500000,500001,500002] (z7 (zA 1 ?_)))
 obtain ⟨r501,hr501,h⟩:=bindS h
 refine qC [(300000,500001)] [(0,700050)] (W.cut_set_ok hr501) (zA 1 ?_)
 obtain ⟨r502,hr502,h⟩:=bindS h
 refine qC [(300000,500002)] [(0,700150)] (W.cut_set_ok hr502) (y1 2 [1,3,4] [500000,700050,700150] (y3 1 [1,3,4,9] [9,500000,700050,700150] (zB (z7 (zA 1 (qL cI r502 ?_))))))
 refine y1 1 [1,3,4,9,54,55,56] [9,500000,700050,700150] (zC ?_)
 obtain ⟨x580,hx580,h⟩:=bindS h
 refine ql hx580 (fun s555=>⟨[(1,.ptr 500000 0),(3,ro 500001 3),(4,ro 500002 3),(9,ro 500003 74),(54,ro 500002 3),(55,vI (r502.length : Int)),(56,vI s555.1)],[(500000,.box (c_LayoutT l)),(500001,wI 3 r501),(500002,wI 3 r502),(500003,w_EdgeT 74 s555.2)]⟩) (fun x580=>(.exit 4,⟨[(1,.ptr 500000 0),(3,ro 500001 3),(4,ro 500002 3),(9,ro 500003 74)],[(500000,.box (c_LayoutT l)),(500001,wI 3 r501),(500002,wI 3 r502),(500003,w_EdgeT 74 x580)]⟩)) (sp [] [(9,500003),(500000,500000),(700050,500001),(700150,500002)]) (fun s555 r h=>?_) fun τ hτ=>?_
 refine y3 1 [1,3,4,9,54,55,56,57] [500000,500001,500002,500003] (zB (qc h (fun h=>?_) fun h=>?_))
 refine y4 [1,3,4,9,54,55,56] [500000,500001,500002,500003] (zB (zC (z7 ?_)))
 obtain ⟨x575,hx575,h⟩:=bindS h
 refine qI cI hx575 (qR cI hx575 (y1 2 [1,3,4,9,11,54,55,56] [11,500000,500001,500002,500003] (zD (zA 4 ?_))))
 obtain ⟨r578,hr578,h⟩:=bindS h
 refine evs_callS [] [(0,700200)] [500001,500000,11] (by kernel_rfl) (W.cut_along__cut_edges_1__cut_edges_2_ok hr578) (by kernel_rfl) (by kernel_rfl) (.inr ⟨rfl,fun _ _=>ind_cons (ind_row fun _=>rfl) (fun _ _=>ind_nil)⟩) ?_
 obtain ⟨l579,hl579,h⟩:=bindS h
 refine qA c_EdgeT 6 hl579 (z6 1 fun τ hτ=>?_)
 refine bl_normal (yE hτ [1,3,4,9,54,55,56] [500000,500001,500002,500003] (zD (z6 2 fun τ hτ=>?_)))
 cases h
 exact zH hτ
 refine zL 4 fun τ hτ=>?_
 refine th_exit ?_
 cases h
 exact zF hτ
 refine zQ (yE hτ [1,3,4,9] [500000,500001,500002,500003] (zB (z7 (zA 1 (qL cI r501 (y1 1 [1,4,9,67,68,69] [500000,500001,500002,500003] ?_))))))
 refine zC ?_
 obtain ⟨x658,hx658,h⟩:=bindS h
 refine ql hx658 (fun s633=>⟨[(1,.ptr 500000 0),(4,ro 500001 3),(9,ro 500002 74),(67,ro 500003 3),(68,vI (r501.length : Int)),(69,vI s633.1)],[(500000,.box (c_LayoutT l)),(500001,wI 3 r502),(500002,w_EdgeT 74 s633.2),(500003,wI 3 r501)]⟩) (fun x658=>(.exit 6,⟨[(9,ro 500000 74)],[(500000,w_EdgeT 74 x658)]⟩)) (sp [] [(500000,500000),(500001,500003),(500002,500001),(500003,500002)]) (fun s633 r h=>?_) fun τ hτ=>?_
 refine y3 1 [1,4,9,67,68,69,70] [500000,500001,500002,500003] (zB (qc h (fun h=>?_) fun h=>?_))
 refine y4 [1,4,9,67,68,69] [500000,500001,500002,500003] (zB (zC (z7 ?_)))
 obtain ⟨x653,hx653,h⟩:=bindS h
 refine qI cI hx653 (qR cI hx653 (y1 2 [1,4,9,13,67,68,69] [13,500000,500001,500002,500003] (zD (zA 4 ?_))))
 obtain ⟨r656,hr656,h⟩:=bindS h
 refine evs_callS [] [(0,700200)] [500001,500000,13] (by kernel_rfl) (W.cut_along__cut_edges_3__cut_edges_4_ok hr656) (by kernel_rfl) (by kernel_rfl) (.inr ⟨rfl,fun _ _=>ind_cons (ind_row fun _=>rfl) (fun _ _=>ind_nil)⟩) ?_
 obtain ⟨l657,hl657,h⟩:=bindS h
 refine qA c_EdgeT 6 hl657 (z6 1 fun τ hτ=>?_)
 refine bl_normal (yE hτ [1,4,9,67,68,69] [500000,500001,500002,500003] (zD (z6 2 fun τ hτ=>?_)))
 cases h
 exact zH hτ
 refine zL 6 fun τ hτ=>?_
 refine th_exit ?_
 cases h
 exact lk_outS hτ rfl (sp [] [(500002,500000)])
 refine zQ (yE hτ [9] [500000] (z8 2 ⟨[(2,ro 500000 74)],[(500000,w_EdgeT 74 x658)]⟩ fun τ hτ=>?_))
 obtain rfl:=osi h
 exact qW hτ [(2,ro 0 74)] (sp [] [(500000,0)])
theorem W.cut_Edges_ok {l r} (h : cut_Edges l=some r) : PC G.P 14 [(.agg (c_LayoutT l))] [] (.tup [(.row (.top 0) 74),(vI r.2)]) [(0,.row 74 [] (List.map c_EdgeT r.1))]:=by
 refine zU G Tryz.func14 (yK [0] [] (y3 3 [1] [1] (zB (z7 (zA 1 ?_)))))
 obtain ⟨r4,hr4,h⟩:=bindS h
 refine qP (W.cut_Validate_ok hr4) (y1 1 [1,4] [1] (y3 2 [1,4,8] [1] (qc h (fun h=>?_) fun h=>?_)))
 refine z8 3 ⟨[(2,ro 2 74),(3,vI r4)],[(2,w_EdgeT 74 [])]⟩ fun τ hτ=>?_
 refine th_ret ?_
 obtain rfl:=osi h
 exact qW hτ [(2,ro 0 74),(3,vI r4)] (sp [] [(2,0)])
 refine y4 [1] [1] (z7 (zA 1 ?_))
 obtain ⟨r6,hr6,h⟩:=bindS h
 refine qC [] [(0,700050)] (W.cut_edges_ok hr6) (y1 2 [2,3] [700050] (zN fun τ hτ=>?_))
 obtain rfl:=osi h
 exact qW hτ [(2,ro 0 74),(3,vI 0)] (sp [] [(700050,0)])
theorem W.sheetmetalref06_insert_ok {n h0 r} (h : sheetmetalref06_insert n h0=some r) : PC G.P 182 [(.row (.top 300000) 3),(vI n)] [(300000,.row 3 [] (List.map cI h0))] (.row (.top 0) 3) [(0,.row 3 [] (List.map cI r))]:=by
 refine zU G Tryz.func182 (yK [0,1] [300000] (y3 1 [0,1] [300000] (z7 (zA 1 (qL cI h0 (y1 1 [0,1,5] [300000] ?_))))))
 refine zB (zC ?_)
 obtain ⟨x42,hx42,h⟩:=bindS h
 refine ql hx42 (fun s29=>⟨[(0,ro 500000 3),(1,vI n),(5,vI s29)],[(500000,wI 3 h0)]⟩) (fun x42=>(.exit 0,⟨[(0,ro 500000 3),(1,vI n),(5,vI x42)],[(500000,wI 3 h0)]⟩)) (sp [] [(300000,500000)]) (fun s29 r h=>?_) fun τ hτ=>?_
 refine zB (zB ?_)
 obtain ⟨j40,hj40,h⟩:=bindS h
 refine zT ⟨[(0,ro 500000 3),(1,vI n),(5,vI s29),(19,vB j40)],[(500000,wI 3 h0)]⟩ ?_ fun τ hτ=>?_
 replace h:=hj40
 refine zA 3 (qB h [0,1,5,11] [500000] [11] (fun h=>?_) fun h=>?_)
 refine zA 3 ?_
 obtain ⟨x41,hx41,h⟩:=bindS h
 refine qI cI hx41 (qR cI hx41 (z6 3 fun τ hτ=>?_))
 cases h
 exact zG hτ
 refine z6 8 fun τ hτ=>?_
 cases h
 exact zG hτ
 refine yE hτ [0,1,5,19] [500000] (qc h (fun h=>?_) fun h=>?_)
 refine y4 [0,1,5] [500000] (zC (zD (z6 3 fun τ hτ=>?_)))
 refine bl_normal ?_
 cases h
 exact zH hτ
 refine zL 0 fun τ hτ=>?_
 refine th_exit ?_
 cases h
 exact zF hτ
 refine zQ (yE hτ [0,1,5] [500000] (zB (zB ?_)))
 obtain ⟨j47,hj47,h⟩:=bindS h
 refine zT ⟨[(0,ro 500000 3),(1,vI n),(5,vI x42),(32,vB j47)],[(500000,wI 3 h0)]⟩ ?_ fun τ hτ=>?_
 replace h:=hj47
 refine zA 3 (qB h [0,1,5,24] [500000] [24] (fun h=>?_) fun h=>?_)
 refine zA 3 ?_
 obtain ⟨x48,hx48,h⟩:=bindS h
 refine qI cI hx48 (qR cI hx48 (z6 3 fun τ hτ=>?_))
 cases h
 exact zG hτ
 refine z6 8 fun τ hτ=>?_
 cases h
 exact zG hτ
 refine yE hτ [0,1,5,32] [500000] (qc h (fun h=>?_) fun h=>?_)
 refine z8 2 ⟨[(4,ro 500000 3)],[(500000,wI 3 h0)]⟩ fun τ hτ=>?_
 refine th_ret ?_
 obtain rfl:=osi h
 exact qW hτ [(4,ro 0 3)] (sp [] [(500000,0)])
 refine y4 [0,1,5] [500000] (z7 (zA 2 ?_))
 obtain ⟨l50,hl50,h⟩:=bindS h
 refine qA cI 1 hl50 (y1 1 [0,1,5] [500000] (zB (z7 (zA 1 (qL cI l50 (y1 2 [0,1,5,6] [500000] ?_))))))
 refine zC ?_
 obtain ⟨x104,hx104,h⟩:=bindS h
 refine ql hx104 (fun s87=>⟨[(0,ro 500000 3),(1,vI n),(5,vI x42),(6,vI s87.1)],[(500000,wI 3 s87.2)]⟩) (fun x104=>(.exit 2,⟨[(0,ro 500000 3),(1,vI n),(5,vI x42)],[(500000,wI 3 x104)]⟩)) qH (fun s87 r h=>?_) fun τ hτ=>?_
 refine zB (y3 3 [0,1,5,6,42] [500000] (qc h (fun h=>?_) fun h=>?_))
 refine y4 [0,1,5,6] [500000] (zB (zC (zD (zA 5 ?_))))
 obtain ⟨x102,hx102,h⟩:=bindS h
 refine qI cI hx102 (qR cI hx102 ?_)
 obtain ⟨x103,hx103,h⟩:=bindS h
 refine qI cI hx103 (qS cI x102 hx103 (zP fun τ hτ=>?_))
 refine bl_normal (yE hτ [0,1,5,6] [500000] (zD (z6 3 fun τ hτ=>?_)))
 cases h
 exact zH hτ
 refine zL 2 fun τ hτ=>?_
 refine th_exit ?_
 cases h
 exact zF hτ
 refine zQ (yE hτ [0,1,5] [500000] (z7 (zA 3 ?_)))
 obtain ⟨x106,hx106,h⟩:=bindS h
 refine qI cI hx106 (qS cI n hx106 (zP fun τ hτ=>?_))
 refine yE hτ [0] [500000] (z8 2 ⟨[(4,ro 500000 3)],[(500000,wI 3 (List.set x104 (Int.toNat x42) n))]⟩ fun τ hτ=>?_)
 obtain rfl:=osi h
 exact qW hτ [(4,ro 0 3)] (sp [] [(500000,0)])
theorem W.sheetmetalref06_Grid_ok {l r} (h : sheetmetalref06_Grid l=some r) : PC G.P 155 [(.sl (List.map c_Rect l))] [] (.tup [(.row (.top 0) 3),(.row (.top 1) 3)]) [(0,.row 3 [] (List.map cI r.1)),(1,.row 3 [] (List.map cI r.2))]:=by
 refine zU G Tryz.func155 (yK [0] [] (y3 2 [0] [] (y3 2 [0,4,5] [4,5] (zB (y3 1 [0,4,5,6] [4,5] (zC ?_))))))
 obtain ⟨x318,hx318,h⟩:=bindS h
 refine ql hx318 (fun s213=>⟨[(0,s_Rect l),(4,ro 500000 3),(5,ro 500001 3),(6,vI s213.1)],[(500000,wI 3 s213.2.1),(500001,wI 3 s213.2.2)]⟩) (fun x318=>(.exit 0,⟨[(4,ro 500000 3),(5,ro 500001 3)],[(500000,wI 3 x318.1),(500001,wI 3 x318.2)]⟩)) (sp [] [(4,500000),(5,500001)]) (fun s213 r h=>?_) fun τ hτ=>?_
 refine zB (z7 (zA 2 (qL c_Rect l (y1 1 [0,4,5,6,10] [500000,500001] (qc h (fun h=>?_) fun h=>?_)))))
 refine y4 [0,4,5,6] [500000,500001] (zB (zC (z7 (zA 3 ?_))))
 obtain ⟨x294,hx294,h⟩:=bindS h
 refine qX c_Rect hx294 (zA 2 ?_)
 obtain ⟨r295,hr295,h⟩:=bindS h
 refine qC [(300000,500000)] [(0,700300)] (W.sheetmetalref06_insert_ok hr295) (y1 1 [0,4,5,6] [500001,700300] (zB (qM 12 (dN 3 ?_))))
 obtain ⟨x302,hx302,h⟩:=bindS h
 refine dX c_Rect hx302 (dN 4 ?_)
 obtain ⟨x303,hx303,h⟩:=bindS h
 refine dX c_Rect hx303 (dN 3 (dE ?_))
 obtain ⟨r304,hr304,h⟩:=bindS h
 refine oC [(300000,700300)] [(0,700600)] (W.sheetmetalref06_insert_ok hr304) (oN 1 (zO fun τ hτ=>?_))
 refine yE hτ [0,4,5,6] [500001,700600] (z7 (zA 3 ?_))
 obtain ⟨x307,hx307,h⟩:=bindS h
 refine qX c_Rect hx307 (zA 2 ?_)
 obtain ⟨r308,hr308,h⟩:=bindS h
 refine qC [(300000,500001)] [(0,700300)] (W.sheetmetalref06_insert_ok hr308) (y1 1 [0,4,5,6] [700300,700600] (qM 12 (dN 3 ?_)))
 obtain ⟨x315,hx315,h⟩:=bindS h
 refine dX c_Rect hx315 (dN 4 ?_)
 obtain ⟨x316,hx316,h⟩:=bindS h
 refine dX c_Rect hx316 (dN 3 (dE ?_))
 obtain ⟨r317,hr317,h⟩:=bindS h
 refine oC [(300000,700300)] [(0,700601)] (W.sheetmetalref06_insert_ok hr317) (oN 1 (zO fun τ hτ=>?_))
 refine bl_normal (yE hτ [0,4,5,6] [700600,700601] (zD (z6 3 fun τ hτ=>?_)))
 cases h
 exact lk_nextS hτ (sp [] [(700600,500000),(700601,500001)])
 refine zL 0 fun τ hτ=>?_
 refine th_exit ?_
 cases h
 exact zF hτ
 refine zQ (yE hτ [4,5] [500000,500001] (z8 4 ⟨[(2,ro 500000 3),(3,ro 500001 3)],[(500000,wI 3 x318.1),(500001,wI 3 x318.2)]⟩ fun τ hτ=>?_))
 obtain rfl:=osi h
 exact qW hτ [(2,ro 0 3),(3,ro 1 3)] (sp [] [(500000,0),(500001,1)])
theorem W.sheetmetalref06_Covers_ok {l x1 y r} (h : sheetmetalref06_Covers l x1 y=some r) : PC G.P 200 [(.sl (List.map c_Rect l)),(vI x1),(vI y)] [] (vB r) []:=by
 refine zU G Tryz.func200 (yK [0,1,2] [] (y3 1 [0,1,2] [] (zB (y3 1 [0,1,2,7] [] (zC ?_)))))
 obtain ⟨x44,hx44,h⟩:=bindS h
 refine ql hx44 (fun s31=>⟨[(0,s_Rect l),(1,vI x1),(2,vI y),(7,vI s31)],[]⟩) (fun x44=>match x44 with | .inl j45=>(.ret,⟨[(6,vB true)],[]⟩) | .inr j46=>(.exit 0,⟨[],[]⟩)) qH (fun s31 r h=>?_) (fun τ hτ=>?_) (hout:=(by intro x; rcases x with _ | _ <;> rfl))
 refine zB (z7 (zA 2 (qL c_Rect l (y1 1 [0,1,2,7,12] [] (qc h (fun h=>?_) fun h=>?_)))))
 refine y4 [0,1,2,7] [] (zB (zC (z7 (zA 2 ?_))))
 obtain ⟨x42,hx42,h⟩:=bindS h
 refine qX c_Rect hx42 (y1 3 [0,1,2,7,8] [8] (zB ?_))
 obtain ⟨j43,hj43,h⟩:=bindS h
 refine zT ⟨[(0,s_Rect l),(1,vI x1),(2,vI y),(7,vI s31),(46,vB j43)],[]⟩ ?_ fun τ hτ=>?_
 replace h:=hj43
 refine zA 5 (qB h [0,1,2,7,8,23] [8] [23] (fun h=>?_) fun h=>?_)
 refine zA 9 (qB h [0,1,2,7,8,32] [8] [32] (fun h=>?_) fun h=>?_)
 refine zA 6 (qB h [0,1,2,7,8,38] [8] [38] (fun h=>?_) fun h=>?_)
 refine z6 8 fun τ hτ=>?_
 cases h
 exact zG hτ
 refine z6 8 fun τ hτ=>?_
 cases h
 exact zG hτ
 refine z6 14 fun τ hτ=>?_
 cases h
 exact zG hτ
 refine z6 23 fun τ hτ=>?_
 cases h
 exact zG hτ
 refine yE hτ [0,1,2,7,46] [] (qc h (fun h=>?_) fun h=>?_)
 refine z8 1 ⟨[(6,vB true)],[]⟩ fun τ hτ=>?_
 refine bl_ret (th_ret ?_)
 cases h
 exact zF hτ
 refine zM fun τ hτ=>?_
 refine bl_normal (yE hτ [0,1,2,7] [] (zD (z6 3 fun τ hτ=>?_)))
 cases h
 exact zH hτ
 refine zL 0 fun τ hτ=>?_
 refine th_exit ?_
 cases h
 exact zF hτ
 rcases x44 with j45 | j46
 refine bl_ret (th_ret ?_)
 obtain rfl:=osi h
 exact zV hτ [(6,vB true)]
 refine zQ (yE hτ [] [] (z8 1 ⟨[(6,vB false)],[]⟩ fun τ hτ=>?_))
 obtain rfl:=osi h
 exact zV hτ [(6,vB false)]
theorem W.sheetmetalref06_label_ok {regions x1 y r} (h : sheetmetalref06_label regions x1 y=some r) : PC G.P 183 [(.sl (List.map (cS c_Rect) regions)),(vI x1),(vI y)] [] (vI r) []:=by
 refine zU G Tryz.func183 (yK [0,1,2] [] (y3 1 [0,1,2] [] (zB (y3 1 [0,1,2,7] [] (zC ?_)))))
 obtain ⟨x56,hx56,h⟩:=bindS h
 refine ql hx56 (fun s39=>⟨[(0,.sl (List.map (cS c_Rect) regions)),(1,vI x1),(2,vI y),(7,vI s39)],[]⟩) (fun x56=>match x56 with | .inl j57=>(.ret,⟨[(6,vI j57)],[]⟩) | .inr j58=>(.exit 0,⟨[],[]⟩)) qH (fun s39 r h=>?_) (fun τ hτ=>?_) (hout:=(by intro x; rcases x with _ | _ <;> rfl))
 refine zB (z7 (zA 2 (qL (cS c_Rect) regions (y1 1 [0,1,2,7,11] [] (qc h (fun h=>?_) fun h=>?_)))))
 refine y4 [0,1,2,7] [] (zB (zC (z7 (zA 2 ?_))))
 obtain ⟨x54,hx54,h⟩:=bindS h
 refine qX (cS c_Rect) hx54 (zA 3 ?_)
 obtain ⟨r55,hr55,h⟩:=bindS h
 refine qP (W.sheetmetalref06_Covers_ok hr55) (zP fun τ hτ=>?_)
 refine yE hτ [0,1,2,7,20] [] (qc h (fun h=>?_) fun h=>?_)
 refine z8 2 ⟨[(6,vI s39)],[]⟩ fun τ hτ=>?_
 refine bl_ret (th_ret ?_)
 cases h
 exact zF hτ
 refine zM fun τ hτ=>?_
 refine bl_normal (yE hτ [0,1,2,7] [] (zD (z6 3 fun τ hτ=>?_)))
 cases h
 exact zH hτ
 refine zL 0 fun τ hτ=>?_
 refine th_exit ?_
 cases h
 exact zF hτ
 rcases x56 with j57 | j58
 refine bl_ret (th_ret ?_)
 obtain rfl:=osi h
 exact zV hτ [(6,vI j57)]
 refine zQ (yE hτ [] [] (z8 1 ⟨[(6,vI (-1))],[]⟩ fun τ hτ=>?_))
 obtain rfl:=osi h
 exact zV hτ [(6,vI (-1))]
theorem W.sheetmetalref06_labels_ok {regions xs ys r} (h : sheetmetalref06_labels regions xs ys=some r) : PC G.P 156 [(.sl (List.map (cS c_Rect) regions)),(.sl (List.map cI xs)),(.sl (List.map cI ys))] [] (.row (.top 0) 38) [(0,.row 38 [(0,3)] (List.map (cS cI) r))]:=by
 refine zU G Tryz.func156 (yK [0,1,2] [] (y3 1 [0,1,2] [] (z7 (zA 1 (qL cI xs (zA 1 ?_))))))
 obtain ⟨l2,hl2,h⟩:=bindS h
 refine evs_at (at_mkJ (c:=(cS cI)) (z:=[]) (n:=(iadd (xs.length : Int) 1)) (e:=38) (e2:=3) (d:=13) (k1:=.i64) (k2:=.i64) (by kernel_rfl) rfl (by kernel_rfl) hl2) (y1 1 [0,1,2,7] [13] (zB (y3 1 [0,1,2,7,8] [13] (zC ?_))))
 obtain ⟨x1172,hx1172,h⟩:=bindS h
 refine ql hx1172 (fun s651=>⟨[(0,.sl (List.map (cS c_Rect) regions)),(1,sI xs),(2,sI ys),(7,ro 500000 38),(8,vI s651.1)],[(500000,.row 38 [(0,3)] (List.map (cS cI) s651.2))]⟩) (fun x1172=>(.exit 0,⟨[(7,ro 500000 38)],[(500000,.row 38 [(0,3)] (List.map (cS cI) x1172))]⟩)) (sp [] [(13,500000)]) (fun s651 r h=>?_) fun τ hτ=>?_
 refine zB (z7 (zA 2 (qL cI xs (y1 1 [0,1,2,7,8,17] [500000] (qc h (fun h=>?_) fun h=>?_)))))
 refine y4 [0,1,2,7,8] [500000] (zB (zC (z7 (zA 3 (qL cI ys (zA 1 ?_))))))
 obtain ⟨l1044,hl1044,h⟩:=bindS h
 refine evs_op (st_mk (c:=cI) (z:=0) (n:=(iadd (ys.length : Int) 1)) (e:=3) (d:=25) (zs:=[(vI 0)]) (k1:=.i64) (k2:=.i64) (by kernel_rfl) rfl hl1044) ?_
 obtain ⟨x1045,hx1045,h⟩:=bindS h
 refine qI (cS cI) hx1045 (evs_at (at_moveJ (c:=(cS cI)) (c2:=cI) (l:=s651.2) (x:=x1045) (x':=l1044) (l2:=l1044) (g:=500000) (d:=25) (e:=38) (e':=3) (i:=(Int.toNat s651.1)) (off:=0) (J:=[(0,3)]) (by kernel_rfl) (by kernel_rfl) (by kernel_rfl) (by kernel_rfl) rfl ((idxS hx1045).2) rfl) (zP fun τ hτ=>?_))
 refine yE hτ [0,1,2,7,8] [500000] (y3 1 [0,1,2,7,8,9] [500000] (zC ?_))
 obtain ⟨x1171,hx1171,h⟩:=bindS h
 refine ql hx1171 (fun s1088=>⟨[(0,.sl (List.map (cS c_Rect) regions)),(1,sI xs),(2,sI ys),(7,ro 500000 38),(8,vI s651.1),(9,vI s1088.1)],[(500000,.row 38 [(0,3)] (List.map (cS cI) s1088.2))]⟩) (fun x1171=>(.exit 2,⟨[(0,.sl (List.map (cS c_Rect) regions)),(1,sI xs),(2,sI ys),(7,ro 500000 38),(8,vI s651.1)],[(500000,.row 38 [(0,3)] (List.map (cS cI) x1171))]⟩)) qH (fun s1088 r h=>?_) fun τ hτ=>?_
 refine zB (z7 (zA 2 (qL cI ys (y1 1 [0,1,2,7,8,9,30] [500000] (qc h (fun h=>?_) fun h=>?_)))))
 refine y4 [0,1,2,7,8,9] [500000] (sem_seqJ (fun (j1150 : (List (List Int)))=>⟨[(0,.sl (List.map (cS c_Rect) regions)),(1,sI xs),(2,sI ys),(7,ro 500000 38),(8,vI s651.1),(9,vI s1088.1)],[(500000,.row 38 [(0,3)] (List.map (cS cI) j1150))]⟩) (sheetmetalref06_labels_k1 s1088) r (by kernel_rfl) (fun j1150 h=>?_) ?_)
 refine zD (z6 3 fun τ hτ=>?_)
 cases h
 exact zH hτ
 refine zC (z7 (zA 2 ?_))
 obtain ⟨x1153,hx1153,h⟩:=bindS h
 refine qI (cS cI) hx1153 (evs_op (st_ldO (c:=(cS cI)) (l:=s1088.2) (i:=(Int.toNat s651.1)) (v:=(.row (.sub 500000 (Int.toNat s651.1) 0) 3)) (agg:=false) (sz:=1) (kk:=(.top 500000)) (e:=38) (off:=0) (J:=[(0,3)]) (by kernel_rfl) (by kernel_rfl) (by kernel_rfl) ((idxS hx1153).2) (by kernel_rfl)) (zA 1 ?_))
 obtain ⟨x1154,hx1154,h⟩:=bindS h
 refine evs_op (st_idxO (c:=cI) (l:=x1153) (i:=s1088.1) (kd:=.i64) (kk:=(.sub 500000 (Int.toNat s651.1) 0)) (e:=3) (sz:=1) (by kernel_rfl) (rowAt_sub (g:=500000) (i:=(Int.toNat s651.1)) (j:=0) (c:=(cS cI)) (c2:=cI) (e:=38) (J:=[(0,3)]) (l:=s1088.2) (x:=x1153) (l2:=x1153) (by kernel_rfl) rfl ((idxS hx1153).2) rfl) hx1154 rfl) (evs_op (st_stO (c:=cI) (l:=x1153) (i:=(Int.toNat s1088.1)) (x:=x1154) (x':=(-1)) (v:=(vI (-1))) (agg:=false) (sz:=1) (kk:=(.sub 500000 (Int.toNat s651.1) 0)) (e:=3) (off:=0) (J:=[]) (o:=.row 38 [(0,3)] (List.map (cS cI) (List.set s1088.2 (Int.toNat s651.1) (List.set x1153 (Int.toNat s1088.1) (-1))))) (by kernel_rfl) (rowAt_sub (g:=500000) (i:=(Int.toNat s651.1)) (j:=0) (c:=(cS cI)) (c2:=cI) (e:=38) (J:=[(0,3)]) (l:=s1088.2) (x:=x1153) (l2:=x1153) (by kernel_rfl) rfl ((idxS hx1153).2) rfl) (by kernel_rfl) ((idxS hx1154).2) (by kernel_rfl) (by kernel_rfl) (rowSet_sub (g:=500000) (i:=(Int.toNat s651.1)) (j:=0) (c:=(cS cI)) (e:=38) (J:=[(0,3)]) (l:=s1088.2) (x:=x1153) (x':=(List.set x1153 (Int.toNat s1088.1) (-1))) (by kernel_rfl) ((idxS hx1153).2) rfl)) (zP fun τ hτ=>?_))
 refine yE hτ [0,1,2,7,8,9] [500000] (zB ?_)
 obtain ⟨j1155,hj1155,h⟩:=bindS h
 refine zT ⟨[(0,.sl (List.map (cS c_Rect) regions)),(1,sI xs),(2,sI ys),(7,ro 500000 38),(8,vI s651.1),(9,vI s1088.1),(56,vB j1155)],[(500000,.row 38 [(0,3)] (List.map (cS cI) (List.set s1088.2 (Int.toNat s651.1) (List.set x1153 (Int.toNat s1088.1) (-1)))))]⟩ ?_ fun τ hτ=>?_
 replace h:=hj1155
 refine zA 3 (qB h [0,1,2,7,8,9,41] [500000] [41] (fun h=>?_) fun h=>?_)
 refine zA 4 (qB h [0,1,2,7,8,9,45] [500000] [45] (fun h=>?_) fun h=>?_)
 refine zA 2 (qL cI xs (zA 3 (qB h [0,1,2,7,8,9,51] [500000] [51] (fun h=>?_) fun h=>?_)))
 refine zA 2 (qL cI ys (z6 2 fun τ hτ=>?_))
 cases h
 exact zG hτ
 refine z6 5 fun τ hτ=>?_
 cases h
 exact zG hτ
 refine z6 11 fun τ hτ=>?_
 cases h
 exact zG hτ
 refine z6 15 fun τ hτ=>?_
 cases h
 exact zG hτ
 refine yE hτ [0,1,2,7,8,9,56] [500000] (qc h (fun h=>?_) fun h=>?_)
 refine qM 17 (dN 2 ?_)
 obtain ⟨x1166,hx1166,h⟩:=bindS h
 refine dI (cS cI) hx1166 (evd_val (by kernel_rfl) (st_ldO (c:=(cS cI)) (l:=(List.set s1088.2 (Int.toNat s651.1) (List.set x1153 (Int.toNat s1088.1) (-1)))) (i:=(Int.toNat s651.1)) (v:=(.row (.sub 500000 (Int.toNat s651.1) 0) 3)) (agg:=false) (sz:=1) (kk:=(.top 500000)) (e:=38) (off:=0) (J:=[(0,3)]) (by kernel_rfl) (by kernel_rfl) (by kernel_rfl) ((idxS hx1166).2) (by kernel_rfl)) (by kernel_rfl) (by kernel_rfl) (dN 5 ?_))
 obtain ⟨x1167,hx1167,h⟩:=bindS h
 refine dX cI hx1167 (dN 4 ?_)
 obtain ⟨x1168,hx1168,h⟩:=bindS h
 refine dX cI hx1168 (dN 1 ?_)
 obtain ⟨r1169,hr1169,h⟩:=bindS h
 refine dC [] (W.sheetmetalref06_label_ok hr1169) (dE ?_)
 obtain ⟨x1170,hx1170,h⟩:=bindS h
 refine evo_op (st_idxO (c:=cI) (l:=x1166) (i:=s1088.1) (kd:=.i64) (kk:=(.sub 500000 (Int.toNat s651.1) 0)) (e:=3) (sz:=1) (by kernel_rfl) (rowAt_sub (g:=500000) (i:=(Int.toNat s651.1)) (j:=0) (c:=(cS cI)) (c2:=cI) (e:=38) (J:=[(0,3)]) (l:=(List.set s1088.2 (Int.toNat s651.1) (List.set x1153 (Int.toNat s1088.1) (-1)))) (x:=x1166) (l2:=x1166) (by kernel_rfl) rfl ((idxS hx1166).2) rfl) hx1170 rfl) (evo_op (st_stO (c:=cI) (l:=x1166) (i:=(Int.toNat s1088.1)) (x:=x1170) (x':=r1169) (v:=(vI r1169)) (agg:=false) (sz:=1) (kk:=(.sub 500000 (Int.toNat s651.1) 0)) (e:=3) (off:=0) (J:=[]) (o:=.row 38 [(0,3)] (List.map (cS cI) (List.set (List.set s1088.2 (Int.toNat s651.1) (List.set x1153 (Int.toNat s1088.1) (-1))) (Int.toNat s651.1) (List.set x1166 (Int.toNat s1088.1) r1169)))) (by kernel_rfl) (rowAt_sub (g:=500000) (i:=(Int.toNat s651.1)) (j:=0) (c:=(cS cI)) (c2:=cI) (e:=38) (J:=[(0,3)]) (l:=(List.set s1088.2 (Int.toNat s651.1) (List.set x1153 (Int.toNat s1088.1) (-1)))) (x:=x1166) (l2:=x1166) (by kernel_rfl) rfl ((idxS hx1166).2) rfl) (by kernel_rfl) ((idxS hx1170).2) (by kernel_rfl) (by kernel_rfl) (rowSet_sub (g:=500000) (i:=(Int.toNat s651.1)) (j:=0) (c:=(cS cI)) (e:=38) (J:=[(0,3)]) (l:=(List.set s1088.2 (Int.toNat s651.1) (List.set x1153 (Int.toNat s1088.1) (-1)))) (x:=x1166) (x':=(List.set x1166 (Int.toNat s1088.1) r1169)) (by kernel_rfl) ((idxS hx1166).2) rfl)) (zO fun τ hτ=>?_))
 exact bl_normal (jk_normal (List.set (List.set s1088.2 (Int.toNat s651.1) (List.set x1153 (Int.toNat s1088.1) (-1))) (Int.toNat s651.1) (List.set x1166 (Int.toNat s1088.1) r1169)) h hτ (here (by kernel_rfl)))
 refine zM fun τ hτ=>?_
 exact bl_normal (jk_normal (List.set s1088.2 (Int.toNat s651.1) (List.set x1153 (Int.toNat s1088.1) (-1))) h hτ (here (by kernel_rfl)))
 refine zL 2 fun τ hτ=>?_
 refine th_exit ?_
 cases h
 exact zF hτ
 refine zQ (bl_normal (yE hτ [0,1,2,7,8] [500000] (zD (z6 3 fun τ hτ=>?_))))
 cases h
 exact zH hτ
 refine zL 0 fun τ hτ=>?_
 refine th_exit ?_
 cases h
 exact zF hτ
 refine zQ (yE hτ [7] [500000] (z8 2 ⟨[(6,ro 500000 38)],[(500000,.row 38 [(0,3)] (List.map (cS cI) x1172))]⟩ fun τ hτ=>?_))
 obtain rfl:=osi h
 exact qW hτ [(6,ro 0 38)] (sp [] [(500000,0)])
theorem W.sheetmetalref06_join_ok {x1 h0 r} (h : sheetmetalref06_join x1 h0=some r) : PC G.P 157 [(.row (.top 300000) 165),(.agg (c_sheetmetalref06_Line x1))] [(300000,.row 165 [] (List.map c_sheetmetalref06_Line h0))] (.row (.top 0) 165) [(0,.row 165 [] (List.map c_sheetmetalref06_Line r))]:=by
 refine zU G Tryz.func157 (yK [0,1] [300000] (y3 2 [0,3] [3,300000] (zB (y3 5 [0,3,10] [3,300000] (qc h (fun h=>?_) fun h=>?_)))))
 refine z8 2 ⟨[(4,ro 300000 165)],[(300000,w_sheetmetalref06_Line 165 h0)]⟩ fun τ hτ=>?_
 refine th_ret ?_
 obtain rfl:=osi h
 exact qW hτ [(4,ro 0 165)] (sp [] [(300000,0)])
 refine y4 [0,3] [3,300000] (z7 (zA 1 (qL c_sheetmetalref06_Line h0 (y1 2 [0,3,5] [3,300000] (zB (zB ?_))))))
 obtain ⟨j36,hj36,h⟩:=bindS h
 refine sem_drawP ⟨[(0,ro 500000 165),(3,.ptr 500001 0),(5,vI (isub (h0.length : Int) 1)),(84,vB j36)],[(500000,w_sheetmetalref06_Line 165 h0),(500001,.box (c_sheetmetalref06_Line x1))]⟩ [] [] [] [] [] 67 (by kernel_rfl) (by kernel_rfl) (by kernel_rfl) ?_ fun τ hτ=>?_
 replace h:=hj36
 refine dN 3 (evd_split (decide ((isub (h0.length : Int) 1) ≥ 0)) (fun b0=>⟨[(17,vB b0),(16,vB b0),(15,vI (isub (h0.length : Int) 1)),(0,ro 300000 165),(3,.ptr 3 0),(5,vI (isub (h0.length : Int) 1))],[(3,.box (c_sheetmetalref06_Line x1)),(300000,w_sheetmetalref06_Line 165 h0)]⟩) (by kernel_rfl) (fun hb=>?_) fun hb=>?_)
 replace h:=iteT hb h
 refine dN 2 ?_
 obtain ⟨x37,hx37,h⟩:=bindS h
 refine dI c_sheetmetalref06_Line hx37 (dN 1 (dR c_sheetmetalref06_Line hx37 (dN 5 (evd_split (x37.Low==x1.Low) (fun b0=>⟨[(27,vB b0),(26,vB b0),(25,vB b0),(24,vI x1.Low),(23,.ptr 3 4),(22,vI x37.Low),(21,.rptr (.top 300000) 165 (Int.toNat (isub (h0.length : Int) 1)) 4),(20,.rptr (.top 300000) 165 (Int.toNat (isub (h0.length : Int) 1)) 0),(19,vI (isub (h0.length : Int) 1)),(18,ro 300000 165),(17,vB true),(16,vB true),(15,vI (isub (h0.length : Int) 1)),(0,ro 300000 165),(3,.ptr 3 0),(5,vI (isub (h0.length : Int) 1))],[(3,.box (c_sheetmetalref06_Line x1)),(300000,w_sheetmetalref06_Line 165 h0)]⟩) (by kernel_rfl) (fun hb=>?_) fun hb=>?_))))
 replace h:=iteT hb h
 refine dN 2 ?_
 obtain ⟨x38,hx38,h⟩:=bindS h
 refine dI c_sheetmetalref06_Line hx38 (dN 1 (dR c_sheetmetalref06_Line hx38 (dN 5 (evd_split (x38.High==x1.High) (fun b0=>⟨[(37,vB b0),(36,vB b0),(35,vB b0),(34,vI x1.High),(33,.ptr 3 5),(32,vI x38.High),(31,.rptr (.top 300000) 165 (Int.toNat (isub (h0.length : Int) 1)) 5),(30,.rptr (.top 300000) 165 (Int.toNat (isub (h0.length : Int) 1)) 0),(29,vI (isub (h0.length : Int) 1)),(28,ro 300000 165),(27,vB true),(26,vB true),(25,vB true),(24,vI x1.Low),(23,.ptr 3 4),(22,vI x37.Low),(21,.rptr (.top 300000) 165 (Int.toNat (isub (h0.length : Int) 1)) 4),(20,.rptr (.top 300000) 165 (Int.toNat (isub (h0.length : Int) 1)) 0),(19,vI (isub (h0.length : Int) 1)),(18,ro 300000 165),(17,vB true),(16,vB true),(15,vI (isub (h0.length : Int) 1)),(0,ro 300000 165),(3,.ptr 3 0),(5,vI (isub (h0.length : Int) 1))],[(3,.box (c_sheetmetalref06_Line x1)),(300000,w_sheetmetalref06_Line 165 h0)]⟩) (by kernel_rfl) (fun hb=>?_) fun hb=>?_))))
 replace h:=iteT hb h
 refine dN 2 ?_
 obtain ⟨x39,hx39,h⟩:=bindS h
 refine dI c_sheetmetalref06_Line hx39 (dN 2 (dR c_sheetmetalref06_Line hx39 (dN 6 (evd_split (x39.At.X2==x1.At.X1) (fun b0=>⟨[(49,vB b0),(48,vB b0),(47,vB b0),(46,vI x1.At.X1),(45,.ptr 3 0),(44,.ptr 3 0),(43,vI x39.At.X2),(42,.rptr (.top 300000) 165 (Int.toNat (isub (h0.length : Int) 1)) 2),(41,.rptr (.top 300000) 165 (Int.toNat (isub (h0.length : Int) 1)) 0),(40,.rptr (.top 300000) 165 (Int.toNat (isub (h0.length : Int) 1)) 0),(39,vI (isub (h0.length : Int) 1)),(38,ro 300000 165),(37,vB true),(36,vB true),(35,vB true),(34,vI x1.High),(33,.ptr 3 5),(32,vI x38.High),(31,.rptr (.top 300000) 165 (Int.toNat (isub (h0.length : Int) 1)) 5),(30,.rptr (.top 300000) 165 (Int.toNat (isub (h0.length : Int) 1)) 0),(29,vI (isub (h0.length : Int) 1)),(28,ro 300000 165),(27,vB true),(26,vB true),(25,vB true),(24,vI x1.Low),(23,.ptr 3 4),(22,vI x37.Low),(21,.rptr (.top 300000) 165 (Int.toNat (isub (h0.length : Int) 1)) 4),(20,.rptr (.top 300000) 165 (Int.toNat (isub (h0.length : Int) 1)) 0),(19,vI (isub (h0.length : Int) 1)),(18,ro 300000 165),(17,vB true),(16,vB true),(15,vI (isub (h0.length : Int) 1)),(0,ro 300000 165),(3,.ptr 3 0),(5,vI (isub (h0.length : Int) 1))],[(3,.box (c_sheetmetalref06_Line x1)),(300000,w_sheetmetalref06_Line 165 h0)]⟩) (by kernel_rfl) (fun hb=>?_) fun hb=>?_))))
 replace h:=iteT hb h
 refine dN 2 ?_
 obtain ⟨x40,hx40,h⟩:=bindS h
 refine dI c_sheetmetalref06_Line hx40 (dN 2 (dR c_sheetmetalref06_Line hx40 (dN 6 (evd_split (x40.At.Y2==x1.At.Y1) (fun b0=>⟨[(61,vB b0),(60,vB b0),(59,vB b0),(58,vI x1.At.Y1),(57,.ptr 3 1),(56,.ptr 3 0),(55,vI x40.At.Y2),(54,.rptr (.top 300000) 165 (Int.toNat (isub (h0.length : Int) 1)) 3),(53,.rptr (.top 300000) 165 (Int.toNat (isub (h0.length : Int) 1)) 0),(52,.rptr (.top 300000) 165 (Int.toNat (isub (h0.length : Int) 1)) 0),(51,vI (isub (h0.length : Int) 1)),(50,ro 300000 165),(49,vB true),(48,vB true),(47,vB true),(46,vI x1.At.X1),(45,.ptr 3 0),(44,.ptr 3 0),(43,vI x39.At.X2),(42,.rptr (.top 300000) 165 (Int.toNat (isub (h0.length : Int) 1)) 2),(41,.rptr (.top 300000) 165 (Int.toNat (isub (h0.length : Int) 1)) 0),(40,.rptr (.top 300000) 165 (Int.toNat (isub (h0.length : Int) 1)) 0),(39,vI (isub (h0.length : Int) 1)),(38,ro 300000 165),(37,vB true),(36,vB true),(35,vB true),(34,vI x1.High),(33,.ptr 3 5),(32,vI x38.High),(31,.rptr (.top 300000) 165 (Int.toNat (isub (h0.length : Int) 1)) 5),(30,.rptr (.top 300000) 165 (Int.toNat (isub (h0.length : Int) 1)) 0),(29,vI (isub (h0.length : Int) 1)),(28,ro 300000 165),(27,vB true),(26,vB true),(25,vB true),(24,vI x1.Low),(23,.ptr 3 4),(22,vI x37.Low),(21,.rptr (.top 300000) 165 (Int.toNat (isub (h0.length : Int) 1)) 4),(20,.rptr (.top 300000) 165 (Int.toNat (isub (h0.length : Int) 1)) 0),(19,vI (isub (h0.length : Int) 1)),(18,ro 300000 165),(17,vB true),(16,vB true),(15,vI (isub (h0.length : Int) 1)),(0,ro 300000 165),(3,.ptr 3 0),(5,vI (isub (h0.length : Int) 1))],[(3,.box (c_sheetmetalref06_Line x1)),(300000,w_sheetmetalref06_Line 165 h0)]⟩) (by kernel_rfl) (fun hb=>?_) fun hb=>?_))))
 replace h:=iteT hb h
 refine dN 2 ?_
 obtain ⟨x41,hx41,h⟩:=bindS h
 refine dI c_sheetmetalref06_Line hx41 (dN 2 (dR c_sheetmetalref06_Line hx41 (dN 5 (evd_split (x41.At.Y1==x1.At.Y2) (fun b0=>⟨[(72,vB b0),(71,vB b0),(70,vI x1.At.Y2),(69,.ptr 3 3),(68,.ptr 3 0),(67,vI x41.At.Y1),(66,.rptr (.top 300000) 165 (Int.toNat (isub (h0.length : Int) 1)) 1),(65,.rptr (.top 300000) 165 (Int.toNat (isub (h0.length : Int) 1)) 0),(64,.rptr (.top 300000) 165 (Int.toNat (isub (h0.length : Int) 1)) 0),(63,vI (isub (h0.length : Int) 1)),(62,ro 300000 165),(61,vB true),(60,vB true),(59,vB true),(58,vI x1.At.Y1),(57,.ptr 3 1),(56,.ptr 3 0),(55,vI x40.At.Y2),(54,.rptr (.top 300000) 165 (Int.toNat (isub (h0.length : Int) 1)) 3),(53,.rptr (.top 300000) 165 (Int.toNat (isub (h0.length : Int) 1)) 0),(52,.rptr (.top 300000) 165 (Int.toNat (isub (h0.length : Int) 1)) 0),(51,vI (isub (h0.length : Int) 1)),(50,ro 300000 165),(49,vB true),(48,vB true),(47,vB true),(46,vI x1.At.X1),(45,.ptr 3 0),(44,.ptr 3 0),(43,vI x39.At.X2),(42,.rptr (.top 300000) 165 (Int.toNat (isub (h0.length : Int) 1)) 2),(41,.rptr (.top 300000) 165 (Int.toNat (isub (h0.length : Int) 1)) 0),(40,.rptr (.top 300000) 165 (Int.toNat (isub (h0.length : Int) 1)) 0),(39,vI (isub (h0.length : Int) 1)),(38,ro 300000 165),(37,vB true),(36,vB true),(35,vB true),(34,vI x1.High),(33,.ptr 3 5),(32,vI x38.High),(31,.rptr (.top 300000) 165 (Int.toNat (isub (h0.length : Int) 1)) 5),(30,.rptr (.top 300000) 165 (Int.toNat (isub (h0.length : Int) 1)) 0),(29,vI (isub (h0.length : Int) 1)),(28,ro 300000 165),(27,vB true),(26,vB true),(25,vB true),(24,vI x1.Low),(23,.ptr 3 4),(22,vI x37.Low),(21,.rptr (.top 300000) 165 (Int.toNat (isub (h0.length : Int) 1)) 4),(20,.rptr (.top 300000) 165 (Int.toNat (isub (h0.length : Int) 1)) 0),(19,vI (isub (h0.length : Int) 1)),(18,ro 300000 165),(17,vB true),(16,vB true),(15,vI (isub (h0.length : Int) 1)),(0,ro 300000 165),(3,.ptr 3 0),(5,vI (isub (h0.length : Int) 1))],[(3,.box (c_sheetmetalref06_Line x1)),(300000,w_sheetmetalref06_Line 165 h0)]⟩) (by kernel_rfl) (fun hb=>?_) fun hb=>?_))))
 replace h:=iteT hb h
 refine dN 9 (dE (oN 3 (zO fun τ hτ=>?_)))
 cases h
 exact leafC hτ (sp [] [(3,500001),(300000,500000)])
 replace h:=iteF hb h
 refine dN 2 ?_
 obtain ⟨x42,hx42,h⟩:=bindS h
 refine dI c_sheetmetalref06_Line hx42 (dN 2 (dR c_sheetmetalref06_Line hx42 (dN 3 (dE (oN 3 (zO fun τ hτ=>?_))))))
 cases h
 exact leafC hτ (sp [] [(3,500001),(300000,500000)])
 replace h:=iteF hb h
 refine dN 20 (dE (oN 3 (zO fun τ hτ=>?_)))
 cases h
 exact leafC hτ (sp [] [(3,500001),(300000,500000)])
 replace h:=iteF hb h
 refine dN 32 (dE (oN 3 (zO fun τ hτ=>?_)))
 cases h
 exact leafC hτ (sp [] [(3,500001),(300000,500000)])
 replace h:=iteF hb h
 refine dN 44 (dE (oN 3 (zO fun τ hτ=>?_)))
 cases h
 exact leafC hτ (sp [] [(3,500001),(300000,500000)])
 replace h:=iteF hb h
 refine dN 54 (dE (oN 3 (zO fun τ hτ=>?_)))
 cases h
 exact leafC hτ (sp [] [(3,500001),(300000,500000)])
 replace h:=iteF hb h
 refine dN 64 (dE (oN 3 (zO fun τ hτ=>?_)))
 cases h
 exact leafC hτ (sp [] [(3,500001),(300000,500000)])
 refine yE hτ [0,3,5,84] [500000,500001] (qc h (fun h=>?_) fun h=>?_)
 refine z7 (zA 5 ?_)
 obtain ⟨x44,hx44,h⟩:=bindS h
 refine qI c_sheetmetalref06_Line hx44 (zA 2 (qS c_sheetmetalref06_Line (sheetmetalref06_Line.mk (Segment.mk x44.At.X1 x44.At.Y1 x1.At.X2 x44.At.Y2) x44.Low x44.High) hx44 (zP fun τ hτ=>?_)))
 refine yE hτ [0,3,5] [500000,500001] (z7 (zA 5 ?_))
 obtain ⟨x46,hx46,h⟩:=bindS h
 refine qI c_sheetmetalref06_Line hx46 (zA 2 (qS c_sheetmetalref06_Line (sheetmetalref06_Line.mk (Segment.mk x46.At.X1 x46.At.Y1 x46.At.X2 x1.At.Y2) x46.Low x46.High) hx46 (zP fun τ hτ=>?_)))
 refine yE hτ [0] [500000] (z8 2 ⟨[(4,ro 500000 165)],[(500000,w_sheetmetalref06_Line 165 (List.set (List.set h0 (Int.toNat (isub (h0.length : Int) 1)) (sheetmetalref06_Line.mk (Segment.mk x44.At.X1 x44.At.Y1 x1.At.X2 x44.At.Y2) x44.Low x44.High)) (Int.toNat (isub (h0.length : Int) 1)) (sheetmetalref06_Line.mk (Segment.mk x46.At.X1 x46.At.Y1 x46.At.X2 x1.At.Y2) x46.Low x46.High)))]⟩ fun τ hτ=>?_)
 refine th_ret ?_
 obtain rfl:=osi h
 exact qW hτ [(4,ro 0 165)] (sp [] [(500000,0)])
 refine y4 [0,3] [500000,500001] (z7 (zA 3 ?_))
 obtain ⟨l48,hl48,h⟩:=bindS h
 refine qA c_sheetmetalref06_Line 6 hl48 (y1 1 [4] [500000] (zN fun τ hτ=>?_))
 obtain rfl:=osi h
 exact qW hτ [(4,ro 0 165)] (sp [] [(500000,0)])
theorem W.sheetmetalref06_Borders_ok {regions r} (h : sheetmetalref06_Borders regions=some r) : PC G.P 112 [(.sl (List.map (cS c_Rect) regions))] [] (.row (.top 0) 165) [(0,.row 165 [] (List.map c_sheetmetalref06_Line r))]:=by
 refine zU G Tryz.func112 (yK [0] [] (y3 1 [0] [] (y3 1 [0,3] [3] (zB (y3 1 [0,3,4] [3] (zC ?_))))))
 obtain ⟨x54,hx54,h⟩:=bindS h
 refine ql hx54 (fun s37=>⟨[(0,.sl (List.map (cS c_Rect) regions)),(3,ro 500000 98),(4,vI s37.1)],[(500000,w_Rect 98 s37.2)]⟩) (fun x54=>(.exit 0,⟨[(0,.sl (List.map (cS c_Rect) regions)),(3,ro 500000 98)],[(500000,w_Rect 98 x54)]⟩)) (sp [] [(3,500000)]) (fun s37 r h=>?_) fun τ hτ=>?_
 refine zB (z7 (zA 2 (qL (cS c_Rect) regions (y1 1 [0,3,4,16] [500000] (qc h (fun h=>?_) fun h=>?_)))))
 refine y4 [0,3,4] [500000] (zB (zC (zD (zA 3 ?_))))
 obtain ⟨x52,hx52,h⟩:=bindS h
 refine qX (cS c_Rect) hx52 (zA 1 ?_)
 obtain ⟨l53,hl53,h⟩:=bindS h
 refine qA c_Rect 4 hl53 (z6 1 fun τ hτ=>?_)
 refine bl_normal (yE hτ [0,3,4] [500000] (zD (z6 3 fun τ hτ=>?_)))
 cases h
 exact zH hτ
 refine zL 0 fun τ hτ=>?_
 refine th_exit ?_
 cases h
 exact zF hτ
 refine zQ (yE hτ [0,3] [500000] (z7 (zA 1 ?_)))
 obtain ⟨r56,hr56,h⟩:=bindS h
 refine evs_callS [] [(0,700050),(1,700051)] [500000] (by kernel_rfl) (W.sheetmetalref06_Grid_ok hr56) (by kernel_rfl) (by kernel_rfl) (.inr ⟨rfl,fun _ _=>ind_cons (ind_row fun _=>rfl) (fun _ _=>ind_cons (ind_row fun _=>rfl) (fun _ _=>ind_nil))⟩) (y1 5 [0,5,6] [700050,700051] (z7 (zA 3 (evs_prep [.frz 700050,.frz 700051] (by kernel_rfl) ?_))))
 obtain ⟨r58,hr58,h⟩:=bindS h
 refine qC [] [(0,700150)] (W.sheetmetalref06_labels_ok hr58) (evs_prep [.frz 700150] (by kernel_rfl) (y1 1 [5,6,7] [] (y3 1 [5,6,7,8] [8] (zB (y3 1 [5,6,7,8,9] [8] (zC ?_))))))
 obtain ⟨x2044,hx2044,h⟩:=bindS h
 refine ql hx2044 (fun s1383=>⟨[(5,sI r56.1),(6,sI r56.2),(7,.sl (List.map (cS cI) r58)),(8,ro 500000 165),(9,vI s1383.1)],[(500000,w_sheetmetalref06_Line 165 s1383.2)]⟩) (fun x2044=>(.exit 2,⟨[(5,sI r56.1),(6,sI r56.2),(7,.sl (List.map (cS cI) r58)),(8,ro 500000 165)],[(500000,w_sheetmetalref06_Line 165 x2044)]⟩)) (sp [] [(8,500000)]) (fun s1383 r h=>?_) fun τ hτ=>?_
 refine zB (z7 (zA 2 (qL cI r56.2 (y1 1 [5,6,7,8,9,37] [500000] (qc h (fun h=>?_) fun h=>?_)))))
 refine y4 [5,6,7,8,9] [500000] (zB (zC (y3 1 [5,6,7,8,9,10] [500000] (zC ?_))))
 obtain ⟨x2043,hx2043,h⟩:=bindS h
 refine ql hx2043 (fun s1934=>⟨[(5,sI r56.1),(6,sI r56.2),(7,.sl (List.map (cS cI) r58)),(8,ro 500000 165),(9,vI s1383.1),(10,vI s1934.1)],[(500000,w_sheetmetalref06_Line 165 s1934.2)]⟩) (fun x2043=>(.exit 4,⟨[(5,sI r56.1),(6,sI r56.2),(7,.sl (List.map (cS cI) r58)),(8,ro 500000 165),(9,vI s1383.1)],[(500000,w_sheetmetalref06_Line 165 x2043)]⟩)) qH (fun s1934 r h=>?_) fun τ hτ=>?_
 refine zB (z7 (zA 3 (qL cI r56.1 (y1 1 [5,6,7,8,9,10,44] [500000] (qc h (fun h=>?_) fun h=>?_)))))
 refine y4 [5,6,7,8,9,10] [500000] (zB (zC (qM 37 (dN 3 ?_))))
 obtain ⟨x2034,hx2034,h⟩:=bindS h
 refine dX cI hx2034 (dN 3 ?_)
 obtain ⟨x2035,hx2035,h⟩:=bindS h
 refine dX cI hx2035 (dN 4 ?_)
 obtain ⟨x2036,hx2036,h⟩:=bindS h
 refine dX cI hx2036 (dN 3 ?_)
 obtain ⟨x2037,hx2037,h⟩:=bindS h
 refine dX cI hx2037 (dN 5 ?_)
 obtain ⟨x2038,hx2038,h⟩:=bindS h
 refine dX (cS cI) hx2038 (dN 2 ?_)
 obtain ⟨x2039,hx2039,h⟩:=bindS h
 refine dX cI hx2039 (dN 4 ?_)
 obtain ⟨x2040,hx2040,h⟩:=bindS h
 refine dX (cS cI) hx2040 (dN 3 ?_)
 obtain ⟨x2041,hx2041,h⟩:=bindS h
 refine dX cI hx2041 (dN 2 (dE ?_))
 obtain ⟨r2042,hr2042,h⟩:=bindS h
 refine oC [(300000,500000)] [(0,701850)] (W.sheetmetalref06_join_ok hr2042) (oN 1 (zO fun τ hτ=>?_))
 refine bl_normal (yE hτ [5,6,7,8,9,10] [701850] (zD (z6 3 fun τ hτ=>?_)))
 cases h
 exact lk_nextS hτ (sp [] [(701850,500000)])
 refine zL 4 fun τ hτ=>?_
 refine th_exit ?_
 cases h
 exact zF hτ
 refine zQ (bl_normal (yE hτ [5,6,7,8,9] [500000] (zD (z6 3 fun τ hτ=>?_))))
 cases h
 exact zH hτ
 refine zL 2 fun τ hτ=>?_
 refine th_exit ?_
 cases h
 exact zF hτ
 refine zQ (yE hτ [5,6,7,8] [500000] (zB (y3 1 [5,6,7,8,11] [500000] (zC ?_))))
 obtain ⟨x4030,hx4030,h⟩:=bindS h
 refine ql hx4030 (fun s3369=>⟨[(5,sI r56.1),(6,sI r56.2),(7,.sl (List.map (cS cI) r58)),(8,ro 500000 165),(11,vI s3369.1)],[(500000,w_sheetmetalref06_Line 165 s3369.2)]⟩) (fun x4030=>(.exit 6,⟨[(8,ro 500000 165)],[(500000,w_sheetmetalref06_Line 165 x4030)]⟩)) qH (fun s3369 r h=>?_) fun τ hτ=>?_
 refine zB (z7 (zA 2 (qL cI r56.1 (y1 1 [5,6,7,8,11,88] [500000] (qc h (fun h=>?_) fun h=>?_)))))
 refine y4 [5,6,7,8,11] [500000] (zB (zC (y3 1 [5,6,7,8,11,12] [500000] (zC ?_))))
 obtain ⟨x4029,hx4029,h⟩:=bindS h
 refine ql hx4029 (fun s3920=>⟨[(5,sI r56.1),(6,sI r56.2),(7,.sl (List.map (cS cI) r58)),(8,ro 500000 165),(11,vI s3369.1),(12,vI s3920.1)],[(500000,w_sheetmetalref06_Line 165 s3920.2)]⟩) (fun x4029=>(.exit 8,⟨[(5,sI r56.1),(6,sI r56.2),(7,.sl (List.map (cS cI) r58)),(8,ro 500000 165),(11,vI s3369.1)],[(500000,w_sheetmetalref06_Line 165 x4029)]⟩)) qH (fun s3920 r h=>?_) fun τ hτ=>?_
 refine zB (z7 (zA 3 (qL cI r56.2 (y1 1 [5,6,7,8,11,12,95] [500000] (qc h (fun h=>?_) fun h=>?_)))))
 refine y4 [5,6,7,8,11,12] [500000] (zB (zC (qM 37 (dN 3 ?_))))
 obtain ⟨x4020,hx4020,h⟩:=bindS h
 refine dX cI hx4020 (dN 3 ?_)
 obtain ⟨x4021,hx4021,h⟩:=bindS h
 refine dX cI hx4021 (dN 3 ?_)
 obtain ⟨x4022,hx4022,h⟩:=bindS h
 refine dX cI hx4022 (dN 4 ?_)
 obtain ⟨x4023,hx4023,h⟩:=bindS h
 refine dX cI hx4023 (dN 4 ?_)
 obtain ⟨x4024,hx4024,h⟩:=bindS h
 refine dX (cS cI) hx4024 (dN 3 ?_)
 obtain ⟨x4025,hx4025,h⟩:=bindS h
 refine dX cI hx4025 (dN 4 ?_)
 obtain ⟨x4026,hx4026,h⟩:=bindS h
 refine dX (cS cI) hx4026 (dN 3 ?_)
 obtain ⟨x4027,hx4027,h⟩:=bindS h
 refine dX cI hx4027 (dN 2 (dE ?_))
 obtain ⟨r4028,hr4028,h⟩:=bindS h
 refine oC [(300000,500000)] [(0,701850)] (W.sheetmetalref06_join_ok hr4028) (oN 1 (zO fun τ hτ=>?_))
 refine bl_normal (yE hτ [5,6,7,8,11,12] [701850] (zD (z6 3 fun τ hτ=>?_)))
 cases h
 exact lk_nextS hτ (sp [] [(701850,500000)])
 refine zL 8 fun τ hτ=>?_
 refine th_exit ?_
 cases h
 exact zF hτ
 refine zQ (bl_normal (yE hτ [5,6,7,8,11] [500000] (zD (z6 3 fun τ hτ=>?_))))
 cases h
 exact zH hτ
 refine zL 6 fun τ hτ=>?_
 refine th_exit ?_
 cases h
 exact zF hτ
 refine zQ (yE hτ [8] [500000] (z8 2 ⟨[(2,ro 500000 165)],[(500000,w_sheetmetalref06_Line 165 x4030)]⟩ fun τ hτ=>?_))
 obtain rfl:=osi h
 exact qW hτ [(2,ro 0 165)] (sp [] [(500000,0)])
theorem W.sheetmetalref07_edges_ok {l r} (h : sheetmetalref07_edges l=some r) : PC G.P 50 [(.agg (c_LayoutT l))] [] (.row (.top 0) 74) [(0,.row 74 [] (List.map c_EdgeT r))]:=by
 refine zU G Tryz.func50 (yK [0] [] (y3 2 [1] [1] (y3 1 [1,3] [1,3] (zB (y3 1 [1,3,4] [1,3] (zC ?_))))))
 obtain ⟨x54,hx54,h⟩:=bindS h
 refine ql hx54 (fun s37=>⟨[(1,.ptr 500000 0),(3,ro 500001 22),(4,vI s37.1)],[(500000,.box (c_LayoutT l)),(500001,.row 22 [] (List.map (cS c_Rect) s37.2))]⟩) (fun x54=>(.exit 0,⟨[(3,ro 500000 22)],[(500000,.row 22 [] (List.map (cS c_Rect) x54))]⟩)) (sp [] [(1,500000),(3,500001)]) (fun s37 r h=>?_) fun τ hτ=>?_
 refine zB (z7 (zA 3 (qL c_Piece l.Pieces (y1 1 [1,3,4,14] [500000,500001] (qc h (fun h=>?_) fun h=>?_)))))
 refine y4 [1,3,4] [500000,500001] (zB (zC (zD (zA 4 ?_))))
 obtain ⟨x52,hx52,h⟩:=bindS h
 refine qX c_Piece hx52 (zA 3 ?_)
 obtain ⟨l53,hl53,h⟩:=bindS h
 refine qA (cS c_Rect) 1 hl53 (z6 1 fun τ hτ=>?_)
 refine bl_normal (yE hτ [1,3,4] [500000,500001] (zD (z6 3 fun τ hτ=>?_)))
 cases h
 exact zH hτ
 refine zL 0 fun τ hτ=>?_
 refine th_exit ?_
 cases h
 exact lk_outS hτ rfl (sp [] [(500001,500000)])
 refine zQ (yE hτ [3] [500000] (z7 (zA 1 ?_)))
 obtain ⟨r56,hr56,h⟩:=bindS h
 refine evs_callS [] [(0,700050)] [500000] (by kernel_rfl) (W.sheetmetalref06_Borders_ok hr56) (by kernel_rfl) (by kernel_rfl) (.inr ⟨rfl,fun _ _=>ind_cons (ind_row fun _=>rfl) (fun _ _=>ind_nil)⟩) (y1 1 [5] [700050] (y3 1 [5,6] [6,700050] (zB (y3 1 [5,6,7] [6,700050] (zC ?_)))))
 obtain ⟨x266,hx266,h⟩:=bindS h
 refine ql hx266 (fun s197=>⟨[(5,ro 500000 165),(6,ro 500001 74),(7,vI s197.1)],[(500000,w_sheetmetalref06_Line 165 r56),(500001,w_EdgeT 74 s197.2)]⟩) (fun x266=>(.exit 2,⟨[(6,ro 500000 74)],[(500000,w_EdgeT 74 x266)]⟩)) (sp [] [(6,500001),(700050,500000)]) (fun s197 r h=>?_) fun τ hτ=>?_
 refine zB (z7 (zA 2 (qL c_sheetmetalref06_Line r56 (y1 1 [5,6,7,31] [500000,500001] (qc h (fun h=>?_) fun h=>?_)))))
 refine y4 [5,6,7] [500000,500001] (zB (zC (zB (qM 23 (dN 2 ?_)))))
 obtain ⟨x257,hx257,h⟩:=bindS h
 refine dI c_sheetmetalref06_Line hx257 (dN 1 (dR c_sheetmetalref06_Line hx257 (dN 2 ?_)))
 obtain ⟨x258,hx258,h⟩:=bindS h
 refine dI c_sheetmetalref06_Line hx258 (dN 1 (dR c_sheetmetalref06_Line hx258 (dN 3 ?_)))
 obtain ⟨x259,hx259,h⟩:=bindS h
 refine dI c_sheetmetalref06_Line hx259 (dN 1 (dR c_sheetmetalref06_Line hx259 (dN 2 ?_)))
 obtain ⟨x260,hx260,h⟩:=bindS h
 refine dI c_sheetmetalref06_Line hx260 (dN 1 (dR c_sheetmetalref06_Line hx260 (dN 2 (dE (oN 1 (zO fun τ hτ=>?_))))))
 refine yE hτ [5,6,7,8,9] [500000,500001] (sem_seqJ (fun (j261 : Int×Int)=>⟨[(5,ro 500000 165),(6,ro 500001 74),(7,vI s197.1),(8,vI j261.1),(9,vI j261.2)],[(500000,w_sheetmetalref06_Line 165 r56),(500001,w_EdgeT 74 s197.2)]⟩) (sheetmetalref07_edges_k2 r56 s197) r (by kernel_rfl) (fun j261 h=>?_) ?_)
 refine zD (zA 3 ?_)
 obtain ⟨x264,hx264,h⟩:=bindS h
 refine qI c_sheetmetalref06_Line hx264 (zA 1 (qR c_sheetmetalref06_Line hx264 (zA 4 ?_)))
 obtain ⟨l265,hl265,h⟩:=bindS h
 refine qA c_EdgeT 6 hl265 (z6 1 fun τ hτ=>?_)
 refine bl_normal (yE hτ [5,6,7] [500000,500001] (zD (z6 3 fun τ hτ=>?_)))
 cases h
 exact zH hτ
 refine y3 2 [5,6,7,8,9,57] [500000,500001] (qc h (fun h=>?_) fun h=>?_)
 refine zD (z6 4 fun τ hτ=>?_)
 exact jk_normal ((imax x259.Low x260.High),(imin x257.Low x258.High)) h hτ (here (by kernel_rfl))
 refine zM fun τ hτ=>?_
 exact jk_normal ((imin x257.Low x258.High),(imax x259.Low x260.High)) h hτ (here (by kernel_rfl))
 refine zL 2 fun τ hτ=>?_
 refine th_exit ?_
 cases h
 exact lk_outS hτ rfl (sp [] [(500001,500000)])
 refine zQ (yE hτ [6] [500000] (z8 2 ⟨[(2,ro 500000 74)],[(500000,w_EdgeT 74 x266)]⟩ fun τ hτ=>?_))
 obtain rfl:=osi h
 exact qW hτ [(2,ro 0 74)] (sp [] [(500000,0)])
theorem W.sheetmetalref07_Edges_ok {l r} (h : sheetmetalref07_Edges l=some r) : PC G.P 15 [(.agg (c_LayoutT l))] [] (.tup [(.row (.top 0) 74),(vI r.2)]) [(0,.row 74 [] (List.map c_EdgeT r.1))]:=by
 refine zU G Tryz.func15 (yK [0] [] (y3 3 [1] [1] (z7 (zA 1 ?_))))
 obtain ⟨r2,hr2,h⟩:=bindS h
 refine qP (W.sheetmetalref07_Validate_ok hr2) (y1 1 [1,4] [1] (zB (y3 2 [1,4,8] [1] (qc h (fun h=>?_) fun h=>?_))))
 refine z8 3 ⟨[(2,ro 2 74),(3,vI r2)],[(2,w_EdgeT 74 [])]⟩ fun τ hτ=>?_
 refine th_ret ?_
 obtain rfl:=osi h
 exact qW hτ [(2,ro 0 74),(3,vI r2)] (sp [] [(2,0)])
 refine y4 [1] [1] (z7 (zA 1 ?_))
 obtain ⟨r4,hr4,h⟩:=bindS h
 refine qC [] [(0,700050)] (W.sheetmetalref07_edges_ok hr4) (y1 2 [2,3] [700050] (zN fun τ hτ=>?_))
 obtain rfl:=osi h
 exact qW hτ [(2,ro 0 74),(3,vI 0)] (sp [] [(700050,0)])
theorem W.sheetmetalref07_SameEdges_ok {a b r} (h : sheetmetalref07_SameEdges a b=some r) : PC G.P 16 [(.sl (List.map c_EdgeT a)),(.sl (List.map c_EdgeT b))] [] (vB r) []:=by
 refine zU G Tryz.func16 (yK [0,1] [] (y3 1 [0,1] [] (zB (z7 (zA 1 (qL c_EdgeT a ?_))))))
 refine zA 1 (qL c_EdgeT b (y1 1 [0,1,10] [] (qc h (fun h=>?_) fun h=>?_)))
 refine z8 1 ⟨[(4,vB false)],[]⟩ fun τ hτ=>?_
 refine th_ret ?_
 obtain rfl:=osi h
 exact zV hτ [(4,vB false)]
 refine y4 [0,1] [] (zB (y3 1 [0,1,5] [] (zC ?_)))
 obtain ⟨x80,hx80,h⟩:=bindS h
 refine ql hx80 (fun s55=>⟨[(0,s_EdgeT a),(1,s_EdgeT b),(5,vI s55)],[]⟩) (fun x80=>match x80 with | .inl j81=>(.ret,⟨[(4,vB false)],[]⟩) | .inr j82=>(.exit 0,⟨[],[]⟩)) qH (fun s55 r h=>?_) (fun τ hτ=>?_) (hout:=(by intro x; rcases x with _ | _ <;> rfl))
 refine zB (z7 (zA 2 (qL c_EdgeT a (y1 1 [0,1,5,14] [] (qc h (fun h=>?_) fun h=>?_)))))
 refine y4 [0,1,5] [] (zB (zC (zB (qM 8 (dN 2 ?_)))))
 obtain ⟨x78,hx78,h⟩:=bindS h
 refine dX c_EdgeT hx78 (dN 3 ?_)
 obtain ⟨x79,hx79,h⟩:=bindS h
 refine dX c_EdgeT hx79 (dN 1 (dE (oN 1 (zO fun τ hτ=>?_))))
 refine yE hτ [0,1,5,25] [] (qc h (fun h=>?_) fun h=>?_)
 refine z8 1 ⟨[(4,vB false)],[]⟩ fun τ hτ=>?_
 refine bl_ret (th_ret ?_)
 cases h
 exact zF hτ
 refine zM fun τ hτ=>?_
 refine bl_normal (yE hτ [0,1,5] [] (zD (z6 3 fun τ hτ=>?_)))
 cases h
 exact zH hτ
 refine zL 0 fun τ hτ=>?_
 refine th_exit ?_
 cases h
 exact zF hτ
 rcases x80 with j81 | j82
 refine bl_ret (th_ret ?_)
 obtain rfl:=osi h
 exact zV hτ [(4,vB false)]
 refine zQ (yE hτ [] [] (z8 1 ⟨[(4,vB true)],[]⟩ fun τ hτ=>?_))
 obtain rfl:=osi h
 exact zV hτ [(4,vB true)]
theorem W.cut_start_kG_ok {l edges r} (h : cut_start_kG l edges=some r) : PC G.P 51 [(.agg (c_LayoutT l)),(vI edges)] [] (.agg [(.row (.top 1) 4),(.row (.top 2) 36),(.row (.top 3) 4),(.row (.top 4) 3),(.row (.top 5) 4)]) [(0,.box [(.row (.top 1) 4),(.row (.top 2) 36),(.row (.top 3) 4),(.row (.top 4) 3),(.row (.top 5) 4)]),(1,.row 4 [] (List.map cB r.Cut)),(2,.row 36 [] (List.map (cS cB) r.Holes)),(3,.row 4 [] (List.map cB r.Done)),(4,.row 3 [] (List.map cI r.Joints)),(5,.row 4 [] (List.map cB r.Fallen))]:=by
 refine zU G Tryz.func51 (yK [0,1] [] (y3 2 [1,2,4] [2,4] (z7 (zA 2 (qL c_Piece l.Pieces (y1 1 [1,2,4,5] [2,4] ?_))))))
 refine zB (sem_draw [(1,[13]),(3,[15]),(5,[17]),(7,[19]),(9,[6])] [(1,[13]),(3,[15]),(5,[17]),(7,[19]),(9,[6])] [] [(0,[15,17,19,6]),(1,[15,17,19,6]),(2,[13,17,19,6]),(3,[13,17,19,6]),(4,[13,15,19,6]),(5,[13,15,19,6]),(6,[13,15,17,6]),(7,[13,15,17,6]),(8,[6]),(9,[13,15,17,19])] [(0,[13,15,17,19,6]),(1,[15,17,19,6]),(2,[13,15,17,19,6]),(3,[13,17,19,6]),(4,[13,15,17,19,6]),(5,[13,15,19,6]),(6,[13,15,17,19,6]),(7,[13,15,17,6]),(8,[6]),(9,[13,15,17,19])] 10 (by kernel_rfl) (by kernel_rfl) [6,19,17,15,13] (by kernel_rfl) (by kernel_rfl) (dN 1 ?_))
 obtain ⟨l9,hl9,h⟩:=bindS h
 refine evd_new (by kernel_rfl) (st_mk (c:=cB) (z:=false) (n:=edges) (e:=4) (d:=13) (zs:=[(vB false)]) (k1:=.i64) (k2:=.i64) (by kernel_rfl) rfl hl9) (by kernel_rfl) (by kernel_rfl) (by kernel_rfl) (by kernel_rfl) (dN 1 ?_)
 obtain ⟨l10,hl10,h⟩:=bindS h
 refine evd_new (by kernel_rfl) (st_mk (c:=cB) (z:=false) (n:=(l.Pieces.length : Int)) (e:=4) (d:=15) (zs:=[(vB false)]) (k1:=.i64) (k2:=.i64) (by kernel_rfl) rfl hl10) (by kernel_rfl) (by kernel_rfl) (by kernel_rfl) (by kernel_rfl) (dN 1 ?_)
 obtain ⟨l11,hl11,h⟩:=bindS h
 refine evd_new (by kernel_rfl) (st_mk (c:=cI) (z:=0) (n:=(l.Pieces.length : Int)) (e:=3) (d:=17) (zs:=[(vI 0)]) (k1:=.i64) (k2:=.i64) (by kernel_rfl) rfl hl11) (by kernel_rfl) (by kernel_rfl) (by kernel_rfl) (by kernel_rfl) (dN 1 ?_)
 obtain ⟨l12,hl12,h⟩:=bindS h
 refine evd_new (by kernel_rfl) (st_mk (c:=cB) (z:=false) (n:=(l.Pieces.length : Int)) (e:=4) (d:=19) (zs:=[(vB false)]) (k1:=.i64) (k2:=.i64) (by kernel_rfl) rfl hl12) (by kernel_rfl) (by kernel_rfl) (by kernel_rfl) (by kernel_rfl) (dN 1 (evd_new (g:=6) (ob:=.box [.nl,.nl,.nl,.nl,.nl]) (v:=(.ptr 6 0)) (by kernel_rfl) (by kernel_rfl) (by kernel_rfl) (by kernel_rfl) (by kernel_rfl) (by kernel_rfl) (dE (oN 1 (zO fun τ hτ=>?_)))))
 refine yE hτ [2,4,6] [2,4,6,13,15,17,19] (zB (z7 (zA 2 (qL c_Piece l.Pieces (y1 1 [4,6,22,23,24] [4,6,13,15,17,19] (zC ?_))))))
 obtain ⟨x114,hx114,h⟩:=bindS h
 refine ql hx114 (fun s81=>⟨[(4,.ptr 500000 0),(6,.ptr 500001 0),(22,s_Piece l.Pieces),(23,vI (l.Pieces.length : Int)),(24,vI s81.1)],[(500000,.box [.nl,.nl,.nl,.nl,.nl]),(500001,.box [(ro 500002 4),(ro 500003 36),(ro 500004 4),(ro 500005 3),(ro 500006 4)]),(500002,wB 4 l9),(500003,.row 36 [] (List.map (cS cB) s81.2)),(500004,wB 4 l10),(500005,wI 3 l11),(500006,wB 4 l12)]⟩) (fun x114=>(.exit 0,⟨[(4,.ptr 500000 0),(6,.ptr 500001 0)],[(500000,.box [.nl,.nl,.nl,.nl,.nl]),(500001,.box [(ro 500002 4),(ro 500003 36),(ro 500004 4),(ro 500005 3),(ro 500006 4)]),(500002,wB 4 l9),(500003,.row 36 [] (List.map (cS cB) x114)),(500004,wB 4 l10),(500005,wI 3 l11),(500006,wB 4 l12)]⟩)) (sp [.row (.box 6 1) 800000 36 []] [(4,500000),(6,500001),(13,500002),(15,500004),(17,500005),(19,500006),(800000,500003)]) (fun s81 r h=>?_) fun τ hτ=>?_
 refine y3 1 [4,6,22,23,24,25] [500000,500001,500002,500003,500004,500005,500006] (zB (qc h (fun h=>?_) fun h=>?_))
 refine y4 [4,6,22,23,24] [500000,500001,500002,500003,500004,500005,500006] (zB (zC (z7 ?_)))
 obtain ⟨x107,hx107,h⟩:=bindS h
 refine qX c_Piece hx107 (y1 3 [4,6,8,22,23,24] [8,500000,500001,500002,500003,500004,500005,500006] (sem_draw [] [(5,[33])] [] [] [(0,[33]),(1,[33]),(2,[33]),(3,[33]),(4,[33])] 7 (by kernel_rfl) (by kernel_rfl) [33] (by kernel_rfl) (by kernel_rfl) (dN 4 (dL c_Rect x107.Cuts ?_))))
 obtain ⟨l112,hl112,h⟩:=bindS h
 refine evd_mkF (d:=33) (e:=4) (es:=(List.map cB l112)) (by kernel_rfl) (st_mk (c:=cB) (z:=false) (n:=(x107.Cuts.length : Int)) (e:=4) (d:=33) (zs:=[(vB false)]) (k1:=.i64) (k2:=.i64) (by kernel_rfl) rfl hl112) (by kernel_rfl) (by kernel_rfl) (by kernel_rfl) (by kernel_rfl) (dN 1 (dE ?_))
 obtain ⟨l113,hl113,h⟩:=bindS h
 refine oA (cS cB) 1 hl113 (oN 2 (zO fun τ hτ=>?_))
 refine bl_normal (yE hτ [4,6,22,23,24] [500000,500001,500002,500003,500004,500005,500006] (zD (z6 2 fun τ hτ=>?_)))
 cases h
 exact zH hτ
 refine zL 0 fun τ hτ=>?_
 refine th_exit ?_
 cases h
 exact zF hτ
 refine zQ (yE hτ [4,6] [500000,500001,500002,500003,500004,500005,500006] (z8 2 ⟨[(4,.ptr 500000 0)],[(500000,.box [(ro 500002 4),(ro 500003 36),(ro 500004 4),(ro 500005 3),(ro 500006 4)]),(500002,wB 4 l9),(500003,.row 36 [] (List.map (cS cB) x114)),(500004,wB 4 l10),(500005,wI 3 l11),(500006,wB 4 l12)]⟩ fun τ hτ=>?_))
 obtain rfl:=osi h
 exact qW hτ [(4,.ptr 0 0)] (sp [] [(500000,0),(500002,1),(500003,2),(500004,3),(500005,4),(500006,5)])
theorem W.cut_State_fits_kG_ok {st l edges r} (h : cut_State_fits_kG st l edges=some r) : PC G.P 114 [(.agg (c_cut_State st)),(.agg (c_LayoutT l)),(vI edges)] [] (vB r) []:=by
 refine zU G Tryz.func114 (yK [0,1,2] [] (y3 3 [2,3,4] [3,4] (z7 (zA 2 (qL c_Piece l.Pieces (y1 1 [2,3,4,7] [3,4] ?_))))))
 refine zB (z7 (zA 2 (qL cB st.Cut (zA 3 (qB h [3,4,7,18] [3,4] [18] (fun h=>?_) fun h=>?_)))))
 exact nomatch h
 refine zA 2 (qL (cS cB) st.Holes (zA 4 (qB h [3,4,7,25] [3,4] [25] (fun h=>?_) fun h=>?_)))
 exact nomatch h
 refine zA 2 (qL cB st.Done (zA 4 (qB h [3,4,7,32] [3,4] [32] (fun h=>?_) fun h=>?_)))
 exact nomatch h
 refine zA 2 (qL cI st.Joints (zA 4 (qB h [3,4,7,39] [3,4] [39] (fun h=>?_) fun h=>?_)))
 exact nomatch h
 refine zA 2 (qL cB st.Fallen (y1 3 [3,4,45] [3,4] (qc h (fun h=>?_) fun h=>?_)))
 exact nomatch h
 refine y4 [3,4] [3,4] (zB (z7 (zA 2 (qL c_Piece l.Pieces (y1 1 [3,47,48,49] [3] (zC ?_))))))
 obtain ⟨x66,hx66,h⟩:=bindS h
 refine ql hx66 (fun s45=>⟨[(3,.ptr 500000 0),(47,s_Piece l.Pieces),(48,vI (l.Pieces.length : Int)),(49,vI s45)],[(500000,.box (c_cut_State st))]⟩) (fun x66=>(.exit 0,⟨[],[]⟩)) (sp [] [(3,500000)]) (fun s45 r h=>?_) fun τ hτ=>?_
 refine y3 1 [3,47,48,49,50] [500000] (zB (qc h (fun h=>?_) fun h=>?_))
 refine y4 [3,47,48,49] [500000] (zB (zC (z7 (zA 1 ?_))))
 obtain ⟨x62,hx62,h⟩:=bindS h
 refine qX c_Piece hx62 (y1 4 [3,8,9,47,48,49] [9,500000] (zB (qM 9 (dN 3 ?_))))
 obtain ⟨x65,hx65,h⟩:=bindS h
 refine dX (cS cB) hx65 (dN 1 (dL cB x65 (dN 2 (dL c_Rect x62.Cuts (dE (oN 1 ?_))))))
 refine zO fun τ hτ=>?_
 refine yE hτ [3,47,48,49,63] [500000] (qc h (fun h=>?_) fun h=>?_)
 exact nomatch h
 refine zM fun τ hτ=>?_
 refine bl_normal (yE hτ [3,47,48,49] [500000] (zD (z6 2 fun τ hτ=>?_)))
 cases h
 exact zH hτ
 refine zL 0 fun τ hτ=>?_
 refine th_exit ?_
 cases h
 exact zF hτ
 refine zQ (yE hτ [] [] (z8 1 ⟨[(6,vB true)],[]⟩ fun τ hτ=>?_))
 obtain rfl:=osi h
 exact zV hτ [(6,vB true)]
theorem W.slices_Index_Lbool_bool_kG_ok {s0 v r} (h : slices_Index_Lbool_bool_kG s0 v=some r) : PC G.P 124 [(.sl (List.map cB s0)),(vB v)] [] (vI r) []:=by
 refine zU G Tryz.func124 (yK [0,1] [] (y3 1 [0,1] [] (zB (z7 (zA 1 (qL cB s0 ?_))))))
 refine y1 1 [0,1,7,8] [] (zC ?_)
 obtain ⟨x4,hx4,h⟩:=bindS h
 refine ql hx4 (fun s3=>⟨[(0,sB s0),(1,vB v),(7,vI (s0.length : Int)),(8,vI 0)],[]⟩) (fun x4=>(.exit 0,⟨[],[]⟩)) qH (fun s3 r h=>?_) fun τ hτ=>?_
 refine y3 1 [0,1,7,8,9] [] (zB (qc h (fun h=>?_) fun h=>?_))
 exact nomatch h
 refine zL 0 fun τ hτ=>?_
 refine th_exit ?_
 cases h
 exact zF hτ
 refine zQ (yE hτ [] [] (z8 1 ⟨[(4,vI (-1))],[]⟩ fun τ hτ=>?_))
 obtain rfl:=osi h
 exact zV hτ [(4,vI (-1))]
theorem W.slices_Contains_Lbool_bool_kG_ok {s0 v r} (h : slices_Contains_Lbool_bool_kG s0 v=some r) : PC G.P 60 [(.sl (List.map cB s0)),(vB v)] [] (vB r) []:=by
 refine zU G Tryz.func60 (yK [0,1] [] (y3 1 [0,1] [] (z7 (zA 2 ?_))))
 obtain ⟨r2,hr2,h⟩:=bindS h
 refine qP (W.slices_Index_Lbool_bool_kG_ok hr2) (y1 2 [4] [] (zN fun τ hτ=>?_))
 obtain rfl:=osi h
 exact zV hτ [(4,vB (decide (r2 ≥ 0)))]
theorem W.cut_of_kG_ok {e piece r} (h : cut_of_kG e piece=some r) : PC G.P 66 [(.agg (c_EdgeT e)),(vI piece)] [] (vB r) []:=by
 refine zU G Tryz.func66 (yK [0,1] [] (y3 2 [1,2] [2] (zB ?_)))
 obtain ⟨j1,hj1,h⟩:=bindS h
 refine zT ⟨[(4,vB j1)],[]⟩ ?_ fun τ hτ=>?_
 replace h:=hj1
 refine zA 5 (qB h [1,2,9] [2] [9] (fun h=>?_) fun h=>?_)
 refine z6 6 fun τ hτ=>?_
 cases h
 exact zG hτ
 refine z6 6 fun τ hτ=>?_
 cases h
 exact zG hτ
 refine yE hτ [4] [] (zN fun τ hτ=>?_)
 obtain rfl:=osi h
 exact zV hτ [(4,vB j1)]
theorem W.cut_State_free_kG_ok {st all piece r} (h : cut_State_free_kG st all piece=some r) : PC G.P 118 [(.agg (c_cut_State st)),(.sl (List.map c_EdgeT all)),(vI piece)] [] (vB r) []:=by
 refine zU G Tryz.func118 (yK [0,1,2] [] (y3 2 [1,2,3] [3] (zB (z7 (zA 1 (qL c_EdgeT all ?_))))))
 refine y1 1 [2,3,9,10,11] [3] (zC ?_)
 obtain ⟨x92,hx92,h⟩:=bindS h
 refine ql hx92 (fun s63=>⟨[(2,vI piece),(3,.ptr 500000 0),(9,s_EdgeT all),(10,vI (all.length : Int)),(11,vI s63)],[(500000,.box (c_cut_State st))]⟩) (fun x92=>match x92 with | .inl j93=>(.ret,⟨[(6,vB false)],[]⟩) | .inr j94=>(.exit 0,⟨[],[]⟩)) (sp [] [(3,500000)]) (fun s63 r h=>?_) (fun τ hτ=>?_) (hout:=(by intro x; rcases x with _ | _ <;> rfl))
 refine y3 1 [2,3,9,10,11,12] [500000] (zB (qc h (fun h=>?_) fun h=>?_))
 refine y4 [2,3,9,10,11] [500000] (zB (zC (z7 (zA 1 ?_))))
 obtain ⟨x86,hx86,h⟩:=bindS h
 refine qX c_EdgeT hx86 (y1 4 [2,3,7,8,9,10,11] [8,500000] (zB ?_))
 obtain ⟨j89,hj89,h⟩:=bindS h
 refine zT ⟨[(2,vI piece),(3,.ptr 500000 0),(9,s_EdgeT all),(10,vI (all.length : Int)),(11,vI s63),(26,vB j89)],[(500000,.box (c_cut_State st))]⟩ ?_ fun τ hτ=>?_
 replace h:=hj89
 refine zA 2 ?_
 obtain ⟨r90,hr90,h⟩:=bindS h
 refine qP (W.cut_of_kG_ok hr90) (zA 1 (qB h [2,3,7,9,10,11,19] [500000] [19] (fun h=>?_) fun h=>?_))
 refine zA 3 ?_
 obtain ⟨x91,hx91,h⟩:=bindS h
 refine qX cB hx91 (z6 3 fun τ hτ=>?_)
 cases h
 exact zG hτ
 refine z6 7 fun τ hτ=>?_
 cases h
 exact zG hτ
 refine yE hτ [2,3,9,10,11,26] [500000] (qc h (fun h=>?_) fun h=>?_)
 refine z8 1 ⟨[(6,vB false)],[]⟩ fun τ hτ=>?_
 refine bl_ret (th_ret ?_)
 cases h
 exact zF hτ
 refine zM fun τ hτ=>?_
 refine bl_normal (yE hτ [2,3,9,10,11] [500000] (zD (z6 2 fun τ hτ=>?_)))
 cases h
 exact zH hτ
 refine zL 0 fun τ hτ=>?_
 refine th_exit ?_
 cases h
 exact zF hτ
 rcases x92 with j93 | j94
 refine bl_ret (th_ret ?_)
 obtain rfl:=osi h
 exact zV hτ [(6,vB false)]
 refine zQ (yE hτ [] [] (z8 1 ⟨[(6,vB true)],[]⟩ fun τ hτ=>?_))
 obtain rfl:=osi h
 exact zV hτ [(6,vB true)]
theorem W.cut_State_order_kG_ok {st all x2 r} (h : cut_State_order_kG st all x2=some r) : PC G.P 115 [(.agg (c_cut_State st)),(.sl (List.map c_EdgeT all)),(.agg (c_ItemT x2))] [] (vB r) []:=by
 refine zU G Tryz.func115 (yK [0,1,2] [] (y3 3 [1,3,5] [3,5] (zB (zC (z7 (zA 4 ?_))))))
 obtain ⟨x4,hx4,h⟩:=bindS h
 refine qX cB hx4 (y1 2 [1,3,5,7] [3,5] (qc h (fun h=>?_) fun h=>?_))
 exact nomatch h
 refine y3 4 [1,3,5,14] [3,5] (qc h (fun h=>?_) fun h=>?_)
 exact nomatch h
 refine zM fun τ hτ=>?_
 refine bl_normal (yE hτ [1,3,5] [3,5] (z7 (zA 4 ?_)))
 obtain ⟨x9,hx9,h⟩:=bindS h
 refine qX cB hx9 (zA 3 (zS x9 (fun b0=>⟨[(1,s_EdgeT all),(3,.ptr 3 0),(5,.ptr 5 0),(36,vB (!b0))],[(3,.box (c_cut_State st)),(5,.box (c_ItemT x2))]⟩) (fun hb=>?_) fun hb=>?_))
 replace h:=iteT hb h
 exact nomatch h
 replace h:=iteF hb h
 refine zA 4 ?_
 obtain ⟨x10,hx10,h⟩:=bindS h
 refine qX (cS cB) hx10 (zA 1 ?_)
 obtain ⟨r11,hr11,h⟩:=bindS h
 refine qP (W.slices_Contains_Lbool_bool_kG_ok hr11) (zA 3 (zS r11 (fun b0=>⟨[(1,s_EdgeT all),(3,.ptr 3 0),(5,.ptr 5 0),(46,vB (!b0))],[(3,.box (c_cut_State st)),(5,.box (c_ItemT x2))]⟩) (fun hb=>?_) fun hb=>?_))
 replace h:=iteT hb h
 exact nomatch h
 replace h:=iteF hb h
 refine zA 4 ?_
 obtain ⟨r12,hr12,h⟩:=bindS h
 refine qP (W.cut_State_free_kG_ok hr12) (y1 3 [6] [] (zN fun τ hτ=>?_))
 obtain rfl:=osi h
 exact zV hτ [(6,vB (!r12))]
theorem W.cut_Small_kG_ok {x0 r} (h : cut_Small_kG x0=some r) : PC G.P 65 [(.agg (c_Piece x0))] [] (vB r) []:=by
 refine zU G Tryz.func65 (yK [0] [] (y3 2 [1] [1] (y3 1 [1,3] [1,3] (zB (z7 (zA 2 ?_))))))
 refine qL c_Rect x0.Rects (y1 1 [3,9,10,11] [3] (zC ?_))
 obtain ⟨x54,hx54,h⟩:=bindS h
 refine ql hx54 (fun s37=>⟨[(3,.ptr 500000 0),(9,s_Rect x0.Rects),(10,vI (x0.Rects.length : Int)),(11,vI s37.1)],[(500000,.box [(vI s37.2.1),(vI s37.2.2.1),(vI s37.2.2.2.1),(vI s37.2.2.2.2)])]⟩) (fun x54=>(.exit 0,⟨[(3,.ptr 500000 0)],[(500000,.box [(vI x54.1),(vI x54.2.1),(vI x54.2.2.1),(vI x54.2.2.2)])]⟩)) (sp [] [(3,500000)]) (fun s37 r h=>?_) fun τ hτ=>?_
 refine y3 1 [3,9,10,11,12] [500000] (zB (qc h (fun h=>?_) fun h=>?_))
 refine y4 [3,9,10,11] [500000] (zB (zC (z7 ?_)))
 obtain ⟨x51,hx51,h⟩:=bindS h
 refine qX c_Rect hx51 (y1 3 [3,5,9,10,11] [5,500000] (zC (z7 (zA 1 ?_))))
 obtain ⟨r53,hr53,h⟩:=bindS h
 refine qP (W.geom_ValidRect_ok hr53) (y1 2 [3,5,9,10,11,57] [5,500000] (qc h (fun h=>?_) fun h=>?_))
 exact nomatch h
 refine y3 4 [3,5,9,10,11,61] [5,500000] (qc h (fun h=>?_) fun h=>?_)
 refine zD (z6 2 fun τ hτ=>?_)
 refine bl_normal (bl_normal (yE hτ [3,9,10,11] [500000] (zD (z6 2 fun τ hτ=>?_))))
 cases h
 exact zH hτ
 exact nomatch h
 refine zL 0 fun τ hτ=>?_
 refine th_exit ?_
 cases h
 exact zF hτ
 refine zQ (yE hτ [3] [500000] (z8 7 ⟨[(2,vB (decide ((imin x54.2.2.1 x54.2.2.2) < 7200)))],[]⟩ fun τ hτ=>?_))
 obtain rfl:=osi h
 exact zV hτ [(2,vB (decide ((imin x54.2.2.1 x54.2.2.2) < 7200)))]
theorem W.cut_InRegion_1_kG_ok {r0 a_0 a_1 a_2 a_3 r} (h : cut_InRegion_1_kG r0 a_0 a_1 a_2 a_3=some r) : PC G.P 184 [(.agg (c_Rect r0)),(.vptr [(vI a_0),(vI a_1),(vI a_2),(vI a_3)] 0)] [] (vB r) []:=by
 refine zU G Tryz.func184 (yK [0,1] [] (y3 2 [1,2] [2] (z7 (zA 2 ?_))))
 obtain ⟨r2,hr2,h⟩:=bindS h
 refine qP (W.geom_Inside_ok hr2) (y1 1 [3] [] (zN fun τ hτ=>?_))
 obtain rfl:=osi h
 exact zV hτ [(3,vB r2)]
theorem W.slices_IndexFunc_Lapi_Rect_api_Rect__cut_InRegion_1_kG_ok {s0 f_0_0 f_0_1 f_0_2 f_0_3 r} (h : slices_IndexFunc_Lapi_Rect_api_Rect__cut_InRegion_1_kG s0 f_0_0 f_0_1 f_0_2 f_0_3=some r) : PC G.P 147 [(.sl (List.map c_Rect s0)),(.fn 184 [(.vptr [(vI f_0_0),(vI f_0_1),(vI f_0_2),(vI f_0_3)] 0)])] [] (vI r) []:=by
 refine zU G Tryz.func147 (yK [0,1] [] (y3 1 [0,1] [] (zB (z7 (zA 1 (qL c_Rect s0 ?_))))))
 refine y1 1 [0,1,7,8] [] (zC ?_)
 obtain ⟨x54,hx54,h⟩:=bindS h
 refine ql hx54 (fun s37=>⟨[(0,s_Rect s0),(1,.fn 184 [(.vptr [(vI f_0_0),(vI f_0_1),(vI f_0_2),(vI f_0_3)] 0)]),(7,vI (s0.length : Int)),(8,vI s37)],[]⟩) (fun x54=>(.exit 0,⟨[],[]⟩)) qH (fun s37 r h=>?_) fun τ hτ=>?_
 refine y3 1 [0,1,7,8,9] [] (zB (qc h (fun h=>?_) fun h=>?_))
 refine y4 [0,1,7,8] [] (zB (zC (y3 2 [0,1,5,7,8] [] (z7 (zA 3 ?_)))))
 obtain ⟨x52,hx52,h⟩:=bindS h
 refine qX c_Rect hx52 (zA 1 ?_)
 obtain ⟨r53,hr53,h⟩:=bindS h
 refine qP (W.cut_InRegion_1_kG_ok hr53) (zP fun τ hτ=>?_)
 refine yE hτ [0,1,5,7,8,16] [] (qc h (fun h=>?_) fun h=>?_)
 exact nomatch h
 refine zM fun τ hτ=>?_
 refine bl_normal (yE hτ [0,1,7,8] [] (zD (z6 2 fun τ hτ=>?_)))
 cases h
 exact zH hτ
 refine zL 0 fun τ hτ=>?_
 refine th_exit ?_
 cases h
 exact zF hτ
 refine zQ (yE hτ [] [] (z8 1 ⟨[(4,vI (-1))],[]⟩ fun τ hτ=>?_))
 obtain rfl:=osi h
 exact zV hτ [(4,vI (-1))]
theorem W.slices_ContainsFunc_Lapi_Rect_api_Rect__cut_InRegion_1_kG_ok {s0 f_0_0 f_0_1 f_0_2 f_0_3 r} (h : slices_ContainsFunc_Lapi_Rect_api_Rect__cut_InRegion_1_kG s0 f_0_0 f_0_1 f_0_2 f_0_3=some r) : PC G.P 92 [(.sl (List.map c_Rect s0)),(.fn 184 [(.vptr [(vI f_0_0),(vI f_0_1),(vI f_0_2),(vI f_0_3)] 0)])] [] (vB r) []:=by
 refine zU G Tryz.func92 (yK [0,1] [] (y3 1 [0,1] [] (z7 (zA 2 ?_))))
 obtain ⟨r2,hr2,h⟩:=bindS h
 refine qP (W.slices_IndexFunc_Lapi_Rect_api_Rect__cut_InRegion_1_kG_ok hr2) (y1 2 [4] [] (zN fun τ hτ=>?_))
 obtain rfl:=osi h
 exact zV hτ [(4,vB (decide (r2 ≥ 0)))]
theorem W.cut_InRegion_kG_ok {l s1 r} (h : cut_InRegion_kG l s1=some r) : PC G.P 158 [(.sl (List.map c_Rect l)),(.agg [(vI s1.X),(vI s1.Y)])] [] (vB r) []:=by
 refine zU G Tryz.func158 (yK [0,1] [] (y3 2 [0,3] [3] (zB (z7 (zA 4 (qB h [0,3,10] [3] [10] (fun h=>?_) fun h=>?_))))))
 exact nomatch h
 refine zA 5 (qB h [0,3,15] [3] [15] (fun h=>?_) fun h=>?_)
 exact nomatch h
 refine zA 5 (qB h [0,3,20] [3] [20] (fun h=>?_) fun h=>?_)
 exact nomatch h
 refine y1 4 [0,3,24] [3] (qc h (fun h=>?_) fun h=>?_)
 exact nomatch h
 refine y4 [0,3] [3] (zB (z7 (zA 25 (qL c_Rect [(Rect.mk (isub s1.X 1) (isub s1.Y 1) 1 1),(Rect.mk s1.X (isub s1.Y 1) 1 1),(Rect.mk (isub s1.X 1) s1.Y 1 1),(Rect.mk s1.X s1.Y 1 1)] (y1 1 [0,49,50,51] [] (zC ?_))))))
 obtain ⟨x36,hx36,h⟩:=bindS h
 refine ql hx36 (fun s19=>⟨[(0,s_Rect l),(49,s_Rect [(Rect.mk (isub s1.X 1) (isub s1.Y 1) 1 1),(Rect.mk s1.X (isub s1.Y 1) 1 1),(Rect.mk (isub s1.X 1) s1.Y 1 1),(Rect.mk s1.X s1.Y 1 1)]),(50,vI ([(Rect.mk (isub s1.X 1) (isub s1.Y 1) 1 1),(Rect.mk s1.X (isub s1.Y 1) 1 1),(Rect.mk (isub s1.X 1) s1.Y 1 1),(Rect.mk s1.X s1.Y 1 1)].length : Int)),(51,vI 0)],[]⟩) (fun x36=>(.ret,⟨[(4,vB false)],[]⟩)) qH (fun s19 r h=>?_) fun τ hτ=>?_
 refine y3 1 [0,49,50,51,52] [] (zB (qc h (fun h=>?_) fun h=>?_))
 refine y4 [0,49,50,51] [] (zB (zC (z7 ?_)))
 obtain ⟨x33,hx33,h⟩:=bindS h
 refine qX c_Rect hx33 (y1 3 [0,6,49,50,51] [6] (z7 (zA 2 ?_)))
 obtain ⟨r35,hr35,h⟩:=bindS h
 refine qV [6] (W.slices_ContainsFunc_Lapi_Rect_api_Rect__cut_InRegion_1_kG_ok hr35) (y1 1 [0,49,50,51,58] [] (qc h (fun h=>?_) fun h=>?_))
 refine z8 1 ⟨[(4,vB false)],[]⟩ fun τ hτ=>?_
 refine bl_ret (th_ret ?_)
 cases h
 exact zF hτ
 exact nomatch h
 exact nomatch h
 refine bl_ret (th_ret ?_)
 obtain rfl:=osi h
 exact zV hτ [(4,vB false)]
theorem W.cut_gap_kG_ok {s0 l r} (h : cut_gap_kG s0 l=some r) : PC G.P 159 [(.agg [(vI s0.X),(vI s0.Y)]),(.agg (c_Segment l))] [] (vI r) []:=by
 refine zU G Tryz.func159 (yK [0,1] [] (y3 3 [2,3] [2,3] (z8 22 ⟨[(4,vI (imax (imax (imax (imax 0 (isub l.X1 s0.X)) (isub s0.X l.X2)) (isub l.Y1 s0.Y)) (isub s0.Y l.Y2)))],[]⟩ fun τ hτ=>?_)))
 obtain rfl:=osi h
 exact zV hτ [(4,vI (imax (imax (imax (imax 0 (isub l.X1 s0.X)) (isub s0.X l.X2)) (isub l.Y1 s0.Y)) (isub s0.Y l.Y2)))]
theorem W.cut_State_lead_kG_ok {st l all x3 r} (h : cut_State_lead_kG st l all x3=some r) : PC G.P 116 [(.agg (c_cut_State st)),(.agg (c_LayoutT l)),(.sl (List.map c_EdgeT all)),(.agg (c_ItemT x3))] [] (vB r) []:=by
 refine zU G Tryz.func116 (yK [0,1,2,3] [] (y3 4 [2,4,5,7] [4,5,7] (y3 4 [2,4,5,7,9] [4,5,7,9] (zB (y3 3 [2,4,5,7,9,19] [4,5,7,9] (qc h (fun h=>?_) fun h=>?_))))))
 exact nomatch h
 refine y4 [2,4,5,7,9] [4,5,7,9] (zB (z7 (zA 4 (qB h [2,4,5,7,9,66] [4,5,7,9] [66] (fun h=>?_) fun h=>?_))))
 exact nomatch h
 refine zA 8 (qB h [2,4,5,7,9,74] [4,5,7,9] [74] (fun h=>?_) fun h=>?_)
 exact nomatch h
 refine zA 5 (qB h [2,4,5,7,9,79] [4,5,7,9] [79] (fun h=>?_) fun h=>?_)
 exact nomatch h
 refine zA 8 (qB h [2,4,5,7,9,87] [4,5,7,9] [87] (fun h=>?_) fun h=>?_)
 exact nomatch h
 refine zA 4 ?_
 obtain ⟨r4,hr4,h⟩:=bindS h
 refine qP (W.cut_InRegion_kG_ok hr4) (y1 1 [2,4,5,7,9,93] [4,5,7,9] (qc h (fun h=>?_) fun h=>?_))
 exact nomatch h
 refine y4 [2,4,5,7,9] [4,5,7,9] (zB (z7 (zA 2 (qL c_Piece l.Pieces (y1 1 [2,4,7,9,95,96,97] [4,7,9] (zC ?_))))))
 obtain ⟨x58,hx58,h⟩:=bindS h
 refine ql hx58 (fun s41=>⟨[(2,s_EdgeT all),(4,.ptr 500000 0),(7,.ptr 500001 0),(9,.ptr 500002 0),(95,s_Piece l.Pieces),(96,vI (l.Pieces.length : Int)),(97,vI s41)],[(500000,.box (c_cut_State st)),(500001,.box (c_ItemT x3)),(500002,.box [(vI x3.Lead.X),(vI x3.Lead.Y)])]⟩) (fun x58=>(.exit 0,⟨[(2,s_EdgeT all),(4,.ptr 500000 0),(7,.ptr 500001 0),(9,.ptr 500002 0)],[(500000,.box (c_cut_State st)),(500001,.box (c_ItemT x3)),(500002,.box [(vI x3.Lead.X),(vI x3.Lead.Y)])]⟩)) (sp [] [(4,500000),(7,500001),(9,500002)]) (fun s41 r h=>?_) fun τ hτ=>?_
 refine y3 1 [2,4,7,9,95,96,97,98] [500000,500001,500002] (zB (qc h (fun h=>?_) fun h=>?_))
 refine y4 [2,4,7,9,95,96,97] [500000,500001,500002] (zB (zC (z7 ?_)))
 obtain ⟨x55,hx55,h⟩:=bindS h
 refine qX c_Piece hx55 (y1 3 [2,4,7,9,12,95,96,97] [12,500000,500001,500002] (z7 (zA 3 ?_)))
 obtain ⟨r57,hr57,h⟩:=bindS h
 refine qP (W.cut_InRegion_kG_ok hr57) (zP fun τ hτ=>?_)
 refine yE hτ [2,4,7,9,95,96,97,104] [500000,500001,500002] (qc h (fun h=>?_) fun h=>?_)
 exact nomatch h
 refine zM fun τ hτ=>?_
 refine bl_normal (yE hτ [2,4,7,9,95,96,97] [500000,500001,500002] (zD (z6 2 fun τ hτ=>?_)))
 cases h
 exact zH hτ
 refine zL 0 fun τ hτ=>?_
 refine th_exit ?_
 cases h
 exact zF hτ
 refine zQ (yE hτ [2,4,7,9] [500000,500001,500002] (zB (z7 (zA 1 (qL c_EdgeT all (y1 1 [4,7,9,106,107,108] [500000,500001,500002] ?_))))))
 refine zC ?_
 obtain ⟨x172,hx172,h⟩:=bindS h
 refine ql hx172 (fun s135=>⟨[(4,.ptr 500000 0),(7,.ptr 500001 0),(9,.ptr 500002 0),(106,s_EdgeT all),(107,vI (all.length : Int)),(108,vI s135)],[(500000,.box (c_cut_State st)),(500001,.box (c_ItemT x3)),(500002,.box [(vI x3.Lead.X),(vI x3.Lead.Y)])]⟩) (fun x172=>(.ret,⟨[(8,vB true)],[]⟩)) qH (fun s135 r h=>?_) fun τ hτ=>?_
 refine y3 1 [4,7,9,106,107,108,109] [500000,500001,500002] (zB (qc h (fun h=>?_) fun h=>?_))
 refine y4 [4,7,9,106,107,108] [500000,500001,500002] (zB (zC (z7 (zA 1 ?_))))
 obtain ⟨x164,hx164,h⟩:=bindS h
 refine qX c_EdgeT hx164 (y1 4 [4,7,9,13,14,106,107,108] [14,500000,500001,500002] (zB ?_))
 obtain ⟨j168,hj168,h⟩:=bindS h
 refine zT ⟨[(4,.ptr 500000 0),(7,.ptr 500001 0),(9,.ptr 500002 0),(106,s_EdgeT all),(107,vI (all.length : Int)),(108,vI s135),(131,vB j168)],[(500000,.box (c_cut_State st)),(500001,.box (c_ItemT x3)),(500002,.box [(vI x3.Lead.X),(vI x3.Lead.Y)])]⟩ ?_ fun τ hτ=>?_
 replace h:=hj168
 refine zA 3 ?_
 obtain ⟨r169,hr169,h⟩:=bindS h
 refine qP (W.cut_of_kG_ok hr169) (zA 1 (qB h [4,7,9,13,14,106,107,108,117] [14,500000,500001,500002] [117] (fun h=>?_) fun h=>?_))
 refine zA 3 ?_
 obtain ⟨x170,hx170,h⟩:=bindS h
 refine qX cB hx170 (zA 4 (zS x170 (fun b0=>⟨[(4,.ptr 500000 0),(7,.ptr 500001 0),(9,.ptr 500002 0),(14,.ptr 14 0),(106,s_EdgeT all),(107,vI (all.length : Int)),(108,vI s135),(125,vB (!b0))],[(14,.box (c_EdgeT x164)),(500000,.box (c_cut_State st)),(500001,.box (c_ItemT x3)),(500002,.box [(vI x3.Lead.X),(vI x3.Lead.Y)])]⟩) (fun hb=>?_) fun hb=>?_))
 replace h:=iteT hb h
 refine z6 6 fun τ hτ=>?_
 cases h
 exact zG hτ
 replace h:=iteF hb h
 refine zA 3 ?_
 obtain ⟨r171,hr171,h⟩:=bindS h
 refine qP (W.cut_gap_kG_ok hr171) (z6 2 fun τ hτ=>?_)
 cases h
 exact zG hτ
 refine z6 14 fun τ hτ=>?_
 cases h
 exact zG hτ
 refine yE hτ [4,7,9,106,107,108,131] [500000,500001,500002] (qc h (fun h=>?_) fun h=>?_)
 refine z8 1 ⟨[(8,vB true)],[]⟩ fun τ hτ=>?_
 refine bl_ret (th_ret ?_)
 cases h
 exact zF hτ
 refine zM fun τ hτ=>?_
 refine bl_normal (yE hτ [4,7,9,106,107,108] [500000,500001,500002] (zD (z6 2 fun τ hτ=>?_)))
 cases h
 exact zH hτ
 exact nomatch h
 refine bl_ret (th_ret ?_)
 obtain rfl:=osi h
 exact zV hτ [(8,vB true)]
theorem W.slices_Clone_Lbool_bool''_ok {s r} (h : slices_Clone_Lbool_bool'' s=some r) : PC G.P 160 [.sl (List.map cB s)] [] (.row (.top 0) 4) [(0,.row 4 [] (List.map cB r))]:=by
 replace h : app [] s=some r:=h
 refine zU G Tryz.func160 (y3 1 [0] [] (zB (z7 (zA 1 (evs_isnil (es:=List.map cB s) (by kernel_rfl) (fun hn=>?_) ?_)))))
 obtain rfl : s=[]:=List.map_eq_nil_iff.1 hn
 obtain rfl : []=r:=Option.some.inj ((app_eq (by simp [LIM])).symm.trans h)
 refine zP fun τ hτ=>?_
 refine yE hτ [0,4] [] (sem_condT (by kernel_rfl) (by kernel_rfl) (z8 1 ⟨[(2,ro 2 4)],[(2,wB 4 [])]⟩ fun τ hτ=>?_))
 exact th_ret (rk_ret hτ [(2,ro 0 4)] (subR_of [(2,0)] rfl rfl (by kernel_rfl)) (by kernel_rfl))
 refine zP fun τ hτ=>?_
 refine yE hτ [0,4] [] (sem_condF (by kernel_rfl) (by kernel_rfl) (y4 [0] [] (z7 (evs_at (at_build (es:=List.map cB []) (e:=4) (d:=5) (by kernel_rfl)) (zA 1 (evs_op (st_app (c:=cB) (l:=[]) (l2:=s) (x:=sB s) (g:=5) (e:=4) (sz:=1) (d:=7) (by kernel_rfl) (by kernel_rfl) (by kernel_rfl) (by kernel_rfl) (fun _=>rfl) rfl h) ?_))))))
 refine y1 1 [2] [5] (zN fun τ hτ=>?_)
 exact rk_ret hτ [(2,ro 0 4)] (subR_of [(5,0)] rfl rfl (by kernel_rfl)) (by kernel_rfl)
theorem W.slices_Clone_Lint_int''_ok {s r} (h : slices_Clone_Lint_int'' s=some r) : PC G.P 161 [.sl (List.map cI s)] [] (.row (.top 0) 3) [(0,.row 3 [] (List.map cI r))]:=by
 replace h : app [] s=some r:=h
 refine zU G Tryz.func161 (y3 1 [0] [] (zB (z7 (zA 1 (evs_isnil (es:=List.map cI s) (by kernel_rfl) (fun hn=>?_) ?_)))))
 obtain rfl : s=[]:=List.map_eq_nil_iff.1 hn
 obtain rfl : []=r:=Option.some.inj ((app_eq (by simp [LIM])).symm.trans h)
 refine zP fun τ hτ=>?_
 refine yE hτ [0,4] [] (sem_condT (by kernel_rfl) (by kernel_rfl) (z8 1 ⟨[(2,ro 2 3)],[(2,wI 3 [])]⟩ fun τ hτ=>?_))
 exact th_ret (rk_ret hτ [(2,ro 0 3)] (subR_of [(2,0)] rfl rfl (by kernel_rfl)) (by kernel_rfl))
 refine zP fun τ hτ=>?_
 refine yE hτ [0,4] [] (sem_condF (by kernel_rfl) (by kernel_rfl) (y4 [0] [] (z7 (evs_at (at_build (es:=List.map cI []) (e:=3) (d:=5) (by kernel_rfl)) (zA 1 (evs_op (st_app (c:=cI) (l:=[]) (l2:=s) (x:=sI s) (g:=5) (e:=3) (sz:=1) (d:=7) (by kernel_rfl) (by kernel_rfl) (by kernel_rfl) (by kernel_rfl) (fun _=>rfl) rfl h) ?_))))))
 refine y1 1 [2] [5] (zN fun τ hτ=>?_)
 exact rk_ret hτ [(2,ro 0 3)] (subR_of [(5,0)] rfl rfl (by kernel_rfl)) (by kernel_rfl)
end Go.Proofs.YtgfjbgoehhnaeaaGreat
