/- Each Go function does what its model says; written by a program out of the translation. -/
import Derived.Test.YtiodkdpfkchkjaaWR
import Derived.Test.YtiodkdpfkchkjaaGeMR
set_option linter.unusedVariables false
set_option linter.unusedSimpArgs false
set_option linter.unusedSectionVars false
namespace Go.Proofs.Ytiodkdpfkchkjaa
open Go Go.VI Go.SM Go.Proofs
set_option maxRecDepth 100000
set_option maxHeartbeats 4000000
theorem W.slices_choosePivotCmpFunc_int__cmp_Compare_int_ok {data : (List Int)} {a : Int} {b : Int} {r : Int × Int} (h : slices_choosePivotCmpFunc_int__cmp_Compare_int data a b = some r) : PC G.P 139 [(.sl (List.map cI data)), (vI a), (vI b), (.fn 112 [])] [] (.tup [(vI r.1), (vI r.2)]) [] := by
  refine pc_of G (fn := Try.f139) Try.func139 (by kernel_rfl) (by kernel_rfl) (by kernel_rfl) (by kernel_rfl) (by kernel_rfl) ?_
  refine sem_set ⟨[(0, (.sl (List.map cI data))), (1, (vI a)), (2, (vI b)), (3, (.fn 112 []))], []⟩ (by kernel_rfl) ?_
  refine sem_seq (by kernel_rfl) ?_
  refine sem_region (by kernel_rfl) ?_
  refine evs_run 2 (by kernel_rfl) ?_
  refine evs_endS (by kernel_rfl) (fun τ hτ => ?_)
  refine th_normalS hτ ⟨[(0, (.sl (List.map cI data))), (1, (vI a)), (2, (vI b)), (3, (.fn 112 []))], []⟩ (here (by kernel_rfl)) ?_
  refine sem_seq (by kernel_rfl) ?_
  refine sem_region (by kernel_rfl) ?_
  refine evs_run 4 (by kernel_rfl) ?_
  refine evs_endS (by kernel_rfl) (fun τ hτ => ?_)
  refine th_normalS hτ ⟨[(0, (.sl (List.map cI data))), (1, (vI a)), (3, (.fn 112 [])), (10, (vI (isub b a)))], []⟩ (here (by kernel_rfl)) ?_
  refine sem_seq (by kernel_rfl) ?_
  refine sem_region (by kernel_rfl) ?_
  refine evs_run 1 (by kernel_rfl) ?_
  refine evs_endS (by kernel_rfl) (fun τ hτ => ?_)
  refine th_normalS hτ ⟨[(0, (.sl (List.map cI data))), (1, (vI a)), (3, (.fn 112 [])), (10, (vI (isub b a))), (11, (.ptr 11 0))], [(11, .box [(vI 0)])]⟩ (here (by kernel_rfl)) ?_
  refine sem_seq (by kernel_rfl) ?_
  refine sem_region (by kernel_rfl) ?_
  refine evs_run 6 (by kernel_rfl) ?_
  refine evs_endS (by kernel_rfl) (fun τ hτ => ?_)
  refine th_normalS hτ ⟨[(0, (.sl (List.map cI data))), (1, (vI a)), (3, (.fn 112 [])), (10, (vI (isub b a))), (11, (.ptr 11 0)), (12, (vI (iadd a (imul (iquo (isub b a) 4) 1))))], [(11, .box [(vI 0)])]⟩ (here (by kernel_rfl)) ?_
  refine sem_seq (by kernel_rfl) ?_
  refine sem_region (by kernel_rfl) ?_
  refine evs_run 6 (by kernel_rfl) ?_
  refine evs_endS (by kernel_rfl) (fun τ hτ => ?_)
  refine th_normalS hτ ⟨[(0, (.sl (List.map cI data))), (1, (vI a)), (3, (.fn 112 [])), (10, (vI (isub b a))), (11, (.ptr 11 0)), (12, (vI (iadd a (imul (iquo (isub b a) 4) 1)))), (13, (vI (iadd a (imul (iquo (isub b a) 4) 2))))], [(11, .box [(vI 0)])]⟩ (here (by kernel_rfl)) ?_
  refine sem_seq (by kernel_rfl) ?_
  refine sem_region (by kernel_rfl) ?_
  refine evs_run 6 (by kernel_rfl) ?_
  refine evs_endS (by kernel_rfl) (fun τ hτ => ?_)
  refine th_normalS hτ ⟨[(0, (.sl (List.map cI data))), (3, (.fn 112 [])), (10, (vI (isub b a))), (11, (.ptr 11 0)), (12, (vI (iadd a (imul (iquo (isub b a) 4) 1)))), (13, (vI (iadd a (imul (iquo (isub b a) 4) 2)))), (14, (vI (iadd a (imul (iquo (isub b a) 4) 3))))], [(11, .box [(vI 0)])]⟩ (here (by kernel_rfl)) ?_
  refine sem_seqJ (fun (j16 : Int × Int) => ⟨[(11, (.ptr 500000 0)), (13, (vI j16.1))], [(500000, .box [(vI j16.2)])]⟩) (slices_choosePivotCmpFunc_int__cmp_Compare_int_k1) r (by kernel_rfl) (fun j16 h => ?_) ?_
  · refine sem_seq (by kernel_rfl) ?_
    refine sem_region (by kernel_rfl) ?_
    refine evs_run 1 (by kernel_rfl) ?_
    refine evs_endS (by kernel_rfl) (fun τ hτ => ?_)
    refine th_normalS hτ ⟨[(13, (vI j16.1)), (55, (vI j16.2))], []⟩ (here (by kernel_rfl)) ?_
    refine sem_block (by kernel_rfl) ?_
    refine sem_seq (by kernel_rfl) ?_
    refine sem_region (by kernel_rfl) ?_
    refine evs_run 2 (by kernel_rfl) ?_
    refine evs_endS (by kernel_rfl) (fun τ hτ => ?_)
    refine th_normalS hτ ⟨[(13, (vI j16.1)), (55, (vI j16.2)), (57, (vB (j16.2 == 0)))], []⟩ (here (by kernel_rfl)) ?_
    refine sem_cond (j16.2 == 0) (by kernel_rfl) (by kernel_rfl) (fun hb => ?_) (fun hb => ?_)
    · replace h := iteT hb h
      refine sem_seq (by kernel_rfl) ?_
      refine sem_region (by kernel_rfl) ?_
      refine evs_run 3 (by kernel_rfl) ?_
      refine evs_endS (by kernel_rfl) (fun τ hτ => ?_)
      refine th_normalS hτ ⟨[(8, (vI j16.1)), (9, (vI 1))], []⟩ (here (by kernel_rfl)) ?_
      refine sem_retS (by kernel_rfl) (fun τ hτ => ?_)
      refine bl_ret ?_
      obtain rfl := Option.some.inj h
      exact rk_ret hτ [(8, (vI j16.1)), (9, (vI 1))] (here (by kernel_rfl)) (by kernel_rfl)
    · replace h := iteF hb h
      refine sem_seq (by kernel_rfl) ?_
      refine sem_region (by kernel_rfl) ?_
      refine evs_run 2 (by kernel_rfl) ?_
      refine evs_endS (by kernel_rfl) (fun τ hτ => ?_)
      refine th_normalS hτ ⟨[(13, (vI j16.1)), (60, (vB (j16.2 == 12)))], []⟩ (here (by kernel_rfl)) ?_
      refine sem_cond (j16.2 == 12) (by kernel_rfl) (by kernel_rfl) (fun hb => ?_) (fun hb => ?_)
      · replace h := iteT hb h
        refine sem_seq (by kernel_rfl) ?_
        refine sem_region (by kernel_rfl) ?_
        refine evs_run 3 (by kernel_rfl) ?_
        refine evs_endS (by kernel_rfl) (fun τ hτ => ?_)
        refine th_normalS hτ ⟨[(8, (vI j16.1)), (9, (vI 2))], []⟩ (here (by kernel_rfl)) ?_
        refine sem_retS (by kernel_rfl) (fun τ hτ => ?_)
        refine bl_ret ?_
        obtain rfl := Option.some.inj h
        exact rk_ret hτ [(8, (vI j16.1)), (9, (vI 2))] (here (by kernel_rfl)) (by kernel_rfl)
      · replace h := iteF hb h
        refine sem_seq (by kernel_rfl) ?_
        refine sem_region (by kernel_rfl) ?_
        refine evs_run 3 (by kernel_rfl) ?_
        refine evs_endS (by kernel_rfl) (fun τ hτ => ?_)
        refine th_normalS hτ ⟨[(8, (vI j16.1)), (9, (vI 0))], []⟩ (here (by kernel_rfl)) ?_
        refine sem_retS (by kernel_rfl) (fun τ hτ => ?_)
        refine bl_ret ?_
        obtain rfl := Option.some.inj h
        exact rk_ret hτ [(8, (vI j16.1)), (9, (vI 0))] (here (by kernel_rfl)) (by kernel_rfl)
  refine sem_seq (by kernel_rfl) ?_
  refine sem_region (by kernel_rfl) ?_
  refine evs_run 2 (by kernel_rfl) ?_
  refine evs_endS (by kernel_rfl) (fun τ hτ => ?_)
  refine th_normalS hτ ⟨[(0, (.sl (List.map cI data))), (3, (.fn 112 [])), (10, (vI (isub b a))), (11, (.ptr 11 0)), (12, (vI (iadd a (imul (iquo (isub b a) 4) 1)))), (13, (vI (iadd a (imul (iquo (isub b a) 4) 2)))), (14, (vI (iadd a (imul (iquo (isub b a) 4) 3)))), (34, (vB (decide ((isub b a) ≥ 8))))], [(11, .box [(vI 0)])]⟩ (here (by kernel_rfl)) ?_
  refine sem_cond (decide ((isub b a) ≥ 8)) (by kernel_rfl) (by kernel_rfl) (fun hb => ?_) (fun hb => ?_)
  · replace h := iteT hb h
    refine sem_seqJ (fun (j23 : Int × Int × Int × Int) => ⟨[(0, (.sl (List.map cI data))), (3, (.fn 112 [])), (11, (.ptr 500000 0)), (12, (vI j23.1)), (13, (vI j23.2.1)), (14, (vI j23.2.2.1))], [(500000, .box [(vI j23.2.2.2)])]⟩) (slices_choosePivotCmpFunc_int__cmp_Compare_int_k2 data) r (by kernel_rfl) (fun j23 h => ?_) ?_
    · refine sem_region (by kernel_rfl) ?_
      refine evs_run 5 (by kernel_rfl) ?_
      obtain ⟨r25, hr25, h⟩ := bindS h
      refine evs_callS [(1000000, 500000)] [] [] (by kernel_rfl) (W.slices_medianCmpFunc_int__cmp_Compare_int_ok hr25) (by kernel_rfl) (by kernel_rfl) (.inl rfl) ?_
      refine evs_run 1 (by kernel_rfl) ?_
      refine evs_endS (by kernel_rfl) (fun τ hτ => ?_)
      exact jk_normal (r25.1, r25.2) h hτ (here (by kernel_rfl))
    refine sem_seq (by kernel_rfl) ?_
    refine sem_region (by kernel_rfl) ?_
    refine evs_run 2 (by kernel_rfl) ?_
    refine evs_endS (by kernel_rfl) (fun τ hτ => ?_)
    refine th_normalS hτ ⟨[(0, (.sl (List.map cI data))), (3, (.fn 112 [])), (11, (.ptr 11 0)), (12, (vI (iadd a (imul (iquo (isub b a) 4) 1)))), (13, (vI (iadd a (imul (iquo (isub b a) 4) 2)))), (14, (vI (iadd a (imul (iquo (isub b a) 4) 3)))), (36, (vB (decide ((isub b a) ≥ 50))))], [(11, .box [(vI 0)])]⟩ (here (by kernel_rfl)) ?_
    refine sem_cond (decide ((isub b a) ≥ 50)) (by kernel_rfl) (by kernel_rfl) (fun hb => ?_) (fun hb => ?_)
    · replace h := iteT hb h
      refine sem_seq (by kernel_rfl) ?_
      refine sem_region (by kernel_rfl) ?_
      refine evs_run 3 (by kernel_rfl) ?_
      obtain ⟨r27, hr27, h⟩ := bindS h
      refine evs_callS [(1000000, 11)] [] [] (by kernel_rfl) (W.slices_medianAdjacentCmpFunc_int__cmp_Compare_int_ok hr27) (by kernel_rfl) (by kernel_rfl) (.inl rfl) ?_
      refine evs_run 1 (by kernel_rfl) ?_
      refine evs_endS (by kernel_rfl) (fun τ hτ => ?_)
      refine th_normalS hτ ⟨[(0, (.sl (List.map cI data))), (3, (.fn 112 [])), (11, (.ptr 11 0)), (12, (vI r27.1)), (13, (vI (iadd a (imul (iquo (isub b a) 4) 2)))), (14, (vI (iadd a (imul (iquo (isub b a) 4) 3))))], [(11, .box [(vI r27.2)])]⟩ (here (by kernel_rfl)) ?_
      refine sem_seq (by kernel_rfl) ?_
      refine sem_region (by kernel_rfl) ?_
      refine evs_run 3 (by kernel_rfl) ?_
      obtain ⟨r29, hr29, h⟩ := bindS h
      refine evs_callS [(1000000, 11)] [] [] (by kernel_rfl) (W.slices_medianAdjacentCmpFunc_int__cmp_Compare_int_ok hr29) (by kernel_rfl) (by kernel_rfl) (.inl rfl) ?_
      refine evs_run 1 (by kernel_rfl) ?_
      refine evs_endS (by kernel_rfl) (fun τ hτ => ?_)
      refine th_normalS hτ ⟨[(0, (.sl (List.map cI data))), (3, (.fn 112 [])), (11, (.ptr 11 0)), (12, (vI r27.1)), (13, (vI r29.1)), (14, (vI (iadd a (imul (iquo (isub b a) 4) 3))))], [(11, .box [(vI r29.2)])]⟩ (here (by kernel_rfl)) ?_
      refine sem_region (by kernel_rfl) ?_
      refine evs_run 3 (by kernel_rfl) ?_
      obtain ⟨r31, hr31, h⟩ := bindS h
      refine evs_callS [(1000000, 11)] [] [] (by kernel_rfl) (W.slices_medianAdjacentCmpFunc_int__cmp_Compare_int_ok hr31) (by kernel_rfl) (by kernel_rfl) (.inl rfl) ?_
      refine evs_run 1 (by kernel_rfl) ?_
      refine evs_endS (by kernel_rfl) (fun τ hτ => ?_)
      exact jk_normal (r27.1, r29.1, r31.1, r31.2) h hτ (subR_prep [] [(11, 500000)] (by kernel_rfl) rfl rfl (by kernel_rfl))
    · replace h := iteF hb h
      refine sem_skipS (by kernel_rfl) (fun τ hτ => ?_)
      exact jk_normal ((iadd a (imul (iquo (isub b a) 4) 1)), (iadd a (imul (iquo (isub b a) 4) 2)), (iadd a (imul (iquo (isub b a) 4) 3)), 0) h hτ (subR_prep [] [(11, 500000)] (by kernel_rfl) rfl rfl (by kernel_rfl))
  · replace h := iteF hb h
    refine sem_skipS (by kernel_rfl) (fun τ hτ => ?_)
    exact jk_normal ((iadd a (imul (iquo (isub b a) 4) 2)), 0) h hτ (subR_prep [] [(11, 500000)] (by kernel_rfl) rfl rfl (by kernel_rfl))
theorem W.slices_reverseRangeCmpFunc_int__cmp_Compare_int_ok {a : Int} {b : Int} {h0 : (List Int)} {r : (List Int)} (h : slices_reverseRangeCmpFunc_int__cmp_Compare_int a b h0 = some r) : PC G.P 140 [(.row (.top 1000000) 3), (vI a), (vI b), (.fn 112 [])] [(1000000, .row 3 [] (List.map cI h0))] (.tup []) [(1000000, .row 3 [] (List.map cI r))] := by
  refine pc_of G (fn := Try.f140) Try.func140 (by kernel_rfl) (by kernel_rfl) (by kernel_rfl) (by kernel_rfl) (by kernel_rfl) ?_
  refine sem_set ⟨[(0, (.row (.top 1000000) 3)), (1, (vI a)), (2, (vI b))], [(1000000, .row 3 [] (List.map cI h0))]⟩ (by kernel_rfl) ?_
  refine sem_seq (by kernel_rfl) ?_
  refine sem_region (by kernel_rfl) ?_
  refine evs_run 2 (by kernel_rfl) ?_
  refine evs_endS (by kernel_rfl) (fun τ hτ => ?_)
  refine th_normalS hτ ⟨[(0, (.row (.top 1000000) 3)), (2, (vI b)), (8, (vI a))], [(1000000, .row 3 [] (List.map cI h0))]⟩ (here (by kernel_rfl)) ?_
  refine sem_seq (by kernel_rfl) ?_
  refine sem_region (by kernel_rfl) ?_
  refine evs_run 3 (by kernel_rfl) ?_
  refine evs_endS (by kernel_rfl) (fun τ hτ => ?_)
  refine th_normalS hτ ⟨[(0, (.row (.top 1000000) 3)), (8, (vI a)), (9, (vI (isub b 1)))], [(1000000, .row 3 [] (List.map cI h0))]⟩ (here (by kernel_rfl)) ?_
  refine sem_block (by kernel_rfl) ?_
  obtain ⟨x39, hx39, h⟩ := bindS h
  refine sem_loopS (fun (s14 : Int × Int × (List Int)) => ⟨[(0, (.row (.top 1000000) 3)), (8, (vI s14.1)), (9, (vI s14.2.1))], [(1000000, .row 3 [] (List.map cI s14.2.2))]⟩) (fun (x39 : (List Int)) => (.exit 0, ⟨[], [(1000000, .row 3 [] (List.map cI x39))]⟩)) (slices_reverseRangeCmpFunc_int__cmp_Compare_int_l1) (a, (isub b 1), h0) x39 (by kernel_rfl) (here (by kernel_rfl)) hx39 ?_ ?_ ?_
  · intro s14 r h
    refine sem_seq (by kernel_rfl) ?_
    refine sem_seq (by kernel_rfl) ?_
    refine sem_region (by kernel_rfl) ?_
    refine evs_run 3 (by kernel_rfl) ?_
    refine evs_endS (by kernel_rfl) (fun τ hτ => ?_)
    refine th_normalS hτ ⟨[(0, (.row (.top 1000000) 3)), (8, (vI s14.1)), (9, (vI s14.2.1)), (15, (vB (decide (s14.1 < s14.2.1))))], [(1000000, .row 3 [] (List.map cI s14.2.2))]⟩ (here (by kernel_rfl)) ?_
    refine sem_cond (decide (s14.1 < s14.2.1)) (by kernel_rfl) (by kernel_rfl) (fun hb => ?_) (fun hb => ?_)
    · replace h := iteT hb h
      refine sem_skipS (by kernel_rfl) (fun τ hτ => ?_)
      refine th_normalS hτ ⟨[(0, (.row (.top 1000000) 3)), (8, (vI s14.1)), (9, (vI s14.2.1))], [(1000000, .row 3 [] (List.map cI s14.2.2))]⟩ (here (by kernel_rfl)) ?_
      refine sem_block (by kernel_rfl) ?_
      refine sem_seq (by kernel_rfl) ?_
      refine sem_drawN [(13, [1000000])] [] [] [(2, [1000000]), (3, [1000000])] [] 14 (by kernel_rfl) (by kernel_rfl) (by kernel_rfl) ?_
      refine evd_run 6 (by kernel_rfl) ?_
      obtain ⟨x35, hx35, h⟩ := bindS h
      refine evd_val (by kernel_rfl) (st_idxO (c := cI) (l := s14.2.2) (i := s14.2.1) (kd := .i64) (kk := (.top 1000000)) (e := 3) (sz := 1) (by kernel_rfl) (by kernel_rfl) hx35 rfl) (by kernel_rfl) (by kernel_rfl) ?_
      refine evd_val (by kernel_rfl) (st_ldO (c := cI) (l := s14.2.2) (i := (Int.toNat s14.2.1)) (v := (vI x35)) (agg := false) (sz := 1) (kk := (.top 1000000)) (e := 3) (off := 0) (J := []) (by kernel_rfl) (by kernel_rfl) (by kernel_rfl) ((idxS hx35).2) (by kernel_rfl)) (by kernel_rfl) (by kernel_rfl) ?_
      refine evd_run 2 (by kernel_rfl) ?_
      obtain ⟨x36, hx36, h⟩ := bindS h
      refine evd_val (by kernel_rfl) (st_idxO (c := cI) (l := s14.2.2) (i := s14.1) (kd := .i64) (kk := (.top 1000000)) (e := 3) (sz := 1) (by kernel_rfl) (by kernel_rfl) hx36 rfl) (by kernel_rfl) (by kernel_rfl) ?_
      refine evd_val (by kernel_rfl) (st_ldO (c := cI) (l := s14.2.2) (i := (Int.toNat s14.1)) (v := (vI x36)) (agg := false) (sz := 1) (kk := (.top 1000000)) (e := 3) (off := 0) (J := []) (by kernel_rfl) (by kernel_rfl) (by kernel_rfl) ((idxS hx36).2) (by kernel_rfl)) (by kernel_rfl) (by kernel_rfl) ?_
      obtain ⟨x37, hx37, h⟩ := bindS h
      refine evd_val (by kernel_rfl) (st_idxO (c := cI) (l := s14.2.2) (i := s14.1) (kd := .i64) (kk := (.top 1000000)) (e := 3) (sz := 1) (by kernel_rfl) (by kernel_rfl) hx37 rfl) (by kernel_rfl) (by kernel_rfl) ?_
      refine evd_set (by kernel_rfl) (st_stO (c := cI) (l := s14.2.2) (i := (Int.toNat s14.1)) (x := x37) (x' := x35) (v := (vI x35)) (agg := false) (sz := 1) (kk := (.top 1000000)) (e := 3) (off := 0) (J := []) (o := .row 3 [] (List.map cI (List.set s14.2.2 (Int.toNat s14.1) x35))) (by kernel_rfl) (by kernel_rfl) (by kernel_rfl) ((idxS hx37).2) (by kernel_rfl) (by kernel_rfl) (by kernel_rfl)) (by kernel_rfl) (by kernel_rfl) (by kernel_rfl) ?_
      refine evd_end (by kernel_rfl) ?_
      obtain ⟨x38, hx38, h⟩ := bindS h
      refine evo_op (st_idxO (c := cI) (l := (List.set s14.2.2 (Int.toNat s14.1) x35)) (i := s14.2.1) (kd := .i64) (kk := (.top 1000000)) (e := 3) (sz := 1) (by kernel_rfl) (by kernel_rfl) hx38 rfl) ?_
      refine evo_op (st_stO (c := cI) (l := (List.set s14.2.2 (Int.toNat s14.1) x35)) (i := (Int.toNat s14.2.1)) (x := x38) (x' := x36) (v := (vI x36)) (agg := false) (sz := 1) (kk := (.top 1000000)) (e := 3) (off := 0) (J := []) (o := .row 3 [] (List.map cI (List.set (List.set s14.2.2 (Int.toNat s14.1) x35) (Int.toNat s14.2.1) x36))) (by kernel_rfl) (by kernel_rfl) (by kernel_rfl) ((idxS hx38).2) (by kernel_rfl) (by kernel_rfl) (by kernel_rfl)) ?_
      refine evo_endS (by kernel_rfl) (fun τ hτ => ?_)
      refine th_normalS hτ ⟨[(0, (.row (.top 1000000) 3)), (8, (vI s14.1)), (9, (vI s14.2.1))], [(1000000, .row 3 [] (List.map cI (List.set (List.set s14.2.2 (Int.toNat s14.1) x35) (Int.toNat s14.2.1) x36)))]⟩ (here (by kernel_rfl)) ?_
      refine sem_seq (by kernel_rfl) ?_
      refine sem_region (by kernel_rfl) ?_
      refine evs_run 3 (by kernel_rfl) ?_
      refine evs_endS (by kernel_rfl) (fun τ hτ => ?_)
      refine th_normalS hτ ⟨[(0, (.row (.top 1000000) 3)), (8, (vI (iadd s14.1 1))), (9, (vI s14.2.1))], [(1000000, .row 3 [] (List.map cI (List.set (List.set s14.2.2 (Int.toNat s14.1) x35) (Int.toNat s14.2.1) x36)))]⟩ (here (by kernel_rfl)) ?_
      refine sem_region (by kernel_rfl) ?_
      refine evs_run 3 (by kernel_rfl) ?_
      refine evs_endS (by kernel_rfl) (fun τ hτ => ?_)
      refine bl_normal ?_
      obtain rfl := Option.some.inj h
      exact lk_nextS hτ (here (by kernel_rfl))
    · replace h := iteF hb h
      refine sem_exitS 0 (by kernel_rfl) rfl (fun τ hτ => ?_)
      refine th_exit ?_
      obtain rfl := Option.some.inj h
      exact lk_outS hτ rfl (here (by kernel_rfl))
  · intro x
    rfl
  · intro τ hτ
    refine bl_hit (by kernel_rfl) ?_
    obtain rfl := Option.some.inj h
    exact rk_normal hτ [] (here (by kernel_rfl)) (by kernel_rfl)
theorem W.slices_partialInsertionSortCmpFunc_int__cmp_Compare_int_ok {a : Int} {b : Int} {h0 : (List Int)} {r : Bool × (List Int)} (h : slices_partialInsertionSortCmpFunc_int__cmp_Compare_int a b h0 = some r) : PC G.P 141 [(.row (.top 1000000) 3), (vI a), (vI b), (.fn 112 [])] [(1000000, .row 3 [] (List.map cI h0))] (vB r.1) [(1000000, .row 3 [] (List.map cI r.2))] := by
  refine pc_of G (fn := Try.f141) Try.func141 (by kernel_rfl) (by kernel_rfl) (by kernel_rfl) (by kernel_rfl) (by kernel_rfl) ?_
  refine sem_set ⟨[(0, (.row (.top 1000000) 3)), (1, (vI a)), (2, (vI b)), (3, (.fn 112 []))], [(1000000, .row 3 [] (List.map cI h0))]⟩ (by kernel_rfl) ?_
  refine sem_seq (by kernel_rfl) ?_
  refine sem_region (by kernel_rfl) ?_
  refine evs_run 1 (by kernel_rfl) ?_
  refine evs_endS (by kernel_rfl) (fun τ hτ => ?_)
  refine th_normalS hτ ⟨[(0, (.row (.top 1000000) 3)), (1, (vI a)), (2, (vI b)), (3, (.fn 112 []))], [(1000000, .row 3 [] (List.map cI h0))]⟩ (here (by kernel_rfl)) ?_
  refine sem_seq (by kernel_rfl) ?_
  refine sem_region (by kernel_rfl) ?_
  refine evs_run 3 (by kernel_rfl) ?_
  refine evs_endS (by kernel_rfl) (fun τ hτ => ?_)
  refine th_normalS hτ ⟨[(0, (.row (.top 1000000) 3)), (1, (vI a)), (2, (vI b)), (3, (.fn 112 [])), (9, (vI (iadd a 1)))], [(1000000, .row 3 [] (List.map cI h0))]⟩ (here (by kernel_rfl)) ?_
  refine sem_seq (by kernel_rfl) ?_
  refine sem_seq (by kernel_rfl) ?_
  refine sem_region (by kernel_rfl) ?_
  refine evs_run 1 (by kernel_rfl) ?_
  refine evs_endS (by kernel_rfl) (fun τ hτ => ?_)
  refine th_normalS hτ ⟨[(0, (.row (.top 1000000) 3)), (1, (vI a)), (2, (vI b)), (3, (.fn 112 [])), (9, (vI (iadd a 1))), (10, (vI 0))], [(1000000, .row 3 [] (List.map cI h0))]⟩ (here (by kernel_rfl)) ?_
  refine sem_block (by kernel_rfl) ?_
  obtain ⟨x8270, hx8270, h⟩ := bindS h
  refine sem_loopS (fun (s5515 : Int × Int × (List Int)) => ⟨[(0, (.row (.top 1000000) 3)), (1, (vI a)), (2, (vI b)), (3, (.fn 112 [])), (9, (vI s5515.1)), (10, (vI s5515.2.1))], [(1000000, .row 3 [] (List.map cI s5515.2.2))]⟩) (fun (x8270 : Bool × (List Int) ⊕ (List Int)) => match x8270 with | .inl j8271 => (.ret, ⟨[(8, (vB j8271.1))], [(1000000, .row 3 [] (List.map cI j8271.2))]⟩) | .inr j8272 => (.exit 0, ⟨[], [(1000000, .row 3 [] (List.map cI j8272))]⟩)) (slices_partialInsertionSortCmpFunc_int__cmp_Compare_int_l6 a b) ((iadd a 1), 0, h0) x8270 (by kernel_rfl) (here (by kernel_rfl)) hx8270 ?_ ?_ ?_
  · intro s5515 r h
    refine sem_seq (by kernel_rfl) ?_
    refine sem_seq (by kernel_rfl) ?_
    refine sem_region (by kernel_rfl) ?_
    refine evs_run 2 (by kernel_rfl) ?_
    refine evs_endS (by kernel_rfl) (fun τ hτ => ?_)
    refine th_normalS hτ ⟨[(0, (.row (.top 1000000) 3)), (1, (vI a)), (2, (vI b)), (3, (.fn 112 [])), (9, (vI s5515.1)), (10, (vI s5515.2.1)), (16, (vB (decide (s5515.2.1 < 5))))], [(1000000, .row 3 [] (List.map cI s5515.2.2))]⟩ (here (by kernel_rfl)) ?_
    refine sem_cond (decide (s5515.2.1 < 5)) (by kernel_rfl) (by kernel_rfl) (fun hb => ?_) (fun hb => ?_)
    · replace h := iteT hb h
      refine sem_skipS (by kernel_rfl) (fun τ hτ => ?_)
      refine th_normalS hτ ⟨[(0, (.row (.top 1000000) 3)), (1, (vI a)), (2, (vI b)), (3, (.fn 112 [])), (9, (vI s5515.1)), (10, (vI s5515.2.1))], [(1000000, .row 3 [] (List.map cI s5515.2.2))]⟩ (here (by kernel_rfl)) ?_
      refine sem_seqJ (fun (j7581 : Int × (List Int)) => ⟨[(0, (.row (.top 1000000) 3)), (1, (vI a)), (2, (vI b)), (3, (.fn 112 [])), (9, (vI j7581.1)), (10, (vI s5515.2.1))], [(1000000, .row 3 [] (List.map cI j7581.2))]⟩) (slices_partialInsertionSortCmpFunc_int__cmp_Compare_int_k1 s5515) r (by kernel_rfl) (fun j7581 h => ?_) ?_
      · refine sem_region (by kernel_rfl) ?_
        refine evs_run 3 (by kernel_rfl) ?_
        refine evs_endS (by kernel_rfl) (fun τ hτ => ?_)
        obtain rfl := Option.some.inj h
        exact lk_nextS hτ (here (by kernel_rfl))
      refine sem_block (by kernel_rfl) ?_
      refine sem_seq (by kernel_rfl) ?_
      refine sem_block (by kernel_rfl) ?_
      obtain ⟨x7707, hx7707, h⟩ := bindS h
      refine sem_loopS (fun (s7666 : Int) => ⟨[(0, (.row (.top 1000000) 3)), (1, (vI a)), (2, (vI b)), (3, (.fn 112 [])), (9, (vI s7666)), (10, (vI s5515.2.1))], [(1000000, .row 3 [] (List.map cI s5515.2.2))]⟩) (fun (x7707 : Int) => (.exit 2, ⟨[(0, (.row (.top 1000000) 3)), (1, (vI a)), (2, (vI b)), (3, (.fn 112 [])), (9, (vI x7707)), (10, (vI s5515.2.1))], [(1000000, .row 3 [] (List.map cI s5515.2.2))]⟩)) (slices_partialInsertionSortCmpFunc_int__cmp_Compare_int_l2 b s5515) s5515.1 x7707 (by kernel_rfl) (here (by kernel_rfl)) hx7707 ?_ ?_ ?_
      · intro s7666 r h
        refine sem_seq (by kernel_rfl) ?_
        refine sem_seq (by kernel_rfl) ?_
        obtain ⟨j7703, hj7703, h⟩ := bindS h
        refine sem_drawP ⟨[(0, (.row (.top 1000000) 3)), (1, (vI a)), (2, (vI b)), (3, (.fn 112 [])), (9, (vI s7666)), (10, (vI s5515.2.1)), (36, (vB j7703))], [(1000000, .row 3 [] (List.map cI s5515.2.2))]⟩ [] [] [] [] [] 14 (by kernel_rfl) (by kernel_rfl) (by kernel_rfl) ?_ (fun τ hτ => ?_)
        · replace h := hj7703
          refine evd_run 4 (by kernel_rfl) ?_
          refine evd_split (decide (s7666 < b)) (fun b0 => ⟨[(22, (vB b0)), (21, (vB b0)), (20, (vI b)), (19, (vI s7666)), (0, (.row (.top 1000000) 3)), (1, (vI a)), (2, (vI b)), (3, (.fn 112 [])), (9, (vI s7666)), (10, (vI s5515.2.1))], [(1000000, .row 3 [] (List.map cI s5515.2.2))]⟩) (by kernel_rfl) (fun hb => ?_) (fun hb => ?_)
          · replace h := iteT hb h
            refine evd_run 3 (by kernel_rfl) ?_
            obtain ⟨x7704, hx7704, h⟩ := bindS h
            refine evd_val (by kernel_rfl) (st_idxO (c := cI) (l := s5515.2.2) (i := s7666) (kd := .i64) (kk := (.top 1000000)) (e := 3) (sz := 1) (by kernel_rfl) (by kernel_rfl) hx7704 rfl) (by kernel_rfl) (by kernel_rfl) ?_
            refine evd_val (by kernel_rfl) (st_ldO (c := cI) (l := s5515.2.2) (i := (Int.toNat s7666)) (v := (vI x7704)) (agg := false) (sz := 1) (kk := (.top 1000000)) (e := 3) (off := 0) (J := []) (by kernel_rfl) (by kernel_rfl) (by kernel_rfl) ((idxS hx7704).2) (by kernel_rfl)) (by kernel_rfl) (by kernel_rfl) ?_
            refine evd_run 3 (by kernel_rfl) ?_
            obtain ⟨x7705, hx7705, h⟩ := bindS h
            refine evd_val (by kernel_rfl) (st_idxO (c := cI) (l := s5515.2.2) (i := (isub s7666 1)) (kd := .i64) (kk := (.top 1000000)) (e := 3) (sz := 1) (by kernel_rfl) (by kernel_rfl) hx7705 rfl) (by kernel_rfl) (by kernel_rfl) ?_
            refine evd_val (by kernel_rfl) (st_ldO (c := cI) (l := s5515.2.2) (i := (Int.toNat (isub s7666 1))) (v := (vI x7705)) (agg := false) (sz := 1) (kk := (.top 1000000)) (e := 3) (off := 0) (J := []) (by kernel_rfl) (by kernel_rfl) (by kernel_rfl) ((idxS hx7705).2) (by kernel_rfl)) (by kernel_rfl) (by kernel_rfl) ?_
            refine evd_end (by kernel_rfl) ?_
            obtain ⟨r7706, hr7706, h⟩ := bindS h
            refine evo_callP [] (by kernel_rfl) (W.cmp_Compare_int_ok hr7706) (by kernel_rfl) (.inl rfl) (by kernel_rfl) ?_
            refine evo_run 3 (by kernel_rfl) ?_
            refine evo_endS (by kernel_rfl) (fun τ hτ => ?_)
            obtain rfl := Option.some.inj h
            exact leafC hτ (here (by kernel_rfl))
          · replace h := iteF hb h
            refine evd_run 10 (by kernel_rfl) ?_
            refine evd_end (by kernel_rfl) ?_
            refine evo_run 4 (by kernel_rfl) ?_
            refine evo_endS (by kernel_rfl) (fun τ hτ => ?_)
            obtain rfl := Option.some.inj h
            exact leafC hτ (here (by kernel_rfl))
        refine th_normalS hτ ⟨[(0, (.row (.top 1000000) 3)), (1, (vI a)), (2, (vI b)), (3, (.fn 112 [])), (9, (vI s7666)), (10, (vI s5515.2.1)), (36, (vB j7703))], [(1000000, .row 3 [] (List.map cI s5515.2.2))]⟩ (here (by kernel_rfl)) ?_
        refine sem_cond j7703 (by kernel_rfl) (by kernel_rfl) (fun hb => ?_) (fun hb => ?_)
        · replace h := iteT hb h
          refine sem_skipS (by kernel_rfl) (fun τ hτ => ?_)
          refine th_normalS hτ ⟨[(0, (.row (.top 1000000) 3)), (1, (vI a)), (2, (vI b)), (3, (.fn 112 [])), (9, (vI s7666)), (10, (vI s5515.2.1))], [(1000000, .row 3 [] (List.map cI s5515.2.2))]⟩ (here (by kernel_rfl)) ?_
          refine sem_block (by kernel_rfl) ?_
          refine sem_region (by kernel_rfl) ?_
          refine evs_run 3 (by kernel_rfl) ?_
          refine evs_endS (by kernel_rfl) (fun τ hτ => ?_)
          refine bl_normal ?_
          obtain rfl := Option.some.inj h
          exact lk_nextS hτ (here (by kernel_rfl))
        · replace h := iteF hb h
          refine sem_exitS 2 (by kernel_rfl) rfl (fun τ hτ => ?_)
          refine th_exit ?_
          obtain rfl := Option.some.inj h
          exact lk_outS hτ rfl (here (by kernel_rfl))
      · intro x
        rfl
      · intro τ hτ
        refine bl_hit (by kernel_rfl) ?_
        refine th_normalS hτ ⟨[(0, (.row (.top 1000000) 3)), (1, (vI a)), (2, (vI b)), (3, (.fn 112 [])), (9, (vI x7707)), (10, (vI s5515.2.1))], [(1000000, .row 3 [] (List.map cI s5515.2.2))]⟩ (here (by kernel_rfl)) ?_
        refine sem_seq (by kernel_rfl) ?_
        refine sem_seq (by kernel_rfl) ?_
        refine sem_region (by kernel_rfl) ?_
        refine evs_run 3 (by kernel_rfl) ?_
        refine evs_endS (by kernel_rfl) (fun τ hτ => ?_)
        refine th_normalS hτ ⟨[(0, (.row (.top 1000000) 3)), (1, (vI a)), (2, (vI b)), (3, (.fn 112 [])), (9, (vI x7707)), (10, (vI s5515.2.1)), (41, (vB (x7707 == b)))], [(1000000, .row 3 [] (List.map cI s5515.2.2))]⟩ (here (by kernel_rfl)) ?_
        refine sem_cond (x7707 == b) (by kernel_rfl) (by kernel_rfl) (fun hb => ?_) (fun hb => ?_)
        · replace h := iteT hb h
          refine sem_seq (by kernel_rfl) ?_
          refine sem_region (by kernel_rfl) ?_
          refine evs_run 1 (by kernel_rfl) ?_
          refine evs_endS (by kernel_rfl) (fun τ hτ => ?_)
          refine th_normalS hτ ⟨[(8, (vB true))], [(1000000, .row 3 [] (List.map cI s5515.2.2))]⟩ (here (by kernel_rfl)) ?_
          refine sem_retS (by kernel_rfl) (fun τ hτ => ?_)
          refine th_ret ?_
          refine bl_ret ?_
          refine jk_ret ?_
          obtain rfl := Option.some.inj h
          exact lk_outS hτ rfl (here (by kernel_rfl))
        · replace h := iteF hb h
          refine sem_skipS (by kernel_rfl) (fun τ hτ => ?_)
          refine th_normalS hτ ⟨[(0, (.row (.top 1000000) 3)), (1, (vI a)), (2, (vI b)), (3, (.fn 112 [])), (9, (vI x7707)), (10, (vI s5515.2.1))], [(1000000, .row 3 [] (List.map cI s5515.2.2))]⟩ (here (by kernel_rfl)) ?_
          refine sem_seq (by kernel_rfl) ?_
          refine sem_seq (by kernel_rfl) ?_
          refine sem_region (by kernel_rfl) ?_
          refine evs_run 4 (by kernel_rfl) ?_
          refine evs_endS (by kernel_rfl) (fun τ hτ => ?_)
          refine th_normalS hτ ⟨[(0, (.row (.top 1000000) 3)), (1, (vI a)), (2, (vI b)), (3, (.fn 112 [])), (9, (vI x7707)), (10, (vI s5515.2.1)), (45, (vB (decide ((isub b a) < 50))))], [(1000000, .row 3 [] (List.map cI s5515.2.2))]⟩ (here (by kernel_rfl)) ?_
          refine sem_cond (decide ((isub b a) < 50)) (by kernel_rfl) (by kernel_rfl) (fun hb => ?_) (fun hb => ?_)
          · replace h := iteT hb h
            refine sem_seq (by kernel_rfl) ?_
            refine sem_region (by kernel_rfl) ?_
            refine evs_run 1 (by kernel_rfl) ?_
            refine evs_endS (by kernel_rfl) (fun τ hτ => ?_)
            refine th_normalS hτ ⟨[(8, (vB false))], [(1000000, .row 3 [] (List.map cI s5515.2.2))]⟩ (here (by kernel_rfl)) ?_
            refine sem_retS (by kernel_rfl) (fun τ hτ => ?_)
            refine th_ret ?_
            refine bl_ret ?_
            refine jk_ret ?_
            obtain rfl := Option.some.inj h
            exact lk_outS hτ rfl (here (by kernel_rfl))
          · replace h := iteF hb h
            refine sem_skipS (by kernel_rfl) (fun τ hτ => ?_)
            refine th_normalS hτ ⟨[(0, (.row (.top 1000000) 3)), (1, (vI a)), (2, (vI b)), (3, (.fn 112 [])), (9, (vI x7707)), (10, (vI s5515.2.1))], [(1000000, .row 3 [] (List.map cI s5515.2.2))]⟩ (here (by kernel_rfl)) ?_
            refine sem_seq (by kernel_rfl) ?_
            refine sem_drawN [(15, [1000000])] [] [] [(2, [1000000]), (3, [1000000]), (4, [1000000])] [] 16 (by kernel_rfl) (by kernel_rfl) (by kernel_rfl) ?_
            refine evd_run 8 (by kernel_rfl) ?_
            obtain ⟨x7716, hx7716, h⟩ := bindS h
            refine evd_val (by kernel_rfl) (st_idxO (c := cI) (l := s5515.2.2) (i := (isub x7707 1)) (kd := .i64) (kk := (.top 1000000)) (e := 3) (sz := 1) (by kernel_rfl) (by kernel_rfl) hx7716 rfl) (by kernel_rfl) (by kernel_rfl) ?_
            refine evd_val (by kernel_rfl) (st_ldO (c := cI) (l := s5515.2.2) (i := (Int.toNat (isub x7707 1))) (v := (vI x7716)) (agg := false) (sz := 1) (kk := (.top 1000000)) (e := 3) (off := 0) (J := []) (by kernel_rfl) (by kernel_rfl) (by kernel_rfl) ((idxS hx7716).2) (by kernel_rfl)) (by kernel_rfl) (by kernel_rfl) ?_
            refine evd_run 2 (by kernel_rfl) ?_
            obtain ⟨x7717, hx7717, h⟩ := bindS h
            refine evd_val (by kernel_rfl) (st_idxO (c := cI) (l := s5515.2.2) (i := x7707) (kd := .i64) (kk := (.top 1000000)) (e := 3) (sz := 1) (by kernel_rfl) (by kernel_rfl) hx7717 rfl) (by kernel_rfl) (by kernel_rfl) ?_
            refine evd_val (by kernel_rfl) (st_ldO (c := cI) (l := s5515.2.2) (i := (Int.toNat x7707)) (v := (vI x7717)) (agg := false) (sz := 1) (kk := (.top 1000000)) (e := 3) (off := 0) (J := []) (by kernel_rfl) (by kernel_rfl) (by kernel_rfl) ((idxS hx7717).2) (by kernel_rfl)) (by kernel_rfl) (by kernel_rfl) ?_
            obtain ⟨x7718, hx7718, h⟩ := bindS h
            refine evd_val (by kernel_rfl) (st_idxO (c := cI) (l := s5515.2.2) (i := x7707) (kd := .i64) (kk := (.top 1000000)) (e := 3) (sz := 1) (by kernel_rfl) (by kernel_rfl) hx7718 rfl) (by kernel_rfl) (by kernel_rfl) ?_
            refine evd_set (by kernel_rfl) (st_stO (c := cI) (l := s5515.2.2) (i := (Int.toNat x7707)) (x := x7718) (x' := x7716) (v := (vI x7716)) (agg := false) (sz := 1) (kk := (.top 1000000)) (e := 3) (off := 0) (J := []) (o := .row 3 [] (List.map cI (List.set s5515.2.2 (Int.toNat x7707) x7716))) (by kernel_rfl) (by kernel_rfl) (by kernel_rfl) ((idxS hx7718).2) (by kernel_rfl) (by kernel_rfl) (by kernel_rfl)) (by kernel_rfl) (by kernel_rfl) (by kernel_rfl) ?_
            refine evd_end (by kernel_rfl) ?_
            obtain ⟨x7719, hx7719, h⟩ := bindS h
            refine evo_op (st_idxO (c := cI) (l := (List.set s5515.2.2 (Int.toNat x7707) x7716)) (i := (isub x7707 1)) (kd := .i64) (kk := (.top 1000000)) (e := 3) (sz := 1) (by kernel_rfl) (by kernel_rfl) hx7719 rfl) ?_
            refine evo_op (st_stO (c := cI) (l := (List.set s5515.2.2 (Int.toNat x7707) x7716)) (i := (Int.toNat (isub x7707 1))) (x := x7719) (x' := x7717) (v := (vI x7717)) (agg := false) (sz := 1) (kk := (.top 1000000)) (e := 3) (off := 0) (J := []) (o := .row 3 [] (List.map cI (List.set (List.set s5515.2.2 (Int.toNat x7707) x7716) (Int.toNat (isub x7707 1)) x7717))) (by kernel_rfl) (by kernel_rfl) (by kernel_rfl) ((idxS hx7719).2) (by kernel_rfl) (by kernel_rfl) (by kernel_rfl)) ?_
            refine evo_endS (by kernel_rfl) (fun τ hτ => ?_)
            refine th_normalS hτ ⟨[(0, (.row (.top 1000000) 3)), (1, (vI a)), (2, (vI b)), (3, (.fn 112 [])), (9, (vI x7707)), (10, (vI s5515.2.1))], [(1000000, .row 3 [] (List.map cI (List.set (List.set s5515.2.2 (Int.toNat x7707) x7716) (Int.toNat (isub x7707 1)) x7717)))]⟩ (here (by kernel_rfl)) ?_
            refine sem_seqJ (fun (j7903 : (List Int)) => ⟨[(0, (.row (.top 1000000) 3)), (1, (vI a)), (2, (vI b)), (3, (.fn 112 [])), (9, (vI x7707)), (10, (vI s5515.2.1))], [(1000000, .row 3 [] (List.map cI j7903))]⟩) (slices_partialInsertionSortCmpFunc_int__cmp_Compare_int_k4 b s5515 x7707) r (by kernel_rfl) (fun j7903 h => ?_) ?_
            · refine sem_seq (by kernel_rfl) ?_
              refine sem_region (by kernel_rfl) ?_
              refine evs_run 4 (by kernel_rfl) ?_
              refine evs_endS (by kernel_rfl) (fun τ hτ => ?_)
              refine th_normalS hτ ⟨[(0, (.row (.top 1000000) 3)), (1, (vI a)), (2, (vI b)), (3, (.fn 112 [])), (9, (vI x7707)), (10, (vI s5515.2.1)), (104, (vB (decide ((isub b x7707) ≥ 2))))], [(1000000, .row 3 [] (List.map cI j7903))]⟩ (here (by kernel_rfl)) ?_
              refine sem_cond (decide ((isub b x7707) ≥ 2)) (by kernel_rfl) (by kernel_rfl) (fun hb => ?_) (fun hb => ?_)
              · replace h := iteT hb h
                refine sem_seq (by kernel_rfl) ?_
                refine sem_region (by kernel_rfl) ?_
                refine evs_run 3 (by kernel_rfl) ?_
                refine evs_endS (by kernel_rfl) (fun τ hτ => ?_)
                refine th_normalS hτ ⟨[(0, (.row (.top 1000000) 3)), (1, (vI a)), (2, (vI b)), (3, (.fn 112 [])), (9, (vI x7707)), (10, (vI s5515.2.1)), (12, (vI (iadd x7707 1)))], [(1000000, .row 3 [] (List.map cI j7903))]⟩ (here (by kernel_rfl)) ?_
                refine sem_block (by kernel_rfl) ?_
                obtain ⟨x8086, hx8086, h⟩ := bindS h
                refine sem_loopS (fun (s7965 : Int × (List Int)) => ⟨[(0, (.row (.top 1000000) 3)), (1, (vI a)), (2, (vI b)), (3, (.fn 112 [])), (9, (vI x7707)), (10, (vI s5515.2.1)), (12, (vI s7965.1))], [(1000000, .row 3 [] (List.map cI s7965.2))]⟩) (fun (x8086 : (List Int)) => (.exit 6, ⟨[(0, (.row (.top 1000000) 3)), (1, (vI a)), (2, (vI b)), (3, (.fn 112 [])), (9, (vI x7707)), (10, (vI s5515.2.1))], [(1000000, .row 3 [] (List.map cI x8086))]⟩)) (slices_partialInsertionSortCmpFunc_int__cmp_Compare_int_l3 b) ((iadd x7707 1), j7903) x8086 (by kernel_rfl) (here (by kernel_rfl)) hx8086 ?_ ?_ ?_
                · intro s7965 r h
                  refine sem_seq (by kernel_rfl) ?_
                  refine sem_seq (by kernel_rfl) ?_
                  refine sem_region (by kernel_rfl) ?_
                  refine evs_run 3 (by kernel_rfl) ?_
                  refine evs_endS (by kernel_rfl) (fun τ hτ => ?_)
                  refine th_normalS hτ ⟨[(0, (.row (.top 1000000) 3)), (1, (vI a)), (2, (vI b)), (3, (.fn 112 [])), (9, (vI x7707)), (10, (vI s5515.2.1)), (12, (vI s7965.1)), (109, (vB (decide (s7965.1 < b))))], [(1000000, .row 3 [] (List.map cI s7965.2))]⟩ (here (by kernel_rfl)) ?_
                  refine sem_cond (decide (s7965.1 < b)) (by kernel_rfl) (by kernel_rfl) (fun hb => ?_) (fun hb => ?_)
                  · replace h := iteT hb h
                    refine sem_skipS (by kernel_rfl) (fun τ hτ => ?_)
                    refine th_normalS hτ ⟨[(0, (.row (.top 1000000) 3)), (1, (vI a)), (2, (vI b)), (3, (.fn 112 [])), (9, (vI x7707)), (10, (vI s5515.2.1)), (12, (vI s7965.1))], [(1000000, .row 3 [] (List.map cI s7965.2))]⟩ (here (by kernel_rfl)) ?_
                    refine sem_seq (by kernel_rfl) ?_
                    refine sem_block (by kernel_rfl) ?_
                    refine sem_seq (by kernel_rfl) ?_
                    refine sem_seq (by kernel_rfl) ?_
                    refine sem_drawN [] [] [] [] [] 10 (by kernel_rfl) (by kernel_rfl) (by kernel_rfl) ?_
                    refine evd_run 3 (by kernel_rfl) ?_
                    obtain ⟨x8071, hx8071, h⟩ := bindS h
                    refine evd_val (by kernel_rfl) (st_idxO (c := cI) (l := s7965.2) (i := s7965.1) (kd := .i64) (kk := (.top 1000000)) (e := 3) (sz := 1) (by kernel_rfl) (by kernel_rfl) hx8071 rfl) (by kernel_rfl) (by kernel_rfl) ?_
                    refine evd_val (by kernel_rfl) (st_ldO (c := cI) (l := s7965.2) (i := (Int.toNat s7965.1)) (v := (vI x8071)) (agg := false) (sz := 1) (kk := (.top 1000000)) (e := 3) (off := 0) (J := []) (by kernel_rfl) (by kernel_rfl) (by kernel_rfl) ((idxS hx8071).2) (by kernel_rfl)) (by kernel_rfl) (by kernel_rfl) ?_
                    refine evd_run 3 (by kernel_rfl) ?_
                    obtain ⟨x8072, hx8072, h⟩ := bindS h
                    refine evd_val (by kernel_rfl) (st_idxO (c := cI) (l := s7965.2) (i := (isub s7965.1 1)) (kd := .i64) (kk := (.top 1000000)) (e := 3) (sz := 1) (by kernel_rfl) (by kernel_rfl) hx8072 rfl) (by kernel_rfl) (by kernel_rfl) ?_
                    refine evd_val (by kernel_rfl) (st_ldO (c := cI) (l := s7965.2) (i := (Int.toNat (isub s7965.1 1))) (v := (vI x8072)) (agg := false) (sz := 1) (kk := (.top 1000000)) (e := 3) (off := 0) (J := []) (by kernel_rfl) (by kernel_rfl) (by kernel_rfl) ((idxS hx8072).2) (by kernel_rfl)) (by kernel_rfl) (by kernel_rfl) ?_
                    refine evd_end (by kernel_rfl) ?_
                    obtain ⟨r8073, hr8073, h⟩ := bindS h
                    refine evo_callP [] (by kernel_rfl) (W.cmp_Compare_int_ok hr8073) (by kernel_rfl) (.inl rfl) (by kernel_rfl) ?_
                    refine evo_run 2 (by kernel_rfl) ?_
                    refine evo_endS (by kernel_rfl) (fun τ hτ => ?_)
                    refine th_normalS hτ ⟨[(0, (.row (.top 1000000) 3)), (1, (vI a)), (2, (vI b)), (3, (.fn 112 [])), (9, (vI x7707)), (10, (vI s5515.2.1)), (12, (vI s7965.1)), (124, (vB (!(decide (r8073 < 0)))))], [(1000000, .row 3 [] (List.map cI s7965.2))]⟩ (here (by kernel_rfl)) ?_
                    refine sem_cond (!(decide (r8073 < 0))) (by kernel_rfl) (by kernel_rfl) (fun hb => ?_) (fun hb => ?_)
                    · replace h := iteT hb h
                      refine sem_exitS 6 (by kernel_rfl) rfl (fun τ hτ => ?_)
                      refine th_exit ?_
                      refine bl_miss (by kernel_rfl) ?_
                      refine th_exit ?_
                      obtain rfl := Option.some.inj h
                      exact lk_outS hτ rfl (here (by kernel_rfl))
                    · replace h := iteF hb h
                      refine sem_skipS (by kernel_rfl) (fun τ hτ => ?_)
                      refine th_normalS hτ ⟨[(0, (.row (.top 1000000) 3)), (1, (vI a)), (2, (vI b)), (3, (.fn 112 [])), (9, (vI x7707)), (10, (vI s5515.2.1)), (12, (vI s7965.1))], [(1000000, .row 3 [] (List.map cI s7965.2))]⟩ (here (by kernel_rfl)) ?_
                      refine sem_drawN [(15, [1000000])] [] [] [(2, [1000000]), (3, [1000000]), (4, [1000000])] [] 16 (by kernel_rfl) (by kernel_rfl) (by kernel_rfl) ?_
                      refine evd_run 8 (by kernel_rfl) ?_
                      obtain ⟨x8082, hx8082, h⟩ := bindS h
                      refine evd_val (by kernel_rfl) (st_idxO (c := cI) (l := s7965.2) (i := (isub s7965.1 1)) (kd := .i64) (kk := (.top 1000000)) (e := 3) (sz := 1) (by kernel_rfl) (by kernel_rfl) hx8082 rfl) (by kernel_rfl) (by kernel_rfl) ?_
                      refine evd_val (by kernel_rfl) (st_ldO (c := cI) (l := s7965.2) (i := (Int.toNat (isub s7965.1 1))) (v := (vI x8082)) (agg := false) (sz := 1) (kk := (.top 1000000)) (e := 3) (off := 0) (J := []) (by kernel_rfl) (by kernel_rfl) (by kernel_rfl) ((idxS hx8082).2) (by kernel_rfl)) (by kernel_rfl) (by kernel_rfl) ?_
                      refine evd_run 2 (by kernel_rfl) ?_
                      obtain ⟨x8083, hx8083, h⟩ := bindS h
                      refine evd_val (by kernel_rfl) (st_idxO (c := cI) (l := s7965.2) (i := s7965.1) (kd := .i64) (kk := (.top 1000000)) (e := 3) (sz := 1) (by kernel_rfl) (by kernel_rfl) hx8083 rfl) (by kernel_rfl) (by kernel_rfl) ?_
                      refine evd_val (by kernel_rfl) (st_ldO (c := cI) (l := s7965.2) (i := (Int.toNat s7965.1)) (v := (vI x8083)) (agg := false) (sz := 1) (kk := (.top 1000000)) (e := 3) (off := 0) (J := []) (by kernel_rfl) (by kernel_rfl) (by kernel_rfl) ((idxS hx8083).2) (by kernel_rfl)) (by kernel_rfl) (by kernel_rfl) ?_
                      obtain ⟨x8084, hx8084, h⟩ := bindS h
                      refine evd_val (by kernel_rfl) (st_idxO (c := cI) (l := s7965.2) (i := s7965.1) (kd := .i64) (kk := (.top 1000000)) (e := 3) (sz := 1) (by kernel_rfl) (by kernel_rfl) hx8084 rfl) (by kernel_rfl) (by kernel_rfl) ?_
                      refine evd_set (by kernel_rfl) (st_stO (c := cI) (l := s7965.2) (i := (Int.toNat s7965.1)) (x := x8084) (x' := x8082) (v := (vI x8082)) (agg := false) (sz := 1) (kk := (.top 1000000)) (e := 3) (off := 0) (J := []) (o := .row 3 [] (List.map cI (List.set s7965.2 (Int.toNat s7965.1) x8082))) (by kernel_rfl) (by kernel_rfl) (by kernel_rfl) ((idxS hx8084).2) (by kernel_rfl) (by kernel_rfl) (by kernel_rfl)) (by kernel_rfl) (by kernel_rfl) (by kernel_rfl) ?_
                      refine evd_end (by kernel_rfl) ?_
                      obtain ⟨x8085, hx8085, h⟩ := bindS h
                      refine evo_op (st_idxO (c := cI) (l := (List.set s7965.2 (Int.toNat s7965.1) x8082)) (i := (isub s7965.1 1)) (kd := .i64) (kk := (.top 1000000)) (e := 3) (sz := 1) (by kernel_rfl) (by kernel_rfl) hx8085 rfl) ?_
                      refine evo_op (st_stO (c := cI) (l := (List.set s7965.2 (Int.toNat s7965.1) x8082)) (i := (Int.toNat (isub s7965.1 1))) (x := x8085) (x' := x8083) (v := (vI x8083)) (agg := false) (sz := 1) (kk := (.top 1000000)) (e := 3) (off := 0) (J := []) (o := .row 3 [] (List.map cI (List.set (List.set s7965.2 (Int.toNat s7965.1) x8082) (Int.toNat (isub s7965.1 1)) x8083))) (by kernel_rfl) (by kernel_rfl) (by kernel_rfl) ((idxS hx8085).2) (by kernel_rfl) (by kernel_rfl) (by kernel_rfl)) ?_
                      refine evo_endS (by kernel_rfl) (fun τ hτ => ?_)
                      refine bl_normal ?_
                      refine th_normalS hτ ⟨[(0, (.row (.top 1000000) 3)), (1, (vI a)), (2, (vI b)), (3, (.fn 112 [])), (9, (vI x7707)), (10, (vI s5515.2.1)), (12, (vI s7965.1))], [(1000000, .row 3 [] (List.map cI (List.set (List.set s7965.2 (Int.toNat s7965.1) x8082) (Int.toNat (isub s7965.1 1)) x8083)))]⟩ (here (by kernel_rfl)) ?_
                      refine sem_region (by kernel_rfl) ?_
                      refine evs_run 3 (by kernel_rfl) ?_
                      refine evs_endS (by kernel_rfl) (fun τ hτ => ?_)
                      obtain rfl := Option.some.inj h
                      exact lk_nextS hτ (here (by kernel_rfl))
                  · replace h := iteF hb h
                    refine sem_exitS 6 (by kernel_rfl) rfl (fun τ hτ => ?_)
                    refine th_exit ?_
                    obtain rfl := Option.some.inj h
                    exact lk_outS hτ rfl (here (by kernel_rfl))
                · intro x
                  rfl
                · intro τ hτ
                  refine bl_hit (by kernel_rfl) ?_
                  refine bl_normal ?_
                  exact jk_normal (x7707, x8086) h hτ (here (by kernel_rfl))
              · replace h := iteF hb h
                refine sem_skipS (by kernel_rfl) (fun τ hτ => ?_)
                refine bl_normal ?_
                exact jk_normal (x7707, j7903) h hτ (here (by kernel_rfl))
            refine sem_seq (by kernel_rfl) ?_
            refine sem_region (by kernel_rfl) ?_
            refine evs_run 4 (by kernel_rfl) ?_
            refine evs_endS (by kernel_rfl) (fun τ hτ => ?_)
            refine th_normalS hτ ⟨[(0, (.row (.top 1000000) 3)), (1, (vI a)), (2, (vI b)), (3, (.fn 112 [])), (9, (vI x7707)), (10, (vI s5515.2.1)), (65, (vB (decide ((isub x7707 a) ≥ 2))))], [(1000000, .row 3 [] (List.map cI (List.set (List.set s5515.2.2 (Int.toNat x7707) x7716) (Int.toNat (isub x7707 1)) x7717)))]⟩ (here (by kernel_rfl)) ?_
            refine sem_cond (decide ((isub x7707 a) ≥ 2)) (by kernel_rfl) (by kernel_rfl) (fun hb => ?_) (fun hb => ?_)
            · replace h := iteT hb h
              refine sem_seq (by kernel_rfl) ?_
              refine sem_region (by kernel_rfl) ?_
              refine evs_run 3 (by kernel_rfl) ?_
              refine evs_endS (by kernel_rfl) (fun τ hτ => ?_)
              refine th_normalS hτ ⟨[(0, (.row (.top 1000000) 3)), (1, (vI a)), (2, (vI b)), (3, (.fn 112 [])), (9, (vI x7707)), (10, (vI s5515.2.1)), (11, (vI (isub x7707 1)))], [(1000000, .row 3 [] (List.map cI (List.set (List.set s5515.2.2 (Int.toNat x7707) x7716) (Int.toNat (isub x7707 1)) x7717)))]⟩ (here (by kernel_rfl)) ?_
              refine sem_block (by kernel_rfl) ?_
              obtain ⟨x8269, hx8269, h⟩ := bindS h
              refine sem_loopS (fun (s8148 : Int × (List Int)) => ⟨[(0, (.row (.top 1000000) 3)), (1, (vI a)), (2, (vI b)), (3, (.fn 112 [])), (9, (vI x7707)), (10, (vI s5515.2.1)), (11, (vI s8148.1))], [(1000000, .row 3 [] (List.map cI s8148.2))]⟩) (fun (x8269 : (List Int)) => (.exit 4, ⟨[(0, (.row (.top 1000000) 3)), (1, (vI a)), (2, (vI b)), (3, (.fn 112 [])), (9, (vI x7707)), (10, (vI s5515.2.1))], [(1000000, .row 3 [] (List.map cI x8269))]⟩)) (slices_partialInsertionSortCmpFunc_int__cmp_Compare_int_l5) ((isub x7707 1), (List.set (List.set s5515.2.2 (Int.toNat x7707) x7716) (Int.toNat (isub x7707 1)) x7717)) x8269 (by kernel_rfl) (here (by kernel_rfl)) hx8269 ?_ ?_ ?_
              · intro s8148 r h
                refine sem_seq (by kernel_rfl) ?_
                refine sem_seq (by kernel_rfl) ?_
                refine sem_region (by kernel_rfl) ?_
                refine evs_run 2 (by kernel_rfl) ?_
                refine evs_endS (by kernel_rfl) (fun τ hτ => ?_)
                refine th_normalS hτ ⟨[(0, (.row (.top 1000000) 3)), (1, (vI a)), (2, (vI b)), (3, (.fn 112 [])), (9, (vI x7707)), (10, (vI s5515.2.1)), (11, (vI s8148.1)), (69, (vB (decide (s8148.1 ≥ 1))))], [(1000000, .row 3 [] (List.map cI s8148.2))]⟩ (here (by kernel_rfl)) ?_
                refine sem_cond (decide (s8148.1 ≥ 1)) (by kernel_rfl) (by kernel_rfl) (fun hb => ?_) (fun hb => ?_)
                · replace h := iteT hb h
                  refine sem_skipS (by kernel_rfl) (fun τ hτ => ?_)
                  refine th_normalS hτ ⟨[(0, (.row (.top 1000000) 3)), (1, (vI a)), (2, (vI b)), (3, (.fn 112 [])), (9, (vI x7707)), (10, (vI s5515.2.1)), (11, (vI s8148.1))], [(1000000, .row 3 [] (List.map cI s8148.2))]⟩ (here (by kernel_rfl)) ?_
                  refine sem_seq (by kernel_rfl) ?_
                  refine sem_block (by kernel_rfl) ?_
                  refine sem_seq (by kernel_rfl) ?_
                  refine sem_seq (by kernel_rfl) ?_
                  refine sem_drawN [] [] [] [] [] 10 (by kernel_rfl) (by kernel_rfl) (by kernel_rfl) ?_
                  refine evd_run 3 (by kernel_rfl) ?_
                  obtain ⟨x8254, hx8254, h⟩ := bindS h
                  refine evd_val (by kernel_rfl) (st_idxO (c := cI) (l := s8148.2) (i := s8148.1) (kd := .i64) (kk := (.top 1000000)) (e := 3) (sz := 1) (by kernel_rfl) (by kernel_rfl) hx8254 rfl) (by kernel_rfl) (by kernel_rfl) ?_
                  refine evd_val (by kernel_rfl) (st_ldO (c := cI) (l := s8148.2) (i := (Int.toNat s8148.1)) (v := (vI x8254)) (agg := false) (sz := 1) (kk := (.top 1000000)) (e := 3) (off := 0) (J := []) (by kernel_rfl) (by kernel_rfl) (by kernel_rfl) ((idxS hx8254).2) (by kernel_rfl)) (by kernel_rfl) (by kernel_rfl) ?_
                  refine evd_run 3 (by kernel_rfl) ?_
                  obtain ⟨x8255, hx8255, h⟩ := bindS h
                  refine evd_val (by kernel_rfl) (st_idxO (c := cI) (l := s8148.2) (i := (isub s8148.1 1)) (kd := .i64) (kk := (.top 1000000)) (e := 3) (sz := 1) (by kernel_rfl) (by kernel_rfl) hx8255 rfl) (by kernel_rfl) (by kernel_rfl) ?_
                  refine evd_val (by kernel_rfl) (st_ldO (c := cI) (l := s8148.2) (i := (Int.toNat (isub s8148.1 1))) (v := (vI x8255)) (agg := false) (sz := 1) (kk := (.top 1000000)) (e := 3) (off := 0) (J := []) (by kernel_rfl) (by kernel_rfl) (by kernel_rfl) ((idxS hx8255).2) (by kernel_rfl)) (by kernel_rfl) (by kernel_rfl) ?_
                  refine evd_end (by kernel_rfl) ?_
                  obtain ⟨r8256, hr8256, h⟩ := bindS h
                  refine evo_callP [] (by kernel_rfl) (W.cmp_Compare_int_ok hr8256) (by kernel_rfl) (.inl rfl) (by kernel_rfl) ?_
                  refine evo_run 2 (by kernel_rfl) ?_
                  refine evo_endS (by kernel_rfl) (fun τ hτ => ?_)
                  refine th_normalS hτ ⟨[(0, (.row (.top 1000000) 3)), (1, (vI a)), (2, (vI b)), (3, (.fn 112 [])), (9, (vI x7707)), (10, (vI s5515.2.1)), (11, (vI s8148.1)), (84, (vB (!(decide (r8256 < 0)))))], [(1000000, .row 3 [] (List.map cI s8148.2))]⟩ (here (by kernel_rfl)) ?_
                  refine sem_cond (!(decide (r8256 < 0))) (by kernel_rfl) (by kernel_rfl) (fun hb => ?_) (fun hb => ?_)
                  · replace h := iteT hb h
                    refine sem_exitS 4 (by kernel_rfl) rfl (fun τ hτ => ?_)
                    refine th_exit ?_
                    refine bl_miss (by kernel_rfl) ?_
                    refine th_exit ?_
                    obtain rfl := Option.some.inj h
                    exact lk_outS hτ rfl (here (by kernel_rfl))
                  · replace h := iteF hb h
                    refine sem_skipS (by kernel_rfl) (fun τ hτ => ?_)
                    refine th_normalS hτ ⟨[(0, (.row (.top 1000000) 3)), (1, (vI a)), (2, (vI b)), (3, (.fn 112 [])), (9, (vI x7707)), (10, (vI s5515.2.1)), (11, (vI s8148.1))], [(1000000, .row 3 [] (List.map cI s8148.2))]⟩ (here (by kernel_rfl)) ?_
                    refine sem_drawN [(15, [1000000])] [] [] [(2, [1000000]), (3, [1000000]), (4, [1000000])] [] 16 (by kernel_rfl) (by kernel_rfl) (by kernel_rfl) ?_
                    refine evd_run 8 (by kernel_rfl) ?_
                    obtain ⟨x8265, hx8265, h⟩ := bindS h
                    refine evd_val (by kernel_rfl) (st_idxO (c := cI) (l := s8148.2) (i := (isub s8148.1 1)) (kd := .i64) (kk := (.top 1000000)) (e := 3) (sz := 1) (by kernel_rfl) (by kernel_rfl) hx8265 rfl) (by kernel_rfl) (by kernel_rfl) ?_
                    refine evd_val (by kernel_rfl) (st_ldO (c := cI) (l := s8148.2) (i := (Int.toNat (isub s8148.1 1))) (v := (vI x8265)) (agg := false) (sz := 1) (kk := (.top 1000000)) (e := 3) (off := 0) (J := []) (by kernel_rfl) (by kernel_rfl) (by kernel_rfl) ((idxS hx8265).2) (by kernel_rfl)) (by kernel_rfl) (by kernel_rfl) ?_
                    refine evd_run 2 (by kernel_rfl) ?_
                    obtain ⟨x8266, hx8266, h⟩ := bindS h
                    refine evd_val (by kernel_rfl) (st_idxO (c := cI) (l := s8148.2) (i := s8148.1) (kd := .i64) (kk := (.top 1000000)) (e := 3) (sz := 1) (by kernel_rfl) (by kernel_rfl) hx8266 rfl) (by kernel_rfl) (by kernel_rfl) ?_
                    refine evd_val (by kernel_rfl) (st_ldO (c := cI) (l := s8148.2) (i := (Int.toNat s8148.1)) (v := (vI x8266)) (agg := false) (sz := 1) (kk := (.top 1000000)) (e := 3) (off := 0) (J := []) (by kernel_rfl) (by kernel_rfl) (by kernel_rfl) ((idxS hx8266).2) (by kernel_rfl)) (by kernel_rfl) (by kernel_rfl) ?_
                    obtain ⟨x8267, hx8267, h⟩ := bindS h
                    refine evd_val (by kernel_rfl) (st_idxO (c := cI) (l := s8148.2) (i := s8148.1) (kd := .i64) (kk := (.top 1000000)) (e := 3) (sz := 1) (by kernel_rfl) (by kernel_rfl) hx8267 rfl) (by kernel_rfl) (by kernel_rfl) ?_
                    refine evd_set (by kernel_rfl) (st_stO (c := cI) (l := s8148.2) (i := (Int.toNat s8148.1)) (x := x8267) (x' := x8265) (v := (vI x8265)) (agg := false) (sz := 1) (kk := (.top 1000000)) (e := 3) (off := 0) (J := []) (o := .row 3 [] (List.map cI (List.set s8148.2 (Int.toNat s8148.1) x8265))) (by kernel_rfl) (by kernel_rfl) (by kernel_rfl) ((idxS hx8267).2) (by kernel_rfl) (by kernel_rfl) (by kernel_rfl)) (by kernel_rfl) (by kernel_rfl) (by kernel_rfl) ?_
                    refine evd_end (by kernel_rfl) ?_
                    obtain ⟨x8268, hx8268, h⟩ := bindS h
                    refine evo_op (st_idxO (c := cI) (l := (List.set s8148.2 (Int.toNat s8148.1) x8265)) (i := (isub s8148.1 1)) (kd := .i64) (kk := (.top 1000000)) (e := 3) (sz := 1) (by kernel_rfl) (by kernel_rfl) hx8268 rfl) ?_
                    refine evo_op (st_stO (c := cI) (l := (List.set s8148.2 (Int.toNat s8148.1) x8265)) (i := (Int.toNat (isub s8148.1 1))) (x := x8268) (x' := x8266) (v := (vI x8266)) (agg := false) (sz := 1) (kk := (.top 1000000)) (e := 3) (off := 0) (J := []) (o := .row 3 [] (List.map cI (List.set (List.set s8148.2 (Int.toNat s8148.1) x8265) (Int.toNat (isub s8148.1 1)) x8266))) (by kernel_rfl) (by kernel_rfl) (by kernel_rfl) ((idxS hx8268).2) (by kernel_rfl) (by kernel_rfl) (by kernel_rfl)) ?_
                    refine evo_endS (by kernel_rfl) (fun τ hτ => ?_)
                    refine bl_normal ?_
                    refine th_normalS hτ ⟨[(0, (.row (.top 1000000) 3)), (1, (vI a)), (2, (vI b)), (3, (.fn 112 [])), (9, (vI x7707)), (10, (vI s5515.2.1)), (11, (vI s8148.1))], [(1000000, .row 3 [] (List.map cI (List.set (List.set s8148.2 (Int.toNat s8148.1) x8265) (Int.toNat (isub s8148.1 1)) x8266)))]⟩ (here (by kernel_rfl)) ?_
                    refine sem_region (by kernel_rfl) ?_
                    refine evs_run 3 (by kernel_rfl) ?_
                    refine evs_endS (by kernel_rfl) (fun τ hτ => ?_)
                    obtain rfl := Option.some.inj h
                    exact lk_nextS hτ (here (by kernel_rfl))
                · replace h := iteF hb h
                  refine sem_exitS 4 (by kernel_rfl) rfl (fun τ hτ => ?_)
                  refine th_exit ?_
                  obtain rfl := Option.some.inj h
                  exact lk_outS hτ rfl (here (by kernel_rfl))
              · intro x
                rfl
              · intro τ hτ
                refine bl_hit (by kernel_rfl) ?_
                exact jk_normal x8269 h hτ (here (by kernel_rfl))
            · replace h := iteF hb h
              refine sem_skipS (by kernel_rfl) (fun τ hτ => ?_)
              exact jk_normal (List.set (List.set s5515.2.2 (Int.toNat x7707) x7716) (Int.toNat (isub x7707 1)) x7717) h hτ (here (by kernel_rfl))
    · replace h := iteF hb h
      refine sem_exitS 0 (by kernel_rfl) rfl (fun τ hτ => ?_)
      refine th_exit ?_
      obtain rfl := Option.some.inj h
      exact lk_outS hτ rfl (here (by kernel_rfl))
  · intro x
    rcases x with _ | _ <;> rfl
  · intro τ hτ
    rcases x8270 with j8271 | j8272
    · refine bl_ret ?_
      refine th_ret ?_
      obtain rfl := Option.some.inj h
      exact rk_ret hτ [(8, (vB j8271.1))] (here (by kernel_rfl)) (by kernel_rfl)
    · refine bl_hit (by kernel_rfl) ?_
      refine th_normalS hτ ⟨[], [(1000000, .row 3 [] (List.map cI j8272))]⟩ (here (by kernel_rfl)) ?_
      refine sem_seq (by kernel_rfl) ?_
      refine sem_region (by kernel_rfl) ?_
      refine evs_run 1 (by kernel_rfl) ?_
      refine evs_endS (by kernel_rfl) (fun τ hτ => ?_)
      refine th_normalS hτ ⟨[(8, (vB false))], [(1000000, .row 3 [] (List.map cI j8272))]⟩ (here (by kernel_rfl)) ?_
      refine sem_retS (by kernel_rfl) (fun τ hτ => ?_)
      obtain rfl := Option.some.inj h
      exact rk_ret hτ [(8, (vB false))] (here (by kernel_rfl)) (by kernel_rfl)
theorem W.slices_partitionEqualCmpFunc_int__cmp_Compare_int_ok {a : Int} {b : Int} {pivot : Int} {h0 : (List Int)} {r : Int × (List Int)} (h : slices_partitionEqualCmpFunc_int__cmp_Compare_int a b pivot h0 = some r) : PC G.P 142 [(.row (.top 1000000) 3), (vI a), (vI b), (vI pivot), (.fn 112 [])] [(1000000, .row 3 [] (List.map cI h0))] (vI r.1) [(1000000, .row 3 [] (List.map cI r.2))] := by
  refine pc_of G (fn := Try.f142) Try.func142 (by kernel_rfl) (by kernel_rfl) (by kernel_rfl) (by kernel_rfl) (by kernel_rfl) ?_
  refine sem_set ⟨[(0, (.row (.top 1000000) 3)), (1, (vI a)), (2, (vI b)), (3, (vI pivot)), (4, (.fn 112 []))], [(1000000, .row 3 [] (List.map cI h0))]⟩ (by kernel_rfl) ?_
  refine sem_seq (by kernel_rfl) ?_
  refine sem_region (by kernel_rfl) ?_
  refine evs_run 1 (by kernel_rfl) ?_
  refine evs_endS (by kernel_rfl) (fun τ hτ => ?_)
  refine th_normalS hτ ⟨[(0, (.row (.top 1000000) 3)), (1, (vI a)), (2, (vI b)), (3, (vI pivot)), (4, (.fn 112 []))], [(1000000, .row 3 [] (List.map cI h0))]⟩ (here (by kernel_rfl)) ?_
  refine sem_seq (by kernel_rfl) ?_
  refine sem_drawN [(13, [1000000])] [] [] [(2, [1000000]), (3, [1000000])] [] 14 (by kernel_rfl) (by kernel_rfl) (by kernel_rfl) ?_
  refine evd_run 6 (by kernel_rfl) ?_
  obtain ⟨x9, hx9, h⟩ := bindS h
  refine evd_val (by kernel_rfl) (st_idxO (c := cI) (l := h0) (i := pivot) (kd := .i64) (kk := (.top 1000000)) (e := 3) (sz := 1) (by kernel_rfl) (by kernel_rfl) hx9 rfl) (by kernel_rfl) (by kernel_rfl) ?_
  refine evd_val (by kernel_rfl) (st_ldO (c := cI) (l := h0) (i := (Int.toNat pivot)) (v := (vI x9)) (agg := false) (sz := 1) (kk := (.top 1000000)) (e := 3) (off := 0) (J := []) (by kernel_rfl) (by kernel_rfl) (by kernel_rfl) ((idxS hx9).2) (by kernel_rfl)) (by kernel_rfl) (by kernel_rfl) ?_
  refine evd_run 2 (by kernel_rfl) ?_
  obtain ⟨x10, hx10, h⟩ := bindS h
  refine evd_val (by kernel_rfl) (st_idxO (c := cI) (l := h0) (i := a) (kd := .i64) (kk := (.top 1000000)) (e := 3) (sz := 1) (by kernel_rfl) (by kernel_rfl) hx10 rfl) (by kernel_rfl) (by kernel_rfl) ?_
  refine evd_val (by kernel_rfl) (st_ldO (c := cI) (l := h0) (i := (Int.toNat a)) (v := (vI x10)) (agg := false) (sz := 1) (kk := (.top 1000000)) (e := 3) (off := 0) (J := []) (by kernel_rfl) (by kernel_rfl) (by kernel_rfl) ((idxS hx10).2) (by kernel_rfl)) (by kernel_rfl) (by kernel_rfl) ?_
  obtain ⟨x11, hx11, h⟩ := bindS h
  refine evd_val (by kernel_rfl) (st_idxO (c := cI) (l := h0) (i := a) (kd := .i64) (kk := (.top 1000000)) (e := 3) (sz := 1) (by kernel_rfl) (by kernel_rfl) hx11 rfl) (by kernel_rfl) (by kernel_rfl) ?_
  refine evd_set (by kernel_rfl) (st_stO (c := cI) (l := h0) (i := (Int.toNat a)) (x := x11) (x' := x9) (v := (vI x9)) (agg := false) (sz := 1) (kk := (.top 1000000)) (e := 3) (off := 0) (J := []) (o := .row 3 [] (List.map cI (List.set h0 (Int.toNat a) x9))) (by kernel_rfl) (by kernel_rfl) (by kernel_rfl) ((idxS hx11).2) (by kernel_rfl) (by kernel_rfl) (by kernel_rfl)) (by kernel_rfl) (by kernel_rfl) (by kernel_rfl) ?_
  refine evd_end (by kernel_rfl) ?_
  obtain ⟨x12, hx12, h⟩ := bindS h
  refine evo_op (st_idxO (c := cI) (l := (List.set h0 (Int.toNat a) x9)) (i := pivot) (kd := .i64) (kk := (.top 1000000)) (e := 3) (sz := 1) (by kernel_rfl) (by kernel_rfl) hx12 rfl) ?_
  refine evo_op (st_stO (c := cI) (l := (List.set h0 (Int.toNat a) x9)) (i := (Int.toNat pivot)) (x := x12) (x' := x10) (v := (vI x10)) (agg := false) (sz := 1) (kk := (.top 1000000)) (e := 3) (off := 0) (J := []) (o := .row 3 [] (List.map cI (List.set (List.set h0 (Int.toNat a) x9) (Int.toNat pivot) x10))) (by kernel_rfl) (by kernel_rfl) (by kernel_rfl) ((idxS hx12).2) (by kernel_rfl) (by kernel_rfl) (by kernel_rfl)) ?_
  refine evo_endS (by kernel_rfl) (fun τ hτ => ?_)
  refine th_normalS hτ ⟨[(0, (.row (.top 1000000) 3)), (1, (vI a)), (2, (vI b)), (4, (.fn 112 []))], [(1000000, .row 3 [] (List.map cI (List.set (List.set h0 (Int.toNat a) x9) (Int.toNat pivot) x10)))]⟩ (here (by kernel_rfl)) ?_
  refine sem_seq (by kernel_rfl) ?_
  refine sem_region (by kernel_rfl) ?_
  refine evs_run 6 (by kernel_rfl) ?_
  refine evs_endS (by kernel_rfl) (fun τ hτ => ?_)
  refine th_normalS hτ ⟨[(0, (.row (.top 1000000) 3)), (1, (vI a)), (4, (.fn 112 [])), (11, (vI (iadd a 1))), (12, (vI (isub b 1)))], [(1000000, .row 3 [] (List.map cI (List.set (List.set h0 (Int.toNat a) x9) (Int.toNat pivot) x10)))]⟩ (here (by kernel_rfl)) ?_
  refine sem_seq (by kernel_rfl) ?_
  refine sem_block (by kernel_rfl) ?_
  obtain ⟨x1602, hx1602, h⟩ := bindS h
  refine sem_loopS (fun (s1073 : Int × Int × (List Int)) => ⟨[(0, (.row (.top 1000000) 3)), (1, (vI a)), (4, (.fn 112 [])), (11, (vI s1073.1)), (12, (vI s1073.2.1))], [(1000000, .row 3 [] (List.map cI s1073.2.2))]⟩) (fun (x1602 : Int × (List Int)) => (.exit 0, ⟨[(11, (vI x1602.1))], [(1000000, .row 3 [] (List.map cI x1602.2))]⟩)) (slices_partitionEqualCmpFunc_int__cmp_Compare_int_l3 a) ((iadd a 1), (isub b 1), (List.set (List.set h0 (Int.toNat a) x9) (Int.toNat pivot) x10)) x1602 (by kernel_rfl) (here (by kernel_rfl)) hx1602 ?_ ?_ ?_
  · intro s1073 r h
    refine sem_block (by kernel_rfl) ?_
    refine sem_seq (by kernel_rfl) ?_
    refine sem_block (by kernel_rfl) ?_
    obtain ⟨x1463, hx1463, h⟩ := bindS h
    refine sem_loopS (fun (s1422 : Int) => ⟨[(0, (.row (.top 1000000) 3)), (1, (vI a)), (4, (.fn 112 [])), (11, (vI s1422)), (12, (vI s1073.2.1))], [(1000000, .row 3 [] (List.map cI s1073.2.2))]⟩) (fun (x1463 : Int) => (.exit 2, ⟨[(0, (.row (.top 1000000) 3)), (1, (vI a)), (4, (.fn 112 [])), (11, (vI x1463)), (12, (vI s1073.2.1))], [(1000000, .row 3 [] (List.map cI s1073.2.2))]⟩)) (slices_partitionEqualCmpFunc_int__cmp_Compare_int_l1 a s1073) s1073.1 x1463 (by kernel_rfl) (here (by kernel_rfl)) hx1463 ?_ ?_ ?_
    · intro s1422 r h
      refine sem_seq (by kernel_rfl) ?_
      refine sem_seq (by kernel_rfl) ?_
      obtain ⟨j1459, hj1459, h⟩ := bindS h
      refine sem_drawP ⟨[(0, (.row (.top 1000000) 3)), (1, (vI a)), (4, (.fn 112 [])), (11, (vI s1422)), (12, (vI s1073.2.1)), (47, (vB j1459))], [(1000000, .row 3 [] (List.map cI s1073.2.2))]⟩ [] [] [] [] [] 13 (by kernel_rfl) (by kernel_rfl) (by kernel_rfl) ?_ (fun τ hτ => ?_)
      · replace h := hj1459
        refine evd_run 4 (by kernel_rfl) ?_
        refine evd_split (decide (s1422 ≤ s1073.2.1)) (fun b0 => ⟨[(34, (vB b0)), (33, (vB b0)), (32, (vI s1073.2.1)), (31, (vI s1422)), (0, (.row (.top 1000000) 3)), (1, (vI a)), (4, (.fn 112 [])), (11, (vI s1422)), (12, (vI s1073.2.1))], [(1000000, .row 3 [] (List.map cI s1073.2.2))]⟩) (by kernel_rfl) (fun hb => ?_) (fun hb => ?_)
        · replace h := iteT hb h
          refine evd_run 3 (by kernel_rfl) ?_
          obtain ⟨x1460, hx1460, h⟩ := bindS h
          refine evd_val (by kernel_rfl) (st_idxO (c := cI) (l := s1073.2.2) (i := a) (kd := .i64) (kk := (.top 1000000)) (e := 3) (sz := 1) (by kernel_rfl) (by kernel_rfl) hx1460 rfl) (by kernel_rfl) (by kernel_rfl) ?_
          refine evd_val (by kernel_rfl) (st_ldO (c := cI) (l := s1073.2.2) (i := (Int.toNat a)) (v := (vI x1460)) (agg := false) (sz := 1) (kk := (.top 1000000)) (e := 3) (off := 0) (J := []) (by kernel_rfl) (by kernel_rfl) (by kernel_rfl) ((idxS hx1460).2) (by kernel_rfl)) (by kernel_rfl) (by kernel_rfl) ?_
          refine evd_run 2 (by kernel_rfl) ?_
          obtain ⟨x1461, hx1461, h⟩ := bindS h
          refine evd_val (by kernel_rfl) (st_idxO (c := cI) (l := s1073.2.2) (i := s1422) (kd := .i64) (kk := (.top 1000000)) (e := 3) (sz := 1) (by kernel_rfl) (by kernel_rfl) hx1461 rfl) (by kernel_rfl) (by kernel_rfl) ?_
          refine evd_val (by kernel_rfl) (st_ldO (c := cI) (l := s1073.2.2) (i := (Int.toNat s1422)) (v := (vI x1461)) (agg := false) (sz := 1) (kk := (.top 1000000)) (e := 3) (off := 0) (J := []) (by kernel_rfl) (by kernel_rfl) (by kernel_rfl) ((idxS hx1461).2) (by kernel_rfl)) (by kernel_rfl) (by kernel_rfl) ?_
          refine evd_end (by kernel_rfl) ?_
          obtain ⟨r1462, hr1462, h⟩ := bindS h
          refine evo_callP [] (by kernel_rfl) (W.cmp_Compare_int_ok hr1462) (by kernel_rfl) (.inl rfl) (by kernel_rfl) ?_
          refine evo_run 3 (by kernel_rfl) ?_
          refine evo_endS (by kernel_rfl) (fun τ hτ => ?_)
          obtain rfl := Option.some.inj h
          exact leafC hτ (here (by kernel_rfl))
        · replace h := iteF hb h
          refine evd_run 9 (by kernel_rfl) ?_
          refine evd_end (by kernel_rfl) ?_
          refine evo_run 4 (by kernel_rfl) ?_
          refine evo_endS (by kernel_rfl) (fun τ hτ => ?_)
          obtain rfl := Option.some.inj h
          exact leafC hτ (here (by kernel_rfl))
      refine th_normalS hτ ⟨[(0, (.row (.top 1000000) 3)), (1, (vI a)), (4, (.fn 112 [])), (11, (vI s1422)), (12, (vI s1073.2.1)), (47, (vB j1459))], [(1000000, .row 3 [] (List.map cI s1073.2.2))]⟩ (here (by kernel_rfl)) ?_
      refine sem_cond j1459 (by kernel_rfl) (by kernel_rfl) (fun hb => ?_) (fun hb => ?_)
      · replace h := iteT hb h
        refine sem_skipS (by kernel_rfl) (fun τ hτ => ?_)
        refine th_normalS hτ ⟨[(0, (.row (.top 1000000) 3)), (1, (vI a)), (4, (.fn 112 [])), (11, (vI s1422)), (12, (vI s1073.2.1))], [(1000000, .row 3 [] (List.map cI s1073.2.2))]⟩ (here (by kernel_rfl)) ?_
        refine sem_block (by kernel_rfl) ?_
        refine sem_region (by kernel_rfl) ?_
        refine evs_run 3 (by kernel_rfl) ?_
        refine evs_endS (by kernel_rfl) (fun τ hτ => ?_)
        refine bl_normal ?_
        obtain rfl := Option.some.inj h
        exact lk_nextS hτ (here (by kernel_rfl))
      · replace h := iteF hb h
        refine sem_exitS 2 (by kernel_rfl) rfl (fun τ hτ => ?_)
        refine th_exit ?_
        obtain rfl := Option.some.inj h
        exact lk_outS hτ rfl (here (by kernel_rfl))
    · intro x
      rfl
    · intro τ hτ
      refine bl_hit (by kernel_rfl) ?_
      refine th_normalS hτ ⟨[(0, (.row (.top 1000000) 3)), (1, (vI a)), (4, (.fn 112 [])), (11, (vI x1463)), (12, (vI s1073.2.1))], [(1000000, .row 3 [] (List.map cI s1073.2.2))]⟩ (here (by kernel_rfl)) ?_
      refine sem_seq (by kernel_rfl) ?_
      refine sem_block (by kernel_rfl) ?_
      obtain ⟨x1589, hx1589, h⟩ := bindS h
      refine sem_loopS (fun (s1548 : Int) => ⟨[(0, (.row (.top 1000000) 3)), (1, (vI a)), (4, (.fn 112 [])), (11, (vI x1463)), (12, (vI s1548))], [(1000000, .row 3 [] (List.map cI s1073.2.2))]⟩) (fun (x1589 : Int) => (.exit 4, ⟨[(0, (.row (.top 1000000) 3)), (1, (vI a)), (4, (.fn 112 [])), (11, (vI x1463)), (12, (vI x1589))], [(1000000, .row 3 [] (List.map cI s1073.2.2))]⟩)) (slices_partitionEqualCmpFunc_int__cmp_Compare_int_l2 a s1073 x1463) s1073.2.1 x1589 (by kernel_rfl) (here (by kernel_rfl)) hx1589 ?_ ?_ ?_
      · intro s1548 r h
        refine sem_seq (by kernel_rfl) ?_
        refine sem_seq (by kernel_rfl) ?_
        obtain ⟨j1585, hj1585, h⟩ := bindS h
        refine sem_drawP ⟨[(0, (.row (.top 1000000) 3)), (1, (vI a)), (4, (.fn 112 [])), (11, (vI x1463)), (12, (vI s1548)), (65, (vB j1585))], [(1000000, .row 3 [] (List.map cI s1073.2.2))]⟩ [] [] [] [] [] 13 (by kernel_rfl) (by kernel_rfl) (by kernel_rfl) ?_ (fun τ hτ => ?_)
        · replace h := hj1585
          refine evd_run 4 (by kernel_rfl) ?_
          refine evd_split (decide (x1463 ≤ s1548)) (fun b0 => ⟨[(53, (vB b0)), (52, (vB b0)), (51, (vI s1548)), (50, (vI x1463)), (0, (.row (.top 1000000) 3)), (1, (vI a)), (4, (.fn 112 [])), (11, (vI x1463)), (12, (vI s1548))], [(1000000, .row 3 [] (List.map cI s1073.2.2))]⟩) (by kernel_rfl) (fun hb => ?_) (fun hb => ?_)
          · replace h := iteT hb h
            refine evd_run 3 (by kernel_rfl) ?_
            obtain ⟨x1586, hx1586, h⟩ := bindS h
            refine evd_val (by kernel_rfl) (st_idxO (c := cI) (l := s1073.2.2) (i := a) (kd := .i64) (kk := (.top 1000000)) (e := 3) (sz := 1) (by kernel_rfl) (by kernel_rfl) hx1586 rfl) (by kernel_rfl) (by kernel_rfl) ?_
            refine evd_val (by kernel_rfl) (st_ldO (c := cI) (l := s1073.2.2) (i := (Int.toNat a)) (v := (vI x1586)) (agg := false) (sz := 1) (kk := (.top 1000000)) (e := 3) (off := 0) (J := []) (by kernel_rfl) (by kernel_rfl) (by kernel_rfl) ((idxS hx1586).2) (by kernel_rfl)) (by kernel_rfl) (by kernel_rfl) ?_
            refine evd_run 2 (by kernel_rfl) ?_
            obtain ⟨x1587, hx1587, h⟩ := bindS h
            refine evd_val (by kernel_rfl) (st_idxO (c := cI) (l := s1073.2.2) (i := s1548) (kd := .i64) (kk := (.top 1000000)) (e := 3) (sz := 1) (by kernel_rfl) (by kernel_rfl) hx1587 rfl) (by kernel_rfl) (by kernel_rfl) ?_
            refine evd_val (by kernel_rfl) (st_ldO (c := cI) (l := s1073.2.2) (i := (Int.toNat s1548)) (v := (vI x1587)) (agg := false) (sz := 1) (kk := (.top 1000000)) (e := 3) (off := 0) (J := []) (by kernel_rfl) (by kernel_rfl) (by kernel_rfl) ((idxS hx1587).2) (by kernel_rfl)) (by kernel_rfl) (by kernel_rfl) ?_
            refine evd_end (by kernel_rfl) ?_
            obtain ⟨r1588, hr1588, h⟩ := bindS h
            refine evo_callP [] (by kernel_rfl) (W.cmp_Compare_int_ok hr1588) (by kernel_rfl) (.inl rfl) (by kernel_rfl) ?_
            refine evo_run 2 (by kernel_rfl) ?_
            refine evo_endS (by kernel_rfl) (fun τ hτ => ?_)
            obtain rfl := Option.some.inj h
            exact leafC hτ (here (by kernel_rfl))
          · replace h := iteF hb h
            refine evd_run 9 (by kernel_rfl) ?_
            refine evd_end (by kernel_rfl) ?_
            refine evo_run 3 (by kernel_rfl) ?_
            refine evo_endS (by kernel_rfl) (fun τ hτ => ?_)
            obtain rfl := Option.some.inj h
            exact leafC hτ (here (by kernel_rfl))
        refine th_normalS hτ ⟨[(0, (.row (.top 1000000) 3)), (1, (vI a)), (4, (.fn 112 [])), (11, (vI x1463)), (12, (vI s1548)), (65, (vB j1585))], [(1000000, .row 3 [] (List.map cI s1073.2.2))]⟩ (here (by kernel_rfl)) ?_
        refine sem_cond j1585 (by kernel_rfl) (by kernel_rfl) (fun hb => ?_) (fun hb => ?_)
        · replace h := iteT hb h
          refine sem_skipS (by kernel_rfl) (fun τ hτ => ?_)
          refine th_normalS hτ ⟨[(0, (.row (.top 1000000) 3)), (1, (vI a)), (4, (.fn 112 [])), (11, (vI x1463)), (12, (vI s1548))], [(1000000, .row 3 [] (List.map cI s1073.2.2))]⟩ (here (by kernel_rfl)) ?_
          refine sem_block (by kernel_rfl) ?_
          refine sem_region (by kernel_rfl) ?_
          refine evs_run 3 (by kernel_rfl) ?_
          refine evs_endS (by kernel_rfl) (fun τ hτ => ?_)
          refine bl_normal ?_
          obtain rfl := Option.some.inj h
          exact lk_nextS hτ (here (by kernel_rfl))
        · replace h := iteF hb h
          refine sem_exitS 4 (by kernel_rfl) rfl (fun τ hτ => ?_)
          refine th_exit ?_
          obtain rfl := Option.some.inj h
          exact lk_outS hτ rfl (here (by kernel_rfl))
      · intro x
        rfl
      · intro τ hτ
        refine bl_hit (by kernel_rfl) ?_
        refine th_normalS hτ ⟨[(0, (.row (.top 1000000) 3)), (1, (vI a)), (4, (.fn 112 [])), (11, (vI x1463)), (12, (vI x1589))], [(1000000, .row 3 [] (List.map cI s1073.2.2))]⟩ (here (by kernel_rfl)) ?_
        refine sem_seq (by kernel_rfl) ?_
        refine sem_seq (by kernel_rfl) ?_
        refine sem_region (by kernel_rfl) ?_
        refine evs_run 3 (by kernel_rfl) ?_
        refine evs_endS (by kernel_rfl) (fun τ hτ => ?_)
        refine th_normalS hτ ⟨[(0, (.row (.top 1000000) 3)), (1, (vI a)), (4, (.fn 112 [])), (11, (vI x1463)), (12, (vI x1589)), (70, (vB (decide (x1463 > x1589))))], [(1000000, .row 3 [] (List.map cI s1073.2.2))]⟩ (here (by kernel_rfl)) ?_
        refine sem_cond (decide (x1463 > x1589)) (by kernel_rfl) (by kernel_rfl) (fun hb => ?_) (fun hb => ?_)
        · replace h := iteT hb h
          refine sem_exitS 0 (by kernel_rfl) rfl (fun τ hτ => ?_)
          refine th_exit ?_
          refine bl_miss (by kernel_rfl) ?_
          obtain rfl := Option.some.inj h
          exact lk_outS hτ rfl (here (by kernel_rfl))
        · replace h := iteF hb h
          refine sem_skipS (by kernel_rfl) (fun τ hτ => ?_)
          refine th_normalS hτ ⟨[(0, (.row (.top 1000000) 3)), (1, (vI a)), (4, (.fn 112 [])), (11, (vI x1463)), (12, (vI x1589))], [(1000000, .row 3 [] (List.map cI s1073.2.2))]⟩ (here (by kernel_rfl)) ?_
          refine sem_seq (by kernel_rfl) ?_
          refine sem_drawN [(13, [1000000])] [] [] [(2, [1000000]), (3, [1000000])] [] 14 (by kernel_rfl) (by kernel_rfl) (by kernel_rfl) ?_
          refine evd_run 6 (by kernel_rfl) ?_
          obtain ⟨x1598, hx1598, h⟩ := bindS h
          refine evd_val (by kernel_rfl) (st_idxO (c := cI) (l := s1073.2.2) (i := x1589) (kd := .i64) (kk := (.top 1000000)) (e := 3) (sz := 1) (by kernel_rfl) (by kernel_rfl) hx1598 rfl) (by kernel_rfl) (by kernel_rfl) ?_
          refine evd_val (by kernel_rfl) (st_ldO (c := cI) (l := s1073.2.2) (i := (Int.toNat x1589)) (v := (vI x1598)) (agg := false) (sz := 1) (kk := (.top 1000000)) (e := 3) (off := 0) (J := []) (by kernel_rfl) (by kernel_rfl) (by kernel_rfl) ((idxS hx1598).2) (by kernel_rfl)) (by kernel_rfl) (by kernel_rfl) ?_
          refine evd_run 2 (by kernel_rfl) ?_
          obtain ⟨x1599, hx1599, h⟩ := bindS h
          refine evd_val (by kernel_rfl) (st_idxO (c := cI) (l := s1073.2.2) (i := x1463) (kd := .i64) (kk := (.top 1000000)) (e := 3) (sz := 1) (by kernel_rfl) (by kernel_rfl) hx1599 rfl) (by kernel_rfl) (by kernel_rfl) ?_
          refine evd_val (by kernel_rfl) (st_ldO (c := cI) (l := s1073.2.2) (i := (Int.toNat x1463)) (v := (vI x1599)) (agg := false) (sz := 1) (kk := (.top 1000000)) (e := 3) (off := 0) (J := []) (by kernel_rfl) (by kernel_rfl) (by kernel_rfl) ((idxS hx1599).2) (by kernel_rfl)) (by kernel_rfl) (by kernel_rfl) ?_
          obtain ⟨x1600, hx1600, h⟩ := bindS h
          refine evd_val (by kernel_rfl) (st_idxO (c := cI) (l := s1073.2.2) (i := x1463) (kd := .i64) (kk := (.top 1000000)) (e := 3) (sz := 1) (by kernel_rfl) (by kernel_rfl) hx1600 rfl) (by kernel_rfl) (by kernel_rfl) ?_
          refine evd_set (by kernel_rfl) (st_stO (c := cI) (l := s1073.2.2) (i := (Int.toNat x1463)) (x := x1600) (x' := x1598) (v := (vI x1598)) (agg := false) (sz := 1) (kk := (.top 1000000)) (e := 3) (off := 0) (J := []) (o := .row 3 [] (List.map cI (List.set s1073.2.2 (Int.toNat x1463) x1598))) (by kernel_rfl) (by kernel_rfl) (by kernel_rfl) ((idxS hx1600).2) (by kernel_rfl) (by kernel_rfl) (by kernel_rfl)) (by kernel_rfl) (by kernel_rfl) (by kernel_rfl) ?_
          refine evd_end (by kernel_rfl) ?_
          obtain ⟨x1601, hx1601, h⟩ := bindS h
          refine evo_op (st_idxO (c := cI) (l := (List.set s1073.2.2 (Int.toNat x1463) x1598)) (i := x1589) (kd := .i64) (kk := (.top 1000000)) (e := 3) (sz := 1) (by kernel_rfl) (by kernel_rfl) hx1601 rfl) ?_
          refine evo_op (st_stO (c := cI) (l := (List.set s1073.2.2 (Int.toNat x1463) x1598)) (i := (Int.toNat x1589)) (x := x1601) (x' := x1599) (v := (vI x1599)) (agg := false) (sz := 1) (kk := (.top 1000000)) (e := 3) (off := 0) (J := []) (o := .row 3 [] (List.map cI (List.set (List.set s1073.2.2 (Int.toNat x1463) x1598) (Int.toNat x1589) x1599))) (by kernel_rfl) (by kernel_rfl) (by kernel_rfl) ((idxS hx1601).2) (by kernel_rfl) (by kernel_rfl) (by kernel_rfl)) ?_
          refine evo_endS (by kernel_rfl) (fun τ hτ => ?_)
          refine th_normalS hτ ⟨[(0, (.row (.top 1000000) 3)), (1, (vI a)), (4, (.fn 112 [])), (11, (vI x1463)), (12, (vI x1589))], [(1000000, .row 3 [] (List.map cI (List.set (List.set s1073.2.2 (Int.toNat x1463) x1598) (Int.toNat x1589) x1599)))]⟩ (here (by kernel_rfl)) ?_
          refine sem_seq (by kernel_rfl) ?_
          refine sem_region (by kernel_rfl) ?_
          refine evs_run 3 (by kernel_rfl) ?_
          refine evs_endS (by kernel_rfl) (fun τ hτ => ?_)
          refine th_normalS hτ ⟨[(0, (.row (.top 1000000) 3)), (1, (vI a)), (4, (.fn 112 [])), (11, (vI (iadd x1463 1))), (12, (vI x1589))], [(1000000, .row 3 [] (List.map cI (List.set (List.set s1073.2.2 (Int.toNat x1463) x1598) (Int.toNat x1589) x1599)))]⟩ (here (by kernel_rfl)) ?_
          refine sem_region (by kernel_rfl) ?_
          refine evs_run 3 (by kernel_rfl) ?_
          refine evs_endS (by kernel_rfl) (fun τ hτ => ?_)
          refine bl_normal ?_
          obtain rfl := Option.some.inj h
          exact lk_nextS hτ (here (by kernel_rfl))
  · intro x
    rfl
  · intro τ hτ
    refine bl_hit (by kernel_rfl) ?_
    refine th_normalS hτ ⟨[(11, (vI x1602.1))], [(1000000, .row 3 [] (List.map cI x1602.2))]⟩ (here (by kernel_rfl)) ?_
    refine sem_seq (by kernel_rfl) ?_
    refine sem_region (by kernel_rfl) ?_
    refine evs_run 2 (by kernel_rfl) ?_
    refine evs_endS (by kernel_rfl) (fun τ hτ => ?_)
    refine th_normalS hτ ⟨[(10, (vI x1602.1))], [(1000000, .row 3 [] (List.map cI x1602.2))]⟩ (here (by kernel_rfl)) ?_
    refine sem_retS (by kernel_rfl) (fun τ hτ => ?_)
    obtain rfl := Option.some.inj h
    exact rk_ret hτ [(10, (vI x1602.1))] (here (by kernel_rfl)) (by kernel_rfl)
theorem W.slices_partitionCmpFunc_int__cmp_Compare_int_ok {a : Int} {b : Int} {pivot : Int} {h0 : (List Int)} {r : Int × Bool × (List Int)} (h : slices_partitionCmpFunc_int__cmp_Compare_int a b pivot h0 = some r) : PC G.P 143 [(.row (.top 1000000) 3), (vI a), (vI b), (vI pivot), (.fn 112 [])] [(1000000, .row 3 [] (List.map cI h0))] (.tup [(vI r.1), (vB r.2.1)]) [(1000000, .row 3 [] (List.map cI r.2.2))] := by
  refine pc_of G (fn := Try.f143) Try.func143 (by kernel_rfl) (by kernel_rfl) (by kernel_rfl) (by kernel_rfl) (by kernel_rfl) ?_
  refine sem_set ⟨[(0, (.row (.top 1000000) 3)), (1, (vI a)), (2, (vI b)), (3, (vI pivot)), (4, (.fn 112 []))], [(1000000, .row 3 [] (List.map cI h0))]⟩ (by kernel_rfl) ?_
  refine sem_seq (by kernel_rfl) ?_
  refine sem_region (by kernel_rfl) ?_
  refine evs_run 2 (by kernel_rfl) ?_
  refine evs_endS (by kernel_rfl) (fun τ hτ => ?_)
  refine th_normalS hτ ⟨[(0, (.row (.top 1000000) 3)), (1, (vI a)), (2, (vI b)), (3, (vI pivot)), (4, (.fn 112 []))], [(1000000, .row 3 [] (List.map cI h0))]⟩ (here (by kernel_rfl)) ?_
  refine sem_seq (by kernel_rfl) ?_
  refine sem_drawN [(13, [1000000])] [] [] [(2, [1000000]), (3, [1000000])] [] 14 (by kernel_rfl) (by kernel_rfl) (by kernel_rfl) ?_
  refine evd_run 6 (by kernel_rfl) ?_
  obtain ⟨x9, hx9, h⟩ := bindS h
  refine evd_val (by kernel_rfl) (st_idxO (c := cI) (l := h0) (i := pivot) (kd := .i64) (kk := (.top 1000000)) (e := 3) (sz := 1) (by kernel_rfl) (by kernel_rfl) hx9 rfl) (by kernel_rfl) (by kernel_rfl) ?_
  refine evd_val (by kernel_rfl) (st_ldO (c := cI) (l := h0) (i := (Int.toNat pivot)) (v := (vI x9)) (agg := false) (sz := 1) (kk := (.top 1000000)) (e := 3) (off := 0) (J := []) (by kernel_rfl) (by kernel_rfl) (by kernel_rfl) ((idxS hx9).2) (by kernel_rfl)) (by kernel_rfl) (by kernel_rfl) ?_
  refine evd_run 2 (by kernel_rfl) ?_
  obtain ⟨x10, hx10, h⟩ := bindS h
  refine evd_val (by kernel_rfl) (st_idxO (c := cI) (l := h0) (i := a) (kd := .i64) (kk := (.top 1000000)) (e := 3) (sz := 1) (by kernel_rfl) (by kernel_rfl) hx10 rfl) (by kernel_rfl) (by kernel_rfl) ?_
  refine evd_val (by kernel_rfl) (st_ldO (c := cI) (l := h0) (i := (Int.toNat a)) (v := (vI x10)) (agg := false) (sz := 1) (kk := (.top 1000000)) (e := 3) (off := 0) (J := []) (by kernel_rfl) (by kernel_rfl) (by kernel_rfl) ((idxS hx10).2) (by kernel_rfl)) (by kernel_rfl) (by kernel_rfl) ?_
  obtain ⟨x11, hx11, h⟩ := bindS h
  refine evd_val (by kernel_rfl) (st_idxO (c := cI) (l := h0) (i := a) (kd := .i64) (kk := (.top 1000000)) (e := 3) (sz := 1) (by kernel_rfl) (by kernel_rfl) hx11 rfl) (by kernel_rfl) (by kernel_rfl) ?_
  refine evd_set (by kernel_rfl) (st_stO (c := cI) (l := h0) (i := (Int.toNat a)) (x := x11) (x' := x9) (v := (vI x9)) (agg := false) (sz := 1) (kk := (.top 1000000)) (e := 3) (off := 0) (J := []) (o := .row 3 [] (List.map cI (List.set h0 (Int.toNat a) x9))) (by kernel_rfl) (by kernel_rfl) (by kernel_rfl) ((idxS hx11).2) (by kernel_rfl) (by kernel_rfl) (by kernel_rfl)) (by kernel_rfl) (by kernel_rfl) (by kernel_rfl) ?_
  refine evd_end (by kernel_rfl) ?_
  obtain ⟨x12, hx12, h⟩ := bindS h
  refine evo_op (st_idxO (c := cI) (l := (List.set h0 (Int.toNat a) x9)) (i := pivot) (kd := .i64) (kk := (.top 1000000)) (e := 3) (sz := 1) (by kernel_rfl) (by kernel_rfl) hx12 rfl) ?_
  refine evo_op (st_stO (c := cI) (l := (List.set h0 (Int.toNat a) x9)) (i := (Int.toNat pivot)) (x := x12) (x' := x10) (v := (vI x10)) (agg := false) (sz := 1) (kk := (.top 1000000)) (e := 3) (off := 0) (J := []) (o := .row 3 [] (List.map cI (List.set (List.set h0 (Int.toNat a) x9) (Int.toNat pivot) x10))) (by kernel_rfl) (by kernel_rfl) (by kernel_rfl) ((idxS hx12).2) (by kernel_rfl) (by kernel_rfl) (by kernel_rfl)) ?_
  refine evo_endS (by kernel_rfl) (fun τ hτ => ?_)
  refine th_normalS hτ ⟨[(0, (.row (.top 1000000) 3)), (1, (vI a)), (2, (vI b)), (4, (.fn 112 []))], [(1000000, .row 3 [] (List.map cI (List.set (List.set h0 (Int.toNat a) x9) (Int.toNat pivot) x10)))]⟩ (here (by kernel_rfl)) ?_
  refine sem_seq (by kernel_rfl) ?_
  refine sem_region (by kernel_rfl) ?_
  refine evs_run 6 (by kernel_rfl) ?_
  refine evs_endS (by kernel_rfl) (fun τ hτ => ?_)
  refine th_normalS hτ ⟨[(0, (.row (.top 1000000) 3)), (1, (vI a)), (4, (.fn 112 [])), (12, (vI (iadd a 1))), (13, (vI (isub b 1)))], [(1000000, .row 3 [] (List.map cI (List.set (List.set h0 (Int.toNat a) x9) (Int.toNat pivot) x10)))]⟩ (here (by kernel_rfl)) ?_
  refine sem_seq (by kernel_rfl) ?_
  refine sem_block (by kernel_rfl) ?_
  obtain ⟨x138, hx138, h⟩ := bindS h
  refine sem_loopS (fun (s97 : Int) => ⟨[(0, (.row (.top 1000000) 3)), (1, (vI a)), (4, (.fn 112 [])), (12, (vI s97)), (13, (vI (isub b 1)))], [(1000000, .row 3 [] (List.map cI (List.set (List.set h0 (Int.toNat a) x9) (Int.toNat pivot) x10)))]⟩) (fun (x138 : Int) => (.exit 0, ⟨[(0, (.row (.top 1000000) 3)), (1, (vI a)), (4, (.fn 112 [])), (12, (vI x138)), (13, (vI (isub b 1)))], [(1000000, .row 3 [] (List.map cI (List.set (List.set h0 (Int.toNat a) x9) (Int.toNat pivot) x10)))]⟩)) (slices_partitionCmpFunc_int__cmp_Compare_int_l1 a b pivot h0 x9 x10) (iadd a 1) x138 (by kernel_rfl) (here (by kernel_rfl)) hx138 ?_ ?_ ?_
  · intro s97 r h
    refine sem_seq (by kernel_rfl) ?_
    refine sem_seq (by kernel_rfl) ?_
    obtain ⟨j134, hj134, h⟩ := bindS h
    refine sem_drawP ⟨[(0, (.row (.top 1000000) 3)), (1, (vI a)), (4, (.fn 112 [])), (12, (vI s97)), (13, (vI (isub b 1))), (47, (vB j134))], [(1000000, .row 3 [] (List.map cI (List.set (List.set h0 (Int.toNat a) x9) (Int.toNat pivot) x10)))]⟩ [] [] [] [] [] 13 (by kernel_rfl) (by kernel_rfl) (by kernel_rfl) ?_ (fun τ hτ => ?_)
    · replace h := hj134
      refine evd_run 4 (by kernel_rfl) ?_
      refine evd_split (decide (s97 ≤ (isub b 1))) (fun b0 => ⟨[(35, (vB b0)), (34, (vB b0)), (33, (vI (isub b 1))), (32, (vI s97)), (0, (.row (.top 1000000) 3)), (1, (vI a)), (4, (.fn 112 [])), (12, (vI s97)), (13, (vI (isub b 1)))], [(1000000, .row 3 [] (List.map cI (List.set (List.set h0 (Int.toNat a) x9) (Int.toNat pivot) x10)))]⟩) (by kernel_rfl) (fun hb => ?_) (fun hb => ?_)
      · replace h := iteT hb h
        refine evd_run 3 (by kernel_rfl) ?_
        obtain ⟨x135, hx135, h⟩ := bindS h
        refine evd_val (by kernel_rfl) (st_idxO (c := cI) (l := (List.set (List.set h0 (Int.toNat a) x9) (Int.toNat pivot) x10)) (i := s97) (kd := .i64) (kk := (.top 1000000)) (e := 3) (sz := 1) (by kernel_rfl) (by kernel_rfl) hx135 rfl) (by kernel_rfl) (by kernel_rfl) ?_
        refine evd_val (by kernel_rfl) (st_ldO (c := cI) (l := (List.set (List.set h0 (Int.toNat a) x9) (Int.toNat pivot) x10)) (i := (Int.toNat s97)) (v := (vI x135)) (agg := false) (sz := 1) (kk := (.top 1000000)) (e := 3) (off := 0) (J := []) (by kernel_rfl) (by kernel_rfl) (by kernel_rfl) ((idxS hx135).2) (by kernel_rfl)) (by kernel_rfl) (by kernel_rfl) ?_
        refine evd_run 2 (by kernel_rfl) ?_
        obtain ⟨x136, hx136, h⟩ := bindS h
        refine evd_val (by kernel_rfl) (st_idxO (c := cI) (l := (List.set (List.set h0 (Int.toNat a) x9) (Int.toNat pivot) x10)) (i := a) (kd := .i64) (kk := (.top 1000000)) (e := 3) (sz := 1) (by kernel_rfl) (by kernel_rfl) hx136 rfl) (by kernel_rfl) (by kernel_rfl) ?_
        refine evd_val (by kernel_rfl) (st_ldO (c := cI) (l := (List.set (List.set h0 (Int.toNat a) x9) (Int.toNat pivot) x10)) (i := (Int.toNat a)) (v := (vI x136)) (agg := false) (sz := 1) (kk := (.top 1000000)) (e := 3) (off := 0) (J := []) (by kernel_rfl) (by kernel_rfl) (by kernel_rfl) ((idxS hx136).2) (by kernel_rfl)) (by kernel_rfl) (by kernel_rfl) ?_
        refine evd_end (by kernel_rfl) ?_
        obtain ⟨r137, hr137, h⟩ := bindS h
        refine evo_callP [] (by kernel_rfl) (W.cmp_Compare_int_ok hr137) (by kernel_rfl) (.inl rfl) (by kernel_rfl) ?_
        refine evo_run 2 (by kernel_rfl) ?_
        refine evo_endS (by kernel_rfl) (fun τ hτ => ?_)
        obtain rfl := Option.some.inj h
        exact leafC hτ (here (by kernel_rfl))
      · replace h := iteF hb h
        refine evd_run 9 (by kernel_rfl) ?_
        refine evd_end (by kernel_rfl) ?_
        refine evo_run 3 (by kernel_rfl) ?_
        refine evo_endS (by kernel_rfl) (fun τ hτ => ?_)
        obtain rfl := Option.some.inj h
        exact leafC hτ (here (by kernel_rfl))
    refine th_normalS hτ ⟨[(0, (.row (.top 1000000) 3)), (1, (vI a)), (4, (.fn 112 [])), (12, (vI s97)), (13, (vI (isub b 1))), (47, (vB j134))], [(1000000, .row 3 [] (List.map cI (List.set (List.set h0 (Int.toNat a) x9) (Int.toNat pivot) x10)))]⟩ (here (by kernel_rfl)) ?_
    refine sem_cond j134 (by kernel_rfl) (by kernel_rfl) (fun hb => ?_) (fun hb => ?_)
    · replace h := iteT hb h
      refine sem_skipS (by kernel_rfl) (fun τ hτ => ?_)
      refine th_normalS hτ ⟨[(0, (.row (.top 1000000) 3)), (1, (vI a)), (4, (.fn 112 [])), (12, (vI s97)), (13, (vI (isub b 1)))], [(1000000, .row 3 [] (List.map cI (List.set (List.set h0 (Int.toNat a) x9) (Int.toNat pivot) x10)))]⟩ (here (by kernel_rfl)) ?_
      refine sem_block (by kernel_rfl) ?_
      refine sem_region (by kernel_rfl) ?_
      refine evs_run 3 (by kernel_rfl) ?_
      refine evs_endS (by kernel_rfl) (fun τ hτ => ?_)
      refine bl_normal ?_
      obtain rfl := Option.some.inj h
      exact lk_nextS hτ (here (by kernel_rfl))
    · replace h := iteF hb h
      refine sem_exitS 0 (by kernel_rfl) rfl (fun τ hτ => ?_)
      refine th_exit ?_
      obtain rfl := Option.some.inj h
      exact lk_outS hτ rfl (here (by kernel_rfl))
  · intro x
    rfl
  · intro τ hτ
    refine bl_hit (by kernel_rfl) ?_
    refine th_normalS hτ ⟨[(0, (.row (.top 1000000) 3)), (1, (vI a)), (4, (.fn 112 [])), (12, (vI x138)), (13, (vI (isub b 1)))], [(1000000, .row 3 [] (List.map cI (List.set (List.set h0 (Int.toNat a) x9) (Int.toNat pivot) x10)))]⟩ (here (by kernel_rfl)) ?_
    refine sem_seq (by kernel_rfl) ?_
    refine sem_block (by kernel_rfl) ?_
    obtain ⟨x264, hx264, h⟩ := bindS h
    refine sem_loopS (fun (s223 : Int) => ⟨[(0, (.row (.top 1000000) 3)), (1, (vI a)), (4, (.fn 112 [])), (12, (vI x138)), (13, (vI s223))], [(1000000, .row 3 [] (List.map cI (List.set (List.set h0 (Int.toNat a) x9) (Int.toNat pivot) x10)))]⟩) (fun (x264 : Int) => (.exit 2, ⟨[(0, (.row (.top 1000000) 3)), (1, (vI a)), (4, (.fn 112 [])), (12, (vI x138)), (13, (vI x264))], [(1000000, .row 3 [] (List.map cI (List.set (List.set h0 (Int.toNat a) x9) (Int.toNat pivot) x10)))]⟩)) (slices_partitionCmpFunc_int__cmp_Compare_int_l2 a pivot h0 x9 x10 x138) (isub b 1) x264 (by kernel_rfl) (here (by kernel_rfl)) hx264 ?_ ?_ ?_
    · intro s223 r h
      refine sem_seq (by kernel_rfl) ?_
      refine sem_seq (by kernel_rfl) ?_
      obtain ⟨j260, hj260, h⟩ := bindS h
      refine sem_drawP ⟨[(0, (.row (.top 1000000) 3)), (1, (vI a)), (4, (.fn 112 [])), (12, (vI x138)), (13, (vI s223)), (66, (vB j260))], [(1000000, .row 3 [] (List.map cI (List.set (List.set h0 (Int.toNat a) x9) (Int.toNat pivot) x10)))]⟩ [] [] [] [] [] 13 (by kernel_rfl) (by kernel_rfl) (by kernel_rfl) ?_ (fun τ hτ => ?_)
      · replace h := hj260
        refine evd_run 4 (by kernel_rfl) ?_
        refine evd_split (decide (x138 ≤ s223)) (fun b0 => ⟨[(53, (vB b0)), (52, (vB b0)), (51, (vI s223)), (50, (vI x138)), (0, (.row (.top 1000000) 3)), (1, (vI a)), (4, (.fn 112 [])), (12, (vI x138)), (13, (vI s223))], [(1000000, .row 3 [] (List.map cI (List.set (List.set h0 (Int.toNat a) x9) (Int.toNat pivot) x10)))]⟩) (by kernel_rfl) (fun hb => ?_) (fun hb => ?_)
        · replace h := iteT hb h
          refine evd_run 3 (by kernel_rfl) ?_
          obtain ⟨x261, hx261, h⟩ := bindS h
          refine evd_val (by kernel_rfl) (st_idxO (c := cI) (l := (List.set (List.set h0 (Int.toNat a) x9) (Int.toNat pivot) x10)) (i := s223) (kd := .i64) (kk := (.top 1000000)) (e := 3) (sz := 1) (by kernel_rfl) (by kernel_rfl) hx261 rfl) (by kernel_rfl) (by kernel_rfl) ?_
          refine evd_val (by kernel_rfl) (st_ldO (c := cI) (l := (List.set (List.set h0 (Int.toNat a) x9) (Int.toNat pivot) x10)) (i := (Int.toNat s223)) (v := (vI x261)) (agg := false) (sz := 1) (kk := (.top 1000000)) (e := 3) (off := 0) (J := []) (by kernel_rfl) (by kernel_rfl) (by kernel_rfl) ((idxS hx261).2) (by kernel_rfl)) (by kernel_rfl) (by kernel_rfl) ?_
          refine evd_run 2 (by kernel_rfl) ?_
          obtain ⟨x262, hx262, h⟩ := bindS h
          refine evd_val (by kernel_rfl) (st_idxO (c := cI) (l := (List.set (List.set h0 (Int.toNat a) x9) (Int.toNat pivot) x10)) (i := a) (kd := .i64) (kk := (.top 1000000)) (e := 3) (sz := 1) (by kernel_rfl) (by kernel_rfl) hx262 rfl) (by kernel_rfl) (by kernel_rfl) ?_
          refine evd_val (by kernel_rfl) (st_ldO (c := cI) (l := (List.set (List.set h0 (Int.toNat a) x9) (Int.toNat pivot) x10)) (i := (Int.toNat a)) (v := (vI x262)) (agg := false) (sz := 1) (kk := (.top 1000000)) (e := 3) (off := 0) (J := []) (by kernel_rfl) (by kernel_rfl) (by kernel_rfl) ((idxS hx262).2) (by kernel_rfl)) (by kernel_rfl) (by kernel_rfl) ?_
          refine evd_end (by kernel_rfl) ?_
          obtain ⟨r263, hr263, h⟩ := bindS h
          refine evo_callP [] (by kernel_rfl) (W.cmp_Compare_int_ok hr263) (by kernel_rfl) (.inl rfl) (by kernel_rfl) ?_
          refine evo_run 3 (by kernel_rfl) ?_
          refine evo_endS (by kernel_rfl) (fun τ hτ => ?_)
          obtain rfl := Option.some.inj h
          exact leafC hτ (here (by kernel_rfl))
        · replace h := iteF hb h
          refine evd_run 9 (by kernel_rfl) ?_
          refine evd_end (by kernel_rfl) ?_
          refine evo_run 4 (by kernel_rfl) ?_
          refine evo_endS (by kernel_rfl) (fun τ hτ => ?_)
          obtain rfl := Option.some.inj h
          exact leafC hτ (here (by kernel_rfl))
      refine th_normalS hτ ⟨[(0, (.row (.top 1000000) 3)), (1, (vI a)), (4, (.fn 112 [])), (12, (vI x138)), (13, (vI s223)), (66, (vB j260))], [(1000000, .row 3 [] (List.map cI (List.set (List.set h0 (Int.toNat a) x9) (Int.toNat pivot) x10)))]⟩ (here (by kernel_rfl)) ?_
      refine sem_cond j260 (by kernel_rfl) (by kernel_rfl) (fun hb => ?_) (fun hb => ?_)
      · replace h := iteT hb h
        refine sem_skipS (by kernel_rfl) (fun τ hτ => ?_)
        refine th_normalS hτ ⟨[(0, (.row (.top 1000000) 3)), (1, (vI a)), (4, (.fn 112 [])), (12, (vI x138)), (13, (vI s223))], [(1000000, .row 3 [] (List.map cI (List.set (List.set h0 (Int.toNat a) x9) (Int.toNat pivot) x10)))]⟩ (here (by kernel_rfl)) ?_
        refine sem_block (by kernel_rfl) ?_
        refine sem_region (by kernel_rfl) ?_
        refine evs_run 3 (by kernel_rfl) ?_
        refine evs_endS (by kernel_rfl) (fun τ hτ => ?_)
        refine bl_normal ?_
        obtain rfl := Option.some.inj h
        exact lk_nextS hτ (here (by kernel_rfl))
      · replace h := iteF hb h
        refine sem_exitS 2 (by kernel_rfl) rfl (fun τ hτ => ?_)
        refine th_exit ?_
        obtain rfl := Option.some.inj h
        exact lk_outS hτ rfl (here (by kernel_rfl))
    · intro x
      rfl
    · intro τ hτ
      refine bl_hit (by kernel_rfl) ?_
      refine th_normalS hτ ⟨[(0, (.row (.top 1000000) 3)), (1, (vI a)), (4, (.fn 112 [])), (12, (vI x138)), (13, (vI x264))], [(1000000, .row 3 [] (List.map cI (List.set (List.set h0 (Int.toNat a) x9) (Int.toNat pivot) x10)))]⟩ (here (by kernel_rfl)) ?_
      refine sem_seq (by kernel_rfl) ?_
      refine sem_seq (by kernel_rfl) ?_
      refine sem_region (by kernel_rfl) ?_
      refine evs_run 3 (by kernel_rfl) ?_
      refine evs_endS (by kernel_rfl) (fun τ hτ => ?_)
      refine th_normalS hτ ⟨[(0, (.row (.top 1000000) 3)), (1, (vI a)), (4, (.fn 112 [])), (12, (vI x138)), (13, (vI x264)), (71, (vB (decide (x138 > x264))))], [(1000000, .row 3 [] (List.map cI (List.set (List.set h0 (Int.toNat a) x9) (Int.toNat pivot) x10)))]⟩ (here (by kernel_rfl)) ?_
      refine sem_cond (decide (x138 > x264)) (by kernel_rfl) (by kernel_rfl) (fun hb => ?_) (fun hb => ?_)
      · replace h := iteT hb h
        refine sem_seq (by kernel_rfl) ?_
        refine sem_drawN [(13, [1000000])] [] [] [(2, [1000000]), (3, [1000000])] [] 14 (by kernel_rfl) (by kernel_rfl) (by kernel_rfl) ?_
        refine evd_run 6 (by kernel_rfl) ?_
        obtain ⟨x285, hx285, h⟩ := bindS h
        refine evd_val (by kernel_rfl) (st_idxO (c := cI) (l := (List.set (List.set h0 (Int.toNat a) x9) (Int.toNat pivot) x10)) (i := a) (kd := .i64) (kk := (.top 1000000)) (e := 3) (sz := 1) (by kernel_rfl) (by kernel_rfl) hx285 rfl) (by kernel_rfl) (by kernel_rfl) ?_
        refine evd_val (by kernel_rfl) (st_ldO (c := cI) (l := (List.set (List.set h0 (Int.toNat a) x9) (Int.toNat pivot) x10)) (i := (Int.toNat a)) (v := (vI x285)) (agg := false) (sz := 1) (kk := (.top 1000000)) (e := 3) (off := 0) (J := []) (by kernel_rfl) (by kernel_rfl) (by kernel_rfl) ((idxS hx285).2) (by kernel_rfl)) (by kernel_rfl) (by kernel_rfl) ?_
        refine evd_run 2 (by kernel_rfl) ?_
        obtain ⟨x286, hx286, h⟩ := bindS h
        refine evd_val (by kernel_rfl) (st_idxO (c := cI) (l := (List.set (List.set h0 (Int.toNat a) x9) (Int.toNat pivot) x10)) (i := x264) (kd := .i64) (kk := (.top 1000000)) (e := 3) (sz := 1) (by kernel_rfl) (by kernel_rfl) hx286 rfl) (by kernel_rfl) (by kernel_rfl) ?_
        refine evd_val (by kernel_rfl) (st_ldO (c := cI) (l := (List.set (List.set h0 (Int.toNat a) x9) (Int.toNat pivot) x10)) (i := (Int.toNat x264)) (v := (vI x286)) (agg := false) (sz := 1) (kk := (.top 1000000)) (e := 3) (off := 0) (J := []) (by kernel_rfl) (by kernel_rfl) (by kernel_rfl) ((idxS hx286).2) (by kernel_rfl)) (by kernel_rfl) (by kernel_rfl) ?_
        obtain ⟨x287, hx287, h⟩ := bindS h
        refine evd_val (by kernel_rfl) (st_idxO (c := cI) (l := (List.set (List.set h0 (Int.toNat a) x9) (Int.toNat pivot) x10)) (i := x264) (kd := .i64) (kk := (.top 1000000)) (e := 3) (sz := 1) (by kernel_rfl) (by kernel_rfl) hx287 rfl) (by kernel_rfl) (by kernel_rfl) ?_
        refine evd_set (by kernel_rfl) (st_stO (c := cI) (l := (List.set (List.set h0 (Int.toNat a) x9) (Int.toNat pivot) x10)) (i := (Int.toNat x264)) (x := x287) (x' := x285) (v := (vI x285)) (agg := false) (sz := 1) (kk := (.top 1000000)) (e := 3) (off := 0) (J := []) (o := .row 3 [] (List.map cI (List.set (List.set (List.set h0 (Int.toNat a) x9) (Int.toNat pivot) x10) (Int.toNat x264) x285))) (by kernel_rfl) (by kernel_rfl) (by kernel_rfl) ((idxS hx287).2) (by kernel_rfl) (by kernel_rfl) (by kernel_rfl)) (by kernel_rfl) (by kernel_rfl) (by kernel_rfl) ?_
        refine evd_end (by kernel_rfl) ?_
        obtain ⟨x288, hx288, h⟩ := bindS h
        refine evo_op (st_idxO (c := cI) (l := (List.set (List.set (List.set h0 (Int.toNat a) x9) (Int.toNat pivot) x10) (Int.toNat x264) x285)) (i := a) (kd := .i64) (kk := (.top 1000000)) (e := 3) (sz := 1) (by kernel_rfl) (by kernel_rfl) hx288 rfl) ?_
        refine evo_op (st_stO (c := cI) (l := (List.set (List.set (List.set h0 (Int.toNat a) x9) (Int.toNat pivot) x10) (Int.toNat x264) x285)) (i := (Int.toNat a)) (x := x288) (x' := x286) (v := (vI x286)) (agg := false) (sz := 1) (kk := (.top 1000000)) (e := 3) (off := 0) (J := []) (o := .row 3 [] (List.map cI (List.set (List.set (List.set (List.set h0 (Int.toNat a) x9) (Int.toNat pivot) x10) (Int.toNat x264) x285) (Int.toNat a) x286))) (by kernel_rfl) (by kernel_rfl) (by kernel_rfl) ((idxS hx288).2) (by kernel_rfl) (by kernel_rfl) (by kernel_rfl)) ?_
        refine evo_endS (by kernel_rfl) (fun τ hτ => ?_)
        refine th_normalS hτ ⟨[(13, (vI x264))], [(1000000, .row 3 [] (List.map cI (List.set (List.set (List.set (List.set h0 (Int.toNat a) x9) (Int.toNat pivot) x10) (Int.toNat x264) x285) (Int.toNat a) x286)))]⟩ (here (by kernel_rfl)) ?_
        refine sem_seq (by kernel_rfl) ?_
        refine sem_region (by kernel_rfl) ?_
        refine evs_run 3 (by kernel_rfl) ?_
        refine evs_endS (by kernel_rfl) (fun τ hτ => ?_)
        refine th_normalS hτ ⟨[(10, (vI x264)), (11, (vB true))], [(1000000, .row 3 [] (List.map cI (List.set (List.set (List.set (List.set h0 (Int.toNat a) x9) (Int.toNat pivot) x10) (Int.toNat x264) x285) (Int.toNat a) x286)))]⟩ (here (by kernel_rfl)) ?_
        refine sem_retS (by kernel_rfl) (fun τ hτ => ?_)
        refine th_ret ?_
        obtain rfl := Option.some.inj h
        exact rk_ret hτ [(10, (vI x264)), (11, (vB true))] (here (by kernel_rfl)) (by kernel_rfl)
      · replace h := iteF hb h
        refine sem_skipS (by kernel_rfl) (fun τ hτ => ?_)
        refine th_normalS hτ ⟨[(0, (.row (.top 1000000) 3)), (1, (vI a)), (4, (.fn 112 [])), (12, (vI x138)), (13, (vI x264))], [(1000000, .row 3 [] (List.map cI (List.set (List.set h0 (Int.toNat a) x9) (Int.toNat pivot) x10)))]⟩ (here (by kernel_rfl)) ?_
        refine sem_seq (by kernel_rfl) ?_
        refine sem_drawN [(13, [1000000])] [] [] [(2, [1000000]), (3, [1000000])] [] 14 (by kernel_rfl) (by kernel_rfl) (by kernel_rfl) ?_
        refine evd_run 6 (by kernel_rfl) ?_
        obtain ⟨x297, hx297, h⟩ := bindS h
        refine evd_val (by kernel_rfl) (st_idxO (c := cI) (l := (List.set (List.set h0 (Int.toNat a) x9) (Int.toNat pivot) x10)) (i := x264) (kd := .i64) (kk := (.top 1000000)) (e := 3) (sz := 1) (by kernel_rfl) (by kernel_rfl) hx297 rfl) (by kernel_rfl) (by kernel_rfl) ?_
        refine evd_val (by kernel_rfl) (st_ldO (c := cI) (l := (List.set (List.set h0 (Int.toNat a) x9) (Int.toNat pivot) x10)) (i := (Int.toNat x264)) (v := (vI x297)) (agg := false) (sz := 1) (kk := (.top 1000000)) (e := 3) (off := 0) (J := []) (by kernel_rfl) (by kernel_rfl) (by kernel_rfl) ((idxS hx297).2) (by kernel_rfl)) (by kernel_rfl) (by kernel_rfl) ?_
        refine evd_run 2 (by kernel_rfl) ?_
        obtain ⟨x298, hx298, h⟩ := bindS h
        refine evd_val (by kernel_rfl) (st_idxO (c := cI) (l := (List.set (List.set h0 (Int.toNat a) x9) (Int.toNat pivot) x10)) (i := x138) (kd := .i64) (kk := (.top 1000000)) (e := 3) (sz := 1) (by kernel_rfl) (by kernel_rfl) hx298 rfl) (by kernel_rfl) (by kernel_rfl) ?_
        refine evd_val (by kernel_rfl) (st_ldO (c := cI) (l := (List.set (List.set h0 (Int.toNat a) x9) (Int.toNat pivot) x10)) (i := (Int.toNat x138)) (v := (vI x298)) (agg := false) (sz := 1) (kk := (.top 1000000)) (e := 3) (off := 0) (J := []) (by kernel_rfl) (by kernel_rfl) (by kernel_rfl) ((idxS hx298).2) (by kernel_rfl)) (by kernel_rfl) (by kernel_rfl) ?_
        obtain ⟨x299, hx299, h⟩ := bindS h
        refine evd_val (by kernel_rfl) (st_idxO (c := cI) (l := (List.set (List.set h0 (Int.toNat a) x9) (Int.toNat pivot) x10)) (i := x138) (kd := .i64) (kk := (.top 1000000)) (e := 3) (sz := 1) (by kernel_rfl) (by kernel_rfl) hx299 rfl) (by kernel_rfl) (by kernel_rfl) ?_
        refine evd_set (by kernel_rfl) (st_stO (c := cI) (l := (List.set (List.set h0 (Int.toNat a) x9) (Int.toNat pivot) x10)) (i := (Int.toNat x138)) (x := x299) (x' := x297) (v := (vI x297)) (agg := false) (sz := 1) (kk := (.top 1000000)) (e := 3) (off := 0) (J := []) (o := .row 3 [] (List.map cI (List.set (List.set (List.set h0 (Int.toNat a) x9) (Int.toNat pivot) x10) (Int.toNat x138) x297))) (by kernel_rfl) (by kernel_rfl) (by kernel_rfl) ((idxS hx299).2) (by kernel_rfl) (by kernel_rfl) (by kernel_rfl)) (by kernel_rfl) (by kernel_rfl) (by kernel_rfl) ?_
        refine evd_end (by kernel_rfl) ?_
        obtain ⟨x300, hx300, h⟩ := bindS h
        refine evo_op (st_idxO (c := cI) (l := (List.set (List.set (List.set h0 (Int.toNat a) x9) (Int.toNat pivot) x10) (Int.toNat x138) x297)) (i := x264) (kd := .i64) (kk := (.top 1000000)) (e := 3) (sz := 1) (by kernel_rfl) (by kernel_rfl) hx300 rfl) ?_
        refine evo_op (st_stO (c := cI) (l := (List.set (List.set (List.set h0 (Int.toNat a) x9) (Int.toNat pivot) x10) (Int.toNat x138) x297)) (i := (Int.toNat x264)) (x := x300) (x' := x298) (v := (vI x298)) (agg := false) (sz := 1) (kk := (.top 1000000)) (e := 3) (off := 0) (J := []) (o := .row 3 [] (List.map cI (List.set (List.set (List.set (List.set h0 (Int.toNat a) x9) (Int.toNat pivot) x10) (Int.toNat x138) x297) (Int.toNat x264) x298))) (by kernel_rfl) (by kernel_rfl) (by kernel_rfl) ((idxS hx300).2) (by kernel_rfl) (by kernel_rfl) (by kernel_rfl)) ?_
        refine evo_endS (by kernel_rfl) (fun τ hτ => ?_)
        refine th_normalS hτ ⟨[(0, (.row (.top 1000000) 3)), (1, (vI a)), (4, (.fn 112 [])), (12, (vI x138)), (13, (vI x264))], [(1000000, .row 3 [] (List.map cI (List.set (List.set (List.set (List.set h0 (Int.toNat a) x9) (Int.toNat pivot) x10) (Int.toNat x138) x297) (Int.toNat x264) x298)))]⟩ (here (by kernel_rfl)) ?_
        refine sem_seq (by kernel_rfl) ?_
        refine sem_region (by kernel_rfl) ?_
        refine evs_run 3 (by kernel_rfl) ?_
        refine evs_endS (by kernel_rfl) (fun τ hτ => ?_)
        refine th_normalS hτ ⟨[(0, (.row (.top 1000000) 3)), (1, (vI a)), (4, (.fn 112 [])), (12, (vI (iadd x138 1))), (13, (vI x264))], [(1000000, .row 3 [] (List.map cI (List.set (List.set (List.set (List.set h0 (Int.toNat a) x9) (Int.toNat pivot) x10) (Int.toNat x138) x297) (Int.toNat x264) x298)))]⟩ (here (by kernel_rfl)) ?_
        refine sem_seq (by kernel_rfl) ?_
        refine sem_region (by kernel_rfl) ?_
        refine evs_run 3 (by kernel_rfl) ?_
        refine evs_endS (by kernel_rfl) (fun τ hτ => ?_)
        refine th_normalS hτ ⟨[(0, (.row (.top 1000000) 3)), (1, (vI a)), (4, (.fn 112 [])), (12, (vI (iadd x138 1))), (13, (vI (isub x264 1)))], [(1000000, .row 3 [] (List.map cI (List.set (List.set (List.set (List.set h0 (Int.toNat a) x9) (Int.toNat pivot) x10) (Int.toNat x138) x297) (Int.toNat x264) x298)))]⟩ (here (by kernel_rfl)) ?_
        refine sem_seq (by kernel_rfl) ?_
        refine sem_block (by kernel_rfl) ?_
        obtain ⟨x1890, hx1890, h⟩ := bindS h
        refine sem_loopS (fun (s1361 : Int × Int × (List Int)) => ⟨[(0, (.row (.top 1000000) 3)), (1, (vI a)), (4, (.fn 112 [])), (12, (vI s1361.1)), (13, (vI s1361.2.1))], [(1000000, .row 3 [] (List.map cI s1361.2.2))]⟩) (fun (x1890 : Int × (List Int)) => (.exit 4, ⟨[(0, (.row (.top 1000000) 3)), (1, (vI a)), (13, (vI x1890.1))], [(1000000, .row 3 [] (List.map cI x1890.2))]⟩)) (slices_partitionCmpFunc_int__cmp_Compare_int_l5 a) ((iadd x138 1), (isub x264 1), (List.set (List.set (List.set (List.set h0 (Int.toNat a) x9) (Int.toNat pivot) x10) (Int.toNat x138) x297) (Int.toNat x264) x298)) x1890 (by kernel_rfl) (here (by kernel_rfl)) hx1890 ?_ ?_ ?_
        · intro s1361 r h
          refine sem_block (by kernel_rfl) ?_
          refine sem_seq (by kernel_rfl) ?_
          refine sem_block (by kernel_rfl) ?_
          obtain ⟨x1751, hx1751, h⟩ := bindS h
          refine sem_loopS (fun (s1710 : Int) => ⟨[(0, (.row (.top 1000000) 3)), (1, (vI a)), (4, (.fn 112 [])), (12, (vI s1710)), (13, (vI s1361.2.1))], [(1000000, .row 3 [] (List.map cI s1361.2.2))]⟩) (fun (x1751 : Int) => (.exit 6, ⟨[(0, (.row (.top 1000000) 3)), (1, (vI a)), (4, (.fn 112 [])), (12, (vI x1751)), (13, (vI s1361.2.1))], [(1000000, .row 3 [] (List.map cI s1361.2.2))]⟩)) (slices_partitionCmpFunc_int__cmp_Compare_int_l3 a s1361) s1361.1 x1751 (by kernel_rfl) (here (by kernel_rfl)) hx1751 ?_ ?_ ?_
          · intro s1710 r h
            refine sem_seq (by kernel_rfl) ?_
            refine sem_seq (by kernel_rfl) ?_
            obtain ⟨j1747, hj1747, h⟩ := bindS h
            refine sem_drawP ⟨[(0, (.row (.top 1000000) 3)), (1, (vI a)), (4, (.fn 112 [])), (12, (vI s1710)), (13, (vI s1361.2.1)), (120, (vB j1747))], [(1000000, .row 3 [] (List.map cI s1361.2.2))]⟩ [] [] [] [] [] 13 (by kernel_rfl) (by kernel_rfl) (by kernel_rfl) ?_ (fun τ hτ => ?_)
            · replace h := hj1747
              refine evd_run 4 (by kernel_rfl) ?_
              refine evd_split (decide (s1710 ≤ s1361.2.1)) (fun b0 => ⟨[(108, (vB b0)), (107, (vB b0)), (106, (vI s1361.2.1)), (105, (vI s1710)), (0, (.row (.top 1000000) 3)), (1, (vI a)), (4, (.fn 112 [])), (12, (vI s1710)), (13, (vI s1361.2.1))], [(1000000, .row 3 [] (List.map cI s1361.2.2))]⟩) (by kernel_rfl) (fun hb => ?_) (fun hb => ?_)
              · replace h := iteT hb h
                refine evd_run 3 (by kernel_rfl) ?_
                obtain ⟨x1748, hx1748, h⟩ := bindS h
                refine evd_val (by kernel_rfl) (st_idxO (c := cI) (l := s1361.2.2) (i := s1710) (kd := .i64) (kk := (.top 1000000)) (e := 3) (sz := 1) (by kernel_rfl) (by kernel_rfl) hx1748 rfl) (by kernel_rfl) (by kernel_rfl) ?_
                refine evd_val (by kernel_rfl) (st_ldO (c := cI) (l := s1361.2.2) (i := (Int.toNat s1710)) (v := (vI x1748)) (agg := false) (sz := 1) (kk := (.top 1000000)) (e := 3) (off := 0) (J := []) (by kernel_rfl) (by kernel_rfl) (by kernel_rfl) ((idxS hx1748).2) (by kernel_rfl)) (by kernel_rfl) (by kernel_rfl) ?_
                refine evd_run 2 (by kernel_rfl) ?_
                obtain ⟨x1749, hx1749, h⟩ := bindS h
                refine evd_val (by kernel_rfl) (st_idxO (c := cI) (l := s1361.2.2) (i := a) (kd := .i64) (kk := (.top 1000000)) (e := 3) (sz := 1) (by kernel_rfl) (by kernel_rfl) hx1749 rfl) (by kernel_rfl) (by kernel_rfl) ?_
                refine evd_val (by kernel_rfl) (st_ldO (c := cI) (l := s1361.2.2) (i := (Int.toNat a)) (v := (vI x1749)) (agg := false) (sz := 1) (kk := (.top 1000000)) (e := 3) (off := 0) (J := []) (by kernel_rfl) (by kernel_rfl) (by kernel_rfl) ((idxS hx1749).2) (by kernel_rfl)) (by kernel_rfl) (by kernel_rfl) ?_
                refine evd_end (by kernel_rfl) ?_
                obtain ⟨r1750, hr1750, h⟩ := bindS h
                refine evo_callP [] (by kernel_rfl) (W.cmp_Compare_int_ok hr1750) (by kernel_rfl) (.inl rfl) (by kernel_rfl) ?_
                refine evo_run 2 (by kernel_rfl) ?_
                refine evo_endS (by kernel_rfl) (fun τ hτ => ?_)
                obtain rfl := Option.some.inj h
                exact leafC hτ (here (by kernel_rfl))
              · replace h := iteF hb h
                refine evd_run 9 (by kernel_rfl) ?_
                refine evd_end (by kernel_rfl) ?_
                refine evo_run 3 (by kernel_rfl) ?_
                refine evo_endS (by kernel_rfl) (fun τ hτ => ?_)
                obtain rfl := Option.some.inj h
                exact leafC hτ (here (by kernel_rfl))
            refine th_normalS hτ ⟨[(0, (.row (.top 1000000) 3)), (1, (vI a)), (4, (.fn 112 [])), (12, (vI s1710)), (13, (vI s1361.2.1)), (120, (vB j1747))], [(1000000, .row 3 [] (List.map cI s1361.2.2))]⟩ (here (by kernel_rfl)) ?_
            refine sem_cond j1747 (by kernel_rfl) (by kernel_rfl) (fun hb => ?_) (fun hb => ?_)
            · replace h := iteT hb h
              refine sem_skipS (by kernel_rfl) (fun τ hτ => ?_)
              refine th_normalS hτ ⟨[(0, (.row (.top 1000000) 3)), (1, (vI a)), (4, (.fn 112 [])), (12, (vI s1710)), (13, (vI s1361.2.1))], [(1000000, .row 3 [] (List.map cI s1361.2.2))]⟩ (here (by kernel_rfl)) ?_
              refine sem_block (by kernel_rfl) ?_
              refine sem_region (by kernel_rfl) ?_
              refine evs_run 3 (by kernel_rfl) ?_
              refine evs_endS (by kernel_rfl) (fun τ hτ => ?_)
              refine bl_normal ?_
              obtain rfl := Option.some.inj h
              exact lk_nextS hτ (here (by kernel_rfl))
            · replace h := iteF hb h
              refine sem_exitS 6 (by kernel_rfl) rfl (fun τ hτ => ?_)
              refine th_exit ?_
              obtain rfl := Option.some.inj h
              exact lk_outS hτ rfl (here (by kernel_rfl))
          · intro x
            rfl
          · intro τ hτ
            refine bl_hit (by kernel_rfl) ?_
            refine th_normalS hτ ⟨[(0, (.row (.top 1000000) 3)), (1, (vI a)), (4, (.fn 112 [])), (12, (vI x1751)), (13, (vI s1361.2.1))], [(1000000, .row 3 [] (List.map cI s1361.2.2))]⟩ (here (by kernel_rfl)) ?_
            refine sem_seq (by kernel_rfl) ?_
            refine sem_block (by kernel_rfl) ?_
            obtain ⟨x1877, hx1877, h⟩ := bindS h
            refine sem_loopS (fun (s1836 : Int) => ⟨[(0, (.row (.top 1000000) 3)), (1, (vI a)), (4, (.fn 112 [])), (12, (vI x1751)), (13, (vI s1836))], [(1000000, .row 3 [] (List.map cI s1361.2.2))]⟩) (fun (x1877 : Int) => (.exit 8, ⟨[(0, (.row (.top 1000000) 3)), (1, (vI a)), (4, (.fn 112 [])), (12, (vI x1751)), (13, (vI x1877))], [(1000000, .row 3 [] (List.map cI s1361.2.2))]⟩)) (slices_partitionCmpFunc_int__cmp_Compare_int_l4 a s1361 x1751) s1361.2.1 x1877 (by kernel_rfl) (here (by kernel_rfl)) hx1877 ?_ ?_ ?_
            · intro s1836 r h
              refine sem_seq (by kernel_rfl) ?_
              refine sem_seq (by kernel_rfl) ?_
              obtain ⟨j1873, hj1873, h⟩ := bindS h
              refine sem_drawP ⟨[(0, (.row (.top 1000000) 3)), (1, (vI a)), (4, (.fn 112 [])), (12, (vI x1751)), (13, (vI s1836)), (139, (vB j1873))], [(1000000, .row 3 [] (List.map cI s1361.2.2))]⟩ [] [] [] [] [] 13 (by kernel_rfl) (by kernel_rfl) (by kernel_rfl) ?_ (fun τ hτ => ?_)
              · replace h := hj1873
                refine evd_run 4 (by kernel_rfl) ?_
                refine evd_split (decide (x1751 ≤ s1836)) (fun b0 => ⟨[(126, (vB b0)), (125, (vB b0)), (124, (vI s1836)), (123, (vI x1751)), (0, (.row (.top 1000000) 3)), (1, (vI a)), (4, (.fn 112 [])), (12, (vI x1751)), (13, (vI s1836))], [(1000000, .row 3 [] (List.map cI s1361.2.2))]⟩) (by kernel_rfl) (fun hb => ?_) (fun hb => ?_)
                · replace h := iteT hb h
                  refine evd_run 3 (by kernel_rfl) ?_
                  obtain ⟨x1874, hx1874, h⟩ := bindS h
                  refine evd_val (by kernel_rfl) (st_idxO (c := cI) (l := s1361.2.2) (i := s1836) (kd := .i64) (kk := (.top 1000000)) (e := 3) (sz := 1) (by kernel_rfl) (by kernel_rfl) hx1874 rfl) (by kernel_rfl) (by kernel_rfl) ?_
                  refine evd_val (by kernel_rfl) (st_ldO (c := cI) (l := s1361.2.2) (i := (Int.toNat s1836)) (v := (vI x1874)) (agg := false) (sz := 1) (kk := (.top 1000000)) (e := 3) (off := 0) (J := []) (by kernel_rfl) (by kernel_rfl) (by kernel_rfl) ((idxS hx1874).2) (by kernel_rfl)) (by kernel_rfl) (by kernel_rfl) ?_
                  refine evd_run 2 (by kernel_rfl) ?_
                  obtain ⟨x1875, hx1875, h⟩ := bindS h
                  refine evd_val (by kernel_rfl) (st_idxO (c := cI) (l := s1361.2.2) (i := a) (kd := .i64) (kk := (.top 1000000)) (e := 3) (sz := 1) (by kernel_rfl) (by kernel_rfl) hx1875 rfl) (by kernel_rfl) (by kernel_rfl) ?_
                  refine evd_val (by kernel_rfl) (st_ldO (c := cI) (l := s1361.2.2) (i := (Int.toNat a)) (v := (vI x1875)) (agg := false) (sz := 1) (kk := (.top 1000000)) (e := 3) (off := 0) (J := []) (by kernel_rfl) (by kernel_rfl) (by kernel_rfl) ((idxS hx1875).2) (by kernel_rfl)) (by kernel_rfl) (by kernel_rfl) ?_
                  refine evd_end (by kernel_rfl) ?_
                  obtain ⟨r1876, hr1876, h⟩ := bindS h
                  refine evo_callP [] (by kernel_rfl) (W.cmp_Compare_int_ok hr1876) (by kernel_rfl) (.inl rfl) (by kernel_rfl) ?_
                  refine evo_run 3 (by kernel_rfl) ?_
                  refine evo_endS (by kernel_rfl) (fun τ hτ => ?_)
                  obtain rfl := Option.some.inj h
                  exact leafC hτ (here (by kernel_rfl))
                · replace h := iteF hb h
                  refine evd_run 9 (by kernel_rfl) ?_
                  refine evd_end (by kernel_rfl) ?_
                  refine evo_run 4 (by kernel_rfl) ?_
                  refine evo_endS (by kernel_rfl) (fun τ hτ => ?_)
                  obtain rfl := Option.some.inj h
                  exact leafC hτ (here (by kernel_rfl))
              refine th_normalS hτ ⟨[(0, (.row (.top 1000000) 3)), (1, (vI a)), (4, (.fn 112 [])), (12, (vI x1751)), (13, (vI s1836)), (139, (vB j1873))], [(1000000, .row 3 [] (List.map cI s1361.2.2))]⟩ (here (by kernel_rfl)) ?_
              refine sem_cond j1873 (by kernel_rfl) (by kernel_rfl) (fun hb => ?_) (fun hb => ?_)
              · replace h := iteT hb h
                refine sem_skipS (by kernel_rfl) (fun τ hτ => ?_)
                refine th_normalS hτ ⟨[(0, (.row (.top 1000000) 3)), (1, (vI a)), (4, (.fn 112 [])), (12, (vI x1751)), (13, (vI s1836))], [(1000000, .row 3 [] (List.map cI s1361.2.2))]⟩ (here (by kernel_rfl)) ?_
                refine sem_block (by kernel_rfl) ?_
                refine sem_region (by kernel_rfl) ?_
                refine evs_run 3 (by kernel_rfl) ?_
                refine evs_endS (by kernel_rfl) (fun τ hτ => ?_)
                refine bl_normal ?_
                obtain rfl := Option.some.inj h
                exact lk_nextS hτ (here (by kernel_rfl))
              · replace h := iteF hb h
                refine sem_exitS 8 (by kernel_rfl) rfl (fun τ hτ => ?_)
                refine th_exit ?_
                obtain rfl := Option.some.inj h
                exact lk_outS hτ rfl (here (by kernel_rfl))
            · intro x
              rfl
            · intro τ hτ
              refine bl_hit (by kernel_rfl) ?_
              refine th_normalS hτ ⟨[(0, (.row (.top 1000000) 3)), (1, (vI a)), (4, (.fn 112 [])), (12, (vI x1751)), (13, (vI x1877))], [(1000000, .row 3 [] (List.map cI s1361.2.2))]⟩ (here (by kernel_rfl)) ?_
              refine sem_seq (by kernel_rfl) ?_
              refine sem_seq (by kernel_rfl) ?_
              refine sem_region (by kernel_rfl) ?_
              refine evs_run 3 (by kernel_rfl) ?_
              refine evs_endS (by kernel_rfl) (fun τ hτ => ?_)
              refine th_normalS hτ ⟨[(0, (.row (.top 1000000) 3)), (1, (vI a)), (4, (.fn 112 [])), (12, (vI x1751)), (13, (vI x1877)), (144, (vB (decide (x1751 > x1877))))], [(1000000, .row 3 [] (List.map cI s1361.2.2))]⟩ (here (by kernel_rfl)) ?_
              refine sem_cond (decide (x1751 > x1877)) (by kernel_rfl) (by kernel_rfl) (fun hb => ?_) (fun hb => ?_)
              · replace h := iteT hb h
                refine sem_exitS 4 (by kernel_rfl) rfl (fun τ hτ => ?_)
                refine th_exit ?_
                refine bl_miss (by kernel_rfl) ?_
                obtain rfl := Option.some.inj h
                exact lk_outS hτ rfl (here (by kernel_rfl))
              · replace h := iteF hb h
                refine sem_skipS (by kernel_rfl) (fun τ hτ => ?_)
                refine th_normalS hτ ⟨[(0, (.row (.top 1000000) 3)), (1, (vI a)), (4, (.fn 112 [])), (12, (vI x1751)), (13, (vI x1877))], [(1000000, .row 3 [] (List.map cI s1361.2.2))]⟩ (here (by kernel_rfl)) ?_
                refine sem_seq (by kernel_rfl) ?_
                refine sem_drawN [(13, [1000000])] [] [] [(2, [1000000]), (3, [1000000])] [] 14 (by kernel_rfl) (by kernel_rfl) (by kernel_rfl) ?_
                refine evd_run 6 (by kernel_rfl) ?_
                obtain ⟨x1886, hx1886, h⟩ := bindS h
                refine evd_val (by kernel_rfl) (st_idxO (c := cI) (l := s1361.2.2) (i := x1877) (kd := .i64) (kk := (.top 1000000)) (e := 3) (sz := 1) (by kernel_rfl) (by kernel_rfl) hx1886 rfl) (by kernel_rfl) (by kernel_rfl) ?_
                refine evd_val (by kernel_rfl) (st_ldO (c := cI) (l := s1361.2.2) (i := (Int.toNat x1877)) (v := (vI x1886)) (agg := false) (sz := 1) (kk := (.top 1000000)) (e := 3) (off := 0) (J := []) (by kernel_rfl) (by kernel_rfl) (by kernel_rfl) ((idxS hx1886).2) (by kernel_rfl)) (by kernel_rfl) (by kernel_rfl) ?_
                refine evd_run 2 (by kernel_rfl) ?_
                obtain ⟨x1887, hx1887, h⟩ := bindS h
                refine evd_val (by kernel_rfl) (st_idxO (c := cI) (l := s1361.2.2) (i := x1751) (kd := .i64) (kk := (.top 1000000)) (e := 3) (sz := 1) (by kernel_rfl) (by kernel_rfl) hx1887 rfl) (by kernel_rfl) (by kernel_rfl) ?_
                refine evd_val (by kernel_rfl) (st_ldO (c := cI) (l := s1361.2.2) (i := (Int.toNat x1751)) (v := (vI x1887)) (agg := false) (sz := 1) (kk := (.top 1000000)) (e := 3) (off := 0) (J := []) (by kernel_rfl) (by kernel_rfl) (by kernel_rfl) ((idxS hx1887).2) (by kernel_rfl)) (by kernel_rfl) (by kernel_rfl) ?_
                obtain ⟨x1888, hx1888, h⟩ := bindS h
                refine evd_val (by kernel_rfl) (st_idxO (c := cI) (l := s1361.2.2) (i := x1751) (kd := .i64) (kk := (.top 1000000)) (e := 3) (sz := 1) (by kernel_rfl) (by kernel_rfl) hx1888 rfl) (by kernel_rfl) (by kernel_rfl) ?_
                refine evd_set (by kernel_rfl) (st_stO (c := cI) (l := s1361.2.2) (i := (Int.toNat x1751)) (x := x1888) (x' := x1886) (v := (vI x1886)) (agg := false) (sz := 1) (kk := (.top 1000000)) (e := 3) (off := 0) (J := []) (o := .row 3 [] (List.map cI (List.set s1361.2.2 (Int.toNat x1751) x1886))) (by kernel_rfl) (by kernel_rfl) (by kernel_rfl) ((idxS hx1888).2) (by kernel_rfl) (by kernel_rfl) (by kernel_rfl)) (by kernel_rfl) (by kernel_rfl) (by kernel_rfl) ?_
                refine evd_end (by kernel_rfl) ?_
                obtain ⟨x1889, hx1889, h⟩ := bindS h
                refine evo_op (st_idxO (c := cI) (l := (List.set s1361.2.2 (Int.toNat x1751) x1886)) (i := x1877) (kd := .i64) (kk := (.top 1000000)) (e := 3) (sz := 1) (by kernel_rfl) (by kernel_rfl) hx1889 rfl) ?_
                refine evo_op (st_stO (c := cI) (l := (List.set s1361.2.2 (Int.toNat x1751) x1886)) (i := (Int.toNat x1877)) (x := x1889) (x' := x1887) (v := (vI x1887)) (agg := false) (sz := 1) (kk := (.top 1000000)) (e := 3) (off := 0) (J := []) (o := .row 3 [] (List.map cI (List.set (List.set s1361.2.2 (Int.toNat x1751) x1886) (Int.toNat x1877) x1887))) (by kernel_rfl) (by kernel_rfl) (by kernel_rfl) ((idxS hx1889).2) (by kernel_rfl) (by kernel_rfl) (by kernel_rfl)) ?_
                refine evo_endS (by kernel_rfl) (fun τ hτ => ?_)
                refine th_normalS hτ ⟨[(0, (.row (.top 1000000) 3)), (1, (vI a)), (4, (.fn 112 [])), (12, (vI x1751)), (13, (vI x1877))], [(1000000, .row 3 [] (List.map cI (List.set (List.set s1361.2.2 (Int.toNat x1751) x1886) (Int.toNat x1877) x1887)))]⟩ (here (by kernel_rfl)) ?_
                refine sem_seq (by kernel_rfl) ?_
                refine sem_region (by kernel_rfl) ?_
                refine evs_run 3 (by kernel_rfl) ?_
                refine evs_endS (by kernel_rfl) (fun τ hτ => ?_)
                refine th_normalS hτ ⟨[(0, (.row (.top 1000000) 3)), (1, (vI a)), (4, (.fn 112 [])), (12, (vI (iadd x1751 1))), (13, (vI x1877))], [(1000000, .row 3 [] (List.map cI (List.set (List.set s1361.2.2 (Int.toNat x1751) x1886) (Int.toNat x1877) x1887)))]⟩ (here (by kernel_rfl)) ?_
                refine sem_region (by kernel_rfl) ?_
                refine evs_run 3 (by kernel_rfl) ?_
                refine evs_endS (by kernel_rfl) (fun τ hτ => ?_)
                refine bl_normal ?_
                obtain rfl := Option.some.inj h
                exact lk_nextS hτ (here (by kernel_rfl))
        · intro x
          rfl
        · intro τ hτ
          refine bl_hit (by kernel_rfl) ?_
          refine th_normalS hτ ⟨[(0, (.row (.top 1000000) 3)), (1, (vI a)), (13, (vI x1890.1))], [(1000000, .row 3 [] (List.map cI x1890.2))]⟩ (here (by kernel_rfl)) ?_
          refine sem_seq (by kernel_rfl) ?_
          refine sem_drawN [(13, [1000000])] [] [] [(2, [1000000]), (3, [1000000])] [] 14 (by kernel_rfl) (by kernel_rfl) (by kernel_rfl) ?_
          refine evd_run 6 (by kernel_rfl) ?_
          obtain ⟨x1899, hx1899, h⟩ := bindS h
          refine evd_val (by kernel_rfl) (st_idxO (c := cI) (l := x1890.2) (i := a) (kd := .i64) (kk := (.top 1000000)) (e := 3) (sz := 1) (by kernel_rfl) (by kernel_rfl) hx1899 rfl) (by kernel_rfl) (by kernel_rfl) ?_
          refine evd_val (by kernel_rfl) (st_ldO (c := cI) (l := x1890.2) (i := (Int.toNat a)) (v := (vI x1899)) (agg := false) (sz := 1) (kk := (.top 1000000)) (e := 3) (off := 0) (J := []) (by kernel_rfl) (by kernel_rfl) (by kernel_rfl) ((idxS hx1899).2) (by kernel_rfl)) (by kernel_rfl) (by kernel_rfl) ?_
          refine evd_run 2 (by kernel_rfl) ?_
          obtain ⟨x1900, hx1900, h⟩ := bindS h
          refine evd_val (by kernel_rfl) (st_idxO (c := cI) (l := x1890.2) (i := x1890.1) (kd := .i64) (kk := (.top 1000000)) (e := 3) (sz := 1) (by kernel_rfl) (by kernel_rfl) hx1900 rfl) (by kernel_rfl) (by kernel_rfl) ?_
          refine evd_val (by kernel_rfl) (st_ldO (c := cI) (l := x1890.2) (i := (Int.toNat x1890.1)) (v := (vI x1900)) (agg := false) (sz := 1) (kk := (.top 1000000)) (e := 3) (off := 0) (J := []) (by kernel_rfl) (by kernel_rfl) (by kernel_rfl) ((idxS hx1900).2) (by kernel_rfl)) (by kernel_rfl) (by kernel_rfl) ?_
          obtain ⟨x1901, hx1901, h⟩ := bindS h
          refine evd_val (by kernel_rfl) (st_idxO (c := cI) (l := x1890.2) (i := x1890.1) (kd := .i64) (kk := (.top 1000000)) (e := 3) (sz := 1) (by kernel_rfl) (by kernel_rfl) hx1901 rfl) (by kernel_rfl) (by kernel_rfl) ?_
          refine evd_set (by kernel_rfl) (st_stO (c := cI) (l := x1890.2) (i := (Int.toNat x1890.1)) (x := x1901) (x' := x1899) (v := (vI x1899)) (agg := false) (sz := 1) (kk := (.top 1000000)) (e := 3) (off := 0) (J := []) (o := .row 3 [] (List.map cI (List.set x1890.2 (Int.toNat x1890.1) x1899))) (by kernel_rfl) (by kernel_rfl) (by kernel_rfl) ((idxS hx1901).2) (by kernel_rfl) (by kernel_rfl) (by kernel_rfl)) (by kernel_rfl) (by kernel_rfl) (by kernel_rfl) ?_
          refine evd_end (by kernel_rfl) ?_
          obtain ⟨x1902, hx1902, h⟩ := bindS h
          refine evo_op (st_idxO (c := cI) (l := (List.set x1890.2 (Int.toNat x1890.1) x1899)) (i := a) (kd := .i64) (kk := (.top 1000000)) (e := 3) (sz := 1) (by kernel_rfl) (by kernel_rfl) hx1902 rfl) ?_
          refine evo_op (st_stO (c := cI) (l := (List.set x1890.2 (Int.toNat x1890.1) x1899)) (i := (Int.toNat a)) (x := x1902) (x' := x1900) (v := (vI x1900)) (agg := false) (sz := 1) (kk := (.top 1000000)) (e := 3) (off := 0) (J := []) (o := .row 3 [] (List.map cI (List.set (List.set x1890.2 (Int.toNat x1890.1) x1899) (Int.toNat a) x1900))) (by kernel_rfl) (by kernel_rfl) (by kernel_rfl) ((idxS hx1902).2) (by kernel_rfl) (by kernel_rfl) (by kernel_rfl)) ?_
          refine evo_endS (by kernel_rfl) (fun τ hτ => ?_)
          refine th_normalS hτ ⟨[(13, (vI x1890.1))], [(1000000, .row 3 [] (List.map cI (List.set (List.set x1890.2 (Int.toNat x1890.1) x1899) (Int.toNat a) x1900)))]⟩ (here (by kernel_rfl)) ?_
          refine sem_seq (by kernel_rfl) ?_
          refine sem_region (by kernel_rfl) ?_
          refine evs_run 3 (by kernel_rfl) ?_
          refine evs_endS (by kernel_rfl) (fun τ hτ => ?_)
          refine th_normalS hτ ⟨[(10, (vI x1890.1)), (11, (vB false))], [(1000000, .row 3 [] (List.map cI (List.set (List.set x1890.2 (Int.toNat x1890.1) x1899) (Int.toNat a) x1900)))]⟩ (here (by kernel_rfl)) ?_
          refine sem_retS (by kernel_rfl) (fun τ hτ => ?_)
          obtain rfl := Option.some.inj h
          exact rk_ret hτ [(10, (vI x1890.1)), (11, (vB false))] (here (by kernel_rfl)) (by kernel_rfl)
end Go.Proofs.Ytiodkdpfkchkjaa
