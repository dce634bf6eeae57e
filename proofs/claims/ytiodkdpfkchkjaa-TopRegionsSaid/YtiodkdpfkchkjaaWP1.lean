/- Each Go function does what its model says; written by a program out of the translation. -/
import Derived.Test.YtiodkdpfkchkjaaWP
import Derived.Test.YtiodkdpfkchkjaaGeMP
set_option linter.unusedVariables false
set_option linter.unusedSimpArgs false
set_option linter.unusedSectionVars false
namespace Go.Proofs.Ytiodkdpfkchkjaa
open Go Go.VI Go.SM Go.Proofs
set_option maxRecDepth 100000
set_option maxHeartbeats 4000000
theorem W.slices_partitionEqualCmpFunc_int__cmp_Compare_int_ok {a : Int} {b : Int} {pivot : Int} {h0 : (List Int)} {r : Int × (List Int)} (h : slices_partitionEqualCmpFunc_int__cmp_Compare_int a b pivot h0 = some r) : PC G.P 142 [(.row (.top 1000000) 3), (vI a), (vI b), (vI pivot), (.fn 112 [])] [(1000000, .row 3 [] (List.map cI h0))] (vI r.1) [(1000000, .row 3 [] (List.map cI r.2))] := by
 refine pc_of G (fn := Try.f142) Try.func142 (by kernel_rfl) (by kernel_rfl) (by kernel_rfl) (by kernel_rfl) (by kernel_rfl) ?_
 refine sem_set ⟨[(0, (.row (.top 1000000) 3)), (1, (vI a)), (2, (vI b)), (3, (vI pivot)), (4, (.fn 112 []))], [(1000000, .row 3 [] (List.map cI h0))]⟩ (by kernel_rfl) ?_
 refine z3 1 ⟨[(0, (.row (.top 1000000) 3)), (1, (vI a)), (2, (vI b)), (3, (vI pivot)), (4, (.fn 112 []))], [(1000000, .row 3 [] (List.map cI h0))]⟩ (by kernel_rfl) ?_
 refine sem_seq (by kernel_rfl) ?_
 refine sem_drawN [(13, [1000000])] [] [] [(2, [1000000]), (3, [1000000])] [] 14 (by kernel_rfl) (by kernel_rfl) (by kernel_rfl) ?_
 refine evd_run 6 (by kernel_rfl) ?_
 obtain ⟨x9, hx9, h⟩ := bindS h
 refine evd_val (by kernel_rfl) (st_idxO (c := cI) (l := h0) (i := pivot) (kd := .i64) (kk := (.top 1000000)) (e := 3) (sz := 1) (by kernel_rfl) (by kernel_rfl) hx9 rfl) (by kernel_rfl) (by kernel_rfl) ?_
 refine evd_val (by kernel_rfl) (st_ldO (c := cI) (l := h0) (i := (Int.toNat pivot)) (v := (vI x9)) (agg := false) (sz := 1) (kk := (.top 1000000)) (e := 3) (off := 0) (J := []) (by kernel_rfl) (by kernel_rfl) (by kernel_rfl) ((idxS hx9).2) (by kernel_rfl)) (by kernel_rfl) (by kernel_rfl) ?_
 refine evd_run 2 (by kernel_rfl) ?_
 obtain ⟨x10, hx10, h⟩ := bindS h
 refine evd_val (by kernel_rfl) (st_idxO (c := cI) (l := h0) (i := a) (kd := .i64) (kk := (.top 1000000)) (e := 3) (sz := 1) (by kernel_rfl) (by kernel_rfl) hx10 rfl) (by kernel_rfl) (by kernel_rfl) ?_
 refine evd_val (by kernel_rfl) (st_ldO (c := cI) (l := h0) (i := (Int.toNat a)) (v := (vI x10)) (agg := false) (sz := 1) (kk := (.top 1000000)) (e := 3) (off := 0) (J := []) (by kernel_rfl) (by kernel_rfl) (by kernel_rfl) ((idxS hx10).2) (by kernel_rfl)) (by kernel_rfl) (by kernel_rfl) ?_
 obtain ⟨x11, hx11, h⟩ := bindS h
 refine evd_val (by kernel_rfl) (st_idxO (c := cI) (l := h0) (i := a) (kd := .i64) (kk := (.top 1000000)) (e := 3) (sz := 1) (by kernel_rfl) (by kernel_rfl) hx11 rfl) (by kernel_rfl) (by kernel_rfl) ?_
 refine evd_set (by kernel_rfl) (st_stO (c := cI) (l := h0) (i := (Int.toNat a)) (x := x11) (x' := x9) (v := (vI x9)) (agg := false) (sz := 1) (kk := (.top 1000000)) (e := 3) (off := 0) (J := []) (o := .row 3 [] (List.map cI (List.set h0 (Int.toNat a) x9))) (by kernel_rfl) (by kernel_rfl) (by kernel_rfl) ((idxS hx11).2) (by kernel_rfl) (by kernel_rfl) (by kernel_rfl)) (by kernel_rfl) (by kernel_rfl) (by kernel_rfl) ?_
 refine evd_end (by kernel_rfl) ?_
 obtain ⟨x12, hx12, h⟩ := bindS h
 refine evo_op (st_idxO (c := cI) (l := (List.set h0 (Int.toNat a) x9)) (i := pivot) (kd := .i64) (kk := (.top 1000000)) (e := 3) (sz := 1) (by kernel_rfl) (by kernel_rfl) hx12 rfl) ?_
 refine evo_op (st_stO (c := cI) (l := (List.set h0 (Int.toNat a) x9)) (i := (Int.toNat pivot)) (x := x12) (x' := x10) (v := (vI x10)) (agg := false) (sz := 1) (kk := (.top 1000000)) (e := 3) (off := 0) (J := []) (o := .row 3 [] (List.map cI (List.set (List.set h0 (Int.toNat a) x9) (Int.toNat pivot) x10))) (by kernel_rfl) (by kernel_rfl) (by kernel_rfl) ((idxS hx12).2) (by kernel_rfl) (by kernel_rfl) (by kernel_rfl)) ?_
 refine evo_endS (by kernel_rfl) (fun τ hτ => ?_)
 refine th_normalS hτ ⟨[(0, (.row (.top 1000000) 3)), (1, (vI a)), (2, (vI b)), (4, (.fn 112 []))], [(1000000, .row 3 [] (List.map cI (List.set (List.set h0 (Int.toNat a) x9) (Int.toNat pivot) x10)))]⟩ (here (by kernel_rfl)) ?_
 refine z3 6 ⟨[(0, (.row (.top 1000000) 3)), (1, (vI a)), (4, (.fn 112 [])), (11, (vI (iadd a 1))), (12, (vI (isub b 1)))], [(1000000, .row 3 [] (List.map cI (List.set (List.set h0 (Int.toNat a) x9) (Int.toNat pivot) x10)))]⟩ (by kernel_rfl) ?_
 refine sem_seq (by kernel_rfl) ?_
 refine sem_block (by kernel_rfl) ?_
 obtain ⟨x1602, hx1602, h⟩ := bindS h
 refine sem_loopS (fun (s1073 : Int × Int × (List Int)) => ⟨[(0, (.row (.top 1000000) 3)), (1, (vI a)), (4, (.fn 112 [])), (11, (vI s1073.1)), (12, (vI s1073.2.1))], [(1000000, .row 3 [] (List.map cI s1073.2.2))]⟩) (fun (x1602 : Int × (List Int)) => (.exit 0, ⟨[(11, (vI x1602.1))], [(1000000, .row 3 [] (List.map cI x1602.2))]⟩)) (slices_partitionEqualCmpFunc_int__cmp_Compare_int_l3 a) ((iadd a 1), (isub b 1), (List.set (List.set h0 (Int.toNat a) x9) (Int.toNat pivot) x10)) x1602 (by kernel_rfl) (here (by kernel_rfl)) hx1602 ?_ ?_ ?_
 ·intro s1073 r h
  refine sem_block (by kernel_rfl) ?_
  refine sem_seq (by kernel_rfl) ?_
  refine sem_block (by kernel_rfl) ?_
  obtain ⟨x1463, hx1463, h⟩ := bindS h
  refine sem_loopS (fun (s1422 : Int) => ⟨[(0, (.row (.top 1000000) 3)), (1, (vI a)), (4, (.fn 112 [])), (11, (vI s1422)), (12, (vI s1073.2.1))], [(1000000, .row 3 [] (List.map cI s1073.2.2))]⟩) (fun (x1463 : Int) => (.exit 2, ⟨[(0, (.row (.top 1000000) 3)), (1, (vI a)), (4, (.fn 112 [])), (11, (vI x1463)), (12, (vI s1073.2.1))], [(1000000, .row 3 [] (List.map cI s1073.2.2))]⟩)) (slices_partitionEqualCmpFunc_int__cmp_Compare_int_l1 a s1073) s1073.1 x1463 (by kernel_rfl) (here (by kernel_rfl)) hx1463 ?_ ?_ ?_
  ·intro s1422 r h
   refine sem_seq (by kernel_rfl) ?_
   refine sem_seq (by kernel_rfl) ?_
   obtain ⟨j1459, hj1459, h⟩ := bindS h
   refine sem_drawP ⟨[(0, (.row (.top 1000000) 3)), (1, (vI a)), (4, (.fn 112 [])), (11, (vI s1422)), (12, (vI s1073.2.1)), (47, (vB j1459))], [(1000000, .row 3 [] (List.map cI s1073.2.2))]⟩ [] [] [] [] [] 13 (by kernel_rfl) (by kernel_rfl) (by kernel_rfl) ?_ (fun τ hτ => ?_)
   ·replace h := hj1459
    refine evd_run 4 (by kernel_rfl) ?_
    refine evd_split (decide (s1422 ≤ s1073.2.1)) (fun b0 => ⟨[(34, (vB b0)), (33, (vB b0)), (32, (vI s1073.2.1)), (31, (vI s1422)), (0, (.row (.top 1000000) 3)), (1, (vI a)), (4, (.fn 112 [])), (11, (vI s1422)), (12, (vI s1073.2.1))], [(1000000, .row 3 [] (List.map cI s1073.2.2))]⟩) (by kernel_rfl) (fun hb => ?_) (fun hb => ?_)
    ·replace h := iteT hb h
     refine evd_run 3 (by kernel_rfl) ?_
     obtain ⟨x1460, hx1460, h⟩ := bindS h
     refine evd_val (by kernel_rfl) (st_idxO (c := cI) (l := s1073.2.2) (i := a) (kd := .i64) (kk := (.top 1000000)) (e := 3) (sz := 1) (by kernel_rfl) (by kernel_rfl) hx1460 rfl) (by kernel_rfl) (by kernel_rfl) ?_
     refine evd_val (by kernel_rfl) (st_ldO (c := cI) (l := s1073.2.2) (i := (Int.toNat a)) (v := (vI x1460)) (agg := false) (sz := 1) (kk := (.top 1000000)) (e := 3) (off := 0) (J := []) (by kernel_rfl) (by kernel_rfl) (by kernel_rfl) ((idxS hx1460).2) (by kernel_rfl)) (by kernel_rfl) (by kernel_rfl) ?_
     refine evd_run 2 (by kernel_rfl) ?_
     obtain ⟨x1461, hx1461, h⟩ := bindS h
     refine evd_val (by kernel_rfl) (st_idxO (c := cI) (l := s1073.2.2) (i := s1422) (kd := .i64) (kk := (.top 1000000)) (e := 3) (sz := 1) (by kernel_rfl) (by kernel_rfl) hx1461 rfl) (by kernel_rfl) (by kernel_rfl) ?_
     refine evd_val (by kernel_rfl) (st_ldO (c := cI) (l := s1073.2.2) (i := (Int.toNat s1422)) (v := (vI x1461)) (agg := false) (sz := 1) (kk := (.top 1000000)) (e := 3) (off := 0) (J := []) (by kernel_rfl) (by kernel_rfl) (by kernel_rfl) ((idxS hx1461).2) (by kernel_rfl)) (by kernel_rfl) (by kernel_rfl) ?_
     refine evd_end (by kernel_rfl) ?_
     obtain ⟨r1462, hr1462, h⟩ := bindS h
     refine evo_callP [] (by kernel_rfl) (W.cmp_Compare_int_ok hr1462) (by kernel_rfl) (.inl rfl) (by kernel_rfl) ?_
     refine evo_run 3 (by kernel_rfl) ?_
     refine evo_endS (by kernel_rfl) (fun τ hτ => ?_)
     obtain rfl := Option.some.inj h
     exact leafC hτ (here (by kernel_rfl))
    ·replace h := iteF hb h
     refine evd_run 9 (by kernel_rfl) ?_
     refine evd_end (by kernel_rfl) ?_
     refine evo_run 4 (by kernel_rfl) ?_
     refine evo_endS (by kernel_rfl) (fun τ hτ => ?_)
     obtain rfl := Option.some.inj h
     exact leafC hτ (here (by kernel_rfl))
   refine th_normalS hτ ⟨[(0, (.row (.top 1000000) 3)), (1, (vI a)), (4, (.fn 112 [])), (11, (vI s1422)), (12, (vI s1073.2.1)), (47, (vB j1459))], [(1000000, .row 3 [] (List.map cI s1073.2.2))]⟩ (here (by kernel_rfl)) ?_
   refine sem_cond j1459 (by kernel_rfl) (by kernel_rfl) (fun hb => ?_) (fun hb => ?_)
   ·replace h := iteT hb h
    refine z4 ⟨[(0, (.row (.top 1000000) 3)), (1, (vI a)), (4, (.fn 112 [])), (11, (vI s1422)), (12, (vI s1073.2.1))], [(1000000, .row 3 [] (List.map cI s1073.2.2))]⟩ (by kernel_rfl) ?_
    refine sem_block (by kernel_rfl) ?_
    refine sem_region (by kernel_rfl) ?_
    refine z6 3 (by kernel_rfl) (fun τ hτ => ?_)
    refine bl_normal ?_
    obtain rfl := Option.some.inj h
    exact lk_nextS hτ (here (by kernel_rfl))
   ·replace h := iteF hb h
    refine sem_exitS 2 (by kernel_rfl) rfl (fun τ hτ => ?_)
    refine th_exit ?_
    obtain rfl := Option.some.inj h
    exact lk_outS hτ rfl (here (by kernel_rfl))
  ·intro x
   rfl
  ·intro τ hτ
   refine bl_hit (by kernel_rfl) ?_
   refine th_normalS hτ ⟨[(0, (.row (.top 1000000) 3)), (1, (vI a)), (4, (.fn 112 [])), (11, (vI x1463)), (12, (vI s1073.2.1))], [(1000000, .row 3 [] (List.map cI s1073.2.2))]⟩ (here (by kernel_rfl)) ?_
   refine sem_seq (by kernel_rfl) ?_
   refine sem_block (by kernel_rfl) ?_
   obtain ⟨x1589, hx1589, h⟩ := bindS h
   refine sem_loopS (fun (s1548 : Int) => ⟨[(0, (.row (.top 1000000) 3)), (1, (vI a)), (4, (.fn 112 [])), (11, (vI x1463)), (12, (vI s1548))], [(1000000, .row 3 [] (List.map cI s1073.2.2))]⟩) (fun (x1589 : Int) => (.exit 4, ⟨[(0, (.row (.top 1000000) 3)), (1, (vI a)), (4, (.fn 112 [])), (11, (vI x1463)), (12, (vI x1589))], [(1000000, .row 3 [] (List.map cI s1073.2.2))]⟩)) (slices_partitionEqualCmpFunc_int__cmp_Compare_int_l2 a s1073 x1463) s1073.2.1 x1589 (by kernel_rfl) (here (by kernel_rfl)) hx1589 ?_ ?_ ?_
   ·intro s1548 r h
    refine sem_seq (by kernel_rfl) ?_
    refine sem_seq (by kernel_rfl) ?_
    obtain ⟨j1585, hj1585, h⟩ := bindS h
    refine sem_drawP ⟨[(0, (.row (.top 1000000) 3)), (1, (vI a)), (4, (.fn 112 [])), (11, (vI x1463)), (12, (vI s1548)), (65, (vB j1585))], [(1000000, .row 3 [] (List.map cI s1073.2.2))]⟩ [] [] [] [] [] 13 (by kernel_rfl) (by kernel_rfl) (by kernel_rfl) ?_ (fun τ hτ => ?_)
    ·replace h := hj1585
     refine evd_run 4 (by kernel_rfl) ?_
     refine evd_split (decide (x1463 ≤ s1548)) (fun b0 => ⟨[(53, (vB b0)), (52, (vB b0)), (51, (vI s1548)), (50, (vI x1463)), (0, (.row (.top 1000000) 3)), (1, (vI a)), (4, (.fn 112 [])), (11, (vI x1463)), (12, (vI s1548))], [(1000000, .row 3 [] (List.map cI s1073.2.2))]⟩) (by kernel_rfl) (fun hb => ?_) (fun hb => ?_)
     ·replace h := iteT hb h
      refine evd_run 3 (by kernel_rfl) ?_
      obtain ⟨x1586, hx1586, h⟩ := bindS h
      refine evd_val (by kernel_rfl) (st_idxO (c := cI) (l := s1073.2.2) (i := a) (kd := .i64) (kk := (.top 1000000)) (e := 3) (sz := 1) (by kernel_rfl) (by kernel_rfl) hx1586 rfl) (by kernel_rfl) (by kernel_rfl) ?_
      refine evd_val (by kernel_rfl) (st_ldO (c := cI) (l := s1073.2.2) (i := (Int.toNat a)) (v := (vI x1586)) (agg := false) (sz := 1) (kk := (.top 1000000)) (e := 3) (off := 0) (J := []) (by kernel_rfl) (by kernel_rfl) (by kernel_rfl) ((idxS hx1586).2) (by kernel_rfl)) (by kernel_rfl) (by kernel_rfl) ?_
      refine evd_run 2 (by kernel_rfl) ?_
      obtain ⟨x1587, hx1587, h⟩ := bindS h
      refine evd_val (by kernel_rfl) (st_idxO (c := cI) (l := s1073.2.2) (i := s1548) (kd := .i64) (kk := (.top 1000000)) (e := 3) (sz := 1) (by kernel_rfl) (by kernel_rfl) hx1587 rfl) (by kernel_rfl) (by kernel_rfl) ?_
      refine evd_val (by kernel_rfl) (st_ldO (c := cI) (l := s1073.2.2) (i := (Int.toNat s1548)) (v := (vI x1587)) (agg := false) (sz := 1) (kk := (.top 1000000)) (e := 3) (off := 0) (J := []) (by kernel_rfl) (by kernel_rfl) (by kernel_rfl) ((idxS hx1587).2) (by kernel_rfl)) (by kernel_rfl) (by kernel_rfl) ?_
      refine evd_end (by kernel_rfl) ?_
      obtain ⟨r1588, hr1588, h⟩ := bindS h
      refine evo_callP [] (by kernel_rfl) (W.cmp_Compare_int_ok hr1588) (by kernel_rfl) (.inl rfl) (by kernel_rfl) ?_
      refine evo_run 2 (by kernel_rfl) ?_
      refine evo_endS (by kernel_rfl) (fun τ hτ => ?_)
      obtain rfl := Option.some.inj h
      exact leafC hτ (here (by kernel_rfl))
     ·replace h := iteF hb h
      refine evd_run 9 (by kernel_rfl) ?_
      refine evd_end (by kernel_rfl) ?_
      refine evo_run 3 (by kernel_rfl) ?_
      refine evo_endS (by kernel_rfl) (fun τ hτ => ?_)
      obtain rfl := Option.some.inj h
      exact leafC hτ (here (by kernel_rfl))
    refine th_normalS hτ ⟨[(0, (.row (.top 1000000) 3)), (1, (vI a)), (4, (.fn 112 [])), (11, (vI x1463)), (12, (vI s1548)), (65, (vB j1585))], [(1000000, .row 3 [] (List.map cI s1073.2.2))]⟩ (here (by kernel_rfl)) ?_
    refine sem_cond j1585 (by kernel_rfl) (by kernel_rfl) (fun hb => ?_) (fun hb => ?_)
    ·replace h := iteT hb h
     refine z4 ⟨[(0, (.row (.top 1000000) 3)), (1, (vI a)), (4, (.fn 112 [])), (11, (vI x1463)), (12, (vI s1548))], [(1000000, .row 3 [] (List.map cI s1073.2.2))]⟩ (by kernel_rfl) ?_
     refine sem_block (by kernel_rfl) ?_
     refine sem_region (by kernel_rfl) ?_
     refine z6 3 (by kernel_rfl) (fun τ hτ => ?_)
     refine bl_normal ?_
     obtain rfl := Option.some.inj h
     exact lk_nextS hτ (here (by kernel_rfl))
    ·replace h := iteF hb h
     refine sem_exitS 4 (by kernel_rfl) rfl (fun τ hτ => ?_)
     refine th_exit ?_
     obtain rfl := Option.some.inj h
     exact lk_outS hτ rfl (here (by kernel_rfl))
   ·intro x
    rfl
   ·intro τ hτ
    refine bl_hit (by kernel_rfl) ?_
    refine th_normalS hτ ⟨[(0, (.row (.top 1000000) 3)), (1, (vI a)), (4, (.fn 112 [])), (11, (vI x1463)), (12, (vI x1589))], [(1000000, .row 3 [] (List.map cI s1073.2.2))]⟩ (here (by kernel_rfl)) ?_
    refine sem_seq (by kernel_rfl) ?_
    refine z3 3 ⟨[(0, (.row (.top 1000000) 3)), (1, (vI a)), (4, (.fn 112 [])), (11, (vI x1463)), (12, (vI x1589)), (70, (vB (decide (x1463 > x1589))))], [(1000000, .row 3 [] (List.map cI s1073.2.2))]⟩ (by kernel_rfl) ?_
    refine sem_cond (decide (x1463 > x1589)) (by kernel_rfl) (by kernel_rfl) (fun hb => ?_) (fun hb => ?_)
    ·replace h := iteT hb h
     refine sem_exitS 0 (by kernel_rfl) rfl (fun τ hτ => ?_)
     refine th_exit ?_
     refine bl_miss (by kernel_rfl) ?_
     obtain rfl := Option.some.inj h
     exact lk_outS hτ rfl (here (by kernel_rfl))
    ·replace h := iteF hb h
     refine z4 ⟨[(0, (.row (.top 1000000) 3)), (1, (vI a)), (4, (.fn 112 [])), (11, (vI x1463)), (12, (vI x1589))], [(1000000, .row 3 [] (List.map cI s1073.2.2))]⟩ (by kernel_rfl) ?_
     refine sem_seq (by kernel_rfl) ?_
     refine sem_drawN [(13, [1000000])] [] [] [(2, [1000000]), (3, [1000000])] [] 14 (by kernel_rfl) (by kernel_rfl) (by kernel_rfl) ?_
     refine evd_run 6 (by kernel_rfl) ?_
     obtain ⟨x1598, hx1598, h⟩ := bindS h
     refine evd_val (by kernel_rfl) (st_idxO (c := cI) (l := s1073.2.2) (i := x1589) (kd := .i64) (kk := (.top 1000000)) (e := 3) (sz := 1) (by kernel_rfl) (by kernel_rfl) hx1598 rfl) (by kernel_rfl) (by kernel_rfl) ?_
     refine evd_val (by kernel_rfl) (st_ldO (c := cI) (l := s1073.2.2) (i := (Int.toNat x1589)) (v := (vI x1598)) (agg := false) (sz := 1) (kk := (.top 1000000)) (e := 3) (off := 0) (J := []) (by kernel_rfl) (by kernel_rfl) (by kernel_rfl) ((idxS hx1598).2) (by kernel_rfl)) (by kernel_rfl) (by kernel_rfl) ?_
     refine evd_run 2 (by kernel_rfl) ?_
     obtain ⟨x1599, hx1599, h⟩ := bindS h
     refine evd_val (by kernel_rfl) (st_idxO (c := cI) (l := s1073.2.2) (i := x1463) (kd := .i64) (kk := (.top 1000000)) (e := 3) (sz := 1) (by kernel_rfl) (by kernel_rfl) hx1599 rfl) (by kernel_rfl) (by kernel_rfl) ?_
     refine evd_val (by kernel_rfl) (st_ldO (c := cI) (l := s1073.2.2) (i := (Int.toNat x1463)) (v := (vI x1599)) (agg := false) (sz := 1) (kk := (.top 1000000)) (e := 3) (off := 0) (J := []) (by kernel_rfl) (by kernel_rfl) (by kernel_rfl) ((idxS hx1599).2) (by kernel_rfl)) (by kernel_rfl) (by kernel_rfl) ?_
     obtain ⟨x1600, hx1600, h⟩ := bindS h
     refine evd_val (by kernel_rfl) (st_idxO (c := cI) (l := s1073.2.2) (i := x1463) (kd := .i64) (kk := (.top 1000000)) (e := 3) (sz := 1) (by kernel_rfl) (by kernel_rfl) hx1600 rfl) (by kernel_rfl) (by kernel_rfl) ?_
     refine evd_set (by kernel_rfl) (st_stO (c := cI) (l := s1073.2.2) (i := (Int.toNat x1463)) (x := x1600) (x' := x1598) (v := (vI x1598)) (agg := false) (sz := 1) (kk := (.top 1000000)) (e := 3) (off := 0) (J := []) (o := .row 3 [] (List.map cI (List.set s1073.2.2 (Int.toNat x1463) x1598))) (by kernel_rfl) (by kernel_rfl) (by kernel_rfl) ((idxS hx1600).2) (by kernel_rfl) (by kernel_rfl) (by kernel_rfl)) (by kernel_rfl) (by kernel_rfl) (by kernel_rfl) ?_
     refine evd_end (by kernel_rfl) ?_
     obtain ⟨x1601, hx1601, h⟩ := bindS h
     refine evo_op (st_idxO (c := cI) (l := (List.set s1073.2.2 (Int.toNat x1463) x1598)) (i := x1589) (kd := .i64) (kk := (.top 1000000)) (e := 3) (sz := 1) (by kernel_rfl) (by kernel_rfl) hx1601 rfl) ?_
     refine evo_op (st_stO (c := cI) (l := (List.set s1073.2.2 (Int.toNat x1463) x1598)) (i := (Int.toNat x1589)) (x := x1601) (x' := x1599) (v := (vI x1599)) (agg := false) (sz := 1) (kk := (.top 1000000)) (e := 3) (off := 0) (J := []) (o := .row 3 [] (List.map cI (List.set (List.set s1073.2.2 (Int.toNat x1463) x1598) (Int.toNat x1589) x1599))) (by kernel_rfl) (by kernel_rfl) (by kernel_rfl) ((idxS hx1601).2) (by kernel_rfl) (by kernel_rfl) (by kernel_rfl)) ?_
     refine evo_endS (by kernel_rfl) (fun τ hτ => ?_)
     refine th_normalS hτ ⟨[(0, (.row (.top 1000000) 3)), (1, (vI a)), (4, (.fn 112 [])), (11, (vI x1463)), (12, (vI x1589))], [(1000000, .row 3 [] (List.map cI (List.set (List.set s1073.2.2 (Int.toNat x1463) x1598) (Int.toNat x1589) x1599)))]⟩ (here (by kernel_rfl)) ?_
     refine z3 3 ⟨[(0, (.row (.top 1000000) 3)), (1, (vI a)), (4, (.fn 112 [])), (11, (vI (iadd x1463 1))), (12, (vI x1589))], [(1000000, .row 3 [] (List.map cI (List.set (List.set s1073.2.2 (Int.toNat x1463) x1598) (Int.toNat x1589) x1599)))]⟩ (by kernel_rfl) ?_
     refine sem_region (by kernel_rfl) ?_
     refine z6 3 (by kernel_rfl) (fun τ hτ => ?_)
     refine bl_normal ?_
     obtain rfl := Option.some.inj h
     exact lk_nextS hτ (here (by kernel_rfl))
 ·intro x
  rfl
 ·intro τ hτ
  refine bl_hit (by kernel_rfl) ?_
  refine th_normalS hτ ⟨[(11, (vI x1602.1))], [(1000000, .row 3 [] (List.map cI x1602.2))]⟩ (here (by kernel_rfl)) ?_
  refine z8 2 ⟨[(10, (vI x1602.1))], [(1000000, .row 3 [] (List.map cI x1602.2))]⟩ (by kernel_rfl) (fun τ hτ => ?_)
  obtain rfl := Option.some.inj h
  exact rk_ret hτ [(10, (vI x1602.1))] (here (by kernel_rfl)) (by kernel_rfl)
theorem W.slices_partitionCmpFunc_int__cmp_Compare_int_ok {a : Int} {b : Int} {pivot : Int} {h0 : (List Int)} {r : Int × Bool × (List Int)} (h : slices_partitionCmpFunc_int__cmp_Compare_int a b pivot h0 = some r) : PC G.P 143 [(.row (.top 1000000) 3), (vI a), (vI b), (vI pivot), (.fn 112 [])] [(1000000, .row 3 [] (List.map cI h0))] (.tup [(vI r.1), (vB r.2.1)]) [(1000000, .row 3 [] (List.map cI r.2.2))] := by
 refine pc_of G (fn := Try.f143) Try.func143 (by kernel_rfl) (by kernel_rfl) (by kernel_rfl) (by kernel_rfl) (by kernel_rfl) ?_
 refine sem_set ⟨[(0, (.row (.top 1000000) 3)), (1, (vI a)), (2, (vI b)), (3, (vI pivot)), (4, (.fn 112 []))], [(1000000, .row 3 [] (List.map cI h0))]⟩ (by kernel_rfl) ?_
 refine z3 2 ⟨[(0, (.row (.top 1000000) 3)), (1, (vI a)), (2, (vI b)), (3, (vI pivot)), (4, (.fn 112 []))], [(1000000, .row 3 [] (List.map cI h0))]⟩ (by kernel_rfl) ?_
 refine sem_seq (by kernel_rfl) ?_
 refine sem_drawN [(13, [1000000])] [] [] [(2, [1000000]), (3, [1000000])] [] 14 (by kernel_rfl) (by kernel_rfl) (by kernel_rfl) ?_
 refine evd_run 6 (by kernel_rfl) ?_
 obtain ⟨x9, hx9, h⟩ := bindS h
 refine evd_val (by kernel_rfl) (st_idxO (c := cI) (l := h0) (i := pivot) (kd := .i64) (kk := (.top 1000000)) (e := 3) (sz := 1) (by kernel_rfl) (by kernel_rfl) hx9 rfl) (by kernel_rfl) (by kernel_rfl) ?_
 refine evd_val (by kernel_rfl) (st_ldO (c := cI) (l := h0) (i := (Int.toNat pivot)) (v := (vI x9)) (agg := false) (sz := 1) (kk := (.top 1000000)) (e := 3) (off := 0) (J := []) (by kernel_rfl) (by kernel_rfl) (by kernel_rfl) ((idxS hx9).2) (by kernel_rfl)) (by kernel_rfl) (by kernel_rfl) ?_
 refine evd_run 2 (by kernel_rfl) ?_
 obtain ⟨x10, hx10, h⟩ := bindS h
 refine evd_val (by kernel_rfl) (st_idxO (c := cI) (l := h0) (i := a) (kd := .i64) (kk := (.top 1000000)) (e := 3) (sz := 1) (by kernel_rfl) (by kernel_rfl) hx10 rfl) (by kernel_rfl) (by kernel_rfl) ?_
 refine evd_val (by kernel_rfl) (st_ldO (c := cI) (l := h0) (i := (Int.toNat a)) (v := (vI x10)) (agg := false) (sz := 1) (kk := (.top 1000000)) (e := 3) (off := 0) (J := []) (by kernel_rfl) (by kernel_rfl) (by kernel_rfl) ((idxS hx10).2) (by kernel_rfl)) (by kernel_rfl) (by kernel_rfl) ?_
 obtain ⟨x11, hx11, h⟩ := bindS h
 refine evd_val (by kernel_rfl) (st_idxO (c := cI) (l := h0) (i := a) (kd := .i64) (kk := (.top 1000000)) (e := 3) (sz := 1) (by kernel_rfl) (by kernel_rfl) hx11 rfl) (by kernel_rfl) (by kernel_rfl) ?_
 refine evd_set (by kernel_rfl) (st_stO (c := cI) (l := h0) (i := (Int.toNat a)) (x := x11) (x' := x9) (v := (vI x9)) (agg := false) (sz := 1) (kk := (.top 1000000)) (e := 3) (off := 0) (J := []) (o := .row 3 [] (List.map cI (List.set h0 (Int.toNat a) x9))) (by kernel_rfl) (by kernel_rfl) (by kernel_rfl) ((idxS hx11).2) (by kernel_rfl) (by kernel_rfl) (by kernel_rfl)) (by kernel_rfl) (by kernel_rfl) (by kernel_rfl) ?_
 refine evd_end (by kernel_rfl) ?_
 obtain ⟨x12, hx12, h⟩ := bindS h
 refine evo_op (st_idxO (c := cI) (l := (List.set h0 (Int.toNat a) x9)) (i := pivot) (kd := .i64) (kk := (.top 1000000)) (e := 3) (sz := 1) (by kernel_rfl) (by kernel_rfl) hx12 rfl) ?_
 refine evo_op (st_stO (c := cI) (l := (List.set h0 (Int.toNat a) x9)) (i := (Int.toNat pivot)) (x := x12) (x' := x10) (v := (vI x10)) (agg := false) (sz := 1) (kk := (.top 1000000)) (e := 3) (off := 0) (J := []) (o := .row 3 [] (List.map cI (List.set (List.set h0 (Int.toNat a) x9) (Int.toNat pivot) x10))) (by kernel_rfl) (by kernel_rfl) (by kernel_rfl) ((idxS hx12).2) (by kernel_rfl) (by kernel_rfl) (by kernel_rfl)) ?_
 refine evo_endS (by kernel_rfl) (fun τ hτ => ?_)
 refine th_normalS hτ ⟨[(0, (.row (.top 1000000) 3)), (1, (vI a)), (2, (vI b)), (4, (.fn 112 []))], [(1000000, .row 3 [] (List.map cI (List.set (List.set h0 (Int.toNat a) x9) (Int.toNat pivot) x10)))]⟩ (here (by kernel_rfl)) ?_
 refine z3 6 ⟨[(0, (.row (.top 1000000) 3)), (1, (vI a)), (4, (.fn 112 [])), (12, (vI (iadd a 1))), (13, (vI (isub b 1)))], [(1000000, .row 3 [] (List.map cI (List.set (List.set h0 (Int.toNat a) x9) (Int.toNat pivot) x10)))]⟩ (by kernel_rfl) ?_
 refine sem_seq (by kernel_rfl) ?_
 refine sem_block (by kernel_rfl) ?_
 obtain ⟨x138, hx138, h⟩ := bindS h
 refine sem_loopS (fun (s97 : Int) => ⟨[(0, (.row (.top 1000000) 3)), (1, (vI a)), (4, (.fn 112 [])), (12, (vI s97)), (13, (vI (isub b 1)))], [(1000000, .row 3 [] (List.map cI (List.set (List.set h0 (Int.toNat a) x9) (Int.toNat pivot) x10)))]⟩) (fun (x138 : Int) => (.exit 0, ⟨[(0, (.row (.top 1000000) 3)), (1, (vI a)), (4, (.fn 112 [])), (12, (vI x138)), (13, (vI (isub b 1)))], [(1000000, .row 3 [] (List.map cI (List.set (List.set h0 (Int.toNat a) x9) (Int.toNat pivot) x10)))]⟩)) (slices_partitionCmpFunc_int__cmp_Compare_int_l1 a b pivot h0 x9 x10) (iadd a 1) x138 (by kernel_rfl) (here (by kernel_rfl)) hx138 ?_ ?_ ?_
 ·intro s97 r h
  refine sem_seq (by kernel_rfl) ?_
  refine sem_seq (by kernel_rfl) ?_
  obtain ⟨j134, hj134, h⟩ := bindS h
  refine sem_drawP ⟨[(0, (.row (.top 1000000) 3)), (1, (vI a)), (4, (.fn 112 [])), (12, (vI s97)), (13, (vI (isub b 1))), (47, (vB j134))], [(1000000, .row 3 [] (List.map cI (List.set (List.set h0 (Int.toNat a) x9) (Int.toNat pivot) x10)))]⟩ [] [] [] [] [] 13 (by kernel_rfl) (by kernel_rfl) (by kernel_rfl) ?_ (fun τ hτ => ?_)
  ·replace h := hj134
   refine evd_run 4 (by kernel_rfl) ?_
   refine evd_split (decide (s97 ≤ (isub b 1))) (fun b0 => ⟨[(35, (vB b0)), (34, (vB b0)), (33, (vI (isub b 1))), (32, (vI s97)), (0, (.row (.top 1000000) 3)), (1, (vI a)), (4, (.fn 112 [])), (12, (vI s97)), (13, (vI (isub b 1)))], [(1000000, .row 3 [] (List.map cI (List.set (List.set h0 (Int.toNat a) x9) (Int.toNat pivot) x10)))]⟩) (by kernel_rfl) (fun hb => ?_) (fun hb => ?_)
   ·replace h := iteT hb h
    refine evd_run 3 (by kernel_rfl) ?_
    obtain ⟨x135, hx135, h⟩ := bindS h
    refine evd_val (by kernel_rfl) (st_idxO (c := cI) (l := (List.set (List.set h0 (Int.toNat a) x9) (Int.toNat pivot) x10)) (i := s97) (kd := .i64) (kk := (.top 1000000)) (e := 3) (sz := 1) (by kernel_rfl) (by kernel_rfl) hx135 rfl) (by kernel_rfl) (by kernel_rfl) ?_
    refine evd_val (by kernel_rfl) (st_ldO (c := cI) (l := (List.set (List.set h0 (Int.toNat a) x9) (Int.toNat pivot) x10)) (i := (Int.toNat s97)) (v := (vI x135)) (agg := false) (sz := 1) (kk := (.top 1000000)) (e := 3) (off := 0) (J := []) (by kernel_rfl) (by kernel_rfl) (by kernel_rfl) ((idxS hx135).2) (by kernel_rfl)) (by kernel_rfl) (by kernel_rfl) ?_
    refine evd_run 2 (by kernel_rfl) ?_
    obtain ⟨x136, hx136, h⟩ := bindS h
    refine evd_val (by kernel_rfl) (st_idxO (c := cI) (l := (List.set (List.set h0 (Int.toNat a) x9) (Int.toNat pivot) x10)) (i := a) (kd := .i64) (kk := (.top 1000000)) (e := 3) (sz := 1) (by kernel_rfl) (by kernel_rfl) hx136 rfl) (by kernel_rfl) (by kernel_rfl) ?_
    refine evd_val (by kernel_rfl) (st_ldO (c := cI) (l := (List.set (List.set h0 (Int.toNat a) x9) (Int.toNat pivot) x10)) (i := (Int.toNat a)) (v := (vI x136)) (agg := false) (sz := 1) (kk := (.top 1000000)) (e := 3) (off := 0) (J := []) (by kernel_rfl) (by kernel_rfl) (by kernel_rfl) ((idxS hx136).2) (by kernel_rfl)) (by kernel_rfl) (by kernel_rfl) ?_
    refine evd_end (by kernel_rfl) ?_
    obtain ⟨r137, hr137, h⟩ := bindS h
    refine evo_callP [] (by kernel_rfl) (W.cmp_Compare_int_ok hr137) (by kernel_rfl) (.inl rfl) (by kernel_rfl) ?_
    refine evo_run 2 (by kernel_rfl) ?_
    refine evo_endS (by kernel_rfl) (fun τ hτ => ?_)
    obtain rfl := Option.some.inj h
    exact leafC hτ (here (by kernel_rfl))
   ·replace h := iteF hb h
    refine evd_run 9 (by kernel_rfl) ?_
    refine evd_end (by kernel_rfl) ?_
    refine evo_run 3 (by kernel_rfl) ?_
    refine evo_endS (by kernel_rfl) (fun τ hτ => ?_)
    obtain rfl := Option.some.inj h
    exact leafC hτ (here (by kernel_rfl))
  refine th_normalS hτ ⟨[(0, (.row (.top 1000000) 3)), (1, (vI a)), (4, (.fn 112 [])), (12, (vI s97)), (13, (vI (isub b 1))), (47, (vB j134))], [(1000000, .row 3 [] (List.map cI (List.set (List.set h0 (Int.toNat a) x9) (Int.toNat pivot) x10)))]⟩ (here (by kernel_rfl)) ?_
  refine sem_cond j134 (by kernel_rfl) (by kernel_rfl) (fun hb => ?_) (fun hb => ?_)
  ·replace h := iteT hb h
   refine z4 ⟨[(0, (.row (.top 1000000) 3)), (1, (vI a)), (4, (.fn 112 [])), (12, (vI s97)), (13, (vI (isub b 1)))], [(1000000, .row 3 [] (List.map cI (List.set (List.set h0 (Int.toNat a) x9) (Int.toNat pivot) x10)))]⟩ (by kernel_rfl) ?_
   refine sem_block (by kernel_rfl) ?_
   refine sem_region (by kernel_rfl) ?_
   refine z6 3 (by kernel_rfl) (fun τ hτ => ?_)
   refine bl_normal ?_
   obtain rfl := Option.some.inj h
   exact lk_nextS hτ (here (by kernel_rfl))
  ·replace h := iteF hb h
   refine sem_exitS 0 (by kernel_rfl) rfl (fun τ hτ => ?_)
   refine th_exit ?_
   obtain rfl := Option.some.inj h
   exact lk_outS hτ rfl (here (by kernel_rfl))
 ·intro x
  rfl
 ·intro τ hτ
  refine bl_hit (by kernel_rfl) ?_
  refine th_normalS hτ ⟨[(0, (.row (.top 1000000) 3)), (1, (vI a)), (4, (.fn 112 [])), (12, (vI x138)), (13, (vI (isub b 1)))], [(1000000, .row 3 [] (List.map cI (List.set (List.set h0 (Int.toNat a) x9) (Int.toNat pivot) x10)))]⟩ (here (by kernel_rfl)) ?_
  refine sem_seq (by kernel_rfl) ?_
  refine sem_block (by kernel_rfl) ?_
  obtain ⟨x264, hx264, h⟩ := bindS h
  refine sem_loopS (fun (s223 : Int) => ⟨[(0, (.row (.top 1000000) 3)), (1, (vI a)), (4, (.fn 112 [])), (12, (vI x138)), (13, (vI s223))], [(1000000, .row 3 [] (List.map cI (List.set (List.set h0 (Int.toNat a) x9) (Int.toNat pivot) x10)))]⟩) (fun (x264 : Int) => (.exit 2, ⟨[(0, (.row (.top 1000000) 3)), (1, (vI a)), (4, (.fn 112 [])), (12, (vI x138)), (13, (vI x264))], [(1000000, .row 3 [] (List.map cI (List.set (List.set h0 (Int.toNat a) x9) (Int.toNat pivot) x10)))]⟩)) (slices_partitionCmpFunc_int__cmp_Compare_int_l2 a pivot h0 x9 x10 x138) (isub b 1) x264 (by kernel_rfl) (here (by kernel_rfl)) hx264 ?_ ?_ ?_
  ·intro s223 r h
   refine sem_seq (by kernel_rfl) ?_
   refine sem_seq (by kernel_rfl) ?_
   obtain ⟨j260, hj260, h⟩ := bindS h
   refine sem_drawP ⟨[(0, (.row (.top 1000000) 3)), (1, (vI a)), (4, (.fn 112 [])), (12, (vI x138)), (13, (vI s223)), (66, (vB j260))], [(1000000, .row 3 [] (List.map cI (List.set (List.set h0 (Int.toNat a) x9) (Int.toNat pivot) x10)))]⟩ [] [] [] [] [] 13 (by kernel_rfl) (by kernel_rfl) (by kernel_rfl) ?_ (fun τ hτ => ?_)
   ·replace h := hj260
    refine evd_run 4 (by kernel_rfl) ?_
    refine evd_split (decide (x138 ≤ s223)) (fun b0 => ⟨[(53, (vB b0)), (52, (vB b0)), (51, (vI s223)), (50, (vI x138)), (0, (.row (.top 1000000) 3)), (1, (vI a)), (4, (.fn 112 [])), (12, (vI x138)), (13, (vI s223))], [(1000000, .row 3 [] (List.map cI (List.set (List.set h0 (Int.toNat a) x9) (Int.toNat pivot) x10)))]⟩) (by kernel_rfl) (fun hb => ?_) (fun hb => ?_)
    ·replace h := iteT hb h
     refine evd_run 3 (by kernel_rfl) ?_
     obtain ⟨x261, hx261, h⟩ := bindS h
     refine evd_val (by kernel_rfl) (st_idxO (c := cI) (l := (List.set (List.set h0 (Int.toNat a) x9) (Int.toNat pivot) x10)) (i := s223) (kd := .i64) (kk := (.top 1000000)) (e := 3) (sz := 1) (by kernel_rfl) (by kernel_rfl) hx261 rfl) (by kernel_rfl) (by kernel_rfl) ?_
     refine evd_val (by kernel_rfl) (st_ldO (c := cI) (l := (List.set (List.set h0 (Int.toNat a) x9) (Int.toNat pivot) x10)) (i := (Int.toNat s223)) (v := (vI x261)) (agg := false) (sz := 1) (kk := (.top 1000000)) (e := 3) (off := 0) (J := []) (by kernel_rfl) (by kernel_rfl) (by kernel_rfl) ((idxS hx261).2) (by kernel_rfl)) (by kernel_rfl) (by kernel_rfl) ?_
     refine evd_run 2 (by kernel_rfl) ?_
     obtain ⟨x262, hx262, h⟩ := bindS h
     refine evd_val (by kernel_rfl) (st_idxO (c := cI) (l := (List.set (List.set h0 (Int.toNat a) x9) (Int.toNat pivot) x10)) (i := a) (kd := .i64) (kk := (.top 1000000)) (e := 3) (sz := 1) (by kernel_rfl) (by kernel_rfl) hx262 rfl) (by kernel_rfl) (by kernel_rfl) ?_
     refine evd_val (by kernel_rfl) (st_ldO (c := cI) (l := (List.set (List.set h0 (Int.toNat a) x9) (Int.toNat pivot) x10)) (i := (Int.toNat a)) (v := (vI x262)) (agg := false) (sz := 1) (kk := (.top 1000000)) (e := 3) (off := 0) (J := []) (by kernel_rfl) (by kernel_rfl) (by kernel_rfl) ((idxS hx262).2) (by kernel_rfl)) (by kernel_rfl) (by kernel_rfl) ?_
     refine evd_end (by kernel_rfl) ?_
     obtain ⟨r263, hr263, h⟩ := bindS h
     refine evo_callP [] (by kernel_rfl) (W.cmp_Compare_int_ok hr263) (by kernel_rfl) (.inl rfl) (by kernel_rfl) ?_
     refine evo_run 3 (by kernel_rfl) ?_
     refine evo_endS (by kernel_rfl) (fun τ hτ => ?_)
     obtain rfl := Option.some.inj h
     exact leafC hτ (here (by kernel_rfl))
    ·replace h := iteF hb h
     refine evd_run 9 (by kernel_rfl) ?_
     refine evd_end (by kernel_rfl) ?_
     refine evo_run 4 (by kernel_rfl) ?_
     refine evo_endS (by kernel_rfl) (fun τ hτ => ?_)
     obtain rfl := Option.some.inj h
     exact leafC hτ (here (by kernel_rfl))
   refine th_normalS hτ ⟨[(0, (.row (.top 1000000) 3)), (1, (vI a)), (4, (.fn 112 [])), (12, (vI x138)), (13, (vI s223)), (66, (vB j260))], [(1000000, .row 3 [] (List.map cI (List.set (List.set h0 (Int.toNat a) x9) (Int.toNat pivot) x10)))]⟩ (here (by kernel_rfl)) ?_
   refine sem_cond j260 (by kernel_rfl) (by kernel_rfl) (fun hb => ?_) (fun hb => ?_)
   ·replace h := iteT hb h
    refine z4 ⟨[(0, (.row (.top 1000000) 3)), (1, (vI a)), (4, (.fn 112 [])), (12, (vI x138)), (13, (vI s223))], [(1000000, .row 3 [] (List.map cI (List.set (List.set h0 (Int.toNat a) x9) (Int.toNat pivot) x10)))]⟩ (by kernel_rfl) ?_
    refine sem_block (by kernel_rfl) ?_
    refine sem_region (by kernel_rfl) ?_
    refine z6 3 (by kernel_rfl) (fun τ hτ => ?_)
    refine bl_normal ?_
    obtain rfl := Option.some.inj h
    exact lk_nextS hτ (here (by kernel_rfl))
   ·replace h := iteF hb h
    refine sem_exitS 2 (by kernel_rfl) rfl (fun τ hτ => ?_)
    refine th_exit ?_
    obtain rfl := Option.some.inj h
    exact lk_outS hτ rfl (here (by kernel_rfl))
  ·intro x
   rfl
  ·intro τ hτ
   refine bl_hit (by kernel_rfl) ?_
   refine th_normalS hτ ⟨[(0, (.row (.top 1000000) 3)), (1, (vI a)), (4, (.fn 112 [])), (12, (vI x138)), (13, (vI x264))], [(1000000, .row 3 [] (List.map cI (List.set (List.set h0 (Int.toNat a) x9) (Int.toNat pivot) x10)))]⟩ (here (by kernel_rfl)) ?_
   refine sem_seq (by kernel_rfl) ?_
   refine z3 3 ⟨[(0, (.row (.top 1000000) 3)), (1, (vI a)), (4, (.fn 112 [])), (12, (vI x138)), (13, (vI x264)), (71, (vB (decide (x138 > x264))))], [(1000000, .row 3 [] (List.map cI (List.set (List.set h0 (Int.toNat a) x9) (Int.toNat pivot) x10)))]⟩ (by kernel_rfl) ?_
   refine sem_cond (decide (x138 > x264)) (by kernel_rfl) (by kernel_rfl) (fun hb => ?_) (fun hb => ?_)
   ·replace h := iteT hb h
    refine sem_seq (by kernel_rfl) ?_
    refine sem_drawN [(13, [1000000])] [] [] [(2, [1000000]), (3, [1000000])] [] 14 (by kernel_rfl) (by kernel_rfl) (by kernel_rfl) ?_
    refine evd_run 6 (by kernel_rfl) ?_
    obtain ⟨x285, hx285, h⟩ := bindS h
    refine evd_val (by kernel_rfl) (st_idxO (c := cI) (l := (List.set (List.set h0 (Int.toNat a) x9) (Int.toNat pivot) x10)) (i := a) (kd := .i64) (kk := (.top 1000000)) (e := 3) (sz := 1) (by kernel_rfl) (by kernel_rfl) hx285 rfl) (by kernel_rfl) (by kernel_rfl) ?_
    refine evd_val (by kernel_rfl) (st_ldO (c := cI) (l := (List.set (List.set h0 (Int.toNat a) x9) (Int.toNat pivot) x10)) (i := (Int.toNat a)) (v := (vI x285)) (agg := false) (sz := 1) (kk := (.top 1000000)) (e := 3) (off := 0) (J := []) (by kernel_rfl) (by kernel_rfl) (by kernel_rfl) ((idxS hx285).2) (by kernel_rfl)) (by kernel_rfl) (by kernel_rfl) ?_
    refine evd_run 2 (by kernel_rfl) ?_
    obtain ⟨x286, hx286, h⟩ := bindS h
    refine evd_val (by kernel_rfl) (st_idxO (c := cI) (l := (List.set (List.set h0 (Int.toNat a) x9) (Int.toNat pivot) x10)) (i := x264) (kd := .i64) (kk := (.top 1000000)) (e := 3) (sz := 1) (by kernel_rfl) (by kernel_rfl) hx286 rfl) (by kernel_rfl) (by kernel_rfl) ?_
    refine evd_val (by kernel_rfl) (st_ldO (c := cI) (l := (List.set (List.set h0 (Int.toNat a) x9) (Int.toNat pivot) x10)) (i := (Int.toNat x264)) (v := (vI x286)) (agg := false) (sz := 1) (kk := (.top 1000000)) (e := 3) (off := 0) (J := []) (by kernel_rfl) (by kernel_rfl) (by kernel_rfl) ((idxS hx286).2) (by kernel_rfl)) (by kernel_rfl) (by kernel_rfl) ?_
    obtain ⟨x287, hx287, h⟩ := bindS h
    refine evd_val (by kernel_rfl) (st_idxO (c := cI) (l := (List.set (List.set h0 (Int.toNat a) x9) (Int.toNat pivot) x10)) (i := x264) (kd := .i64) (kk := (.top 1000000)) (e := 3) (sz := 1) (by kernel_rfl) (by kernel_rfl) hx287 rfl) (by kernel_rfl) (by kernel_rfl) ?_
    refine evd_set (by kernel_rfl) (st_stO (c := cI) (l := (List.set (List.set h0 (Int.toNat a) x9) (Int.toNat pivot) x10)) (i := (Int.toNat x264)) (x := x287) (x' := x285) (v := (vI x285)) (agg := false) (sz := 1) (kk := (.top 1000000)) (e := 3) (off := 0) (J := []) (o := .row 3 [] (List.map cI (List.set (List.set (List.set h0 (Int.toNat a) x9) (Int.toNat pivot) x10) (Int.toNat x264) x285))) (by kernel_rfl) (by kernel_rfl) (by kernel_rfl) ((idxS hx287).2) (by kernel_rfl) (by kernel_rfl) (by kernel_rfl)) (by kernel_rfl) (by kernel_rfl) (by kernel_rfl) ?_
    refine evd_end (by kernel_rfl) ?_
    obtain ⟨x288, hx288, h⟩ := bindS h
    refine evo_op (st_idxO (c := cI) (l := (List.set (List.set (List.set h0 (Int.toNat a) x9) (Int.toNat pivot) x10) (Int.toNat x264) x285)) (i := a) (kd := .i64) (kk := (.top 1000000)) (e := 3) (sz := 1) (by kernel_rfl) (by kernel_rfl) hx288 rfl) ?_
    refine evo_op (st_stO (c := cI) (l := (List.set (List.set (List.set h0 (Int.toNat a) x9) (Int.toNat pivot) x10) (Int.toNat x264) x285)) (i := (Int.toNat a)) (x := x288) (x' := x286) (v := (vI x286)) (agg := false) (sz := 1) (kk := (.top 1000000)) (e := 3) (off := 0) (J := []) (o := .row 3 [] (List.map cI (List.set (List.set (List.set (List.set h0 (Int.toNat a) x9) (Int.toNat pivot) x10) (Int.toNat x264) x285) (Int.toNat a) x286))) (by kernel_rfl) (by kernel_rfl) (by kernel_rfl) ((idxS hx288).2) (by kernel_rfl) (by kernel_rfl) (by kernel_rfl)) ?_
    refine evo_endS (by kernel_rfl) (fun τ hτ => ?_)
    refine th_normalS hτ ⟨[(13, (vI x264))], [(1000000, .row 3 [] (List.map cI (List.set (List.set (List.set (List.set h0 (Int.toNat a) x9) (Int.toNat pivot) x10) (Int.toNat x264) x285) (Int.toNat a) x286)))]⟩ (here (by kernel_rfl)) ?_
    refine z8 3 ⟨[(10, (vI x264)), (11, (vB true))], [(1000000, .row 3 [] (List.map cI (List.set (List.set (List.set (List.set h0 (Int.toNat a) x9) (Int.toNat pivot) x10) (Int.toNat x264) x285) (Int.toNat a) x286)))]⟩ (by kernel_rfl) (fun τ hτ => ?_)
    refine th_ret ?_
    obtain rfl := Option.some.inj h
    exact rk_ret hτ [(10, (vI x264)), (11, (vB true))] (here (by kernel_rfl)) (by kernel_rfl)
   ·replace h := iteF hb h
    refine z4 ⟨[(0, (.row (.top 1000000) 3)), (1, (vI a)), (4, (.fn 112 [])), (12, (vI x138)), (13, (vI x264))], [(1000000, .row 3 [] (List.map cI (List.set (List.set h0 (Int.toNat a) x9) (Int.toNat pivot) x10)))]⟩ (by kernel_rfl) ?_
    refine sem_seq (by kernel_rfl) ?_
    refine sem_drawN [(13, [1000000])] [] [] [(2, [1000000]), (3, [1000000])] [] 14 (by kernel_rfl) (by kernel_rfl) (by kernel_rfl) ?_
    refine evd_run 6 (by kernel_rfl) ?_
    obtain ⟨x297, hx297, h⟩ := bindS h
    refine evd_val (by kernel_rfl) (st_idxO (c := cI) (l := (List.set (List.set h0 (Int.toNat a) x9) (Int.toNat pivot) x10)) (i := x264) (kd := .i64) (kk := (.top 1000000)) (e := 3) (sz := 1) (by kernel_rfl) (by kernel_rfl) hx297 rfl) (by kernel_rfl) (by kernel_rfl) ?_
    refine evd_val (by kernel_rfl) (st_ldO (c := cI) (l := (List.set (List.set h0 (Int.toNat a) x9) (Int.toNat pivot) x10)) (i := (Int.toNat x264)) (v := (vI x297)) (agg := false) (sz := 1) (kk := (.top 1000000)) (e := 3) (off := 0) (J := []) (by kernel_rfl) (by kernel_rfl) (by kernel_rfl) ((idxS hx297).2) (by kernel_rfl)) (by kernel_rfl) (by kernel_rfl) ?_
    refine evd_run 2 (by kernel_rfl) ?_
    obtain ⟨x298, hx298, h⟩ := bindS h
    refine evd_val (by kernel_rfl) (st_idxO (c := cI) (l := (List.set (List.set h0 (Int.toNat a) x9) (Int.toNat pivot) x10)) (i := x138) (kd := .i64) (kk := (.top 1000000)) (e := 3) (sz := 1) (by kernel_rfl) (by kernel_rfl) hx298 rfl) (by kernel_rfl) (by kernel_rfl) ?_
    refine evd_val (by kernel_rfl) (st_ldO (c := cI) (l := (List.set (List.set h0 (Int.toNat a) x9) (Int.toNat pivot) x10)) (i := (Int.toNat x138)) (v := (vI x298)) (agg := false) (sz := 1) (kk := (.top 1000000)) (e := 3) (off := 0) (J := []) (by kernel_rfl) (by kernel_rfl) (by kernel_rfl) ((idxS hx298).2) (by kernel_rfl)) (by kernel_rfl) (by kernel_rfl) ?_
    obtain ⟨x299, hx299, h⟩ := bindS h
    refine evd_val (by kernel_rfl) (st_idxO (c := cI) (l := (List.set (List.set h0 (Int.toNat a) x9) (Int.toNat pivot) x10)) (i := x138) (kd := .i64) (kk := (.top 1000000)) (e := 3) (sz := 1) (by kernel_rfl) (by kernel_rfl) hx299 rfl) (by kernel_rfl) (by kernel_rfl) ?_
    refine evd_set (by kernel_rfl) (st_stO (c := cI) (l := (List.set (List.set h0 (Int.toNat a) x9) (Int.toNat pivot) x10)) (i := (Int.toNat x138)) (x := x299) (x' := x297) (v := (vI x297)) (agg := false) (sz := 1) (kk := (.top 1000000)) (e := 3) (off := 0) (J := []) (o := .row 3 [] (List.map cI (List.set (List.set (List.set h0 (Int.toNat a) x9) (Int.toNat pivot) x10) (Int.toNat x138) x297))) (by kernel_rfl) (by kernel_rfl) (by kernel_rfl) ((idxS hx299).2) (by kernel_rfl) (by kernel_rfl) (by kernel_rfl)) (by kernel_rfl) (by kernel_rfl) (by kernel_rfl) ?_
    refine evd_end (by kernel_rfl) ?_
    obtain ⟨x300, hx300, h⟩ := bindS h
    refine evo_op (st_idxO (c := cI) (l := (List.set (List.set (List.set h0 (Int.toNat a) x9) (Int.toNat pivot) x10) (Int.toNat x138) x297)) (i := x264) (kd := .i64) (kk := (.top 1000000)) (e := 3) (sz := 1) (by kernel_rfl) (by kernel_rfl) hx300 rfl) ?_
    refine evo_op (st_stO (c := cI) (l := (List.set (List.set (List.set h0 (Int.toNat a) x9) (Int.toNat pivot) x10) (Int.toNat x138) x297)) (i := (Int.toNat x264)) (x := x300) (x' := x298) (v := (vI x298)) (agg := false) (sz := 1) (kk := (.top 1000000)) (e := 3) (off := 0) (J := []) (o := .row 3 [] (List.map cI (List.set (List.set (List.set (List.set h0 (Int.toNat a) x9) (Int.toNat pivot) x10) (Int.toNat x138) x297) (Int.toNat x264) x298))) (by kernel_rfl) (by kernel_rfl) (by kernel_rfl) ((idxS hx300).2) (by kernel_rfl) (by kernel_rfl) (by kernel_rfl)) ?_
    refine evo_endS (by kernel_rfl) (fun τ hτ => ?_)
    refine th_normalS hτ ⟨[(0, (.row (.top 1000000) 3)), (1, (vI a)), (4, (.fn 112 [])), (12, (vI x138)), (13, (vI x264))], [(1000000, .row 3 [] (List.map cI (List.set (List.set (List.set (List.set h0 (Int.toNat a) x9) (Int.toNat pivot) x10) (Int.toNat x138) x297) (Int.toNat x264) x298)))]⟩ (here (by kernel_rfl)) ?_
    refine z3 3 ⟨[(0, (.row (.top 1000000) 3)), (1, (vI a)), (4, (.fn 112 [])), (12, (vI (iadd x138 1))), (13, (vI x264))], [(1000000, .row 3 [] (List.map cI (List.set (List.set (List.set (List.set h0 (Int.toNat a) x9) (Int.toNat pivot) x10) (Int.toNat x138) x297) (Int.toNat x264) x298)))]⟩ (by kernel_rfl) ?_
    refine z3 3 ⟨[(0, (.row (.top 1000000) 3)), (1, (vI a)), (4, (.fn 112 [])), (12, (vI (iadd x138 1))), (13, (vI (isub x264 1)))], [(1000000, .row 3 [] (List.map cI (List.set (List.set (List.set (List.set h0 (Int.toNat a) x9) (Int.toNat pivot) x10) (Int.toNat x138) x297) (Int.toNat x264) x298)))]⟩ (by kernel_rfl) ?_
    refine sem_seq (by kernel_rfl) ?_
    refine sem_block (by kernel_rfl) ?_
    obtain ⟨x1890, hx1890, h⟩ := bindS h
    refine sem_loopS (fun (s1361 : Int × Int × (List Int)) => ⟨[(0, (.row (.top 1000000) 3)), (1, (vI a)), (4, (.fn 112 [])), (12, (vI s1361.1)), (13, (vI s1361.2.1))], [(1000000, .row 3 [] (List.map cI s1361.2.2))]⟩) (fun (x1890 : Int × (List Int)) => (.exit 4, ⟨[(0, (.row (.top 1000000) 3)), (1, (vI a)), (13, (vI x1890.1))], [(1000000, .row 3 [] (List.map cI x1890.2))]⟩)) (slices_partitionCmpFunc_int__cmp_Compare_int_l5 a) ((iadd x138 1), (isub x264 1), (List.set (List.set (List.set (List.set h0 (Int.toNat a) x9) (Int.toNat pivot) x10) (Int.toNat x138) x297) (Int.toNat x264) x298)) x1890 (by kernel_rfl) (here (by kernel_rfl)) hx1890 ?_ ?_ ?_
    ·intro s1361 r h
     refine sem_block (by kernel_rfl) ?_
     refine sem_seq (by kernel_rfl) ?_
     refine sem_block (by kernel_rfl) ?_
     obtain ⟨x1751, hx1751, h⟩ := bindS h
     refine sem_loopS (fun (s1710 : Int) => ⟨[(0, (.row (.top 1000000) 3)), (1, (vI a)), (4, (.fn 112 [])), (12, (vI s1710)), (13, (vI s1361.2.1))], [(1000000, .row 3 [] (List.map cI s1361.2.2))]⟩) (fun (x1751 : Int) => (.exit 6, ⟨[(0, (.row (.top 1000000) 3)), (1, (vI a)), (4, (.fn 112 [])), (12, (vI x1751)), (13, (vI s1361.2.1))], [(1000000, .row 3 [] (List.map cI s1361.2.2))]⟩)) (slices_partitionCmpFunc_int__cmp_Compare_int_l3 a s1361) s1361.1 x1751 (by kernel_rfl) (here (by kernel_rfl)) hx1751 ?_ ?_ ?_
     ·intro s1710 r h
      refine sem_seq (by kernel_rfl) ?_
      refine sem_seq (by kernel_rfl) ?_
      obtain ⟨j1747, hj1747, h⟩ := bindS h
      refine sem_drawP ⟨[(0, (.row (.top 1000000) 3)), (1, (vI a)), (4, (.fn 112 [])), (12, (vI s1710)), (13, (vI s1361.2.1)), (120, (vB j1747))], [(1000000, .row 3 [] (List.map cI s1361.2.2))]⟩ [] [] [] [] [] 13 (by kernel_rfl) (by kernel_rfl) (by kernel_rfl) ?_ (fun τ hτ => ?_)
      ·replace h := hj1747
       refine evd_run 4 (by kernel_rfl) ?_
       refine evd_split (decide (s1710 ≤ s1361.2.1)) (fun b0 => ⟨[(108, (vB b0)), (107, (vB b0)), (106, (vI s1361.2.1)), (105, (vI s1710)), (0, (.row (.top 1000000) 3)), (1, (vI a)), (4, (.fn 112 [])), (12, (vI s1710)), (13, (vI s1361.2.1))], [(1000000, .row 3 [] (List.map cI s1361.2.2))]⟩) (by kernel_rfl) (fun hb => ?_) (fun hb => ?_)
       ·replace h := iteT hb h
        refine evd_run 3 (by kernel_rfl) ?_
        obtain ⟨x1748, hx1748, h⟩ := bindS h
        refine evd_val (by kernel_rfl) (st_idxO (c := cI) (l := s1361.2.2) (i := s1710) (kd := .i64) (kk := (.top 1000000)) (e := 3) (sz := 1) (by kernel_rfl) (by kernel_rfl) hx1748 rfl) (by kernel_rfl) (by kernel_rfl) ?_
        refine evd_val (by kernel_rfl) (st_ldO (c := cI) (l := s1361.2.2) (i := (Int.toNat s1710)) (v := (vI x1748)) (agg := false) (sz := 1) (kk := (.top 1000000)) (e := 3) (off := 0) (J := []) (by kernel_rfl) (by kernel_rfl) (by kernel_rfl) ((idxS hx1748).2) (by kernel_rfl)) (by kernel_rfl) (by kernel_rfl) ?_
        refine evd_run 2 (by kernel_rfl) ?_
        obtain ⟨x1749, hx1749, h⟩ := bindS h
        refine evd_val (by kernel_rfl) (st_idxO (c := cI) (l := s1361.2.2) (i := a) (kd := .i64) (kk := (.top 1000000)) (e := 3) (sz := 1) (by kernel_rfl) (by kernel_rfl) hx1749 rfl) (by kernel_rfl) (by kernel_rfl) ?_
        refine evd_val (by kernel_rfl) (st_ldO (c := cI) (l := s1361.2.2) (i := (Int.toNat a)) (v := (vI x1749)) (agg := false) (sz := 1) (kk := (.top 1000000)) (e := 3) (off := 0) (J := []) (by kernel_rfl) (by kernel_rfl) (by kernel_rfl) ((idxS hx1749).2) (by kernel_rfl)) (by kernel_rfl) (by kernel_rfl) ?_
        refine evd_end (by kernel_rfl) ?_
        obtain ⟨r1750, hr1750, h⟩ := bindS h
        refine evo_callP [] (by kernel_rfl) (W.cmp_Compare_int_ok hr1750) (by kernel_rfl) (.inl rfl) (by kernel_rfl) ?_
        refine evo_run 2 (by kernel_rfl) ?_
        refine evo_endS (by kernel_rfl) (fun τ hτ => ?_)
        obtain rfl := Option.some.inj h
        exact leafC hτ (here (by kernel_rfl))
       ·replace h := iteF hb h
        refine evd_run 9 (by kernel_rfl) ?_
        refine evd_end (by kernel_rfl) ?_
        refine evo_run 3 (by kernel_rfl) ?_
        refine evo_endS (by kernel_rfl) (fun τ hτ => ?_)
        obtain rfl := Option.some.inj h
        exact leafC hτ (here (by kernel_rfl))
      refine th_normalS hτ ⟨[(0, (.row (.top 1000000) 3)), (1, (vI a)), (4, (.fn 112 [])), (12, (vI s1710)), (13, (vI s1361.2.1)), (120, (vB j1747))], [(1000000, .row 3 [] (List.map cI s1361.2.2))]⟩ (here (by kernel_rfl)) ?_
      refine sem_cond j1747 (by kernel_rfl) (by kernel_rfl) (fun hb => ?_) (fun hb => ?_)
      ·replace h := iteT hb h
       refine z4 ⟨[(0, (.row (.top 1000000) 3)), (1, (vI a)), (4, (.fn 112 [])), (12, (vI s1710)), (13, (vI s1361.2.1))], [(1000000, .row 3 [] (List.map cI s1361.2.2))]⟩ (by kernel_rfl) ?_
       refine sem_block (by kernel_rfl) ?_
       refine sem_region (by kernel_rfl) ?_
       refine z6 3 (by kernel_rfl) (fun τ hτ => ?_)
       refine bl_normal ?_
       obtain rfl := Option.some.inj h
       exact lk_nextS hτ (here (by kernel_rfl))
      ·replace h := iteF hb h
       refine sem_exitS 6 (by kernel_rfl) rfl (fun τ hτ => ?_)
       refine th_exit ?_
       obtain rfl := Option.some.inj h
       exact lk_outS hτ rfl (here (by kernel_rfl))
     ·intro x
      rfl
     ·intro τ hτ
      refine bl_hit (by kernel_rfl) ?_
      refine th_normalS hτ ⟨[(0, (.row (.top 1000000) 3)), (1, (vI a)), (4, (.fn 112 [])), (12, (vI x1751)), (13, (vI s1361.2.1))], [(1000000, .row 3 [] (List.map cI s1361.2.2))]⟩ (here (by kernel_rfl)) ?_
      refine sem_seq (by kernel_rfl) ?_
      refine sem_block (by kernel_rfl) ?_
      obtain ⟨x1877, hx1877, h⟩ := bindS h
      refine sem_loopS (fun (s1836 : Int) => ⟨[(0, (.row (.top 1000000) 3)), (1, (vI a)), (4, (.fn 112 [])), (12, (vI x1751)), (13, (vI s1836))], [(1000000, .row 3 [] (List.map cI s1361.2.2))]⟩) (fun (x1877 : Int) => (.exit 8, ⟨[(0, (.row (.top 1000000) 3)), (1, (vI a)), (4, (.fn 112 [])), (12, (vI x1751)), (13, (vI x1877))], [(1000000, .row 3 [] (List.map cI s1361.2.2))]⟩)) (slices_partitionCmpFunc_int__cmp_Compare_int_l4 a s1361 x1751) s1361.2.1 x1877 (by kernel_rfl) (here (by kernel_rfl)) hx1877 ?_ ?_ ?_
      ·intro s1836 r h
       refine sem_seq (by kernel_rfl) ?_
       refine sem_seq (by kernel_rfl) ?_
       obtain ⟨j1873, hj1873, h⟩ := bindS h
       refine sem_drawP ⟨[(0, (.row (.top 1000000) 3)), (1, (vI a)), (4, (.fn 112 [])), (12, (vI x1751)), (13, (vI s1836)), (139, (vB j1873))], [(1000000, .row 3 [] (List.map cI s1361.2.2))]⟩ [] [] [] [] [] 13 (by kernel_rfl) (by kernel_rfl) (by kernel_rfl) ?_ (fun τ hτ => ?_)
       ·replace h := hj1873
        refine evd_run 4 (by kernel_rfl) ?_
        refine evd_split (decide (x1751 ≤ s1836)) (fun b0 => ⟨[(126, (vB b0)), (125, (vB b0)), (124, (vI s1836)), (123, (vI x1751)), (0, (.row (.top 1000000) 3)), (1, (vI a)), (4, (.fn 112 [])), (12, (vI x1751)), (13, (vI s1836))], [(1000000, .row 3 [] (List.map cI s1361.2.2))]⟩) (by kernel_rfl) (fun hb => ?_) (fun hb => ?_)
        ·replace h := iteT hb h
         refine evd_run 3 (by kernel_rfl) ?_
         obtain ⟨x1874, hx1874, h⟩ := bindS h
         refine evd_val (by kernel_rfl) (st_idxO (c := cI) (l := s1361.2.2) (i := s1836) (kd := .i64) (kk := (.top 1000000)) (e := 3) (sz := 1) (by kernel_rfl) (by kernel_rfl) hx1874 rfl) (by kernel_rfl) (by kernel_rfl) ?_
         refine evd_val (by kernel_rfl) (st_ldO (c := cI) (l := s1361.2.2) (i := (Int.toNat s1836)) (v := (vI x1874)) (agg := false) (sz := 1) (kk := (.top 1000000)) (e := 3) (off := 0) (J := []) (by kernel_rfl) (by kernel_rfl) (by kernel_rfl) ((idxS hx1874).2) (by kernel_rfl)) (by kernel_rfl) (by kernel_rfl) ?_
         refine evd_run 2 (by kernel_rfl) ?_
         obtain ⟨x1875, hx1875, h⟩ := bindS h
         refine evd_val (by kernel_rfl) (st_idxO (c := cI) (l := s1361.2.2) (i := a) (kd := .i64) (kk := (.top 1000000)) (e := 3) (sz := 1) (by kernel_rfl) (by kernel_rfl) hx1875 rfl) (by kernel_rfl) (by kernel_rfl) ?_
         refine evd_val (by kernel_rfl) (st_ldO (c := cI) (l := s1361.2.2) (i := (Int.toNat a)) (v := (vI x1875)) (agg := false) (sz := 1) (kk := (.top 1000000)) (e := 3) (off := 0) (J := []) (by kernel_rfl) (by kernel_rfl) (by kernel_rfl) ((idxS hx1875).2) (by kernel_rfl)) (by kernel_rfl) (by kernel_rfl) ?_
         refine evd_end (by kernel_rfl) ?_
         obtain ⟨r1876, hr1876, h⟩ := bindS h
         refine evo_callP [] (by kernel_rfl) (W.cmp_Compare_int_ok hr1876) (by kernel_rfl) (.inl rfl) (by kernel_rfl) ?_
         refine evo_run 3 (by kernel_rfl) ?_
         refine evo_endS (by kernel_rfl) (fun τ hτ => ?_)
         obtain rfl := Option.some.inj h
         exact leafC hτ (here (by kernel_rfl))
        ·replace h := iteF hb h
         refine evd_run 9 (by kernel_rfl) ?_
         refine evd_end (by kernel_rfl) ?_
         refine evo_run 4 (by kernel_rfl) ?_
         refine evo_endS (by kernel_rfl) (fun τ hτ => ?_)
         obtain rfl := Option.some.inj h
         exact leafC hτ (here (by kernel_rfl))
       refine th_normalS hτ ⟨[(0, (.row (.top 1000000) 3)), (1, (vI a)), (4, (.fn 112 [])), (12, (vI x1751)), (13, (vI s1836)), (139, (vB j1873))], [(1000000, .row 3 [] (List.map cI s1361.2.2))]⟩ (here (by kernel_rfl)) ?_
       refine sem_cond j1873 (by kernel_rfl) (by kernel_rfl) (fun hb => ?_) (fun hb => ?_)
       ·replace h := iteT hb h
        refine z4 ⟨[(0, (.row (.top 1000000) 3)), (1, (vI a)), (4, (.fn 112 [])), (12, (vI x1751)), (13, (vI s1836))], [(1000000, .row 3 [] (List.map cI s1361.2.2))]⟩ (by kernel_rfl) ?_
        refine sem_block (by kernel_rfl) ?_
        refine sem_region (by kernel_rfl) ?_
        refine z6 3 (by kernel_rfl) (fun τ hτ => ?_)
        refine bl_normal ?_
        obtain rfl := Option.some.inj h
        exact lk_nextS hτ (here (by kernel_rfl))
       ·replace h := iteF hb h
        refine sem_exitS 8 (by kernel_rfl) rfl (fun τ hτ => ?_)
        refine th_exit ?_
        obtain rfl := Option.some.inj h
        exact lk_outS hτ rfl (here (by kernel_rfl))
      ·intro x
       rfl
      ·intro τ hτ
       refine bl_hit (by kernel_rfl) ?_
       refine th_normalS hτ ⟨[(0, (.row (.top 1000000) 3)), (1, (vI a)), (4, (.fn 112 [])), (12, (vI x1751)), (13, (vI x1877))], [(1000000, .row 3 [] (List.map cI s1361.2.2))]⟩ (here (by kernel_rfl)) ?_
       refine sem_seq (by kernel_rfl) ?_
       refine z3 3 ⟨[(0, (.row (.top 1000000) 3)), (1, (vI a)), (4, (.fn 112 [])), (12, (vI x1751)), (13, (vI x1877)), (144, (vB (decide (x1751 > x1877))))], [(1000000, .row 3 [] (List.map cI s1361.2.2))]⟩ (by kernel_rfl) ?_
       refine sem_cond (decide (x1751 > x1877)) (by kernel_rfl) (by kernel_rfl) (fun hb => ?_) (fun hb => ?_)
       ·replace h := iteT hb h
        refine sem_exitS 4 (by kernel_rfl) rfl (fun τ hτ => ?_)
        refine th_exit ?_
        refine bl_miss (by kernel_rfl) ?_
        obtain rfl := Option.some.inj h
        exact lk_outS hτ rfl (here (by kernel_rfl))
       ·replace h := iteF hb h
        refine z4 ⟨[(0, (.row (.top 1000000) 3)), (1, (vI a)), (4, (.fn 112 [])), (12, (vI x1751)), (13, (vI x1877))], [(1000000, .row 3 [] (List.map cI s1361.2.2))]⟩ (by kernel_rfl) ?_
        refine sem_seq (by kernel_rfl) ?_
        refine sem_drawN [(13, [1000000])] [] [] [(2, [1000000]), (3, [1000000])] [] 14 (by kernel_rfl) (by kernel_rfl) (by kernel_rfl) ?_
        refine evd_run 6 (by kernel_rfl) ?_
        obtain ⟨x1886, hx1886, h⟩ := bindS h
        refine evd_val (by kernel_rfl) (st_idxO (c := cI) (l := s1361.2.2) (i := x1877) (kd := .i64) (kk := (.top 1000000)) (e := 3) (sz := 1) (by kernel_rfl) (by kernel_rfl) hx1886 rfl) (by kernel_rfl) (by kernel_rfl) ?_
        refine evd_val (by kernel_rfl) (st_ldO (c := cI) (l := s1361.2.2) (i := (Int.toNat x1877)) (v := (vI x1886)) (agg := false) (sz := 1) (kk := (.top 1000000)) (e := 3) (off := 0) (J := []) (by kernel_rfl) (by kernel_rfl) (by kernel_rfl) ((idxS hx1886).2) (by kernel_rfl)) (by kernel_rfl) (by kernel_rfl) ?_
        refine evd_run 2 (by kernel_rfl) ?_
        obtain ⟨x1887, hx1887, h⟩ := bindS h
        refine evd_val (by kernel_rfl) (st_idxO (c := cI) (l := s1361.2.2) (i := x1751) (kd := .i64) (kk := (.top 1000000)) (e := 3) (sz := 1) (by kernel_rfl) (by kernel_rfl) hx1887 rfl) (by kernel_rfl) (by kernel_rfl) ?_
        refine evd_val (by kernel_rfl) (st_ldO (c := cI) (l := s1361.2.2) (i := (Int.toNat x1751)) (v := (vI x1887)) (agg := false) (sz := 1) (kk := (.top 1000000)) (e := 3) (off := 0) (J := []) (by kernel_rfl) (by kernel_rfl) (by kernel_rfl) ((idxS hx1887).2) (by kernel_rfl)) (by kernel_rfl) (by kernel_rfl) ?_
        obtain ⟨x1888, hx1888, h⟩ := bindS h
        refine evd_val (by kernel_rfl) (st_idxO (c := cI) (l := s1361.2.2) (i := x1751) (kd := .i64) (kk := (.top 1000000)) (e := 3) (sz := 1) (by kernel_rfl) (by kernel_rfl) hx1888 rfl) (by kernel_rfl) (by kernel_rfl) ?_
        refine evd_set (by kernel_rfl) (st_stO (c := cI) (l := s1361.2.2) (i := (Int.toNat x1751)) (x := x1888) (x' := x1886) (v := (vI x1886)) (agg := false) (sz := 1) (kk := (.top 1000000)) (e := 3) (off := 0) (J := []) (o := .row 3 [] (List.map cI (List.set s1361.2.2 (Int.toNat x1751) x1886))) (by kernel_rfl) (by kernel_rfl) (by kernel_rfl) ((idxS hx1888).2) (by kernel_rfl) (by kernel_rfl) (by kernel_rfl)) (by kernel_rfl) (by kernel_rfl) (by kernel_rfl) ?_
        refine evd_end (by kernel_rfl) ?_
        obtain ⟨x1889, hx1889, h⟩ := bindS h
        refine evo_op (st_idxO (c := cI) (l := (List.set s1361.2.2 (Int.toNat x1751) x1886)) (i := x1877) (kd := .i64) (kk := (.top 1000000)) (e := 3) (sz := 1) (by kernel_rfl) (by kernel_rfl) hx1889 rfl) ?_
        refine evo_op (st_stO (c := cI) (l := (List.set s1361.2.2 (Int.toNat x1751) x1886)) (i := (Int.toNat x1877)) (x := x1889) (x' := x1887) (v := (vI x1887)) (agg := false) (sz := 1) (kk := (.top 1000000)) (e := 3) (off := 0) (J := []) (o := .row 3 [] (List.map cI (List.set (List.set s1361.2.2 (Int.toNat x1751) x1886) (Int.toNat x1877) x1887))) (by kernel_rfl) (by kernel_rfl) (by kernel_rfl) ((idxS hx1889).2) (by kernel_rfl) (by kernel_rfl) (by kernel_rfl)) ?_
        refine evo_endS (by kernel_rfl) (fun τ hτ => ?_)
        refine th_normalS hτ ⟨[(0, (.row (.top 1000000) 3)), (1, (vI a)), (4, (.fn 112 [])), (12, (vI x1751)), (13, (vI x1877))], [(1000000, .row 3 [] (List.map cI (List.set (List.set s1361.2.2 (Int.toNat x1751) x1886) (Int.toNat x1877) x1887)))]⟩ (here (by kernel_rfl)) ?_
        refine z3 3 ⟨[(0, (.row (.top 1000000) 3)), (1, (vI a)), (4, (.fn 112 [])), (12, (vI (iadd x1751 1))), (13, (vI x1877))], [(1000000, .row 3 [] (List.map cI (List.set (List.set s1361.2.2 (Int.toNat x1751) x1886) (Int.toNat x1877) x1887)))]⟩ (by kernel_rfl) ?_
        refine sem_region (by kernel_rfl) ?_
        refine z6 3 (by kernel_rfl) (fun τ hτ => ?_)
        refine bl_normal ?_
        obtain rfl := Option.some.inj h
        exact lk_nextS hτ (here (by kernel_rfl))
    ·intro x
     rfl
    ·intro τ hτ
     refine bl_hit (by kernel_rfl) ?_
     refine th_normalS hτ ⟨[(0, (.row (.top 1000000) 3)), (1, (vI a)), (13, (vI x1890.1))], [(1000000, .row 3 [] (List.map cI x1890.2))]⟩ (here (by kernel_rfl)) ?_
     refine sem_seq (by kernel_rfl) ?_
     refine sem_drawN [(13, [1000000])] [] [] [(2, [1000000]), (3, [1000000])] [] 14 (by kernel_rfl) (by kernel_rfl) (by kernel_rfl) ?_
     refine evd_run 6 (by kernel_rfl) ?_
     obtain ⟨x1899, hx1899, h⟩ := bindS h
     refine evd_val (by kernel_rfl) (st_idxO (c := cI) (l := x1890.2) (i := a) (kd := .i64) (kk := (.top 1000000)) (e := 3) (sz := 1) (by kernel_rfl) (by kernel_rfl) hx1899 rfl) (by kernel_rfl) (by kernel_rfl) ?_
     refine evd_val (by kernel_rfl) (st_ldO (c := cI) (l := x1890.2) (i := (Int.toNat a)) (v := (vI x1899)) (agg := false) (sz := 1) (kk := (.top 1000000)) (e := 3) (off := 0) (J := []) (by kernel_rfl) (by kernel_rfl) (by kernel_rfl) ((idxS hx1899).2) (by kernel_rfl)) (by kernel_rfl) (by kernel_rfl) ?_
     refine evd_run 2 (by kernel_rfl) ?_
     obtain ⟨x1900, hx1900, h⟩ := bindS h
     refine evd_val (by kernel_rfl) (st_idxO (c := cI) (l := x1890.2) (i := x1890.1) (kd := .i64) (kk := (.top 1000000)) (e := 3) (sz := 1) (by kernel_rfl) (by kernel_rfl) hx1900 rfl) (by kernel_rfl) (by kernel_rfl) ?_
     refine evd_val (by kernel_rfl) (st_ldO (c := cI) (l := x1890.2) (i := (Int.toNat x1890.1)) (v := (vI x1900)) (agg := false) (sz := 1) (kk := (.top 1000000)) (e := 3) (off := 0) (J := []) (by kernel_rfl) (by kernel_rfl) (by kernel_rfl) ((idxS hx1900).2) (by kernel_rfl)) (by kernel_rfl) (by kernel_rfl) ?_
     obtain ⟨x1901, hx1901, h⟩ := bindS h
     refine evd_val (by kernel_rfl) (st_idxO (c := cI) (l := x1890.2) (i := x1890.1) (kd := .i64) (kk := (.top 1000000)) (e := 3) (sz := 1) (by kernel_rfl) (by kernel_rfl) hx1901 rfl) (by kernel_rfl) (by kernel_rfl) ?_
     refine evd_set (by kernel_rfl) (st_stO (c := cI) (l := x1890.2) (i := (Int.toNat x1890.1)) (x := x1901) (x' := x1899) (v := (vI x1899)) (agg := false) (sz := 1) (kk := (.top 1000000)) (e := 3) (off := 0) (J := []) (o := .row 3 [] (List.map cI (List.set x1890.2 (Int.toNat x1890.1) x1899))) (by kernel_rfl) (by kernel_rfl) (by kernel_rfl) ((idxS hx1901).2) (by kernel_rfl) (by kernel_rfl) (by kernel_rfl)) (by kernel_rfl) (by kernel_rfl) (by kernel_rfl) ?_
     refine evd_end (by kernel_rfl) ?_
     obtain ⟨x1902, hx1902, h⟩ := bindS h
     refine evo_op (st_idxO (c := cI) (l := (List.set x1890.2 (Int.toNat x1890.1) x1899)) (i := a) (kd := .i64) (kk := (.top 1000000)) (e := 3) (sz := 1) (by kernel_rfl) (by kernel_rfl) hx1902 rfl) ?_
     refine evo_op (st_stO (c := cI) (l := (List.set x1890.2 (Int.toNat x1890.1) x1899)) (i := (Int.toNat a)) (x := x1902) (x' := x1900) (v := (vI x1900)) (agg := false) (sz := 1) (kk := (.top 1000000)) (e := 3) (off := 0) (J := []) (o := .row 3 [] (List.map cI (List.set (List.set x1890.2 (Int.toNat x1890.1) x1899) (Int.toNat a) x1900))) (by kernel_rfl) (by kernel_rfl) (by kernel_rfl) ((idxS hx1902).2) (by kernel_rfl) (by kernel_rfl) (by kernel_rfl)) ?_
     refine evo_endS (by kernel_rfl) (fun τ hτ => ?_)
     refine th_normalS hτ ⟨[(13, (vI x1890.1))], [(1000000, .row 3 [] (List.map cI (List.set (List.set x1890.2 (Int.toNat x1890.1) x1899) (Int.toNat a) x1900)))]⟩ (here (by kernel_rfl)) ?_
     refine z8 3 ⟨[(10, (vI x1890.1)), (11, (vB false))], [(1000000, .row 3 [] (List.map cI (List.set (List.set x1890.2 (Int.toNat x1890.1) x1899) (Int.toNat a) x1900)))]⟩ (by kernel_rfl) (fun τ hτ => ?_)
     obtain rfl := Option.some.inj h
     exact rk_ret hτ [(10, (vI x1890.1)), (11, (vB false))] (here (by kernel_rfl)) (by kernel_rfl)
theorem W.slices_pdqsortCmpFunc_int__cmp_Compare_int_body_ok (self : Int → Int → Int → (List Int) → Option ((List Int))) (hself : ∀ {a : Int} {b : Int} {limit : Int} {h0 : (List Int)} {r : (List Int)}, self a b limit h0 = some r → PC G.P 125 [(.row (.top 1000000) 3), (vI a), (vI b), (vI limit), (.fn 112 [])] [(1000000, .row 3 [] (List.map cI h0))] (.tup []) [(1000000, .row 3 [] (List.map cI r))]) {a : Int} {b : Int} {limit : Int} {h0 : (List Int)} {r : (List Int)} (h : slices_pdqsortCmpFunc_int__cmp_Compare_int_body self a b limit h0 = some r) : PC G.P 125 [(.row (.top 1000000) 3), (vI a), (vI b), (vI limit), (.fn 112 [])] [(1000000, .row 3 [] (List.map cI h0))] (.tup []) [(1000000, .row 3 [] (List.map cI r))] := by
 refine pc_of G (fn := Try.f125) Try.func125 (by kernel_rfl) (by kernel_rfl) (by kernel_rfl) (by kernel_rfl) (by kernel_rfl) ?_
 refine sem_set ⟨[(0, (.row (.top 1000000) 3)), (1, (vI a)), (2, (vI b)), (3, (vI limit)), (4, (.fn 112 []))], [(1000000, .row 3 [] (List.map cI h0))]⟩ (by kernel_rfl) ?_
 refine z3 1 ⟨[(0, (.row (.top 1000000) 3)), (1, (vI a)), (2, (vI b)), (3, (vI limit)), (4, (.fn 112 [])), (10, (vB true))], [(1000000, .row 3 [] (List.map cI h0))]⟩ (by kernel_rfl) ?_
 refine z3 1 ⟨[(0, (.row (.top 1000000) 3)), (1, (vI a)), (2, (vI b)), (3, (vI limit)), (4, (.fn 112 [])), (10, (vB true)), (11, (vB true))], [(1000000, .row 3 [] (List.map cI h0))]⟩ (by kernel_rfl) ?_
 refine sem_block (by kernel_rfl) ?_
 obtain ⟨x174, hx174, h⟩ := bindS h
 refine sem_loopS (fun (s59 : Int × Int × Int × Bool × Bool × (List Int)) => ⟨[(0, (.row (.top 1000000) 3)), (1, (vI s59.1)), (2, (vI s59.2.1)), (3, (vI s59.2.2.1)), (4, (.fn 112 [])), (10, (vB s59.2.2.2.1)), (11, (vB s59.2.2.2.2.1))], [(1000000, .row 3 [] (List.map cI s59.2.2.2.2.2))]⟩) (fun (x174 : (List Int)) => (.ret, ⟨[], [(1000000, .row 3 [] (List.map cI x174))]⟩)) (slices_pdqsortCmpFunc_int__cmp_Compare_int_l4 self) (a, b, limit, true, true, h0) x174 (by kernel_rfl) (here (by kernel_rfl)) hx174 ?_ ?_ ?_
 ·intro s59 r h
  refine sem_block (by kernel_rfl) ?_
  refine z3 4 ⟨[(0, (.row (.top 1000000) 3)), (1, (vI s59.1)), (2, (vI s59.2.1)), (3, (vI s59.2.2.1)), (4, (.fn 112 [])), (10, (vB s59.2.2.2.1)), (11, (vB s59.2.2.2.2.1)), (12, (vI (isub s59.2.1 s59.1)))], [(1000000, .row 3 [] (List.map cI s59.2.2.2.2.2))]⟩ (by kernel_rfl) ?_
  refine sem_seq (by kernel_rfl) ?_
  refine z3 2 ⟨[(0, (.row (.top 1000000) 3)), (1, (vI s59.1)), (2, (vI s59.2.1)), (3, (vI s59.2.2.1)), (4, (.fn 112 [])), (10, (vB s59.2.2.2.1)), (11, (vB s59.2.2.2.2.1)), (12, (vI (isub s59.2.1 s59.1))), (25, (vB (decide ((isub s59.2.1 s59.1) ≤ 12))))], [(1000000, .row 3 [] (List.map cI s59.2.2.2.2.2))]⟩ (by kernel_rfl) ?_
  refine sem_cond (decide ((isub s59.2.1 s59.1) ≤ 12)) (by kernel_rfl) (by kernel_rfl) (fun hb => ?_) (fun hb => ?_)
  ·replace h := iteT hb h
   refine z7 (by kernel_rfl) ?_
   refine evs_run 4 (by kernel_rfl) ?_
   obtain ⟨r120, hr120, h⟩ := bindS h
   refine evs_callS [(1000000, 1000000)] [] [] (by kernel_rfl) (W.slices_insertionSortCmpFunc_int__cmp_Compare_int_ok hr120) (by kernel_rfl) (by kernel_rfl) (.inl rfl) ?_
   refine evs_endS (by kernel_rfl) (fun τ hτ => ?_)
   refine th_normalS hτ ⟨[], [(1000000, .row 3 [] (List.map cI r120))]⟩ (here (by kernel_rfl)) ?_
   refine sem_retS (by kernel_rfl) (fun τ hτ => ?_)
   refine th_ret ?_
   refine bl_ret ?_
   obtain rfl := Option.some.inj h
   exact lk_outS hτ rfl (here (by kernel_rfl))
  ·replace h := iteF hb h
   refine z4 ⟨[(0, (.row (.top 1000000) 3)), (1, (vI s59.1)), (2, (vI s59.2.1)), (3, (vI s59.2.2.1)), (4, (.fn 112 [])), (10, (vB s59.2.2.2.1)), (11, (vB s59.2.2.2.2.1)), (12, (vI (isub s59.2.1 s59.1)))], [(1000000, .row 3 [] (List.map cI s59.2.2.2.2.2))]⟩ (by kernel_rfl) ?_
   refine sem_seq (by kernel_rfl) ?_
   refine z3 2 ⟨[(0, (.row (.top 1000000) 3)), (1, (vI s59.1)), (2, (vI s59.2.1)), (3, (vI s59.2.2.1)), (4, (.fn 112 [])), (10, (vB s59.2.2.2.1)), (11, (vB s59.2.2.2.2.1)), (12, (vI (isub s59.2.1 s59.1))), (32, (vB (s59.2.2.1 == 0)))], [(1000000, .row 3 [] (List.map cI s59.2.2.2.2.2))]⟩ (by kernel_rfl) ?_
   refine sem_cond (s59.2.2.1 == 0) (by kernel_rfl) (by kernel_rfl) (fun hb => ?_) (fun hb => ?_)
   ·replace h := iteT hb h
    refine z7 (by kernel_rfl) ?_
    refine evs_run 4 (by kernel_rfl) ?_
    obtain ⟨r124, hr124, h⟩ := bindS h
    refine evs_callS [(1000000, 1000000)] [] [] (by kernel_rfl) (W.slices_heapSortCmpFunc_int__cmp_Compare_int_ok hr124) (by kernel_rfl) (by kernel_rfl) (.inl rfl) ?_
    refine evs_endS (by kernel_rfl) (fun τ hτ => ?_)
    refine th_normalS hτ ⟨[], [(1000000, .row 3 [] (List.map cI r124))]⟩ (here (by kernel_rfl)) ?_
    refine sem_retS (by kernel_rfl) (fun τ hτ => ?_)
    refine th_ret ?_
    refine bl_ret ?_
    obtain rfl := Option.some.inj h
    exact lk_outS hτ rfl (here (by kernel_rfl))
   ·replace h := iteF hb h
    refine z4 ⟨[(0, (.row (.top 1000000) 3)), (1, (vI s59.1)), (2, (vI s59.2.1)), (3, (vI s59.2.2.1)), (4, (.fn 112 [])), (10, (vB s59.2.2.2.1)), (11, (vB s59.2.2.2.2.1)), (12, (vI (isub s59.2.1 s59.1)))], [(1000000, .row 3 [] (List.map cI s59.2.2.2.2.2))]⟩ (by kernel_rfl) ?_
    refine sem_seqJ (fun (j127 : Int × (List Int)) => ⟨[(0, (.row (.top 1000000) 3)), (1, (vI s59.1)), (2, (vI s59.2.1)), (3, (vI j127.1)), (4, (.fn 112 [])), (10, (vB s59.2.2.2.1)), (11, (vB s59.2.2.2.2.1)), (12, (vI (isub s59.2.1 s59.1)))], [(1000000, .row 3 [] (List.map cI j127.2))]⟩) (slices_pdqsortCmpFunc_int__cmp_Compare_int_k3 self s59) r (by kernel_rfl) (fun j127 h => ?_) ?_
    ·refine z7 (by kernel_rfl) ?_
     refine evs_run 4 (by kernel_rfl) ?_
     obtain ⟨r129, hr129, h⟩ := bindS h
     refine evs_callP [1000000] (by kernel_rfl) (W.slices_choosePivotCmpFunc_int__cmp_Compare_int_ok hr129) (by kernel_rfl) (.inr rfl) (by kernel_rfl) ?_
     refine z1 5 ⟨[(0, (.row (.top 1000000) 3)), (1, (vI s59.1)), (2, (vI s59.2.1)), (3, (vI j127.1)), (4, (.fn 112 [])), (10, (vB s59.2.2.2.1)), (11, (vB s59.2.2.2.2.1)), (12, (vI (isub s59.2.1 s59.1))), (13, (vI r129.1)), (14, (vI r129.2))], [(1000000, .row 3 [] (List.map cI j127.2))]⟩ (by kernel_rfl) ?_
     refine sem_seqJ (fun (j132 : Int × Int × (List Int)) => ⟨[(0, (.row (.top 1000000) 3)), (1, (vI s59.1)), (2, (vI s59.2.1)), (3, (vI j127.1)), (4, (.fn 112 [])), (10, (vB s59.2.2.2.1)), (11, (vB s59.2.2.2.2.1)), (12, (vI (isub s59.2.1 s59.1))), (13, (vI j132.1)), (14, (vI j132.2.1))], [(1000000, .row 3 [] (List.map cI j132.2.2))]⟩) (slices_pdqsortCmpFunc_int__cmp_Compare_int_k2 self s59 j127) r (by kernel_rfl) (fun j132 h => ?_) ?_
     ·refine sem_seqJ (fun (j136 : Bool × Bool × (List Int)) => ⟨[(0, (.row (.top 1000000) 3)), (1, (vI s59.1)), (2, (vI s59.2.1)), (3, (vI j127.1)), (4, (.fn 112 [])), (10, (vB j136.1)), (11, (vB j136.2.1)), (12, (vI (isub s59.2.1 s59.1))), (13, (vI j132.1))], [(1000000, .row 3 [] (List.map cI j136.2.2))]⟩) (slices_pdqsortCmpFunc_int__cmp_Compare_int_k1 self s59 j127 j132) r (by kernel_rfl) (fun j136 h => ?_) ?_
      ·refine sem_seq (by kernel_rfl) ?_
       refine sem_seq (by kernel_rfl) ?_
       obtain ⟨j155, hj155, h⟩ := bindS h
       refine sem_drawP ⟨[(0, (.row (.top 1000000) 3)), (1, (vI s59.1)), (2, (vI s59.2.1)), (3, (vI j127.1)), (4, (.fn 112 [])), (10, (vB j136.1)), (11, (vB j136.2.1)), (12, (vI (isub s59.2.1 s59.1))), (13, (vI j132.1)), (97, (vB j155))], [(1000000, .row 3 [] (List.map cI j136.2.2))]⟩ [] [] [] [] [] 13 (by kernel_rfl) (by kernel_rfl) (by kernel_rfl) ?_ (fun τ hτ => ?_)
       ·replace h := hj155
        refine evd_run 3 (by kernel_rfl) ?_
        refine evd_split (decide (s59.1 > 0)) (fun b0 => ⟨[(83, (vB b0)), (82, (vB b0)), (81, (vI s59.1)), (0, (.row (.top 1000000) 3)), (1, (vI s59.1)), (2, (vI s59.2.1)), (3, (vI j127.1)), (4, (.fn 112 [])), (10, (vB j136.1)), (11, (vB j136.2.1)), (12, (vI (isub s59.2.1 s59.1))), (13, (vI j132.1))], [(1000000, .row 3 [] (List.map cI j136.2.2))]⟩) (by kernel_rfl) (fun hb => ?_) (fun hb => ?_)
        ·replace h := iteT hb h
         refine evd_run 4 (by kernel_rfl) ?_
         obtain ⟨x156, hx156, h⟩ := bindS h
         refine evd_val (by kernel_rfl) (st_idxO (c := cI) (l := j136.2.2) (i := (isub s59.1 1)) (kd := .i64) (kk := (.top 1000000)) (e := 3) (sz := 1) (by kernel_rfl) (by kernel_rfl) hx156 rfl) (by kernel_rfl) (by kernel_rfl) ?_
         refine evd_val (by kernel_rfl) (st_ldO (c := cI) (l := j136.2.2) (i := (Int.toNat (isub s59.1 1))) (v := (vI x156)) (agg := false) (sz := 1) (kk := (.top 1000000)) (e := 3) (off := 0) (J := []) (by kernel_rfl) (by kernel_rfl) (by kernel_rfl) ((idxS hx156).2) (by kernel_rfl)) (by kernel_rfl) (by kernel_rfl) ?_
         refine evd_run 2 (by kernel_rfl) ?_
         obtain ⟨x157, hx157, h⟩ := bindS h
         refine evd_val (by kernel_rfl) (st_idxO (c := cI) (l := j136.2.2) (i := j132.1) (kd := .i64) (kk := (.top 1000000)) (e := 3) (sz := 1) (by kernel_rfl) (by kernel_rfl) hx157 rfl) (by kernel_rfl) (by kernel_rfl) ?_
         refine evd_val (by kernel_rfl) (st_ldO (c := cI) (l := j136.2.2) (i := (Int.toNat j132.1)) (v := (vI x157)) (agg := false) (sz := 1) (kk := (.top 1000000)) (e := 3) (off := 0) (J := []) (by kernel_rfl) (by kernel_rfl) (by kernel_rfl) ((idxS hx157).2) (by kernel_rfl)) (by kernel_rfl) (by kernel_rfl) ?_
         refine evd_end (by kernel_rfl) ?_
         obtain ⟨r158, hr158, h⟩ := bindS h
         refine evo_callP [] (by kernel_rfl) (W.cmp_Compare_int_ok hr158) (by kernel_rfl) (.inl rfl) (by kernel_rfl) ?_
         refine evo_run 3 (by kernel_rfl) ?_
         refine evo_endS (by kernel_rfl) (fun τ hτ => ?_)
         obtain rfl := Option.some.inj h
         exact leafC hτ (here (by kernel_rfl))
        ·replace h := iteF hb h
         refine evd_run 10 (by kernel_rfl) ?_
         refine evd_end (by kernel_rfl) ?_
         refine evo_run 4 (by kernel_rfl) ?_
         refine evo_endS (by kernel_rfl) (fun τ hτ => ?_)
         obtain rfl := Option.some.inj h
         exact leafC hτ (here (by kernel_rfl))
       refine th_normalS hτ ⟨[(0, (.row (.top 1000000) 3)), (1, (vI s59.1)), (2, (vI s59.2.1)), (3, (vI j127.1)), (4, (.fn 112 [])), (10, (vB j136.1)), (11, (vB j136.2.1)), (12, (vI (isub s59.2.1 s59.1))), (13, (vI j132.1)), (97, (vB j155))], [(1000000, .row 3 [] (List.map cI j136.2.2))]⟩ (here (by kernel_rfl)) ?_
       refine sem_cond j155 (by kernel_rfl) (by kernel_rfl) (fun hb => ?_) (fun hb => ?_)
       ·replace h := iteT hb h
        refine z7 (by kernel_rfl) ?_
        refine evs_run 5 (by kernel_rfl) ?_
        obtain ⟨r160, hr160, h⟩ := bindS h
        refine evs_callS [(1000000, 1000000)] [] [] (by kernel_rfl) (W.slices_partitionEqualCmpFunc_int__cmp_Compare_int_ok hr160) (by kernel_rfl) (by kernel_rfl) (.inl rfl) ?_
        refine z1 1 ⟨[(0, (.row (.top 1000000) 3)), (2, (vI s59.2.1)), (3, (vI j127.1)), (4, (.fn 112 [])), (10, (vB j136.1)), (11, (vB j136.2.1)), (15, (vI r160.1))], [(1000000, .row 3 [] (List.map cI r160.2))]⟩ (by kernel_rfl) ?_
        refine z3 2 ⟨[(0, (.row (.top 1000000) 3)), (1, (vI r160.1)), (2, (vI s59.2.1)), (3, (vI j127.1)), (4, (.fn 112 [])), (10, (vB j136.1)), (11, (vB j136.2.1))], [(1000000, .row 3 [] (List.map cI r160.2))]⟩ (by kernel_rfl) ?_
        refine sem_exitS 1 (by kernel_rfl) rfl (fun τ hτ => ?_)
        refine th_exit ?_
        refine bl_hit (by kernel_rfl) ?_
        obtain rfl := Option.some.inj h
        exact lk_nextS hτ (here (by kernel_rfl))
       ·replace h := iteF hb h
        refine z4 ⟨[(0, (.row (.top 1000000) 3)), (1, (vI s59.1)), (2, (vI s59.2.1)), (3, (vI j127.1)), (4, (.fn 112 [])), (12, (vI (isub s59.2.1 s59.1))), (13, (vI j132.1))], [(1000000, .row 3 [] (List.map cI j136.2.2))]⟩ (by kernel_rfl) ?_
        refine z7 (by kernel_rfl) ?_
        refine evs_run 5 (by kernel_rfl) ?_
        obtain ⟨r162, hr162, h⟩ := bindS h
        refine evs_callS [(1000000, 1000000)] [] [] (by kernel_rfl) (W.slices_partitionCmpFunc_int__cmp_Compare_int_ok hr162) (by kernel_rfl) (by kernel_rfl) (.inl rfl) ?_
        refine z1 5 ⟨[(0, (.row (.top 1000000) 3)), (1, (vI s59.1)), (2, (vI s59.2.1)), (3, (vI j127.1)), (4, (.fn 112 [])), (12, (vI (isub s59.2.1 s59.1))), (16, (vI r162.1)), (17, (vB r162.2.1))], [(1000000, .row 3 [] (List.map cI r162.2.2))]⟩ (by kernel_rfl) ?_
        refine z3 2 ⟨[(0, (.row (.top 1000000) 3)), (1, (vI s59.1)), (2, (vI s59.2.1)), (3, (vI j127.1)), (4, (.fn 112 [])), (11, (vB r162.2.1)), (12, (vI (isub s59.2.1 s59.1))), (16, (vI r162.1))], [(1000000, .row 3 [] (List.map cI r162.2.2))]⟩ (by kernel_rfl) ?_
        refine z3 8 ⟨[(0, (.row (.top 1000000) 3)), (1, (vI s59.1)), (2, (vI s59.2.1)), (3, (vI j127.1)), (4, (.fn 112 [])), (11, (vB r162.2.1)), (12, (vI (isub s59.2.1 s59.1))), (16, (vI r162.1)), (18, (vI (isub r162.1 s59.1))), (19, (vI (isub s59.2.1 r162.1)))], [(1000000, .row 3 [] (List.map cI r162.2.2))]⟩ (by kernel_rfl) ?_
        refine z3 3 ⟨[(0, (.row (.top 1000000) 3)), (1, (vI s59.1)), (2, (vI s59.2.1)), (3, (vI j127.1)), (4, (.fn 112 [])), (11, (vB r162.2.1)), (16, (vI r162.1)), (18, (vI (isub r162.1 s59.1))), (19, (vI (isub s59.2.1 r162.1))), (20, (vI (iquo (isub s59.2.1 s59.1) 8)))], [(1000000, .row 3 [] (List.map cI r162.2.2))]⟩ (by kernel_rfl) ?_
        refine z3 3 ⟨[(0, (.row (.top 1000000) 3)), (1, (vI s59.1)), (2, (vI s59.2.1)), (3, (vI j127.1)), (4, (.fn 112 [])), (11, (vB r162.2.1)), (16, (vI r162.1)), (18, (vI (isub r162.1 s59.1))), (19, (vI (isub s59.2.1 r162.1))), (20, (vI (iquo (isub s59.2.1 s59.1) 8))), (125, (vB (decide ((isub r162.1 s59.1) < (isub s59.2.1 r162.1)))))], [(1000000, .row 3 [] (List.map cI r162.2.2))]⟩ (by kernel_rfl) ?_
        refine sem_cond (decide ((isub r162.1 s59.1) < (isub s59.2.1 r162.1))) (by kernel_rfl) (by kernel_rfl) (fun hb => ?_) (fun hb => ?_)
        ·replace h := iteT hb h
         refine z3 4 ⟨[(0, (.row (.top 1000000) 3)), (1, (vI s59.1)), (2, (vI s59.2.1)), (3, (vI j127.1)), (4, (.fn 112 [])), (10, (vB (decide ((isub r162.1 s59.1) ≥ (iquo (isub s59.2.1 s59.1) 8))))), (11, (vB r162.2.1)), (16, (vI r162.1))], [(1000000, .row 3 [] (List.map cI r162.2.2))]⟩ (by kernel_rfl) ?_
         refine z7 (by kernel_rfl) ?_
         refine evs_run 5 (by kernel_rfl) ?_
         obtain ⟨r164, hr164, h⟩ := bindS h
         refine evs_callS [(1000000, 1000000)] [] [] (by kernel_rfl) (hself hr164) (by kernel_rfl) (by kernel_rfl) (.inl rfl) ?_
         refine evs_endS (by kernel_rfl) (fun τ hτ => ?_)
         refine th_normalS hτ ⟨[(0, (.row (.top 1000000) 3)), (2, (vI s59.2.1)), (3, (vI j127.1)), (4, (.fn 112 [])), (10, (vB (decide ((isub r162.1 s59.1) ≥ (iquo (isub s59.2.1 s59.1) 8))))), (11, (vB r162.2.1)), (16, (vI r162.1))], [(1000000, .row 3 [] (List.map cI r164))]⟩ (here (by kernel_rfl)) ?_
         refine sem_region (by kernel_rfl) ?_
         refine z6 3 (by kernel_rfl) (fun τ hτ => ?_)
         refine bl_normal ?_
         obtain rfl := Option.some.inj h
         exact lk_nextS hτ (here (by kernel_rfl))
        ·replace h := iteF hb h
         refine z3 4 ⟨[(0, (.row (.top 1000000) 3)), (1, (vI s59.1)), (2, (vI s59.2.1)), (3, (vI j127.1)), (4, (.fn 112 [])), (10, (vB (decide ((isub s59.2.1 r162.1) ≥ (iquo (isub s59.2.1 s59.1) 8))))), (11, (vB r162.2.1)), (16, (vI r162.1))], [(1000000, .row 3 [] (List.map cI r162.2.2))]⟩ (by kernel_rfl) ?_
         refine z7 (by kernel_rfl) ?_
         refine evs_run 6 (by kernel_rfl) ?_
         obtain ⟨r166, hr166, h⟩ := bindS h
         refine evs_callS [(1000000, 1000000)] [] [] (by kernel_rfl) (hself hr166) (by kernel_rfl) (by kernel_rfl) (.inl rfl) ?_
         refine evs_endS (by kernel_rfl) (fun τ hτ => ?_)
         refine th_normalS hτ ⟨[(0, (.row (.top 1000000) 3)), (1, (vI s59.1)), (3, (vI j127.1)), (4, (.fn 112 [])), (10, (vB (decide ((isub s59.2.1 r162.1) ≥ (iquo (isub s59.2.1 s59.1) 8))))), (11, (vB r162.2.1)), (16, (vI r162.1))], [(1000000, .row 3 [] (List.map cI r166))]⟩ (here (by kernel_rfl)) ?_
         refine sem_region (by kernel_rfl) ?_
         refine z6 2 (by kernel_rfl) (fun τ hτ => ?_)
         refine bl_normal ?_
         obtain rfl := Option.some.inj h
         exact lk_nextS hτ (here (by kernel_rfl))
      refine sem_seq (by kernel_rfl) ?_
      obtain ⟨j167, hj167, h⟩ := bindS h
      refine sem_regionC ⟨[(0, (.row (.top 1000000) 3)), (1, (vI s59.1)), (2, (vI s59.2.1)), (3, (vI j127.1)), (4, (.fn 112 [])), (10, (vB j167.1)), (11, (vB j167.2.1)), (12, (vI (isub s59.2.1 s59.1))), (13, (vI j132.1)), (75, (vB j167.2.2))], [(1000000, .row 3 [] (List.map cI j132.2.2))]⟩ (by kernel_rfl) ?_ (fun τ hτ => ?_)
      ·replace h := hj167
       refine evs_run 2 (by kernel_rfl) ?_
       refine evs_split s59.2.2.2.1 (fun b0 => ⟨[(0, (.row (.top 1000000) 3)), (1, (vI s59.1)), (2, (vI s59.2.1)), (3, (vI j127.1)), (4, (.fn 112 [])), (10, (vB b0)), (11, (vB s59.2.2.2.2.1)), (12, (vI (isub s59.2.1 s59.1))), (13, (vI j132.1)), (14, (vI j132.2.1)), (69, (vB b0))], [(1000000, .row 3 [] (List.map cI j132.2.2))]⟩) (by kernel_rfl) (fun hb => ?_) (fun hb => ?_)
       ·replace h := iteT hb h
        refine evs_run 3 (by kernel_rfl) ?_
        refine evs_split s59.2.2.2.2.1 (fun b0 => ⟨[(0, (.row (.top 1000000) 3)), (1, (vI s59.1)), (2, (vI s59.2.1)), (3, (vI j127.1)), (4, (.fn 112 [])), (10, (vB true)), (11, (vB b0)), (12, (vI (isub s59.2.1 s59.1))), (13, (vI j132.1)), (14, (vI j132.2.1)), (70, (vB b0)), (72, (vB b0))], [(1000000, .row 3 [] (List.map cI j132.2.2))]⟩) (by kernel_rfl) (fun hb => ?_) (fun hb => ?_)
        ·replace h := iteT hb h
         refine z6 3 (by kernel_rfl) (fun τ hτ => ?_)
         obtain rfl := Option.some.inj h
         exact leafC hτ (here (by kernel_rfl))
        ·replace h := iteF hb h
         refine z6 3 (by kernel_rfl) (fun τ hτ => ?_)
         obtain rfl := Option.some.inj h
         exact leafC hτ (here (by kernel_rfl))
       ·replace h := iteF hb h
        refine z6 6 (by kernel_rfl) (fun τ hτ => ?_)
        obtain rfl := Option.some.inj h
        exact leafC hτ (here (by kernel_rfl))
      refine th_normalS hτ ⟨[(0, (.row (.top 1000000) 3)), (1, (vI s59.1)), (2, (vI s59.2.1)), (3, (vI j127.1)), (4, (.fn 112 [])), (10, (vB j167.1)), (11, (vB j167.2.1)), (12, (vI (isub s59.2.1 s59.1))), (13, (vI j132.1)), (75, (vB j167.2.2))], [(1000000, .row 3 [] (List.map cI j132.2.2))]⟩ (here (by kernel_rfl)) ?_
      refine sem_cond j167.2.2 (by kernel_rfl) (by kernel_rfl) (fun hb => ?_) (fun hb => ?_)
      ·replace h := iteT hb h
       refine z7 (by kernel_rfl) ?_
       refine evs_run 4 (by kernel_rfl) ?_
       obtain ⟨r169, hr169, h⟩ := bindS h
       refine evs_callS [(1000000, 1000000)] [] [] (by kernel_rfl) (W.slices_partialInsertionSortCmpFunc_int__cmp_Compare_int_ok hr169) (by kernel_rfl) (by kernel_rfl) (.inl rfl) ?_
       refine evs_endS (by kernel_rfl) (fun τ hτ => ?_)
       refine th_normalS hτ ⟨[(0, (.row (.top 1000000) 3)), (1, (vI s59.1)), (2, (vI s59.2.1)), (3, (vI j127.1)), (4, (.fn 112 [])), (10, (vB j167.1)), (11, (vB j167.2.1)), (12, (vI (isub s59.2.1 s59.1))), (13, (vI j132.1)), (80, (vB r169.1))], [(1000000, .row 3 [] (List.map cI r169.2))]⟩ (here (by kernel_rfl)) ?_
       refine sem_cond r169.1 (by kernel_rfl) (by kernel_rfl) (fun hb => ?_) (fun hb => ?_)
       ·replace h := iteT hb h
        refine sem_retS (by kernel_rfl) (fun τ hτ => ?_)
        refine jk_ret ?_
        refine bl_ret ?_
        obtain rfl := Option.some.inj h
        exact lk_outS hτ rfl (here (by kernel_rfl))
       ·replace h := iteF hb h
        refine sem_skipS (by kernel_rfl) (fun τ hτ => ?_)
        exact jk_normal (j167.1, j167.2.1, r169.2) h hτ (here (by kernel_rfl))
      ·replace h := iteF hb h
       refine sem_skipS (by kernel_rfl) (fun τ hτ => ?_)
       exact jk_normal (j167.1, j167.2.1, j132.2.2) h hτ (here (by kernel_rfl))
     refine z3 2 ⟨[(0, (.row (.top 1000000) 3)), (1, (vI s59.1)), (2, (vI s59.2.1)), (3, (vI j127.1)), (4, (.fn 112 [])), (10, (vB s59.2.2.2.1)), (11, (vB s59.2.2.2.2.1)), (12, (vI (isub s59.2.1 s59.1))), (13, (vI r129.1)), (14, (vI r129.2)), (56, (vB (r129.2 == 2)))], [(1000000, .row 3 [] (List.map cI j127.2))]⟩ (by kernel_rfl) ?_
     refine sem_cond (r129.2 == 2) (by kernel_rfl) (by kernel_rfl) (fun hb => ?_) (fun hb => ?_)
     ·replace h := iteT hb h
      refine z7 (by kernel_rfl) ?_
      refine evs_run 4 (by kernel_rfl) ?_
      obtain ⟨r171, hr171, h⟩ := bindS h
      refine evs_callS [(1000000, 1000000)] [] [] (by kernel_rfl) (W.slices_reverseRangeCmpFunc_int__cmp_Compare_int_ok hr171) (by kernel_rfl) (by kernel_rfl) (.inl rfl) ?_
      refine evs_endS (by kernel_rfl) (fun τ hτ => ?_)
      refine th_normalS hτ ⟨[(0, (.row (.top 1000000) 3)), (1, (vI s59.1)), (2, (vI s59.2.1)), (3, (vI j127.1)), (4, (.fn 112 [])), (10, (vB s59.2.2.2.1)), (11, (vB s59.2.2.2.2.1)), (12, (vI (isub s59.2.1 s59.1))), (13, (vI r129.1))], [(1000000, .row 3 [] (List.map cI r171))]⟩ (here (by kernel_rfl)) ?_
      refine z3 7 ⟨[(0, (.row (.top 1000000) 3)), (1, (vI s59.1)), (2, (vI s59.2.1)), (3, (vI j127.1)), (4, (.fn 112 [])), (10, (vB s59.2.2.2.1)), (11, (vB s59.2.2.2.2.1)), (12, (vI (isub s59.2.1 s59.1))), (13, (vI (isub (isub s59.2.1 1) (isub r129.1 s59.1))))], [(1000000, .row 3 [] (List.map cI r171))]⟩ (by kernel_rfl) ?_
      refine sem_region (by kernel_rfl) ?_
      refine z6 1 (by kernel_rfl) (fun τ hτ => ?_)
      exact jk_normal ((isub (isub s59.2.1 1) (isub r129.1 s59.1)), 1, r171) h hτ (here (by kernel_rfl))
     ·replace h := iteF hb h
      refine sem_skipS (by kernel_rfl) (fun τ hτ => ?_)
      exact jk_normal (r129.1, r129.2, j127.2) h hτ (here (by kernel_rfl))
    refine z3 2 ⟨[(0, (.row (.top 1000000) 3)), (1, (vI s59.1)), (2, (vI s59.2.1)), (3, (vI s59.2.2.1)), (4, (.fn 112 [])), (10, (vB s59.2.2.2.1)), (11, (vB s59.2.2.2.2.1)), (12, (vI (isub s59.2.1 s59.1))), (39, (vB (!s59.2.2.2.1)))], [(1000000, .row 3 [] (List.map cI s59.2.2.2.2.2))]⟩ (by kernel_rfl) ?_
    refine sem_cond (!s59.2.2.2.1) (by kernel_rfl) (by kernel_rfl) (fun hb => ?_) (fun hb => ?_)
    ·replace h := iteT hb h
     refine z7 (by kernel_rfl) ?_
     refine evs_run 4 (by kernel_rfl) ?_
     obtain ⟨r173, hr173, h⟩ := bindS h
     refine evs_callS [(1000000, 1000000)] [] [] (by kernel_rfl) (W.slices_breakPatternsCmpFunc_int__cmp_Compare_int_ok hr173) (by kernel_rfl) (by kernel_rfl) (.inl rfl) ?_
     refine evs_endS (by kernel_rfl) (fun τ hτ => ?_)
     refine th_normalS hτ ⟨[(0, (.row (.top 1000000) 3)), (1, (vI s59.1)), (2, (vI s59.2.1)), (3, (vI s59.2.2.1)), (4, (.fn 112 [])), (10, (vB s59.2.2.2.1)), (11, (vB s59.2.2.2.2.1)), (12, (vI (isub s59.2.1 s59.1)))], [(1000000, .row 3 [] (List.map cI r173))]⟩ (here (by kernel_rfl)) ?_
     refine sem_region (by kernel_rfl) ?_
     refine z6 3 (by kernel_rfl) (fun τ hτ => ?_)
     exact jk_normal ((isub s59.2.2.1 1), r173) h hτ (here (by kernel_rfl))
    ·replace h := iteF hb h
     refine sem_skipS (by kernel_rfl) (fun τ hτ => ?_)
     exact jk_normal (s59.2.2.1, s59.2.2.2.2.2) h hτ (here (by kernel_rfl))
 ·intro x
  rfl
 ·intro τ hτ
  refine bl_ret ?_
  obtain rfl := Option.some.inj h
  exact rk_ret hτ [] (here (by kernel_rfl)) (by kernel_rfl)
theorem W.slices_pdqsortCmpFunc_int__cmp_Compare_int_n_ok : ∀ (n : Nat) {a : Int} {b : Int} {limit : Int} {h0 : (List Int)} {r : (List Int)}, slices_pdqsortCmpFunc_int__cmp_Compare_int_n n a b limit h0 = some r → PC G.P 125 [(.row (.top 1000000) 3), (vI a), (vI b), (vI limit), (.fn 112 [])] [(1000000, .row 3 [] (List.map cI h0))] (.tup []) [(1000000, .row 3 [] (List.map cI r))]
  | 0, _, _, _, _, _, h => by simp [slices_pdqsortCmpFunc_int__cmp_Compare_int_n] at h
  | n + 1, _, _, _, _, _, h => W.slices_pdqsortCmpFunc_int__cmp_Compare_int_body_ok (slices_pdqsortCmpFunc_int__cmp_Compare_int_n n) (W.slices_pdqsortCmpFunc_int__cmp_Compare_int_n_ok n) h
theorem W.slices_pdqsortCmpFunc_int__cmp_Compare_int_ok {a : Int} {b : Int} {limit : Int} {h0 : (List Int)} {r : (List Int)} (h : slices_pdqsortCmpFunc_int__cmp_Compare_int a b limit h0 = some r) : PC G.P 125 [(.row (.top 1000000) 3), (vI a), (vI b), (vI limit), (.fn 112 [])] [(1000000, .row 3 [] (List.map cI h0))] (.tup []) [(1000000, .row 3 [] (List.map cI r))] := W.slices_pdqsortCmpFunc_int__cmp_Compare_int_n_ok 1000 h

theorem W.slices_SortFunc_Lint_int__cmp_Compare_int_ok {h0 : (List Int)} {r : (List Int)} (h : slices_SortFunc_Lint_int__cmp_Compare_int h0 = some r) : PC G.P 120 [(.row (.top 1000000) 3), (.fn 112 [])] [(1000000, .row 3 [] (List.map cI h0))] (.tup []) [(1000000, .row 3 [] (List.map cI r))] := by
 refine pc_of G (fn := Try.f120) Try.func120 (by kernel_rfl) (by kernel_rfl) (by kernel_rfl) (by kernel_rfl) (by kernel_rfl) ?_
 refine sem_set ⟨[(0, (.row (.top 1000000) 3)), (1, (.fn 112 []))], [(1000000, .row 3 [] (List.map cI h0))]⟩ (by kernel_rfl) ?_
 refine z7 (by kernel_rfl) ?_
 refine evs_run 1 (by kernel_rfl) ?_
 refine evs_op (st_len (c := cI) (l := h0) (x := (.row (.top 1000000) 3)) (by kernel_rfl) (by kernel_rfl)) ?_
 refine z1 1 ⟨[(0, (.row (.top 1000000) 3)), (1, (.fn 112 [])), (4, (vI (h0.length : Int)))], [(1000000, .row 3 [] (List.map cI h0))]⟩ (by kernel_rfl) ?_
 refine sem_region (by kernel_rfl) ?_
 refine evs_run 4 (by kernel_rfl) ?_
 obtain ⟨r3, hr3, h⟩ := bindS h
 refine evs_callP [] (by kernel_rfl) (W.bits_Len_ok hr3) (by kernel_rfl) (.inl rfl) (by kernel_rfl) ?_
 refine evs_run 1 (by kernel_rfl) ?_
 obtain ⟨r4, hr4, h⟩ := bindS h
 refine evs_callS [(1000000, 1000000)] [] [] (by kernel_rfl) (W.slices_pdqsortCmpFunc_int__cmp_Compare_int_ok hr4) (by kernel_rfl) (by kernel_rfl) (.inl rfl) ?_
 refine evs_endS (by kernel_rfl) (fun τ hτ => ?_)
 obtain rfl := Option.some.inj h
 exact rk_normal hτ [] (here (by kernel_rfl)) (by kernel_rfl)
theorem W.slices_Compact_Lint_int_ok {h0 : (List Int)} {r : (List Int)} (h : slices_Compact_Lint_int h0 = some r) : PC G.P 121 [(.row (.top 300000) 3)] [(300000, .row 3 [] (List.map cI h0))] (.row (.top 0) 3) [(0, .row 3 [] (List.map cI r))] := by
 refine pc_of G (fn := Try.f121) Try.func121 (by kernel_rfl) (by kernel_rfl) (by kernel_rfl) (by kernel_rfl) (by kernel_rfl) ?_
 refine sem_set ⟨[(0, (.row (.top 300000) 3))], [(300000, .row 3 [] (List.map cI h0))]⟩ (by kernel_rfl) ?_
 refine z3 1 ⟨[(0, (.row (.top 300000) 3))], [(300000, .row 3 [] (List.map cI h0))]⟩ (by kernel_rfl) ?_
 refine sem_seq (by kernel_rfl) ?_
 refine z7 (by kernel_rfl) ?_
 refine evs_run 1 (by kernel_rfl) ?_
 refine evs_op (st_len (c := cI) (l := h0) (x := (.row (.top 300000) 3)) (by kernel_rfl) (by kernel_rfl)) ?_
 refine z1 1 ⟨[(0, (.row (.top 300000) 3)), (8, (vB (decide ((h0.length : Int) < 2))))], [(300000, .row 3 [] (List.map cI h0))]⟩ (by kernel_rfl) ?_
 refine sem_cond (decide ((h0.length : Int) < 2)) (by kernel_rfl) (by kernel_rfl) (fun hb => ?_) (fun hb => ?_)
 ·replace h := iteT hb h
  refine z8 2 ⟨[(2, (.row (.top 300000) 3))], [(300000, .row 3 [] (List.map cI h0))]⟩ (by kernel_rfl) (fun τ hτ => ?_)
  refine th_ret ?_
  obtain rfl := Option.some.inj h
  exact rk_ret hτ [(2, (.row (.top 0) 3))] (subR_prep [] [(300000, 0)] (by kernel_rfl) rfl rfl (by kernel_rfl)) (by kernel_rfl)
 ·replace h := iteF hb h
  refine z4 ⟨[(0, (.row (.top 300000) 3))], [(300000, .row 3 [] (List.map cI h0))]⟩ (by kernel_rfl) ?_
  refine sem_seq (by kernel_rfl) ?_
  refine z3 1 ⟨[(0, (.row (.top 300000) 3)), (3, (vI 1))], [(300000, .row 3 [] (List.map cI h0))]⟩ (by kernel_rfl) ?_
  refine sem_block (by kernel_rfl) ?_
  obtain ⟨x1688, hx1688, h⟩ := bindS h
  refine sem_loopS (fun (s1127 : Int) => ⟨[(0, (.row (.top 500000) 3)), (3, (vI s1127))], [(500000, .row 3 [] (List.map cI h0))]⟩) (fun (x1688 : (List Int) ⊕ Unit) => match x1688 with | .inl j1689 => (.ret, ⟨[(2, (.row (.top 500000) 3))], [(500000, .row 3 [] (List.map cI j1689))]⟩) | .inr j1690 => (.exit 0, ⟨[(0, (.row (.top 500000) 3))], [(500000, .row 3 [] (List.map cI h0))]⟩)) (slices_Compact_Lint_int_l3 h0) 1 x1688 (by kernel_rfl) (subR_prep [] [(300000, 500000)] (by kernel_rfl) rfl rfl (by kernel_rfl)) hx1688 ?_ ?_ ?_
  ·intro s1127 r h
   refine sem_seq (by kernel_rfl) ?_
   refine z7 (by kernel_rfl) ?_
   refine evs_run 2 (by kernel_rfl) ?_
   refine evs_op (st_len (c := cI) (l := h0) (x := (.row (.top 500000) 3)) (by kernel_rfl) (by kernel_rfl)) ?_
   refine z1 1 ⟨[(0, (.row (.top 500000) 3)), (3, (vI s1127)), (13, (vB (decide (s1127 < (h0.length : Int)))))], [(500000, .row 3 [] (List.map cI h0))]⟩ (by kernel_rfl) ?_
   refine sem_cond (decide (s1127 < (h0.length : Int))) (by kernel_rfl) (by kernel_rfl) (fun hb => ?_) (fun hb => ?_)
   ·replace h := iteT hb h
    refine z4 ⟨[(0, (.row (.top 500000) 3)), (3, (vI s1127))], [(500000, .row 3 [] (List.map cI h0))]⟩ (by kernel_rfl) ?_
    refine sem_seq (by kernel_rfl) ?_
    refine sem_block (by kernel_rfl) ?_
    refine sem_seq (by kernel_rfl) ?_
    refine sem_drawN [] [] [] [] [] 9 (by kernel_rfl) (by kernel_rfl) (by kernel_rfl) ?_
    refine evd_run 2 (by kernel_rfl) ?_
    obtain ⟨x1552, hx1552, h⟩ := bindS h
    refine evd_val (by kernel_rfl) (st_idxO (c := cI) (l := h0) (i := s1127) (kd := .i64) (kk := (.top 500000)) (e := 3) (sz := 1) (by kernel_rfl) (by kernel_rfl) hx1552 rfl) (by kernel_rfl) (by kernel_rfl) ?_
    refine evd_val (by kernel_rfl) (st_ldO (c := cI) (l := h0) (i := (Int.toNat s1127)) (v := (vI x1552)) (agg := false) (sz := 1) (kk := (.top 500000)) (e := 3) (off := 0) (J := []) (by kernel_rfl) (by kernel_rfl) (by kernel_rfl) ((idxS hx1552).2) (by kernel_rfl)) (by kernel_rfl) (by kernel_rfl) ?_
    refine evd_run 3 (by kernel_rfl) ?_
    obtain ⟨x1553, hx1553, h⟩ := bindS h
    refine evd_val (by kernel_rfl) (st_idxO (c := cI) (l := h0) (i := (isub s1127 1)) (kd := .i64) (kk := (.top 500000)) (e := 3) (sz := 1) (by kernel_rfl) (by kernel_rfl) hx1553 rfl) (by kernel_rfl) (by kernel_rfl) ?_
    refine evd_val (by kernel_rfl) (st_ldO (c := cI) (l := h0) (i := (Int.toNat (isub s1127 1))) (v := (vI x1553)) (agg := false) (sz := 1) (kk := (.top 500000)) (e := 3) (off := 0) (J := []) (by kernel_rfl) (by kernel_rfl) (by kernel_rfl) ((idxS hx1553).2) (by kernel_rfl)) (by kernel_rfl) (by kernel_rfl) ?_
    refine evd_end (by kernel_rfl) ?_
    refine evo_run 1 (by kernel_rfl) ?_
    refine evo_endS (by kernel_rfl) (fun τ hτ => ?_)
    refine th_normalS hτ ⟨[(0, (.row (.top 500000) 3)), (3, (vI s1127)), (25, (vB (x1552 == x1553)))], [(500000, .row 3 [] (List.map cI h0))]⟩ (here (by kernel_rfl)) ?_
    refine sem_cond (x1552 == x1553) (by kernel_rfl) (by kernel_rfl) (fun hb => ?_) (fun hb => ?_)
    ·replace h := iteT hb h
     refine z7 (by kernel_rfl) ?_
     refine evs_run 2 (by kernel_rfl) ?_
     obtain ⟨hp2, h⟩ := iteN h
     refine evs_op (st_slPL (c := cI) (l := h0) (kk := (.top 500000)) (e := 3) (sz := 1) (lo := s1127) (k1 := .i64) (by kernel_rfl) (by kernel_rfl) (fun _ => rfl) hp2) ?_
     refine z1 1 ⟨[(0, (.row (.top 500000) 3)), (3, (vI s1127)), (4, (.part (.top 500000) 3 (Int.toNat s1127) (Int.toNat (h0.length : Int) - Int.toNat s1127)))], [(500000, .row 3 [] (List.map cI h0))]⟩ (by kernel_rfl) ?_
     refine sem_seq (by kernel_rfl) ?_
     refine z3 1 ⟨[(0, (.row (.top 500000) 3)), (3, (vI s1127)), (4, (.part (.top 500000) 3 (Int.toNat s1127) (Int.toNat (h0.length : Int) - Int.toNat s1127))), (5, (vI 1))], [(500000, .row 3 [] (List.map cI h0))]⟩ (by kernel_rfl) ?_
     refine sem_block (by kernel_rfl) ?_
     obtain ⟨x1685, hx1685, h⟩ := bindS h
     refine sem_loopS (fun (s1642 : Int × Int × (List Int)) => ⟨[(0, (.row (.top 500000) 3)), (3, (vI s1642.1)), (4, (.part (.top 500000) 3 (Int.toNat s1127) (Int.toNat (h0.length : Int) - Int.toNat s1127))), (5, (vI s1642.2.1))], [(500000, .row 3 [] (List.map cI s1642.2.2))]⟩) (fun (x1685 : Int × (List Int)) => (.exit 2, ⟨[(0, (.row (.top 500000) 3)), (3, (vI x1685.1))], [(500000, .row 3 [] (List.map cI x1685.2))]⟩)) (slices_Compact_Lint_int_l2 h0 s1127) (s1127, 1, h0) x1685 (by kernel_rfl) (here (by kernel_rfl)) hx1685 ?_ ?_ ?_
     ·intro s1642 r h
      refine sem_seq (by kernel_rfl) ?_
      refine z7 (by kernel_rfl) ?_
      refine evs_run 2 (by kernel_rfl) ?_
      refine evs_op (st_lenP (kk := (.top 500000)) (e := 3) (lo := (Int.toNat s1127)) (n := (Int.toNat (h0.length : Int) - Int.toNat s1127)) (by kernel_rfl)) ?_
      refine z1 1 ⟨[(0, (.row (.top 500000) 3)), (3, (vI s1642.1)), (4, (.part (.top 500000) 3 (Int.toNat s1127) (Int.toNat (h0.length : Int) - Int.toNat s1127))), (5, (vI s1642.2.1)), (32, (vB (decide (s1642.2.1 < ((Int.toNat (h0.length : Int) - Int.toNat s1127 : Nat) : Int)))))], [(500000, .row 3 [] (List.map cI s1642.2.2))]⟩ (by kernel_rfl) ?_
      refine sem_cond (decide (s1642.2.1 < ((Int.toNat (h0.length : Int) - Int.toNat s1127 : Nat) : Int))) (by kernel_rfl) (by kernel_rfl) (fun hb => ?_) (fun hb => ?_)
      ·replace h := iteT hb h
       refine z4 ⟨[(0, (.row (.top 500000) 3)), (3, (vI s1642.1)), (4, (.part (.top 500000) 3 (Int.toNat s1127) (Int.toNat (h0.length : Int) - Int.toNat s1127))), (5, (vI s1642.2.1))], [(500000, .row 3 [] (List.map cI s1642.2.2))]⟩ (by kernel_rfl) ?_
       refine sem_seqJ (fun (j1674 : Int × (List Int)) => ⟨[(0, (.row (.top 500000) 3)), (3, (vI j1674.1)), (4, (.part (.top 500000) 3 (Int.toNat s1127) (Int.toNat (h0.length : Int) - Int.toNat s1127))), (5, (vI s1642.2.1))], [(500000, .row 3 [] (List.map cI j1674.2))]⟩) (slices_Compact_Lint_int_k1 s1642) r (by kernel_rfl) (fun j1674 h => ?_) ?_
       ·refine sem_region (by kernel_rfl) ?_
        refine z6 3 (by kernel_rfl) (fun τ hτ => ?_)
        obtain rfl := Option.some.inj h
        exact lk_nextS hτ (here (by kernel_rfl))
       refine sem_block (by kernel_rfl) ?_
       refine sem_seq (by kernel_rfl) ?_
       refine sem_drawN [] [] [] [] [] 9 (by kernel_rfl) (by kernel_rfl) (by kernel_rfl) ?_
       refine evd_run 2 (by kernel_rfl) ?_
       obtain ⟨x1679, hx1679, h⟩ := bindS h
       refine evd_val (by kernel_rfl) (st_idxP (c := cI) (l := s1642.2.2) (i := s1642.2.1) (kd := .i64) (kk := (.top 500000)) (e := 3) (sz := 1) (lo := (Int.toNat s1127)) (n := (Int.toNat (h0.length : Int) - Int.toNat s1127)) (by kernel_rfl) (by kernel_rfl) hx1679 rfl) (by kernel_rfl) (by kernel_rfl) ?_
       refine evd_val (by kernel_rfl) (st_ldO (c := cI) (l := s1642.2.2) (i := ((Int.toNat s1127) + Int.toNat s1642.2.1)) (v := (vI x1679)) (agg := false) (sz := 1) (kk := (.top 500000)) (e := 3) (off := 0) (J := []) (by kernel_rfl) (by kernel_rfl) (by kernel_rfl) (idx_part hx1679) (by kernel_rfl)) (by kernel_rfl) (by kernel_rfl) ?_
       refine evd_run 3 (by kernel_rfl) ?_
       obtain ⟨x1680, hx1680, h⟩ := bindS h
       refine evd_val (by kernel_rfl) (st_idxP (c := cI) (l := s1642.2.2) (i := (isub s1642.2.1 1)) (kd := .i64) (kk := (.top 500000)) (e := 3) (sz := 1) (lo := (Int.toNat s1127)) (n := (Int.toNat (h0.length : Int) - Int.toNat s1127)) (by kernel_rfl) (by kernel_rfl) hx1680 rfl) (by kernel_rfl) (by kernel_rfl) ?_
       refine evd_val (by kernel_rfl) (st_ldO (c := cI) (l := s1642.2.2) (i := ((Int.toNat s1127) + Int.toNat (isub s1642.2.1 1))) (v := (vI x1680)) (agg := false) (sz := 1) (kk := (.top 500000)) (e := 3) (off := 0) (J := []) (by kernel_rfl) (by kernel_rfl) (by kernel_rfl) (idx_part hx1680) (by kernel_rfl)) (by kernel_rfl) (by kernel_rfl) ?_
       refine evd_end (by kernel_rfl) ?_
       refine evo_run 1 (by kernel_rfl) ?_
       refine evo_endS (by kernel_rfl) (fun τ hτ => ?_)
       refine th_normalS hτ ⟨[(0, (.row (.top 500000) 3)), (3, (vI s1642.1)), (4, (.part (.top 500000) 3 (Int.toNat s1127) (Int.toNat (h0.length : Int) - Int.toNat s1127))), (5, (vI s1642.2.1)), (44, (vB (x1679 != x1680)))], [(500000, .row 3 [] (List.map cI s1642.2.2))]⟩ (here (by kernel_rfl)) ?_
       refine sem_cond (x1679 != x1680) (by kernel_rfl) (by kernel_rfl) (fun hb => ?_) (fun hb => ?_)
       ·replace h := iteT hb h
        refine z7 (by kernel_rfl) ?_
        refine evs_run 4 (by kernel_rfl) ?_
        obtain ⟨x1683, hx1683, h⟩ := bindS h
        refine evs_op (st_idxP (c := cI) (l := s1642.2.2) (i := s1642.2.1) (kd := .i64) (kk := (.top 500000)) (e := 3) (sz := 1) (lo := (Int.toNat s1127)) (n := (Int.toNat (h0.length : Int) - Int.toNat s1127)) (by kernel_rfl) (by kernel_rfl) hx1683 rfl) ?_
        refine evs_op (st_ldO (c := cI) (l := s1642.2.2) (i := ((Int.toNat s1127) + Int.toNat s1642.2.1)) (v := (vI x1683)) (agg := false) (sz := 1) (kk := (.top 500000)) (e := 3) (off := 0) (J := []) (by kernel_rfl) (by kernel_rfl) (by kernel_rfl) (idx_part hx1683) (by kernel_rfl)) ?_
        obtain ⟨x1684, hx1684, h⟩ := bindS h
        refine evs_op (st_idxO (c := cI) (l := s1642.2.2) (i := s1642.1) (kd := .i64) (kk := (.top 500000)) (e := 3) (sz := 1) (by kernel_rfl) (by kernel_rfl) hx1684 rfl) ?_
        refine evs_op (st_stO (c := cI) (l := s1642.2.2) (i := (Int.toNat s1642.1)) (x := x1684) (x' := x1683) (v := (vI x1683)) (agg := false) (sz := 1) (kk := (.top 500000)) (e := 3) (off := 0) (J := []) (o := .row 3 [] (List.map cI (List.set s1642.2.2 (Int.toNat s1642.1) x1683))) (by kernel_rfl) (by kernel_rfl) (by kernel_rfl) ((idxS hx1684).2) (by kernel_rfl) (by kernel_rfl) (by kernel_rfl)) ?_
        refine evs_endS (by kernel_rfl) (fun τ hτ => ?_)
        refine th_normalS hτ ⟨[(0, (.row (.top 500000) 3)), (3, (vI s1642.1)), (4, (.part (.top 500000) 3 (Int.toNat s1127) (Int.toNat (h0.length : Int) - Int.toNat s1127))), (5, (vI s1642.2.1))], [(500000, .row 3 [] (List.map cI (List.set s1642.2.2 (Int.toNat s1642.1) x1683)))]⟩ (here (by kernel_rfl)) ?_
        refine sem_region (by kernel_rfl) ?_
        refine z6 3 (by kernel_rfl) (fun τ hτ => ?_)
        refine bl_normal ?_
        exact jk_normal ((iadd s1642.1 1), (List.set s1642.2.2 (Int.toNat s1642.1) x1683)) h hτ (here (by kernel_rfl))
       ·replace h := iteF hb h
        refine sem_skipS (by kernel_rfl) (fun τ hτ => ?_)
        refine bl_normal ?_
        exact jk_normal (s1642.1, s1642.2.2) h hτ (here (by kernel_rfl))
      ·replace h := iteF hb h
       refine sem_exitS 2 (by kernel_rfl) rfl (fun τ hτ => ?_)
       refine th_exit ?_
       obtain rfl := Option.some.inj h
       exact lk_outS hτ rfl (here (by kernel_rfl))
     ·intro x
      rfl
     ·intro τ hτ
      refine bl_hit (by kernel_rfl) ?_
      refine th_normalS hτ ⟨[(0, (.row (.top 500000) 3)), (3, (vI x1685.1))], [(500000, .row 3 [] (List.map cI x1685.2))]⟩ (here (by kernel_rfl)) ?_
      refine z7 (by kernel_rfl) ?_
      refine evs_run 2 (by kernel_rfl) ?_
      obtain ⟨hp2, h⟩ := iteN h
      refine evs_op (st_slPL (c := cI) (l := x1685.2) (kk := (.top 500000)) (e := 3) (sz := 1) (lo := x1685.1) (k1 := .i64) (by kernel_rfl) (by kernel_rfl) (fun _ => rfl) hp2) ?_
      refine evs_at (at_clear (c := cI) (l := x1685.2) (z := 0) (d := (.part (.top 500000) 3 (Int.toNat x1685.1) (Int.toNat (x1685.2.length : Int) - Int.toNat x1685.1))) (e := 3) (g := 500000) (lo := (Int.toNat x1685.1)) (n := (Int.toNat (x1685.2.length : Int) - Int.toNat x1685.1)) (zs := [(vI 0)]) (by kernel_rfl) (by kernel_rfl) (by kernel_rfl) (part_fit hp2) rfl) ?_
      refine evs_endS (by kernel_rfl) (fun τ hτ => ?_)
      refine th_normalS hτ ⟨[(0, (.row (.top 500000) 3)), (3, (vI x1685.1))], [(500000, .row 3 [] (List.map cI (cpy x1685.2 (Int.toNat x1685.1) (List.replicate (Int.toNat (x1685.2.length : Int) - Int.toNat x1685.1) 0))))]⟩ (here (by kernel_rfl)) ?_
      refine z7 (by kernel_rfl) ?_
      refine evs_run 2 (by kernel_rfl) ?_
      obtain ⟨l1687, hl1687, h⟩ := bindS h
      refine evs_at (at_cut (J := []) (c := cI) (l := (cpy x1685.2 (Int.toNat x1685.1) (List.replicate (Int.toNat (x1685.2.length : Int) - Int.toNat x1685.1) 0))) (e := 3) (g := 500000) (hi := x1685.1) (k2 := .i64) (by kernel_rfl) (by kernel_rfl) rfl hl1687) ?_
      refine z1 1 ⟨[(2, (.row (.top 500000) 3))], [(500000, .row 3 [] (List.map cI l1687))]⟩ (by kernel_rfl) ?_
      refine sem_retS (by kernel_rfl) (fun τ hτ => ?_)
      refine bl_ret ?_
      refine th_ret ?_
      obtain rfl := Option.some.inj h
      exact lk_outS hτ rfl (here (by kernel_rfl))
    ·replace h := iteF hb h
     refine sem_skipS (by kernel_rfl) (fun τ hτ => ?_)
     refine bl_normal ?_
     refine th_normalS hτ ⟨[(0, (.row (.top 500000) 3)), (3, (vI s1127))], [(500000, .row 3 [] (List.map cI h0))]⟩ (here (by kernel_rfl)) ?_
     refine sem_region (by kernel_rfl) ?_
     refine z6 3 (by kernel_rfl) (fun τ hτ => ?_)
     obtain rfl := Option.some.inj h
     exact lk_nextS hτ (here (by kernel_rfl))
   ·replace h := iteF hb h
    refine sem_exitS 0 (by kernel_rfl) rfl (fun τ hτ => ?_)
    refine th_exit ?_
    obtain rfl := Option.some.inj h
    exact lk_outS hτ rfl (here (by kernel_rfl))
  ·intro x
   rcases x with _ | _ <;> rfl
  ·intro τ hτ
   rcases x1688 with j1689 | j1690
   ·refine bl_ret ?_
    refine th_ret ?_
    obtain rfl := Option.some.inj h
    exact rk_ret hτ [(2, (.row (.top 0) 3))] (subR_prep [] [(500000, 0)] (by kernel_rfl) rfl rfl (by kernel_rfl)) (by kernel_rfl)
   ·refine bl_hit (by kernel_rfl) ?_
    refine th_normalS hτ ⟨[(0, (.row (.top 500000) 3))], [(500000, .row 3 [] (List.map cI h0))]⟩ (here (by kernel_rfl)) ?_
    refine z8 2 ⟨[(2, (.row (.top 500000) 3))], [(500000, .row 3 [] (List.map cI h0))]⟩ (by kernel_rfl) (fun τ hτ => ?_)
    obtain rfl := Option.some.inj h
    exact rk_ret hτ [(2, (.row (.top 0) 3))] (subR_prep [] [(500000, 0)] (by kernel_rfl) rfl rfl (by kernel_rfl)) (by kernel_rfl)
theorem W.geom_sorted_int__cmp_Compare_int_ok {l : (List Int)} {r : (List Int)} (h : geom_sorted_int__cmp_Compare_int l = some r) : PC G.P 111 [(.sl (List.map cI l)), (.fn 112 [])] [] (.row (.top 0) 3) [(0, .row 3 [] (List.map cI r))] := by
 refine pc_of G (fn := Try.f111) Try.func111 (by kernel_rfl) (by kernel_rfl) (by kernel_rfl) (by kernel_rfl) (by kernel_rfl) ?_
 refine sem_set ⟨[(0, (.sl (List.map cI l))), (1, (.fn 112 []))], []⟩ (by kernel_rfl) ?_
 refine z3 1 ⟨[(0, (.sl (List.map cI l))), (1, (.fn 112 []))], []⟩ (by kernel_rfl) ?_
 refine z7 (by kernel_rfl) ?_
 refine evs_run 1 (by kernel_rfl) ?_
 obtain ⟨r2, hr2, h⟩ := bindS h
 refine evs_callS [] [(0, 700050)] [] (by kernel_rfl) (W.slices_Clone_Lint_int_ok hr2) (by kernel_rfl) (by kernel_rfl) (.inl rfl) ?_
 refine z1 1 ⟨[(1, (.fn 112 [])), (5, (.row (.top 700050) 3))], [(700050, .row 3 [] (List.map cI r2))]⟩ (by kernel_rfl) ?_
 refine z7 (by kernel_rfl) ?_
 refine evs_run 2 (by kernel_rfl) ?_
 obtain ⟨r4, hr4, h⟩ := bindS h
 refine evs_callS [(1000000, 700050)] [] [] (by kernel_rfl) (W.slices_SortFunc_Lint_int__cmp_Compare_int_ok hr4) (by kernel_rfl) (by kernel_rfl) (.inl rfl) ?_
 refine evs_endS (by kernel_rfl) (fun τ hτ => ?_)
 refine th_normalS hτ ⟨[(5, (.row (.top 700050) 3))], [(700050, .row 3 [] (List.map cI r4))]⟩ (here (by kernel_rfl)) ?_
 refine z7 (by kernel_rfl) ?_
 refine evs_run 1 (by kernel_rfl) ?_
 obtain ⟨r6, hr6, h⟩ := bindS h
 refine evs_callS [(300000, 700050)] [(0, 700051)] [] (by kernel_rfl) (W.slices_Compact_Lint_int_ok hr6) (by kernel_rfl) (by kernel_rfl) (.inl rfl) ?_
 refine z1 1 ⟨[(4, (.row (.top 700051) 3))], [(700051, .row 3 [] (List.map cI r6))]⟩ (by kernel_rfl) ?_
 refine sem_retS (by kernel_rfl) (fun τ hτ => ?_)
 obtain rfl := Option.some.inj h
 exact rk_ret hτ [(4, (.row (.top 0) 3))] (subR_prep [] [(700051, 0)] (by kernel_rfl) rfl rfl (by kernel_rfl)) (by kernel_rfl)
theorem W.geom_newGrid_ok {lists : (List (List Rect))} {r : geom_grid} (h : geom_newGrid lists = some r) : PC G.P 84 [(.sl (List.map (cS c_Rect) lists))] [] (.agg [(.row (.top 1) 3), (.row (.top 2) 3)]) [(0, .box [(.row (.top 1) 3), (.row (.top 2) 3)]), (1, .row 3 [] (List.map cI r.x)), (2, .row 3 [] (List.map cI r.y))] := by
 refine pc_of G (fn := Try.f84) Try.func84 (by kernel_rfl) (by kernel_rfl) (by kernel_rfl) (by kernel_rfl) (by kernel_rfl) ?_
 refine sem_set ⟨[(0, (.sl (List.map (cS c_Rect) lists)))], []⟩ (by kernel_rfl) ?_
 refine z3 1 ⟨[(0, (.sl (List.map (cS c_Rect) lists))), (2, (.ptr 2 0))], [(2, .box [.nl, .nl])]⟩ (by kernel_rfl) ?_
 refine z3 1 ⟨[(0, (.sl (List.map (cS c_Rect) lists))), (2, (.ptr 2 0)), (3, (.ptr 3 0))], [(2, .box [.nl, .nl]), (3, .box [.nl, .nl])]⟩ (by kernel_rfl) ?_
 refine sem_seq (by kernel_rfl) ?_
 refine z7 (by kernel_rfl) ?_
 refine evs_run 1 (by kernel_rfl) ?_
 refine evs_op (st_len (c := (cS c_Rect)) (l := lists) (x := (.sl (List.map (cS c_Rect) lists))) (by kernel_rfl) (by kernel_rfl)) ?_
 refine z1 1 ⟨[(2, (.ptr 2 0)), (3, (.ptr 3 0)), (8, (.sl (List.map (cS c_Rect) lists))), (9, (vI (lists.length : Int))), (10, (vI 0))], [(2, .box [.nl, .nl]), (3, .box [.nl, .nl])]⟩ (by kernel_rfl) ?_
 refine sem_block (by kernel_rfl) ?_
 obtain ⟨x498, hx498, h⟩ := bindS h
 refine sem_loopS (fun (s333 : Int × (List Int) × (List Int)) => ⟨[(2, (.ptr 500000 0)), (3, (.ptr 500001 0)), (8, (.sl (List.map (cS c_Rect) lists))), (9, (vI (lists.length : Int))), (10, (vI s333.1))], [(500000, .box [.nl, .nl]), (500001, .box [(.row (.top 500002) 3), (.row (.top 500003) 3)]), (500002, .row 3 [] (List.map cI s333.2.1)), (500003, .row 3 [] (List.map cI s333.2.2))]⟩) (fun (x498 : (List Int) × (List Int)) => (.exit 0, ⟨[(2, (.ptr 500000 0)), (3, (.ptr 500001 0))], [(500000, .box [.nl, .nl]), (500001, .box [(.row (.top 500002) 3), (.row (.top 500003) 3)]), (500002, .row 3 [] (List.map cI x498.1)), (500003, .row 3 [] (List.map cI x498.2))]⟩)) (geom_newGrid_l2 lists) (0, [], []) x498 (by kernel_rfl) (subR_prep [.row (.box 3 0) 800000 3 [], .row (.box 3 1) 800001 3 []] [(2, 500000), (3, 500001), (800000, 500002), (800001, 500003)] (by kernel_rfl) rfl rfl (by kernel_rfl)) hx498 ?_ ?_ ?_
 ·intro s333 r h
  refine z3 1 ⟨[(2, (.ptr 500000 0)), (3, (.ptr 500001 0)), (8, (.sl (List.map (cS c_Rect) lists))), (9, (vI (lists.length : Int))), (10, (vI s333.1)), (11, (vB (decide (s333.1 < (lists.length : Int)))))], [(500000, .box [.nl, .nl]), (500001, .box [(.row (.top 500002) 3), (.row (.top 500003) 3)]), (500002, .row 3 [] (List.map cI s333.2.1)), (500003, .row 3 [] (List.map cI s333.2.2))]⟩ (by kernel_rfl) ?_
  refine sem_seq (by kernel_rfl) ?_
  refine sem_cond (decide (s333.1 < (lists.length : Int))) (by kernel_rfl) (by kernel_rfl) (fun hb => ?_) (fun hb => ?_)
  ·replace h := iteT hb h
   refine z4 ⟨[(2, (.ptr 500000 0)), (3, (.ptr 500001 0)), (8, (.sl (List.map (cS c_Rect) lists))), (9, (vI (lists.length : Int))), (10, (vI s333.1))], [(500000, .box [.nl, .nl]), (500001, .box [(.row (.top 500002) 3), (.row (.top 500003) 3)]), (500002, .row 3 [] (List.map cI s333.2.1)), (500003, .row 3 [] (List.map cI s333.2.2))]⟩ (by kernel_rfl) ?_
   refine sem_seq (by kernel_rfl) ?_
   refine sem_block (by kernel_rfl) ?_
   refine z7 (by kernel_rfl) ?_
   obtain ⟨x458, hx458, h⟩ := bindS h
   refine evs_op (st_idx (c := (cS c_Rect)) (l := lists) (i := s333.1) (kd := .i64) (sz := 1) (by kernel_rfl) hx458 rfl) ?_
   refine z1 2 ⟨[(2, (.ptr 500000 0)), (3, (.ptr 500001 0)), (5, (.sl (List.map c_Rect x458))), (8, (.sl (List.map (cS c_Rect) lists))), (9, (vI (lists.length : Int))), (10, (vI s333.1))], [(500000, .box [.nl, .nl]), (500001, .box [(.row (.top 500002) 3), (.row (.top 500003) 3)]), (500002, .row 3 [] (List.map cI s333.2.1)), (500003, .row 3 [] (List.map cI s333.2.2))]⟩ (by kernel_rfl) ?_
   refine z7 (by kernel_rfl) ?_
   refine evs_run 1 (by kernel_rfl) ?_
   refine evs_op (st_len (c := c_Rect) (l := x458) (x := (.sl (List.map c_Rect x458))) (by kernel_rfl) (by kernel_rfl)) ?_
   refine z1 1 ⟨[(2, (.ptr 500000 0)), (3, (.ptr 500001 0)), (8, (.sl (List.map (cS c_Rect) lists))), (9, (vI (lists.length : Int))), (10, (vI s333.1)), (14, (.sl (List.map c_Rect x458))), (15, (vI (x458.length : Int))), (16, (vI 0))], [(500000, .box [.nl, .nl]), (500001, .box [(.row (.top 500002) 3), (.row (.top 500003) 3)]), (500002, .row 3 [] (List.map cI s333.2.1)), (500003, .row 3 [] (List.map cI s333.2.2))]⟩ (by kernel_rfl) ?_
   refine sem_block (by kernel_rfl) ?_
   obtain ⟨x497, hx497, h⟩ := bindS h
   refine sem_loopS (fun (s472 : Int × (List Int) × (List Int)) => ⟨[(2, (.ptr 500000 0)), (3, (.ptr 500001 0)), (8, (.sl (List.map (cS c_Rect) lists))), (9, (vI (lists.length : Int))), (10, (vI s333.1)), (14, (.sl (List.map c_Rect x458))), (15, (vI (x458.length : Int))), (16, (vI s472.1))], [(500000, .box [.nl, .nl]), (500001, .box [(.row (.top 500002) 3), (.row (.top 500003) 3)]), (500002, .row 3 [] (List.map cI s472.2.1)), (500003, .row 3 [] (List.map cI s472.2.2))]⟩) (fun (x497 : (List Int) × (List Int)) => (.exit 2, ⟨[(2, (.ptr 500000 0)), (3, (.ptr 500001 0)), (8, (.sl (List.map (cS c_Rect) lists))), (9, (vI (lists.length : Int))), (10, (vI s333.1))], [(500000, .box [.nl, .nl]), (500001, .box [(.row (.top 500002) 3), (.row (.top 500003) 3)]), (500002, .row 3 [] (List.map cI x497.1)), (500003, .row 3 [] (List.map cI x497.2))]⟩)) (geom_newGrid_l1 x458) (0, s333.2.1, s333.2.2) x497 (by kernel_rfl) (here (by kernel_rfl)) hx497 ?_ ?_ ?_
   ·intro s472 r h
    refine z3 1 ⟨[(2, (.ptr 500000 0)), (3, (.ptr 500001 0)), (8, (.sl (List.map (cS c_Rect) lists))), (9, (vI (lists.length : Int))), (10, (vI s333.1)), (14, (.sl (List.map c_Rect x458))), (15, (vI (x458.length : Int))), (16, (vI s472.1)), (17, (vB (decide (s472.1 < (x458.length : Int)))))], [(500000, .box [.nl, .nl]), (500001, .box [(.row (.top 500002) 3), (.row (.top 500003) 3)]), (500002, .row 3 [] (List.map cI s472.2.1)), (500003, .row 3 [] (List.map cI s472.2.2))]⟩ (by kernel_rfl) ?_
    refine sem_seq (by kernel_rfl) ?_
    refine sem_cond (decide (s472.1 < (x458.length : Int))) (by kernel_rfl) (by kernel_rfl) (fun hb => ?_) (fun hb => ?_)
    ·replace h := iteT hb h
     refine z4 ⟨[(2, (.ptr 500000 0)), (3, (.ptr 500001 0)), (8, (.sl (List.map (cS c_Rect) lists))), (9, (vI (lists.length : Int))), (10, (vI s333.1)), (14, (.sl (List.map c_Rect x458))), (15, (vI (x458.length : Int))), (16, (vI s472.1))], [(500000, .box [.nl, .nl]), (500001, .box [(.row (.top 500002) 3), (.row (.top 500003) 3)]), (500002, .row 3 [] (List.map cI s472.2.1)), (500003, .row 3 [] (List.map cI s472.2.2))]⟩ (by kernel_rfl) ?_
     refine sem_seq (by kernel_rfl) ?_
     refine sem_block (by kernel_rfl) ?_
     refine z7 (by kernel_rfl) ?_
     obtain ⟨x492, hx492, h⟩ := bindS h
     refine evs_op (st_idx (c := c_Rect) (l := x458) (i := s472.1) (kd := .i64) (sz := 4) (by kernel_rfl) hx492 rfl) ?_
     refine z1 3 ⟨[(2, (.ptr 500000 0)), (3, (.ptr 500001 0)), (7, (.ptr 7 0)), (8, (.sl (List.map (cS c_Rect) lists))), (9, (vI (lists.length : Int))), (10, (vI s333.1)), (14, (.sl (List.map c_Rect x458))), (15, (vI (x458.length : Int))), (16, (vI s472.1))], [(7, .box [(vI x492.X), (vI x492.Y), (vI x492.W), (vI x492.H)]), (500000, .box [.nl, .nl]), (500001, .box [(.row (.top 500002) 3), (.row (.top 500003) 3)]), (500002, .row 3 [] (List.map cI s472.2.1)), (500003, .row 3 [] (List.map cI s472.2.2))]⟩ (by kernel_rfl) ?_
     refine z7 (by kernel_rfl) ?_
     refine evs_run 10 (by kernel_rfl) ?_
     obtain ⟨l494, hl494, h⟩ := bindS h
     refine evs_op (st_app (c := cI) (l := s472.2.1) (l2 := [x492.X, (iadd x492.X x492.W)]) (x := (.sl (List.map cI [x492.X, (iadd x492.X x492.W)]))) (g := 500002) (e := 3) (sz := 1) (d := 30) (by kernel_rfl) (by kernel_rfl) (by kernel_rfl) (by kernel_rfl) (fun _ => rfl) rfl hl494) ?_
     refine z1 2 ⟨[(2, (.ptr 500000 0)), (3, (.ptr 500001 0)), (7, (.ptr 7 0)), (8, (.sl (List.map (cS c_Rect) lists))), (9, (vI (lists.length : Int))), (10, (vI s333.1)), (14, (.sl (List.map c_Rect x458))), (15, (vI (x458.length : Int))), (16, (vI s472.1))], [(7, .box [(vI x492.X), (vI x492.Y), (vI x492.W), (vI x492.H)]), (500000, .box [.nl, .nl]), (500001, .box [(.row (.top 500002) 3), (.row (.top 500003) 3)]), (500002, .row 3 [] (List.map cI l494)), (500003, .row 3 [] (List.map cI s472.2.2))]⟩ (by kernel_rfl) ?_
     refine sem_region (by kernel_rfl) ?_
     refine evs_run 10 (by kernel_rfl) ?_
     obtain ⟨l496, hl496, h⟩ := bindS h
     refine evs_op (st_app (c := cI) (l := s472.2.2) (l2 := [x492.Y, (iadd x492.Y x492.H)]) (x := (.sl (List.map cI [x492.Y, (iadd x492.Y x492.H)]))) (g := 500003) (e := 3) (sz := 1) (d := 42) (by kernel_rfl) (by kernel_rfl) (by kernel_rfl) (by kernel_rfl) (fun _ => rfl) rfl hl496) ?_
     refine z6 2 (by kernel_rfl) (fun τ hτ => ?_)
     refine bl_normal ?_
     refine th_normalS hτ ⟨[(2, (.ptr 500000 0)), (3, (.ptr 500001 0)), (8, (.sl (List.map (cS c_Rect) lists))), (9, (vI (lists.length : Int))), (10, (vI s333.1)), (14, (.sl (List.map c_Rect x458))), (15, (vI (x458.length : Int))), (16, (vI s472.1))], [(500000, .box [.nl, .nl]), (500001, .box [(.row (.top 500002) 3), (.row (.top 500003) 3)]), (500002, .row 3 [] (List.map cI l494)), (500003, .row 3 [] (List.map cI l496))]⟩ (here (by kernel_rfl)) ?_
     refine sem_region (by kernel_rfl) ?_
     refine z6 2 (by kernel_rfl) (fun τ hτ => ?_)
     obtain rfl := Option.some.inj h
     exact lk_nextS hτ (here (by kernel_rfl))
    ·replace h := iteF hb h
     refine sem_exitS 2 (by kernel_rfl) rfl (fun τ hτ => ?_)
     refine th_exit ?_
     obtain rfl := Option.some.inj h
     exact lk_outS hτ rfl (here (by kernel_rfl))
   ·intro x
    rfl
   ·intro τ hτ
    refine bl_hit (by kernel_rfl) ?_
    refine bl_normal ?_
    refine th_normalS hτ ⟨[(2, (.ptr 500000 0)), (3, (.ptr 500001 0)), (8, (.sl (List.map (cS c_Rect) lists))), (9, (vI (lists.length : Int))), (10, (vI s333.1))], [(500000, .box [.nl, .nl]), (500001, .box [(.row (.top 500002) 3), (.row (.top 500003) 3)]), (500002, .row 3 [] (List.map cI x497.1)), (500003, .row 3 [] (List.map cI x497.2))]⟩ (here (by kernel_rfl)) ?_
    refine sem_region (by kernel_rfl) ?_
    refine z6 2 (by kernel_rfl) (fun τ hτ => ?_)
    obtain rfl := Option.some.inj h
    exact lk_nextS hτ (here (by kernel_rfl))
  ·replace h := iteF hb h
   refine sem_exitS 0 (by kernel_rfl) rfl (fun τ hτ => ?_)
   refine th_exit ?_
   obtain rfl := Option.some.inj h
   exact lk_outS hτ rfl (here (by kernel_rfl))
 ·intro x
  rfl
 ·intro τ hτ
  refine bl_hit (by kernel_rfl) ?_
  refine th_normalS hτ ⟨[(2, (.ptr 500000 0)), (3, (.ptr 500001 0))], [(500000, .box [.nl, .nl]), (500001, .box [(.row (.top 500002) 3), (.row (.top 500003) 3)]), (500002, .row 3 [] (List.map cI x498.1)), (500003, .row 3 [] (List.map cI x498.2))]⟩ (here (by kernel_rfl)) ?_
  refine z7 (by kernel_rfl) ?_
  refine evs_run 2 (by kernel_rfl) ?_
  obtain ⟨r500, hr500, h⟩ := bindS h
  refine evs_callS [] [(0, 700100)] [500002] (by kernel_rfl) (W.geom_sorted_int__cmp_Compare_int_ok hr500) (by kernel_rfl) (by kernel_rfl) (.inr ⟨rfl, fun _ _ => ind_cons (ind_row fun _ => rfl) (fun _ _ => ind_nil)⟩) ?_
  refine z1 2 ⟨[(2, (.ptr 500000 0)), (3, (.ptr 500001 0))], [(500000, .box [.nl, .nl]), (500001, .box [(.row (.top 700100) 3), (.row (.top 500003) 3)]), (500003, .row 3 [] (List.map cI x498.2)), (700100, .row 3 [] (List.map cI r500))]⟩ (by kernel_rfl) ?_
  refine z7 (by kernel_rfl) ?_
  refine evs_run 2 (by kernel_rfl) ?_
  obtain ⟨r502, hr502, h⟩ := bindS h
  refine evs_callS [] [(0, 700101)] [500003] (by kernel_rfl) (W.geom_sorted_int__cmp_Compare_int_ok hr502) (by kernel_rfl) (by kernel_rfl) (.inr ⟨rfl, fun _ _ => ind_cons (ind_row fun _ => rfl) (fun _ _ => ind_nil)⟩) ?_
  refine z1 2 ⟨[(2, (.ptr 500000 0)), (3, (.ptr 500001 0))], [(500000, .box [.nl, .nl]), (500001, .box [(.row (.top 700100) 3), (.row (.top 700101) 3)]), (700100, .row 3 [] (List.map cI r500)), (700101, .row 3 [] (List.map cI r502))]⟩ (by kernel_rfl) ?_
  refine z8 2 ⟨[(2, (.ptr 500000 0))], [(500000, .box [(.row (.top 700100) 3), (.row (.top 700101) 3)]), (700100, .row 3 [] (List.map cI r500)), (700101, .row 3 [] (List.map cI r502))]⟩ (by kernel_rfl) (fun τ hτ => ?_)
  obtain rfl := Option.some.inj h
  exact rk_ret hτ [(2, (.ptr 0 0))] (subR_prep [] [(500000, 0), (700100, 1), (700101, 2)] (by kernel_rfl) rfl rfl (by kernel_rfl)) (by kernel_rfl)
theorem W.geom_grid_covered_ok {g : geom_grid} {l : (List Rect)} {r : (List (List Bool))} (h : geom_grid_covered g l = some r) : PC G.P 85 [(.agg [(.sl (List.map cI g.x)), (.sl (List.map cI g.y))]), (.sl (List.map c_Rect l))] [] (.row (.top 0) 94) [(0, .row 94 [(0, 4)] (List.map (cS cB) r))] := by
 refine pc_of G (fn := Try.f85) Try.func85 (by kernel_rfl) (by kernel_rfl) (by kernel_rfl) (by kernel_rfl) (by kernel_rfl) ?_
 refine sem_set ⟨[(0, (.agg [(.sl (List.map cI g.x)), (.sl (List.map cI g.y))])), (1, (.sl (List.map c_Rect l)))], []⟩ (by kernel_rfl) ?_
 refine z3 2 ⟨[(1, (.sl (List.map c_Rect l))), (2, (.ptr 2 0))], [(2, .box [(.sl (List.map cI g.x)), (.sl (List.map cI g.y))])]⟩ (by kernel_rfl) ?_
 refine z7 (by kernel_rfl) ?_
 refine evs_run 2 (by kernel_rfl) ?_
 refine evs_op (st_len (c := cI) (l := g.x) (x := (.sl (List.map cI g.x))) (by kernel_rfl) (by kernel_rfl)) ?_
 refine evs_run 2 (by kernel_rfl) ?_
 obtain ⟨l2, hl2, h⟩ := bindS h
 refine evs_at (at_mkJ (c := (cS cB)) (z := []) (n := (imax 0 (isub (g.x.length : Int) 1))) (e := 94) (e2 := 4) (d := 15) (k1 := .i64) (k2 := .i64) (by kernel_rfl) rfl (by kernel_rfl) hl2) ?_
 refine z1 1 ⟨[(1, (.sl (List.map c_Rect l))), (2, (.ptr 2 0)), (5, (.row (.top 15) 94))], [(2, .box [(.sl (List.map cI g.x)), (.sl (List.map cI g.y))]), (15, .row 94 [(0, 4)] (List.map (cS cB) l2))]⟩ (by kernel_rfl) ?_
 refine sem_seq (by kernel_rfl) ?_
 refine z7 (by kernel_rfl) ?_
 refine evs_run 1 (by kernel_rfl) ?_
 refine evs_op (st_len (c := (cS cB)) (l := l2) (x := (.row (.top 15) 94)) (by kernel_rfl) (by kernel_rfl)) ?_
 refine z1 1 ⟨[(1, (.sl (List.map c_Rect l))), (2, (.ptr 2 0)), (5, (.row (.top 15) 94)), (17, (vI (l2.length : Int))), (18, (vI 0))], [(2, .box [(.sl (List.map cI g.x)), (.sl (List.map cI g.y))]), (15, .row 94 [(0, 4)] (List.map (cS cB) l2))]⟩ (by kernel_rfl) ?_
 refine sem_block (by kernel_rfl) ?_
 obtain ⟨x8756, hx8756, h⟩ := bindS h
 refine sem_loopS (fun (s5839 : Int × (List (List Bool))) => ⟨[(1, (.sl (List.map c_Rect l))), (2, (.ptr 500000 0)), (5, (.row (.top 500001) 94)), (17, (vI (l2.length : Int))), (18, (vI s5839.1))], [(500000, .box [(.sl (List.map cI g.x)), (.sl (List.map cI g.y))]), (500001, .row 94 [(0, 4)] (List.map (cS cB) s5839.2))]⟩) (fun (x8756 : (List (List Bool))) => (.exit 0, ⟨[(5, (.row (.top 500000) 94))], [(500000, .row 94 [(0, 4)] (List.map (cS cB) x8756))]⟩)) (geom_grid_covered_l4 g l l2) (0, l2) x8756 (by kernel_rfl) (subR_prep [] [(2, 500000), (15, 500001)] (by kernel_rfl) rfl rfl (by kernel_rfl)) hx8756 ?_ ?_ ?_
 ·intro s5839 r h
  refine z3 1 ⟨[(1, (.sl (List.map c_Rect l))), (2, (.ptr 500000 0)), (5, (.row (.top 500001) 94)), (17, (vI (l2.length : Int))), (18, (vI s5839.1)), (19, (vB (decide (s5839.1 < (l2.length : Int)))))], [(500000, .box [(.sl (List.map cI g.x)), (.sl (List.map cI g.y))]), (500001, .row 94 [(0, 4)] (List.map (cS cB) s5839.2))]⟩ (by kernel_rfl) ?_
  refine sem_seq (by kernel_rfl) ?_
  refine sem_cond (decide (s5839.1 < (l2.length : Int))) (by kernel_rfl) (by kernel_rfl) (fun hb => ?_) (fun hb => ?_)
  ·replace h := iteT hb h
   refine z4 ⟨[(1, (.sl (List.map c_Rect l))), (2, (.ptr 500000 0)), (5, (.row (.top 500001) 94)), (17, (vI (l2.length : Int))), (18, (vI s5839.1))], [(500000, .box [(.sl (List.map cI g.x)), (.sl (List.map cI g.y))]), (500001, .row 94 [(0, 4)] (List.map (cS cB) s5839.2))]⟩ (by kernel_rfl) ?_
   refine sem_seq (by kernel_rfl) ?_
   refine sem_block (by kernel_rfl) ?_
   refine z3 2 ⟨[(1, (.sl (List.map c_Rect l))), (2, (.ptr 500000 0)), (5, (.row (.top 500001) 94)), (6, (vI s5839.1)), (17, (vI (l2.length : Int))), (18, (vI s5839.1))], [(500000, .box [(.sl (List.map cI g.x)), (.sl (List.map cI g.y))]), (500001, .row 94 [(0, 4)] (List.map (cS cB) s5839.2))]⟩ (by kernel_rfl) ?_
   refine z7 (by kernel_rfl) ?_
   refine evs_run 4 (by kernel_rfl) ?_
   refine evs_op (st_len (c := cI) (l := g.y) (x := (.sl (List.map cI g.y))) (by kernel_rfl) (by kernel_rfl)) ?_
   refine evs_run 1 (by kernel_rfl) ?_
   obtain ⟨l8029, hl8029, h⟩ := bindS h
   refine evs_op (st_mk (c := cB) (z := false) (n := (isub (g.y.length : Int) 1)) (e := 4) (d := 27) (zs := [(vB false)]) (k1 := .i64) (k2 := .i64) (by kernel_rfl) rfl hl8029) ?_
   obtain ⟨x8030, hx8030, h⟩ := bindS h
   refine evs_op (st_idxO (c := (cS cB)) (l := s5839.2) (i := s5839.1) (kd := .i64) (kk := (.top 500001)) (e := 94) (sz := 1) (by kernel_rfl) (by kernel_rfl) hx8030 rfl) ?_
   refine evs_at (at_moveJ (c := (cS cB)) (c2 := cB) (l := s5839.2) (x := x8030) (x' := l8029) (l2 := l8029) (g := 500001) (d := 27) (e := 94) (e' := 4) (i := (Int.toNat s5839.1)) (off := 0) (J := [(0, 4)]) (by kernel_rfl) (by kernel_rfl) (by kernel_rfl) (by kernel_rfl) rfl ((idxS hx8030).2) rfl) ?_
   refine evs_endS (by kernel_rfl) (fun τ hτ => ?_)
   refine th_normalS hτ ⟨[(1, (.sl (List.map c_Rect l))), (2, (.ptr 500000 0)), (5, (.row (.top 500001) 94)), (6, (vI s5839.1)), (17, (vI (l2.length : Int))), (18, (vI s5839.1))], [(500000, .box [(.sl (List.map cI g.x)), (.sl (List.map cI g.y))]), (500001, .row 94 [(0, 4)] (List.map (cS cB) (List.set s5839.2 (Int.toNat s5839.1) l8029)))]⟩ (here (by kernel_rfl)) ?_
   refine z7 (by kernel_rfl) ?_
   refine evs_run 2 (by kernel_rfl) ?_
   obtain ⟨x8032, hx8032, h⟩ := bindS h
   refine evs_op (st_idxO (c := (cS cB)) (l := (List.set s5839.2 (Int.toNat s5839.1) l8029)) (i := s5839.1) (kd := .i64) (kk := (.top 500001)) (e := 94) (sz := 1) (by kernel_rfl) (by kernel_rfl) hx8032 rfl) ?_
   refine evs_op (st_ldO (c := (cS cB)) (l := (List.set s5839.2 (Int.toNat s5839.1) l8029)) (i := (Int.toNat s5839.1)) (v := (.row (.sub 500001 (Int.toNat s5839.1) 0) 4)) (agg := false) (sz := 1) (kk := (.top 500001)) (e := 94) (off := 0) (J := [(0, 4)]) (by kernel_rfl) (by kernel_rfl) (by kernel_rfl) ((idxS hx8032).2) (by kernel_rfl)) ?_
   refine evs_op (st_len (c := cB) (l := x8032) (x := (.row (.sub 500001 (Int.toNat s5839.1) 0) 4)) (by kernel_rfl) (elems_sub (g := 500001) (i := (Int.toNat s5839.1)) (j := 0) (c := (cS cB)) (c2 := cB) (e := 94) (J := [(0, 4)]) (l := (List.set s5839.2 (Int.toNat s5839.1) l8029)) (x := x8032) (l2 := x8032) (by kernel_rfl) rfl ((idxS hx8032).2) rfl)) ?_
   refine z1 1 ⟨[(1, (.sl (List.map c_Rect l))), (2, (.ptr 500000 0)), (5, (.row (.top 500001) 94)), (6, (vI s5839.1)), (17, (vI (l2.length : Int))), (18, (vI s5839.1)), (33, (vI (x8032.length : Int))), (34, (vI 0))], [(500000, .box [(.sl (List.map cI g.x)), (.sl (List.map cI g.y))]), (500001, .row 94 [(0, 4)] (List.map (cS cB) (List.set s5839.2 (Int.toNat s5839.1) l8029)))]⟩ (by kernel_rfl) ?_
   refine sem_block (by kernel_rfl) ?_
   obtain ⟨x8755, hx8755, h⟩ := bindS h
   refine sem_loopS (fun (s8274 : Int × (List (List Bool))) => ⟨[(1, (.sl (List.map c_Rect l))), (2, (.ptr 500000 0)), (5, (.row (.top 500001) 94)), (6, (vI s5839.1)), (17, (vI (l2.length : Int))), (18, (vI s5839.1)), (33, (vI (x8032.length : Int))), (34, (vI s8274.1))], [(500000, .box [(.sl (List.map cI g.x)), (.sl (List.map cI g.y))]), (500001, .row 94 [(0, 4)] (List.map (cS cB) s8274.2))]⟩) (fun (x8755 : (List (List Bool))) => (.exit 2, ⟨[(1, (.sl (List.map c_Rect l))), (2, (.ptr 500000 0)), (5, (.row (.top 500001) 94)), (17, (vI (l2.length : Int))), (18, (vI s5839.1))], [(500000, .box [(.sl (List.map cI g.x)), (.sl (List.map cI g.y))]), (500001, .row 94 [(0, 4)] (List.map (cS cB) x8755))]⟩)) (geom_grid_covered_l3 g l s5839 x8032) (0, (List.set s5839.2 (Int.toNat s5839.1) l8029)) x8755 (by kernel_rfl) (here (by kernel_rfl)) hx8755 ?_ ?_ ?_
   ·intro s8274 r h
    refine z3 1 ⟨[(1, (.sl (List.map c_Rect l))), (2, (.ptr 500000 0)), (5, (.row (.top 500001) 94)), (6, (vI s5839.1)), (17, (vI (l2.length : Int))), (18, (vI s5839.1)), (33, (vI (x8032.length : Int))), (34, (vI s8274.1)), (35, (vB (decide (s8274.1 < (x8032.length : Int)))))], [(500000, .box [(.sl (List.map cI g.x)), (.sl (List.map cI g.y))]), (500001, .row 94 [(0, 4)] (List.map (cS cB) s8274.2))]⟩ (by kernel_rfl) ?_
    refine sem_seq (by kernel_rfl) ?_
    refine sem_cond (decide (s8274.1 < (x8032.length : Int))) (by kernel_rfl) (by kernel_rfl) (fun hb => ?_) (fun hb => ?_)
    ·replace h := iteT hb h
     refine z4 ⟨[(1, (.sl (List.map c_Rect l))), (2, (.ptr 500000 0)), (5, (.row (.top 500001) 94)), (6, (vI s5839.1)), (17, (vI (l2.length : Int))), (18, (vI s5839.1)), (33, (vI (x8032.length : Int))), (34, (vI s8274.1))], [(500000, .box [(.sl (List.map cI g.x)), (.sl (List.map cI g.y))]), (500001, .row 94 [(0, 4)] (List.map (cS cB) s8274.2))]⟩ (by kernel_rfl) ?_
     refine sem_seq (by kernel_rfl) ?_
     refine sem_block (by kernel_rfl) ?_
     refine z3 2 ⟨[(1, (.sl (List.map c_Rect l))), (2, (.ptr 500000 0)), (5, (.row (.top 500001) 94)), (6, (vI s5839.1)), (7, (vI s8274.1)), (17, (vI (l2.length : Int))), (18, (vI s5839.1)), (33, (vI (x8032.length : Int))), (34, (vI s8274.1))], [(500000, .box [(.sl (List.map cI g.x)), (.sl (List.map cI g.y))]), (500001, .row 94 [(0, 4)] (List.map (cS cB) s8274.2))]⟩ (by kernel_rfl) ?_
     refine z7 (by kernel_rfl) ?_
     refine evs_run 1 (by kernel_rfl) ?_
     refine evs_op (st_len (c := c_Rect) (l := l) (x := (.sl (List.map c_Rect l))) (by kernel_rfl) (by kernel_rfl)) ?_
     refine z1 1 ⟨[(1, (.sl (List.map c_Rect l))), (2, (.ptr 500000 0)), (5, (.row (.top 500001) 94)), (6, (vI s5839.1)), (7, (vI s8274.1)), (17, (vI (l2.length : Int))), (18, (vI s5839.1)), (33, (vI (x8032.length : Int))), (34, (vI s8274.1)), (37, (.sl (List.map c_Rect l))), (38, (vI (l.length : Int))), (39, (vI 0))], [(500000, .box [(.sl (List.map cI g.x)), (.sl (List.map cI g.y))]), (500001, .row 94 [(0, 4)] (List.map (cS cB) s8274.2))]⟩ (by kernel_rfl) ?_
     refine sem_block (by kernel_rfl) ?_
     obtain ⟨x8754, hx8754, h⟩ := bindS h
     refine sem_loopS (fun (s8675 : Int × (List (List Bool))) => ⟨[(1, (.sl (List.map c_Rect l))), (2, (.ptr 500000 0)), (5, (.row (.top 500001) 94)), (6, (vI s5839.1)), (7, (vI s8274.1)), (17, (vI (l2.length : Int))), (18, (vI s5839.1)), (33, (vI (x8032.length : Int))), (34, (vI s8274.1)), (37, (.sl (List.map c_Rect l))), (38, (vI (l.length : Int))), (39, (vI s8675.1))], [(500000, .box [(.sl (List.map cI g.x)), (.sl (List.map cI g.y))]), (500001, .row 94 [(0, 4)] (List.map (cS cB) s8675.2))]⟩) (fun (x8754 : (List (List Bool))) => (.exit 4, ⟨[(1, (.sl (List.map c_Rect l))), (2, (.ptr 500000 0)), (5, (.row (.top 500001) 94)), (6, (vI s5839.1)), (17, (vI (l2.length : Int))), (18, (vI s5839.1)), (33, (vI (x8032.length : Int))), (34, (vI s8274.1))], [(500000, .box [(.sl (List.map cI g.x)), (.sl (List.map cI g.y))]), (500001, .row 94 [(0, 4)] (List.map (cS cB) x8754))]⟩)) (geom_grid_covered_l2 g l s5839 s8274) (0, s8274.2) x8754 (by kernel_rfl) (here (by kernel_rfl)) hx8754 ?_ ?_ ?_
     ·intro s8675 r h
      refine z3 1 ⟨[(1, (.sl (List.map c_Rect l))), (2, (.ptr 500000 0)), (5, (.row (.top 500001) 94)), (6, (vI s5839.1)), (7, (vI s8274.1)), (17, (vI (l2.length : Int))), (18, (vI s5839.1)), (33, (vI (x8032.length : Int))), (34, (vI s8274.1)), (37, (.sl (List.map c_Rect l))), (38, (vI (l.length : Int))), (39, (vI s8675.1)), (40, (vB (decide (s8675.1 < (l.length : Int)))))], [(500000, .box [(.sl (List.map cI g.x)), (.sl (List.map cI g.y))]), (500001, .row 94 [(0, 4)] (List.map (cS cB) s8675.2))]⟩ (by kernel_rfl) ?_
      refine sem_seq (by kernel_rfl) ?_
      refine sem_cond (decide (s8675.1 < (l.length : Int))) (by kernel_rfl) (by kernel_rfl) (fun hb => ?_) (fun hb => ?_)
      ·replace h := iteT hb h
       refine z4 ⟨[(1, (.sl (List.map c_Rect l))), (2, (.ptr 500000 0)), (5, (.row (.top 500001) 94)), (6, (vI s5839.1)), (7, (vI s8274.1)), (17, (vI (l2.length : Int))), (18, (vI s5839.1)), (33, (vI (x8032.length : Int))), (34, (vI s8274.1)), (37, (.sl (List.map c_Rect l))), (38, (vI (l.length : Int))), (39, (vI s8675.1))], [(500000, .box [(.sl (List.map cI g.x)), (.sl (List.map cI g.y))]), (500001, .row 94 [(0, 4)] (List.map (cS cB) s8675.2))]⟩ (by kernel_rfl) ?_
       refine sem_seqJ (fun (j8734 : (List (List Bool))) => ⟨[(1, (.sl (List.map c_Rect l))), (2, (.ptr 500000 0)), (5, (.row (.top 500001) 94)), (6, (vI s5839.1)), (7, (vI s8274.1)), (17, (vI (l2.length : Int))), (18, (vI s5839.1)), (33, (vI (x8032.length : Int))), (34, (vI s8274.1)), (37, (.sl (List.map c_Rect l))), (38, (vI (l.length : Int))), (39, (vI s8675.1))], [(500000, .box [(.sl (List.map cI g.x)), (.sl (List.map cI g.y))]), (500001, .row 94 [(0, 4)] (List.map (cS cB) j8734))]⟩) (geom_grid_covered_k1 s8675) r (by kernel_rfl) (fun j8734 h => ?_) ?_
       ·refine sem_region (by kernel_rfl) ?_
        refine z6 2 (by kernel_rfl) (fun τ hτ => ?_)
        obtain rfl := Option.some.inj h
        exact lk_nextS hτ (here (by kernel_rfl))
       refine sem_block (by kernel_rfl) ?_
       refine z7 (by kernel_rfl) ?_
       obtain ⟨x8736, hx8736, h⟩ := bindS h
       refine evs_op (st_idx (c := c_Rect) (l := l) (i := s8675.1) (kd := .i64) (sz := 4) (by kernel_rfl) hx8736 rfl) ?_
       refine z1 3 ⟨[(1, (.sl (List.map c_Rect l))), (2, (.ptr 500000 0)), (5, (.row (.top 500001) 94)), (6, (vI s5839.1)), (7, (vI s8274.1)), (9, (.ptr 9 0)), (17, (vI (l2.length : Int))), (18, (vI s5839.1)), (33, (vI (x8032.length : Int))), (34, (vI s8274.1)), (37, (.sl (List.map c_Rect l))), (38, (vI (l.length : Int))), (39, (vI s8675.1))], [(9, .box [(vI x8736.X), (vI x8736.Y), (vI x8736.W), (vI x8736.H)]), (500000, .box [(.sl (List.map cI g.x)), (.sl (List.map cI g.y))]), (500001, .row 94 [(0, 4)] (List.map (cS cB) s8675.2))]⟩ (by kernel_rfl) ?_
       refine sem_seq (by kernel_rfl) ?_
       obtain ⟨j8745, hj8745, h⟩ := bindS h
       refine sem_drawP ⟨[(1, (.sl (List.map c_Rect l))), (2, (.ptr 500000 0)), (5, (.row (.top 500001) 94)), (6, (vI s5839.1)), (7, (vI s8274.1)), (17, (vI (l2.length : Int))), (18, (vI s5839.1)), (33, (vI (x8032.length : Int))), (34, (vI s8274.1)), (37, (.sl (List.map c_Rect l))), (38, (vI (l.length : Int))), (39, (vI s8675.1)), (86, (vB j8745))], [(500000, .box [(.sl (List.map cI g.x)), (.sl (List.map cI g.y))]), (500001, .row 94 [(0, 4)] (List.map (cS cB) s8675.2))]⟩ [] [] [] [] [] 42 (by kernel_rfl) (by kernel_rfl) (by kernel_rfl) ?_ (fun τ hτ => ?_)
       ·replace h := hj8745
        refine evd_run 5 (by kernel_rfl) ?_
        obtain ⟨x8746, hx8746, h⟩ := bindS h
        refine evd_val (by kernel_rfl) (st_idx (c := cI) (l := g.x) (i := s5839.1) (kd := .i64) (sz := 1) (by kernel_rfl) hx8746 rfl) (by kernel_rfl) (by kernel_rfl) ?_
        refine evd_run 3 (by kernel_rfl) ?_
        refine evd_split (decide (x8736.X ≤ x8746)) (fun b0 => ⟨[(51, (vB b0)), (50, (vB b0)), (49, (vI x8746)), (48, (.vptr [(vI x8746)] 0)), (47, (vI s5839.1)), (46, (.sl (List.map cI g.x))), (45, (.ptr 500000 0)), (44, (vI x8736.X)), (43, (.ptr 9 0)), (1, (.sl (List.map c_Rect l))), (2, (.ptr 500000 0)), (5, (.row (.top 500001) 94)), (6, (vI s5839.1)), (7, (vI s8274.1)), (9, (.ptr 9 0)), (17, (vI (l2.length : Int))), (18, (vI s5839.1)), (33, (vI (x8032.length : Int))), (34, (vI s8274.1)), (37, (.sl (List.map c_Rect l))), (38, (vI (l.length : Int))), (39, (vI s8675.1))], [(9, .box [(vI x8736.X), (vI x8736.Y), (vI x8736.W), (vI x8736.H)]), (500000, .box [(.sl (List.map cI g.x)), (.sl (List.map cI g.y))]), (500001, .row 94 [(0, 4)] (List.map (cS cB) s8675.2))]⟩) (by kernel_rfl) (fun hb => ?_) (fun hb => ?_)
        ·replace h := iteT hb h
         refine evd_run 3 (by kernel_rfl) ?_
         obtain ⟨x8747, hx8747, h⟩ := bindS h
         refine evd_val (by kernel_rfl) (st_idx (c := cI) (l := g.x) (i := s5839.1) (kd := .i64) (sz := 1) (by kernel_rfl) hx8747 rfl) (by kernel_rfl) (by kernel_rfl) ?_
         refine evd_run 9 (by kernel_rfl) ?_
         refine evd_split (decide (x8747 < (iadd x8736.X x8736.W))) (fun b0 => ⟨[(64, (vB b0)), (63, (vB b0)), (62, (vB b0)), (61, (vI (iadd x8736.X x8736.W))), (60, (vI x8736.W)), (59, (.ptr 9 2)), (58, (vI x8736.X)), (57, (.ptr 9 0)), (56, (vI x8747)), (55, (.vptr [(vI x8747)] 0)), (54, (vI s5839.1)), (53, (.sl (List.map cI g.x))), (52, (.ptr 500000 0)), (51, (vB true)), (50, (vB true)), (49, (vI x8746)), (48, (.vptr [(vI x8746)] 0)), (47, (vI s5839.1)), (46, (.sl (List.map cI g.x))), (45, (.ptr 500000 0)), (44, (vI x8736.X)), (43, (.ptr 9 0)), (1, (.sl (List.map c_Rect l))), (2, (.ptr 500000 0)), (5, (.row (.top 500001) 94)), (6, (vI s5839.1)), (7, (vI s8274.1)), (9, (.ptr 9 0)), (17, (vI (l2.length : Int))), (18, (vI s5839.1)), (33, (vI (x8032.length : Int))), (34, (vI s8274.1)), (37, (.sl (List.map c_Rect l))), (38, (vI (l.length : Int))), (39, (vI s8675.1))], [(9, .box [(vI x8736.X), (vI x8736.Y), (vI x8736.W), (vI x8736.H)]), (500000, .box [(.sl (List.map cI g.x)), (.sl (List.map cI g.y))]), (500001, .row 94 [(0, 4)] (List.map (cS cB) s8675.2))]⟩) (by kernel_rfl) (fun hb => ?_) (fun hb => ?_)
         ·replace h := iteT hb h
          refine evd_run 5 (by kernel_rfl) ?_
          obtain ⟨x8748, hx8748, h⟩ := bindS h
          refine evd_val (by kernel_rfl) (st_idx (c := cI) (l := g.y) (i := s8274.1) (kd := .i64) (sz := 1) (by kernel_rfl) hx8748 rfl) (by kernel_rfl) (by kernel_rfl) ?_
          refine evd_run 4 (by kernel_rfl) ?_
          refine evd_split (decide (x8736.Y ≤ x8748)) (fun b0 => ⟨[(74, (vB b0)), (73, (vB b0)), (72, (vB b0)), (71, (vI x8748)), (70, (.vptr [(vI x8748)] 0)), (69, (vI s8274.1)), (68, (.sl (List.map cI g.y))), (67, (.ptr 500000 1)), (66, (vI x8736.Y)), (65, (.ptr 9 1)), (64, (vB true)), (63, (vB true)), (62, (vB true)), (61, (vI (iadd x8736.X x8736.W))), (60, (vI x8736.W)), (59, (.ptr 9 2)), (58, (vI x8736.X)), (57, (.ptr 9 0)), (56, (vI x8747)), (55, (.vptr [(vI x8747)] 0)), (54, (vI s5839.1)), (53, (.sl (List.map cI g.x))), (52, (.ptr 500000 0)), (51, (vB true)), (50, (vB true)), (49, (vI x8746)), (48, (.vptr [(vI x8746)] 0)), (47, (vI s5839.1)), (46, (.sl (List.map cI g.x))), (45, (.ptr 500000 0)), (44, (vI x8736.X)), (43, (.ptr 9 0)), (1, (.sl (List.map c_Rect l))), (2, (.ptr 500000 0)), (5, (.row (.top 500001) 94)), (6, (vI s5839.1)), (7, (vI s8274.1)), (9, (.ptr 9 0)), (17, (vI (l2.length : Int))), (18, (vI s5839.1)), (33, (vI (x8032.length : Int))), (34, (vI s8274.1)), (37, (.sl (List.map c_Rect l))), (38, (vI (l.length : Int))), (39, (vI s8675.1))], [(9, .box [(vI x8736.X), (vI x8736.Y), (vI x8736.W), (vI x8736.H)]), (500000, .box [(.sl (List.map cI g.x)), (.sl (List.map cI g.y))]), (500001, .row 94 [(0, 4)] (List.map (cS cB) s8675.2))]⟩) (by kernel_rfl) (fun hb => ?_) (fun hb => ?_)
          ·replace h := iteT hb h
           refine evd_run 3 (by kernel_rfl) ?_
           obtain ⟨x8749, hx8749, h⟩ := bindS h
           refine evd_val (by kernel_rfl) (st_idx (c := cI) (l := g.y) (i := s8274.1) (kd := .i64) (sz := 1) (by kernel_rfl) hx8749 rfl) (by kernel_rfl) (by kernel_rfl) ?_
           refine evd_run 6 (by kernel_rfl) ?_
           refine evd_end (by kernel_rfl) ?_
           refine evo_run 2 (by kernel_rfl) ?_
           refine evo_endS (by kernel_rfl) (fun τ hτ => ?_)
           obtain rfl := Option.some.inj h
           exact leafC hτ (here (by kernel_rfl))
          ·replace h := iteF hb h
           refine evd_run 10 (by kernel_rfl) ?_
           refine evd_end (by kernel_rfl) ?_
           refine evo_run 2 (by kernel_rfl) ?_
           refine evo_endS (by kernel_rfl) (fun τ hτ => ?_)
           obtain rfl := Option.some.inj h
           exact leafC hτ (here (by kernel_rfl))
         ·replace h := iteF hb h
          refine evd_run 20 (by kernel_rfl) ?_
          refine evd_end (by kernel_rfl) ?_
          refine evo_run 2 (by kernel_rfl) ?_
          refine evo_endS (by kernel_rfl) (fun τ hτ => ?_)
          obtain rfl := Option.some.inj h
          exact leafC hτ (here (by kernel_rfl))
        ·replace h := iteF hb h
         refine evd_run 33 (by kernel_rfl) ?_
         refine evd_end (by kernel_rfl) ?_
         refine evo_run 2 (by kernel_rfl) ?_
         refine evo_endS (by kernel_rfl) (fun τ hτ => ?_)
         obtain rfl := Option.some.inj h
         exact leafC hτ (here (by kernel_rfl))
       refine th_normalS hτ ⟨[(1, (.sl (List.map c_Rect l))), (2, (.ptr 500000 0)), (5, (.row (.top 500001) 94)), (6, (vI s5839.1)), (7, (vI s8274.1)), (17, (vI (l2.length : Int))), (18, (vI s5839.1)), (33, (vI (x8032.length : Int))), (34, (vI s8274.1)), (37, (.sl (List.map c_Rect l))), (38, (vI (l.length : Int))), (39, (vI s8675.1)), (86, (vB j8745))], [(500000, .box [(.sl (List.map cI g.x)), (.sl (List.map cI g.y))]), (500001, .row 94 [(0, 4)] (List.map (cS cB) s8675.2))]⟩ (here (by kernel_rfl)) ?_
       refine sem_cond j8745 (by kernel_rfl) (by kernel_rfl) (fun hb => ?_) (fun hb => ?_)
       ·replace h := iteT hb h
        refine sem_region (by kernel_rfl) ?_
        refine evs_run 2 (by kernel_rfl) ?_
        obtain ⟨x8752, hx8752, h⟩ := bindS h
        refine evs_op (st_idxO (c := (cS cB)) (l := s8675.2) (i := s5839.1) (kd := .i64) (kk := (.top 500001)) (e := 94) (sz := 1) (by kernel_rfl) (by kernel_rfl) hx8752 rfl) ?_
        refine evs_op (st_ldO (c := (cS cB)) (l := s8675.2) (i := (Int.toNat s5839.1)) (v := (.row (.sub 500001 (Int.toNat s5839.1) 0) 4)) (agg := false) (sz := 1) (kk := (.top 500001)) (e := 94) (off := 0) (J := [(0, 4)]) (by kernel_rfl) (by kernel_rfl) (by kernel_rfl) ((idxS hx8752).2) (by kernel_rfl)) ?_
        refine evs_run 1 (by kernel_rfl) ?_
        obtain ⟨x8753, hx8753, h⟩ := bindS h
        refine evs_op (st_idxO (c := cB) (l := x8752) (i := s8274.1) (kd := .i64) (kk := (.sub 500001 (Int.toNat s5839.1) 0)) (e := 4) (sz := 1) (by kernel_rfl) (rowAt_sub (g := 500001) (i := (Int.toNat s5839.1)) (j := 0) (c := (cS cB)) (c2 := cB) (e := 94) (J := [(0, 4)]) (l := s8675.2) (x := x8752) (l2 := x8752) (by kernel_rfl) rfl ((idxS hx8752).2) rfl) hx8753 rfl) ?_
        refine evs_op (st_stO (c := cB) (l := x8752) (i := (Int.toNat s8274.1)) (x := x8753) (x' := true) (v := (vB true)) (agg := false) (sz := 1) (kk := (.sub 500001 (Int.toNat s5839.1) 0)) (e := 4) (off := 0) (J := []) (o := .row 94 [(0, 4)] (List.map (cS cB) (List.set s8675.2 (Int.toNat s5839.1) (List.set x8752 (Int.toNat s8274.1) true)))) (by kernel_rfl) (rowAt_sub (g := 500001) (i := (Int.toNat s5839.1)) (j := 0) (c := (cS cB)) (c2 := cB) (e := 94) (J := [(0, 4)]) (l := s8675.2) (x := x8752) (l2 := x8752) (by kernel_rfl) rfl ((idxS hx8752).2) rfl) (by kernel_rfl) ((idxS hx8753).2) (by kernel_rfl) (by kernel_rfl) (rowSet_sub (g := 500001) (i := (Int.toNat s5839.1)) (j := 0) (c := (cS cB)) (e := 94) (J := [(0, 4)]) (l := s8675.2) (x := x8752) (x' := (List.set x8752 (Int.toNat s8274.1) true)) (by kernel_rfl) ((idxS hx8752).2) rfl)) ?_
        refine evs_endS (by kernel_rfl) (fun τ hτ => ?_)
        refine bl_normal ?_
        exact jk_normal (List.set s8675.2 (Int.toNat s5839.1) (List.set x8752 (Int.toNat s8274.1) true)) h hτ (here (by kernel_rfl))
       ·replace h := iteF hb h
        refine sem_skipS (by kernel_rfl) (fun τ hτ => ?_)
        refine bl_normal ?_
        exact jk_normal s8675.2 h hτ (here (by kernel_rfl))
      ·replace h := iteF hb h
       refine sem_exitS 4 (by kernel_rfl) rfl (fun τ hτ => ?_)
       refine th_exit ?_
       obtain rfl := Option.some.inj h
       exact lk_outS hτ rfl (here (by kernel_rfl))
     ·intro x
      rfl
     ·intro τ hτ
      refine bl_hit (by kernel_rfl) ?_
      refine bl_normal ?_
      refine th_normalS hτ ⟨[(1, (.sl (List.map c_Rect l))), (2, (.ptr 500000 0)), (5, (.row (.top 500001) 94)), (6, (vI s5839.1)), (17, (vI (l2.length : Int))), (18, (vI s5839.1)), (33, (vI (x8032.length : Int))), (34, (vI s8274.1))], [(500000, .box [(.sl (List.map cI g.x)), (.sl (List.map cI g.y))]), (500001, .row 94 [(0, 4)] (List.map (cS cB) x8754))]⟩ (here (by kernel_rfl)) ?_
      refine sem_region (by kernel_rfl) ?_
      refine z6 2 (by kernel_rfl) (fun τ hτ => ?_)
      obtain rfl := Option.some.inj h
      exact lk_nextS hτ (here (by kernel_rfl))
    ·replace h := iteF hb h
     refine sem_exitS 2 (by kernel_rfl) rfl (fun τ hτ => ?_)
     refine th_exit ?_
     obtain rfl := Option.some.inj h
     exact lk_outS hτ rfl (here (by kernel_rfl))
   ·intro x
    rfl
   ·intro τ hτ
    refine bl_hit (by kernel_rfl) ?_
    refine bl_normal ?_
    refine th_normalS hτ ⟨[(1, (.sl (List.map c_Rect l))), (2, (.ptr 500000 0)), (5, (.row (.top 500001) 94)), (17, (vI (l2.length : Int))), (18, (vI s5839.1))], [(500000, .box [(.sl (List.map cI g.x)), (.sl (List.map cI g.y))]), (500001, .row 94 [(0, 4)] (List.map (cS cB) x8755))]⟩ (here (by kernel_rfl)) ?_
    refine sem_region (by kernel_rfl) ?_
    refine z6 2 (by kernel_rfl) (fun τ hτ => ?_)
    obtain rfl := Option.some.inj h
    exact lk_nextS hτ (here (by kernel_rfl))
  ·replace h := iteF hb h
   refine sem_exitS 0 (by kernel_rfl) rfl (fun τ hτ => ?_)
   refine th_exit ?_
   obtain rfl := Option.some.inj h
   exact lk_outS hτ rfl (subR_prep [] [(500001, 500000)] (by kernel_rfl) rfl rfl (by kernel_rfl))
 ·intro x
  rfl
 ·intro τ hτ
  refine bl_hit (by kernel_rfl) ?_
  refine th_normalS hτ ⟨[(5, (.row (.top 500000) 94))], [(500000, .row 94 [(0, 4)] (List.map (cS cB) x8756))]⟩ (here (by kernel_rfl)) ?_
  refine z8 2 ⟨[(4, (.row (.top 500000) 94))], [(500000, .row 94 [(0, 4)] (List.map (cS cB) x8756))]⟩ (by kernel_rfl) (fun τ hτ => ?_)
  obtain rfl := Option.some.inj h
  exact rk_ret hτ [(4, (.row (.top 0) 94))] (subR_prep [] [(500000, 0)] (by kernel_rfl) rfl rfl (by kernel_rfl)) (by kernel_rfl)
end Go.Proofs.Ytiodkdpfkchkjaa
