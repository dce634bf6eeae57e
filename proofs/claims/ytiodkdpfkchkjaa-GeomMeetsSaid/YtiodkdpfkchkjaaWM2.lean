/- Each Go function does what its model says; written by a program out of the translation. -/
import Derived.Test.YtiodkdpfkchkjaaWM1
import Derived.Test.YtiodkdpfkchkjaaGeMM
set_option linter.unusedVariables false
set_option linter.unusedSimpArgs false
set_option linter.unusedSectionVars false
namespace Go.Proofs.Ytiodkdpfkchkjaa
open Go Go.VI Go.SM Go.Proofs
set_option maxRecDepth 100000
set_option maxHeartbeats 4000000
theorem W.geom_half_ok {l : (List Point)} {r : (List Point)} (h : geom_half l = some r) : PC G.P 107 [(.sl (List.map c_Point l))] [] (.row (.top 0) 36) [(0, .row 36 [] (List.map c_Point r))] := by
 refine pc_of G (fn := Try.f107) Try.func107 (by kernel_rfl) (by kernel_rfl) (by kernel_rfl) (by kernel_rfl) (by kernel_rfl) ?_
 refine sem_set ⟨[(0, (.sl (List.map c_Point l)))], []⟩ (by kernel_rfl) ?_
 refine z3 1 ⟨[(0, (.sl (List.map c_Point l)))], []⟩ (by kernel_rfl) ?_
 refine z3 1 ⟨[(0, (.sl (List.map c_Point l))), (3, (.row (.top 3) 36))], [(3, .row 36 [] (List.map c_Point []))]⟩ (by kernel_rfl) ?_
 refine sem_seq (by kernel_rfl) ?_
 refine z7 (by kernel_rfl) ?_
 refine evs_run 1 (by kernel_rfl) ?_
 refine evs_op (st_len (c := c_Point) (l := l) (x := (.sl (List.map c_Point l))) (by kernel_rfl) (by kernel_rfl)) ?_
 refine z1 1 ⟨[(3, (.row (.top 3) 36)), (6, (.sl (List.map c_Point l))), (7, (vI (l.length : Int))), (8, (vI 0))], [(3, .row 36 [] (List.map c_Point []))]⟩ (by kernel_rfl) ?_
 refine sem_block (by kernel_rfl) ?_
 obtain ⟨x1710, hx1710, h⟩ := bindS h
 refine sem_loopS (fun (s1141 : Int × (List Point)) => ⟨[(3, (.row (.top 500000) 36)), (6, (.sl (List.map c_Point l))), (7, (vI (l.length : Int))), (8, (vI s1141.1))], [(500000, .row 36 [] (List.map c_Point s1141.2))]⟩) (fun (x1710 : (List Point)) => (.exit 0, ⟨[(3, (.row (.top 500000) 36))], [(500000, .row 36 [] (List.map c_Point x1710))]⟩)) (geom_half_l2 l) (0, []) x1710 (by kernel_rfl) (subR_prep [] [(3, 500000)] (by kernel_rfl) rfl rfl (by kernel_rfl)) hx1710 ?_ ?_ ?_
 ·intro s1141 r h
  refine z3 1 ⟨[(3, (.row (.top 500000) 36)), (6, (.sl (List.map c_Point l))), (7, (vI (l.length : Int))), (8, (vI s1141.1)), (9, (vB (decide (s1141.1 < (l.length : Int)))))], [(500000, .row 36 [] (List.map c_Point s1141.2))]⟩ (by kernel_rfl) ?_
  refine sem_seq (by kernel_rfl) ?_
  refine sem_cond (decide (s1141.1 < (l.length : Int))) (by kernel_rfl) (by kernel_rfl) (fun hb => ?_) (fun hb => ?_)
  ·replace h := iteT hb h
   refine z4 ⟨[(3, (.row (.top 500000) 36)), (6, (.sl (List.map c_Point l))), (7, (vI (l.length : Int))), (8, (vI s1141.1))], [(500000, .row 36 [] (List.map c_Point s1141.2))]⟩ (by kernel_rfl) ?_
   refine sem_seq (by kernel_rfl) ?_
   refine sem_block (by kernel_rfl) ?_
   refine z7 (by kernel_rfl) ?_
   obtain ⟨x1569, hx1569, h⟩ := bindS h
   refine evs_op (st_idx (c := c_Point) (l := l) (i := s1141.1) (kd := .i64) (sz := 4) (by kernel_rfl) hx1569 rfl) ?_
   refine z1 3 ⟨[(3, (.row (.top 500000) 36)), (5, (.ptr 5 0)), (6, (.sl (List.map c_Point l))), (7, (vI (l.length : Int))), (8, (vI s1141.1))], [(5, .box [(vI x1569.X.A), (vI x1569.X.B), (vI x1569.Y.A), (vI x1569.Y.B)]), (500000, .row 36 [] (List.map c_Point s1141.2))]⟩ (by kernel_rfl) ?_
   refine sem_seq (by kernel_rfl) ?_
   refine sem_block (by kernel_rfl) ?_
   obtain ⟨x1707, hx1707, h⟩ := bindS h
   refine sem_loopS (fun (s1662 : (List Point)) => ⟨[(3, (.row (.top 500000) 36)), (5, (.ptr 500001 0)), (6, (.sl (List.map c_Point l))), (7, (vI (l.length : Int))), (8, (vI s1141.1))], [(500000, .row 36 [] (List.map c_Point s1662)), (500001, .box [(vI x1569.X.A), (vI x1569.X.B), (vI x1569.Y.A), (vI x1569.Y.B)])]⟩) (fun (x1707 : (List Point)) => (.exit 2, ⟨[(3, (.row (.top 500000) 36)), (5, (.ptr 500001 0)), (6, (.sl (List.map c_Point l))), (7, (vI (l.length : Int))), (8, (vI s1141.1))], [(500000, .row 36 [] (List.map c_Point x1707)), (500001, .box [(vI x1569.X.A), (vI x1569.X.B), (vI x1569.Y.A), (vI x1569.Y.B)])]⟩)) (geom_half_l1 x1569) s1141.2 x1707 (by kernel_rfl) (subR_prep [] [(5, 500001), (500000, 500000)] (by kernel_rfl) rfl rfl (by kernel_rfl)) hx1707 ?_ ?_ ?_
   ·intro s1662 r h
    refine sem_seq (by kernel_rfl) ?_
    refine sem_seq (by kernel_rfl) ?_
    obtain ⟨j1701, hj1701, h⟩ := bindS h
    refine sem_drawP ⟨[(3, (.row (.top 500000) 36)), (5, (.ptr 500001 0)), (6, (.sl (List.map c_Point l))), (7, (vI (l.length : Int))), (8, (vI s1141.1)), (31, (vB j1701))], [(500000, .row 36 [] (List.map c_Point s1662)), (500001, .box [(vI x1569.X.A), (vI x1569.X.B), (vI x1569.Y.A), (vI x1569.Y.B)])]⟩ [] [] [] [] [] 17 (by kernel_rfl) (by kernel_rfl) (by kernel_rfl) ?_ (fun τ hτ => ?_)
    ·replace h := hj1701
     refine evd_run 1 (by kernel_rfl) ?_
     refine evd_val (by kernel_rfl) (st_len (c := c_Point) (l := s1662) (x := (.row (.top 500000) 36)) (by kernel_rfl) (by kernel_rfl)) (by kernel_rfl) (by kernel_rfl) ?_
     refine evd_run 2 (by kernel_rfl) ?_
     refine evd_split (decide ((s1662.length : Int) > 1)) (fun b0 => ⟨[(15, (vB b0)), (14, (vB b0)), (13, (vI (s1662.length : Int))), (12, (.row (.top 500000) 36)), (3, (.row (.top 500000) 36)), (5, (.ptr 500001 0)), (6, (.sl (List.map c_Point l))), (7, (vI (l.length : Int))), (8, (vI s1141.1))], [(500000, .row 36 [] (List.map c_Point s1662)), (500001, .box [(vI x1569.X.A), (vI x1569.X.B), (vI x1569.Y.A), (vI x1569.Y.B)])]⟩) (by kernel_rfl) (fun hb => ?_) (fun hb => ?_)
     ·replace h := iteT hb h
      refine evd_run 2 (by kernel_rfl) ?_
      refine evd_val (by kernel_rfl) (st_len (c := c_Point) (l := s1662) (x := (.row (.top 500000) 36)) (by kernel_rfl) (by kernel_rfl)) (by kernel_rfl) (by kernel_rfl) ?_
      refine evd_run 1 (by kernel_rfl) ?_
      obtain ⟨x1702, hx1702, h⟩ := bindS h
      refine evd_val (by kernel_rfl) (st_idxO (c := c_Point) (l := s1662) (i := (isub (s1662.length : Int) 2)) (kd := .i64) (kk := (.top 500000)) (e := 36) (sz := 4) (by kernel_rfl) (by kernel_rfl) hx1702 rfl) (by kernel_rfl) (by kernel_rfl) ?_
      refine evd_val (by kernel_rfl) (st_ldO (c := c_Point) (l := s1662) (i := (Int.toNat (isub (s1662.length : Int) 2))) (v := (.agg [(vI x1702.X.A), (vI x1702.X.B), (vI x1702.Y.A), (vI x1702.Y.B)])) (agg := true) (sz := 4) (kk := (.top 500000)) (e := 36) (off := 0) (J := []) (by kernel_rfl) (by kernel_rfl) (by kernel_rfl) ((idxS hx1702).2) (by kernel_rfl)) (by kernel_rfl) (by kernel_rfl) ?_
      refine evd_run 2 (by kernel_rfl) ?_
      refine evd_val (by kernel_rfl) (st_len (c := c_Point) (l := s1662) (x := (.row (.top 500000) 36)) (by kernel_rfl) (by kernel_rfl)) (by kernel_rfl) (by kernel_rfl) ?_
      refine evd_run 1 (by kernel_rfl) ?_
      obtain ⟨x1703, hx1703, h⟩ := bindS h
      refine evd_val (by kernel_rfl) (st_idxO (c := c_Point) (l := s1662) (i := (isub (s1662.length : Int) 1)) (kd := .i64) (kk := (.top 500000)) (e := 36) (sz := 4) (by kernel_rfl) (by kernel_rfl) hx1703 rfl) (by kernel_rfl) (by kernel_rfl) ?_
      refine evd_val (by kernel_rfl) (st_ldO (c := c_Point) (l := s1662) (i := (Int.toNat (isub (s1662.length : Int) 1))) (v := (.agg [(vI x1703.X.A), (vI x1703.X.B), (vI x1703.Y.A), (vI x1703.Y.B)])) (agg := true) (sz := 4) (kk := (.top 500000)) (e := 36) (off := 0) (J := []) (by kernel_rfl) (by kernel_rfl) (by kernel_rfl) ((idxS hx1703).2) (by kernel_rfl)) (by kernel_rfl) (by kernel_rfl) ?_
      refine evd_run 1 (by kernel_rfl) ?_
      refine evd_end (by kernel_rfl) ?_
      obtain ⟨r1704, hr1704, h⟩ := bindS h
      refine evo_callP [] (by kernel_rfl) (W.geom_orient_ok hr1704) (by kernel_rfl) (.inl rfl) (by kernel_rfl) ?_
      refine evo_run 2 (by kernel_rfl) ?_
      refine evo_endS (by kernel_rfl) (fun τ hτ => ?_)
      obtain rfl := Option.some.inj h
      exact leafC hτ (here (by kernel_rfl))
     ·replace h := iteF hb h
      refine evd_run 13 (by kernel_rfl) ?_
      refine evd_end (by kernel_rfl) ?_
      refine evo_run 3 (by kernel_rfl) ?_
      refine evo_endS (by kernel_rfl) (fun τ hτ => ?_)
      obtain rfl := Option.some.inj h
      exact leafC hτ (here (by kernel_rfl))
    refine th_normalS hτ ⟨[(3, (.row (.top 500000) 36)), (5, (.ptr 500001 0)), (6, (.sl (List.map c_Point l))), (7, (vI (l.length : Int))), (8, (vI s1141.1)), (31, (vB j1701))], [(500000, .row 36 [] (List.map c_Point s1662)), (500001, .box [(vI x1569.X.A), (vI x1569.X.B), (vI x1569.Y.A), (vI x1569.Y.B)])]⟩ (here (by kernel_rfl)) ?_
    refine sem_cond j1701 (by kernel_rfl) (by kernel_rfl) (fun hb => ?_) (fun hb => ?_)
    ·replace h := iteT hb h
     refine z4 ⟨[(3, (.row (.top 500000) 36)), (5, (.ptr 500001 0)), (6, (.sl (List.map c_Point l))), (7, (vI (l.length : Int))), (8, (vI s1141.1))], [(500000, .row 36 [] (List.map c_Point s1662)), (500001, .box [(vI x1569.X.A), (vI x1569.X.B), (vI x1569.Y.A), (vI x1569.Y.B)])]⟩ (by kernel_rfl) ?_
     refine sem_block (by kernel_rfl) ?_
     refine sem_region (by kernel_rfl) ?_
     refine evs_run 2 (by kernel_rfl) ?_
     refine evs_op (st_len (c := c_Point) (l := s1662) (x := (.row (.top 500000) 36)) (by kernel_rfl) (by kernel_rfl)) ?_
     refine evs_run 1 (by kernel_rfl) ?_
     obtain ⟨l1706, hl1706, h⟩ := bindS h
     refine evs_at (at_cut (J := []) (c := c_Point) (l := s1662) (e := 36) (g := 500000) (hi := (isub (s1662.length : Int) 1)) (k2 := .i64) (by kernel_rfl) (by kernel_rfl) rfl hl1706) ?_
     refine z6 1 (by kernel_rfl) (fun τ hτ => ?_)
     refine bl_normal ?_
     obtain rfl := Option.some.inj h
     exact lk_nextS hτ (here (by kernel_rfl))
    ·replace h := iteF hb h
     refine sem_exitS 2 (by kernel_rfl) rfl (fun τ hτ => ?_)
     refine th_exit ?_
     obtain rfl := Option.some.inj h
     exact lk_outS hτ rfl (here (by kernel_rfl))
   ·intro x
    rfl
   ·intro τ hτ
    refine bl_hit (by kernel_rfl) ?_
    refine th_normalS hτ ⟨[(3, (.row (.top 500000) 36)), (5, (.ptr 500001 0)), (6, (.sl (List.map c_Point l))), (7, (vI (l.length : Int))), (8, (vI s1141.1))], [(500000, .row 36 [] (List.map c_Point x1707)), (500001, .box [(vI x1569.X.A), (vI x1569.X.B), (vI x1569.Y.A), (vI x1569.Y.B)])]⟩ (here (by kernel_rfl)) ?_
    refine sem_region (by kernel_rfl) ?_
    refine evs_run 3 (by kernel_rfl) ?_
    obtain ⟨l1709, hl1709, h⟩ := bindS h
    refine evs_op (st_app (c := c_Point) (l := x1707) (l2 := [x1569]) (x := (.sl (List.map c_Point [x1569]))) (g := 500000) (e := 36) (sz := 4) (d := 40) (by kernel_rfl) (by kernel_rfl) (by kernel_rfl) (by kernel_rfl) (fun _ => rfl) rfl hl1709) ?_
    refine z6 1 (by kernel_rfl) (fun τ hτ => ?_)
    refine bl_normal ?_
    refine th_normalS hτ ⟨[(3, (.row (.top 500000) 36)), (6, (.sl (List.map c_Point l))), (7, (vI (l.length : Int))), (8, (vI s1141.1))], [(500000, .row 36 [] (List.map c_Point l1709))]⟩ (here (by kernel_rfl)) ?_
    refine sem_region (by kernel_rfl) ?_
    refine z6 2 (by kernel_rfl) (fun τ hτ => ?_)
    obtain rfl := Option.some.inj h
    exact lk_nextS hτ (here (by kernel_rfl))
  ·replace h := iteF hb h
   refine sem_exitS 0 (by kernel_rfl) rfl (fun τ hτ => ?_)
   refine th_exit ?_
   obtain rfl := Option.some.inj h
   exact lk_outS hτ rfl (here (by kernel_rfl))
 ·intro x
  rfl
 ·intro τ hτ
  refine bl_hit (by kernel_rfl) ?_
  refine th_normalS hτ ⟨[(3, (.row (.top 500000) 36))], [(500000, .row 36 [] (List.map c_Point x1710))]⟩ (here (by kernel_rfl)) ?_
  refine z8 2 ⟨[(2, (.row (.top 500000) 36))], [(500000, .row 36 [] (List.map c_Point x1710))]⟩ (by kernel_rfl) (fun τ hτ => ?_)
  obtain rfl := Option.some.inj h
  exact rk_ret hτ [(2, (.row (.top 0) 36))] (subR_prep [] [(500000, 0)] (by kernel_rfl) rfl rfl (by kernel_rfl)) (by kernel_rfl)
theorem W.slices_Reverse_Lapi_Point_api_Point_ok {h0 : (List Point)} {r : (List Point)} (h : slices_Reverse_Lapi_Point_api_Point h0 = some r) : PC G.P 108 [(.row (.top 1000000) 36)] [(1000000, .row 36 [] (List.map c_Point h0))] (.tup []) [(1000000, .row 36 [] (List.map c_Point r))] := by
 refine pc_of G (fn := Try.f108) Try.func108 (by kernel_rfl) (by kernel_rfl) (by kernel_rfl) (by kernel_rfl) (by kernel_rfl) ?_
 refine sem_set ⟨[(0, (.row (.top 1000000) 36))], [(1000000, .row 36 [] (List.map c_Point h0))]⟩ (by kernel_rfl) ?_
 refine z7 (by kernel_rfl) ?_
 refine evs_run 1 (by kernel_rfl) ?_
 refine evs_op (st_len (c := c_Point) (l := h0) (x := (.row (.top 1000000) 36)) (by kernel_rfl) (by kernel_rfl)) ?_
 refine z1 3 ⟨[(0, (.row (.top 1000000) 36)), (2, (vI 0)), (3, (vI (isub (h0.length : Int) 1)))], [(1000000, .row 36 [] (List.map c_Point h0))]⟩ (by kernel_rfl) ?_
 refine sem_block (by kernel_rfl) ?_
 obtain ⟨x75, hx75, h⟩ := bindS h
 refine sem_loopS (fun (s26 : Int × Int × (List Point)) => ⟨[(0, (.row (.top 1000000) 36)), (2, (vI s26.1)), (3, (vI s26.2.1))], [(1000000, .row 36 [] (List.map c_Point s26.2.2))]⟩) (fun (x75 : (List Point)) => (.exit 0, ⟨[], [(1000000, .row 36 [] (List.map c_Point x75))]⟩)) (slices_Reverse_Lapi_Point_api_Point_l1) (0, (isub (h0.length : Int) 1), h0) x75 (by kernel_rfl) (here (by kernel_rfl)) hx75 ?_ ?_ ?_
 ·intro s26 r h
  refine sem_seq (by kernel_rfl) ?_
  refine z3 3 ⟨[(0, (.row (.top 1000000) 36)), (2, (vI s26.1)), (3, (vI s26.2.1)), (9, (vB (decide (s26.1 < s26.2.1))))], [(1000000, .row 36 [] (List.map c_Point s26.2.2))]⟩ (by kernel_rfl) ?_
  refine sem_cond (decide (s26.1 < s26.2.1)) (by kernel_rfl) (by kernel_rfl) (fun hb => ?_) (fun hb => ?_)
  ·replace h := iteT hb h
   refine z4 ⟨[(0, (.row (.top 1000000) 36)), (2, (vI s26.1)), (3, (vI s26.2.1))], [(1000000, .row 36 [] (List.map c_Point s26.2.2))]⟩ (by kernel_rfl) ?_
   refine sem_seq (by kernel_rfl) ?_
   refine sem_block (by kernel_rfl) ?_
   refine sem_drawN [(13, [1000000])] [] [] [(2, [1000000]), (3, [1000000])] [] 14 (by kernel_rfl) (by kernel_rfl) (by kernel_rfl) ?_
   refine evd_run 6 (by kernel_rfl) ?_
   obtain ⟨x71, hx71, h⟩ := bindS h
   refine evd_val (by kernel_rfl) (st_idxO (c := c_Point) (l := s26.2.2) (i := s26.2.1) (kd := .i64) (kk := (.top 1000000)) (e := 36) (sz := 4) (by kernel_rfl) (by kernel_rfl) hx71 rfl) (by kernel_rfl) (by kernel_rfl) ?_
   refine evd_val (by kernel_rfl) (st_ldO (c := c_Point) (l := s26.2.2) (i := (Int.toNat s26.2.1)) (v := (.agg [(vI x71.X.A), (vI x71.X.B), (vI x71.Y.A), (vI x71.Y.B)])) (agg := true) (sz := 4) (kk := (.top 1000000)) (e := 36) (off := 0) (J := []) (by kernel_rfl) (by kernel_rfl) (by kernel_rfl) ((idxS hx71).2) (by kernel_rfl)) (by kernel_rfl) (by kernel_rfl) ?_
   refine evd_run 2 (by kernel_rfl) ?_
   obtain ⟨x72, hx72, h⟩ := bindS h
   refine evd_val (by kernel_rfl) (st_idxO (c := c_Point) (l := s26.2.2) (i := s26.1) (kd := .i64) (kk := (.top 1000000)) (e := 36) (sz := 4) (by kernel_rfl) (by kernel_rfl) hx72 rfl) (by kernel_rfl) (by kernel_rfl) ?_
   refine evd_val (by kernel_rfl) (st_ldO (c := c_Point) (l := s26.2.2) (i := (Int.toNat s26.1)) (v := (.agg [(vI x72.X.A), (vI x72.X.B), (vI x72.Y.A), (vI x72.Y.B)])) (agg := true) (sz := 4) (kk := (.top 1000000)) (e := 36) (off := 0) (J := []) (by kernel_rfl) (by kernel_rfl) (by kernel_rfl) ((idxS hx72).2) (by kernel_rfl)) (by kernel_rfl) (by kernel_rfl) ?_
   obtain ⟨x73, hx73, h⟩ := bindS h
   refine evd_val (by kernel_rfl) (st_idxO (c := c_Point) (l := s26.2.2) (i := s26.1) (kd := .i64) (kk := (.top 1000000)) (e := 36) (sz := 4) (by kernel_rfl) (by kernel_rfl) hx73 rfl) (by kernel_rfl) (by kernel_rfl) ?_
   refine evd_set (by kernel_rfl) (st_stO (c := c_Point) (l := s26.2.2) (i := (Int.toNat s26.1)) (x := x73) (x' := x71) (v := (.agg [(vI x71.X.A), (vI x71.X.B), (vI x71.Y.A), (vI x71.Y.B)])) (agg := true) (sz := 4) (kk := (.top 1000000)) (e := 36) (off := 0) (J := []) (o := .row 36 [] (List.map c_Point (List.set s26.2.2 (Int.toNat s26.1) x71))) (by kernel_rfl) (by kernel_rfl) (by kernel_rfl) ((idxS hx73).2) (by kernel_rfl) (by kernel_rfl) (by kernel_rfl)) (by kernel_rfl) (by kernel_rfl) (by kernel_rfl) ?_
   refine evd_end (by kernel_rfl) ?_
   obtain ⟨x74, hx74, h⟩ := bindS h
   refine evo_op (st_idxO (c := c_Point) (l := (List.set s26.2.2 (Int.toNat s26.1) x71)) (i := s26.2.1) (kd := .i64) (kk := (.top 1000000)) (e := 36) (sz := 4) (by kernel_rfl) (by kernel_rfl) hx74 rfl) ?_
   refine evo_op (st_stO (c := c_Point) (l := (List.set s26.2.2 (Int.toNat s26.1) x71)) (i := (Int.toNat s26.2.1)) (x := x74) (x' := x72) (v := (.agg [(vI x72.X.A), (vI x72.X.B), (vI x72.Y.A), (vI x72.Y.B)])) (agg := true) (sz := 4) (kk := (.top 1000000)) (e := 36) (off := 0) (J := []) (o := .row 36 [] (List.map c_Point (List.set (List.set s26.2.2 (Int.toNat s26.1) x71) (Int.toNat s26.2.1) x72))) (by kernel_rfl) (by kernel_rfl) (by kernel_rfl) ((idxS hx74).2) (by kernel_rfl) (by kernel_rfl) (by kernel_rfl)) ?_
   refine evo_endS (by kernel_rfl) (fun τ hτ => ?_)
   refine bl_normal ?_
   refine th_normalS hτ ⟨[(0, (.row (.top 1000000) 36)), (2, (vI s26.1)), (3, (vI s26.2.1))], [(1000000, .row 36 [] (List.map c_Point (List.set (List.set s26.2.2 (Int.toNat s26.1) x71) (Int.toNat s26.2.1) x72)))]⟩ (here (by kernel_rfl)) ?_
   refine sem_region (by kernel_rfl) ?_
   refine z6 6 (by kernel_rfl) (fun τ hτ => ?_)
   obtain rfl := Option.some.inj h
   exact lk_nextS hτ (here (by kernel_rfl))
  ·replace h := iteF hb h
   refine sem_exitS 0 (by kernel_rfl) rfl (fun τ hτ => ?_)
   refine th_exit ?_
   obtain rfl := Option.some.inj h
   exact lk_outS hτ rfl (here (by kernel_rfl))
 ·intro x
  rfl
 ·intro τ hτ
  refine bl_hit (by kernel_rfl) ?_
  obtain rfl := Option.some.inj h
  exact rk_normal hτ [] (here (by kernel_rfl)) (by kernel_rfl)
theorem W.geom_hull_ok {l : (List Point)} {r : (List Point)} (h : geom_hull l = some r) : PC G.P 78 [(.sl (List.map c_Point l))] [] (.row (.top 0) 36) [(0, .row 36 [] (List.map c_Point r))] := by
 refine pc_of G (fn := Try.f78) Try.func78 (by kernel_rfl) (by kernel_rfl) (by kernel_rfl) (by kernel_rfl) (by kernel_rfl) ?_
 refine sem_set ⟨[(0, (.sl (List.map c_Point l)))], []⟩ (by kernel_rfl) ?_
 refine z3 1 ⟨[(0, (.sl (List.map c_Point l)))], []⟩ (by kernel_rfl) ?_
 refine z7 (by kernel_rfl) ?_
 refine evs_run 1 (by kernel_rfl) ?_
 obtain ⟨r2, hr2, h⟩ := bindS h
 refine evs_callS [] [(0, 700050)] [] (by kernel_rfl) (W.geom_sorted_api_Point__geom_comparePoints_ok hr2) (by kernel_rfl) (by kernel_rfl) (.inl rfl) ?_
 refine z1 1 ⟨[(0, (.row (.top 700050) 36))], [(700050, .row 36 [] (List.map c_Point r2))]⟩ (by kernel_rfl) ?_
 refine sem_seq (by kernel_rfl) ?_
 refine z7 (by kernel_rfl) ?_
 refine evs_run 1 (by kernel_rfl) ?_
 refine evs_op (st_len (c := c_Point) (l := r2) (x := (.row (.top 700050) 36)) (by kernel_rfl) (by kernel_rfl)) ?_
 refine z1 1 ⟨[(0, (.row (.top 700050) 36)), (9, (vB (decide ((r2.length : Int) < 3))))], [(700050, .row 36 [] (List.map c_Point r2))]⟩ (by kernel_rfl) ?_
 refine sem_cond (decide ((r2.length : Int) < 3)) (by kernel_rfl) (by kernel_rfl) (fun hb => ?_) (fun hb => ?_)
 ·replace h := iteT hb h
  refine z8 2 ⟨[(2, (.row (.top 700050) 36))], [(700050, .row 36 [] (List.map c_Point r2))]⟩ (by kernel_rfl) (fun τ hτ => ?_)
  refine th_ret ?_
  obtain rfl := Option.some.inj h
  exact rk_ret hτ [(2, (.row (.top 0) 36))] (subR_prep [] [(700050, 0)] (by kernel_rfl) rfl rfl (by kernel_rfl)) (by kernel_rfl)
 ·replace h := iteF hb h
  refine z4 ⟨[(0, (.row (.top 700050) 36))], [(700050, .row 36 [] (List.map c_Point r2))]⟩ (by kernel_rfl) ?_
  refine z7 (by kernel_rfl) ?_
  refine evs_run 1 (by kernel_rfl) ?_
  obtain ⟨r4, hr4, h⟩ := bindS h
  refine evs_callS [] [(0, 700051)] [700050] (by kernel_rfl) (W.geom_half_ok hr4) (by kernel_rfl) (by kernel_rfl) (.inr ⟨rfl, fun _ _ => ind_cons (ind_row fun _ => rfl) (fun _ _ => ind_nil)⟩) ?_
  refine z1 1 ⟨[(0, (.row (.top 700050) 36)), (3, (.row (.top 700051) 36))], [(700050, .row 36 [] (List.map c_Point r2)), (700051, .row 36 [] (List.map c_Point r4))]⟩ (by kernel_rfl) ?_
  refine z7 (by kernel_rfl) ?_
  refine evs_run 1 (by kernel_rfl) ?_
  obtain ⟨r6, hr6, h⟩ := bindS h
  refine evs_callS [(1000000, 700050)] [] [] (by kernel_rfl) (W.slices_Reverse_Lapi_Point_api_Point_ok hr6) (by kernel_rfl) (by kernel_rfl) (.inl rfl) ?_
  refine evs_endS (by kernel_rfl) (fun τ hτ => ?_)
  refine th_normalS hτ ⟨[(0, (.row (.top 700050) 36)), (3, (.row (.top 700051) 36))], [(700050, .row 36 [] (List.map c_Point r6)), (700051, .row 36 [] (List.map c_Point r4))]⟩ (here (by kernel_rfl)) ?_
  refine z7 (by kernel_rfl) ?_
  refine evs_run 1 (by kernel_rfl) ?_
  obtain ⟨r8, hr8, h⟩ := bindS h
  refine evs_callS [] [(0, 700052)] [700050] (by kernel_rfl) (W.geom_half_ok hr8) (by kernel_rfl) (by kernel_rfl) (.inr ⟨rfl, fun _ _ => ind_cons (ind_row fun _ => rfl) (fun _ _ => ind_nil)⟩) ?_
  refine z1 1 ⟨[(3, (.row (.top 700051) 36)), (4, (.row (.top 700052) 36))], [(700051, .row 36 [] (List.map c_Point r4)), (700052, .row 36 [] (List.map c_Point r8))]⟩ (by kernel_rfl) ?_
  refine sem_seq (by kernel_rfl) ?_
  refine sem_prep [.frz 700052] (by kernel_rfl) ?_
  refine sem_draw [(4, [700051, 600004])] [(4, [600004])] [] [(5, [700051, 600004]), (6, [700051, 600004]), (7, [700051, 600004]), (8, [700051, 600004]), (9, [700051, 600004])] [(0, [600004]), (1, [600004]), (2, [600004]), (3, [600004]), (5, [600004]), (6, [600004]), (7, [600004]), (8, [600004]), (9, [600004])] 10 (by kernel_rfl) (by kernel_rfl) [600004] (by kernel_rfl) (by kernel_rfl) ?_
  refine evd_run 2 (by kernel_rfl) ?_
  refine evd_val (by kernel_rfl) (st_len (c := c_Point) (l := r4) (x := (.row (.top 700051) 36)) (by kernel_rfl) (by kernel_rfl)) (by kernel_rfl) (by kernel_rfl) ?_
  refine evd_run 1 (by kernel_rfl) ?_
  obtain ⟨l16, hl16, h⟩ := bindS h
  refine evd_cut (J := []) (c := c_Point) (l := r4) (e := 36) (g := 700051) (g2 := 600004) (hi := (isub (r4.length : Int) 1)) (k2 := .i64) (by kernel_rfl) (by kernel_rfl) (by kernel_rfl) hl16 (by kernel_rfl) (by kernel_rfl) (by kernel_rfl) (by kernel_rfl) (by kernel_rfl) ?_
  refine evd_run 2 (by kernel_rfl) ?_
  refine evd_val (by kernel_rfl) (st_len (c := c_Point) (l := r8) (x := (.sl (List.map c_Point r8))) (by kernel_rfl) (by kernel_rfl)) (by kernel_rfl) (by kernel_rfl) ?_
  refine evd_run 1 (by kernel_rfl) ?_
  obtain ⟨l17, hl17, h⟩ := bindS h
  refine evd_val (by kernel_rfl) (st_slH (c := c_Point) (l := r8) (sz := 4) (hi := (isub (r8.length : Int) 1)) (k2 := .i64) (by kernel_rfl) hl17) (by kernel_rfl) (by kernel_rfl) ?_
  refine evd_end (by kernel_rfl) ?_
  obtain ⟨l18, hl18, h⟩ := bindS h
  refine evo_op (st_app (c := c_Point) (l := l16) (l2 := l17) (x := (.sl (List.map c_Point l17))) (g := 600004) (e := 36) (sz := 4) (d := 27) (by kernel_rfl) (by kernel_rfl) (by kernel_rfl) (by kernel_rfl) (fun _ => rfl) rfl hl18) ?_
  refine evo_run 1 (by kernel_rfl) ?_
  refine evo_endS (by kernel_rfl) (fun τ hτ => ?_)
  refine th_normalS hτ ⟨[(2, (.row (.top 600004) 36))], [(600004, .row 36 [] (List.map c_Point l18))]⟩ (here (by kernel_rfl)) ?_
  refine sem_retS (by kernel_rfl) (fun τ hτ => ?_)
  obtain rfl := Option.some.inj h
  exact rk_ret hτ [(2, (.row (.top 0) 36))] (subR_prep [] [(600004, 0)] (by kernel_rfl) rfl rfl (by kernel_rfl)) (by kernel_rfl)
theorem W.sheetmetalref01_pointsIn_ok {l : (List Point)} {r : Int} (h : sheetmetalref01_pointsIn l = some r) : PC G.P 79 [(.sl (List.map c_Point l))] [] (vI r) [] := by
 refine pc_of G (fn := Try.f79) Try.func79 (by kernel_rfl) (by kernel_rfl) (by kernel_rfl) (by kernel_rfl) (by kernel_rfl) ?_
 refine sem_set ⟨[(0, (.sl (List.map c_Point l)))], []⟩ (by kernel_rfl) ?_
 refine z3 1 ⟨[(0, (.sl (List.map c_Point l)))], []⟩ (by kernel_rfl) ?_
 refine sem_seq (by kernel_rfl) ?_
 refine sem_seq (by kernel_rfl) ?_
 obtain ⟨j2, hj2, h⟩ := bindS h
 refine sem_regionC ⟨[(10, (vB j2))], []⟩ (by kernel_rfl) ?_ (fun τ hτ => ?_)
 ·replace h := hj2
  refine evs_run 1 (by kernel_rfl) ?_
  refine evs_op (st_len (c := c_Point) (l := l) (x := (.sl (List.map c_Point l))) (by kernel_rfl) (by kernel_rfl)) ?_
  refine evs_run 2 (by kernel_rfl) ?_
  refine evs_split ((l.length : Int) == 0) (fun b0 => ⟨[(0, (.sl (List.map c_Point l))), (6, (vB b0))], []⟩) (by kernel_rfl) (fun hb => ?_) (fun hb => ?_)
  ·replace h := iteT hb h
   refine z6 4 (by kernel_rfl) (fun τ hτ => ?_)
   obtain rfl := Option.some.inj h
   exact leafC hτ (here (by kernel_rfl))
  ·replace h := iteF hb h
   refine evs_run 1 (by kernel_rfl) ?_
   refine evs_op (st_len (c := c_Point) (l := l) (x := (.sl (List.map c_Point l))) (by kernel_rfl) (by kernel_rfl)) ?_
   refine z6 2 (by kernel_rfl) (fun τ hτ => ?_)
   obtain rfl := Option.some.inj h
   exact leafC hτ (here (by kernel_rfl))
 refine th_normalS hτ ⟨[(10, (vB j2))], []⟩ (here (by kernel_rfl)) ?_
 refine sem_cond j2 (by kernel_rfl) (by kernel_rfl) (fun hb => ?_) (fun hb => ?_)
 ·replace h := iteT hb h
  refine z8 1 ⟨[(2, (vI 1))], []⟩ (by kernel_rfl) (fun τ hτ => ?_)
  refine th_ret ?_
  obtain rfl := Option.some.inj h
  exact rk_ret hτ [(2, (vI 1))] (here (by kernel_rfl)) (by kernel_rfl)
 ·replace h := iteF hb h
  refine z4 ⟨[], []⟩ (by kernel_rfl) ?_
  refine z8 1 ⟨[(2, (vI 0))], []⟩ (by kernel_rfl) (fun τ hτ => ?_)
  obtain rfl := Option.some.inj h
  exact rk_ret hτ [(2, (vI 0))] (here (by kernel_rfl)) (by kernel_rfl)
theorem W.sheetmetalref01_allSmall_ok {l : (List Point)} {r : Bool} (h : sheetmetalref01_allSmall l = some r) : PC G.P 80 [(.sl (List.map c_Point l))] [] (vB r) [] := by
 refine pc_of G (fn := Try.f80) Try.func80 (by kernel_rfl) (by kernel_rfl) (by kernel_rfl) (by kernel_rfl) (by kernel_rfl) ?_
 refine sem_set ⟨[(0, (.sl (List.map c_Point l)))], []⟩ (by kernel_rfl) ?_
 refine z3 1 ⟨[(0, (.sl (List.map c_Point l)))], []⟩ (by kernel_rfl) ?_
 refine sem_seq (by kernel_rfl) ?_
 refine z3 1 ⟨[(0, (.sl (List.map c_Point l))), (3, (vI 0))], []⟩ (by kernel_rfl) ?_
 refine sem_block (by kernel_rfl) ?_
 obtain ⟨x56, hx56, h⟩ := bindS h
 refine sem_loopS (fun (s39 : Int) => ⟨[(0, (.sl (List.map c_Point l))), (3, (vI s39))], []⟩) (fun (x56 : Unit ⊕ Unit) => match x56 with | .inl j57 => (.ret, ⟨[(2, (vB false))], []⟩) | .inr j58 => (.exit 0, ⟨[], []⟩)) (sheetmetalref01_allSmall_l1 l) 0 x56 (by kernel_rfl) (here (by kernel_rfl)) hx56 ?_ ?_ ?_
 ·intro s39 r h
  refine sem_seq (by kernel_rfl) ?_
  refine z7 (by kernel_rfl) ?_
  refine evs_run 2 (by kernel_rfl) ?_
  refine evs_op (st_len (c := c_Point) (l := l) (x := (.sl (List.map c_Point l))) (by kernel_rfl) (by kernel_rfl)) ?_
  refine z1 1 ⟨[(0, (.sl (List.map c_Point l))), (3, (vI s39)), (7, (vB (decide (s39 < (l.length : Int)))))], []⟩ (by kernel_rfl) ?_
  refine sem_cond (decide (s39 < (l.length : Int))) (by kernel_rfl) (by kernel_rfl) (fun hb => ?_) (fun hb => ?_)
  ·replace h := iteT hb h
   refine z4 ⟨[(0, (.sl (List.map c_Point l))), (3, (vI s39))], []⟩ (by kernel_rfl) ?_
   refine sem_seq (by kernel_rfl) ?_
   refine sem_block (by kernel_rfl) ?_
   refine z7 (by kernel_rfl) ?_
   refine evs_run 2 (by kernel_rfl) ?_
   obtain ⟨x54, hx54, h⟩ := bindS h
   refine evs_op (st_idx (c := c_Point) (l := l) (i := s39) (kd := .i64) (sz := 4) (by kernel_rfl) hx54 rfl) ?_
   refine evs_run 1 (by kernel_rfl) ?_
   obtain ⟨r55, hr55, h⟩ := bindS h
   refine evs_callP [] (by kernel_rfl) (W.sheetmetalref01_pointIn_ok hr55) (by kernel_rfl) (.inl rfl) (by kernel_rfl) ?_
   refine z1 1 ⟨[(0, (.sl (List.map c_Point l))), (3, (vI s39)), (15, (vB (!r55)))], []⟩ (by kernel_rfl) ?_
   refine sem_cond (!r55) (by kernel_rfl) (by kernel_rfl) (fun hb => ?_) (fun hb => ?_)
   ·replace h := iteT hb h
    refine z8 1 ⟨[(2, (vB false))], []⟩ (by kernel_rfl) (fun τ hτ => ?_)
    refine bl_ret ?_
    refine th_ret ?_
    obtain rfl := Option.some.inj h
    exact lk_outS hτ rfl (here (by kernel_rfl))
   ·replace h := iteF hb h
    refine sem_skipS (by kernel_rfl) (fun τ hτ => ?_)
    refine bl_normal ?_
    refine th_normalS hτ ⟨[(0, (.sl (List.map c_Point l))), (3, (vI s39))], []⟩ (here (by kernel_rfl)) ?_
    refine sem_region (by kernel_rfl) ?_
    refine z6 3 (by kernel_rfl) (fun τ hτ => ?_)
    obtain rfl := Option.some.inj h
    exact lk_nextS hτ (here (by kernel_rfl))
  ·replace h := iteF hb h
   refine sem_exitS 0 (by kernel_rfl) rfl (fun τ hτ => ?_)
   refine th_exit ?_
   obtain rfl := Option.some.inj h
   exact lk_outS hτ rfl (here (by kernel_rfl))
 ·intro x
  rcases x with _ | _ <;> rfl
 ·intro τ hτ
  rcases x56 with j57 | j58
  ·refine bl_ret ?_
   refine th_ret ?_
   obtain rfl := Option.some.inj h
   exact rk_ret hτ [(2, (vB false))] (here (by kernel_rfl)) (by kernel_rfl)
  ·refine bl_hit (by kernel_rfl) ?_
   refine th_normalS hτ ⟨[], []⟩ (here (by kernel_rfl)) ?_
   refine z8 1 ⟨[(2, (vB true))], []⟩ (by kernel_rfl) (fun τ hτ => ?_)
   obtain rfl := Option.some.inj h
   exact rk_ret hτ [(2, (vB true))] (here (by kernel_rfl)) (by kernel_rfl)
theorem W.sheetmetalref01_ComparePoint_ok {a : Point} {b : Point} {r : Int} (h : sheetmetalref01_ComparePoint a b = some r) : PC G.P 109 [(.agg [(vI a.X.A), (vI a.X.B), (vI a.Y.A), (vI a.Y.B)]), (.agg [(vI b.X.A), (vI b.X.B), (vI b.Y.A), (vI b.Y.B)])] [] (vI r) [] := by
 refine pc_of G (fn := Try.f109) Try.func109 (by kernel_rfl) (by kernel_rfl) (by kernel_rfl) (by kernel_rfl) (by kernel_rfl) ?_
 refine sem_set ⟨[(0, (.agg [(vI a.X.A), (vI a.X.B), (vI a.Y.A), (vI a.Y.B)])), (1, (.agg [(vI b.X.A), (vI b.X.B), (vI b.Y.A), (vI b.Y.B)]))], []⟩ (by kernel_rfl) ?_
 refine z3 3 ⟨[(2, (.ptr 2 0)), (3, (.ptr 3 0))], [(2, .box [(vI a.X.A), (vI a.X.B), (vI a.Y.A), (vI a.Y.B)]), (3, .box [(vI b.X.A), (vI b.X.B), (vI b.Y.A), (vI b.Y.B)])]⟩ (by kernel_rfl) ?_
 refine z7 (by kernel_rfl) ?_
 refine evs_run 4 (by kernel_rfl) ?_
 obtain ⟨r3, hr3, h⟩ := bindS h
 refine evs_callS [] [(0, 700200)] [] (by kernel_rfl) (W.sheetmetalref01_minus_ok hr3) (by kernel_rfl) (by kernel_rfl) (.inl rfl) ?_
 obtain ⟨r4, hr4, h⟩ := bindS h
 refine evs_callP [] (by kernel_rfl) (W.sheetmetalref01_sign_ok hr4) (by kernel_rfl) (.inl rfl) (by kernel_rfl) ?_
 refine z1 1 ⟨[(2, (.ptr 2 0)), (3, (.ptr 3 0)), (5, (vI r4))], [(2, .box [(vI a.X.A), (vI a.X.B), (vI a.Y.A), (vI a.Y.B)]), (3, .box [(vI b.X.A), (vI b.X.B), (vI b.Y.A), (vI b.Y.B)])]⟩ (by kernel_rfl) ?_
 refine sem_seq (by kernel_rfl) ?_
 refine z3 2 ⟨[(2, (.ptr 2 0)), (3, (.ptr 3 0)), (5, (vI r4)), (13, (vB (r4 == 0)))], [(2, .box [(vI a.X.A), (vI a.X.B), (vI a.Y.A), (vI a.Y.B)]), (3, .box [(vI b.X.A), (vI b.X.B), (vI b.Y.A), (vI b.Y.B)])]⟩ (by kernel_rfl) ?_
 refine sem_cond (r4 == 0) (by kernel_rfl) (by kernel_rfl) (fun hb => ?_) (fun hb => ?_)
 ·replace h := iteT hb h
  refine z7 (by kernel_rfl) ?_
  refine evs_run 4 (by kernel_rfl) ?_
  obtain ⟨r11, hr11, h⟩ := bindS h
  refine evs_callS [] [(0, 700200)] [] (by kernel_rfl) (W.sheetmetalref01_minus_ok hr11) (by kernel_rfl) (by kernel_rfl) (.inl rfl) ?_
  obtain ⟨r12, hr12, h⟩ := bindS h
  refine evs_callP [] (by kernel_rfl) (W.sheetmetalref01_sign_ok hr12) (by kernel_rfl) (.inl rfl) (by kernel_rfl) ?_
  refine z1 1 ⟨[(4, (vI r12))], []⟩ (by kernel_rfl) ?_
  refine sem_retS (by kernel_rfl) (fun τ hτ => ?_)
  refine th_ret ?_
  obtain rfl := Option.some.inj h
  exact rk_ret hτ [(4, (vI r12))] (here (by kernel_rfl)) (by kernel_rfl)
 ·replace h := iteF hb h
  refine z4 ⟨[(5, (vI r4))], []⟩ (by kernel_rfl) ?_
  refine z8 2 ⟨[(4, (vI r4))], []⟩ (by kernel_rfl) (fun τ hτ => ?_)
  obtain rfl := Option.some.inj h
  exact rk_ret hτ [(4, (vI r4))] (here (by kernel_rfl)) (by kernel_rfl)
theorem W.sheetmetalref01_between_ok {p : Point} {q : Point} {r2 : Point} {r : Bool} (h : sheetmetalref01_between p q r2 = some r) : PC G.P 110 [(.agg [(vI p.X.A), (vI p.X.B), (vI p.Y.A), (vI p.Y.B)]), (.agg [(vI q.X.A), (vI q.X.B), (vI q.Y.A), (vI q.Y.B)]), (.agg [(vI r2.X.A), (vI r2.X.B), (vI r2.Y.A), (vI r2.Y.B)])] [] (vB r) [] := by
 refine pc_of G (fn := Try.f110) Try.func110 (by kernel_rfl) (by kernel_rfl) (by kernel_rfl) (by kernel_rfl) (by kernel_rfl) ?_
 refine sem_set ⟨[(0, (.agg [(vI p.X.A), (vI p.X.B), (vI p.Y.A), (vI p.Y.B)])), (1, (.agg [(vI q.X.A), (vI q.X.B), (vI q.Y.A), (vI q.Y.B)])), (2, (.agg [(vI r2.X.A), (vI r2.X.B), (vI r2.Y.A), (vI r2.Y.B)]))], []⟩ (by kernel_rfl) ?_
 refine z3 4 ⟨[(3, (.ptr 3 0)), (4, (.ptr 4 0)), (5, (.ptr 5 0))], [(3, .box [(vI p.X.A), (vI p.X.B), (vI p.Y.A), (vI p.Y.B)]), (4, .box [(vI q.X.A), (vI q.X.B), (vI q.Y.A), (vI q.Y.B)]), (5, .box [(vI r2.X.A), (vI r2.X.B), (vI r2.Y.A), (vI r2.Y.B)])]⟩ (by kernel_rfl) ?_
 refine sem_seq (by kernel_rfl) ?_
 obtain ⟨j7, hj7, h⟩ := bindS h
 refine sem_regionC ⟨[(6, (vB j7))], []⟩ (by kernel_rfl) ?_ (fun τ hτ => ?_)
 ·replace h := hj7
  refine evs_run 2 (by kernel_rfl) ?_
  obtain ⟨r8, hr8, h⟩ := bindS h
  refine evs_callP [] (by kernel_rfl) (W.sheetmetalref01_ComparePoint_ok hr8) (by kernel_rfl) (.inl rfl) (by kernel_rfl) ?_
  refine evs_run 2 (by kernel_rfl) ?_
  refine evs_split (decide (r8 ≤ 0)) (fun b0 => ⟨[(3, (.ptr 3 0)), (4, (.ptr 4 0)), (5, (.ptr 5 0)), (11, (vB b0))], [(3, .box [(vI p.X.A), (vI p.X.B), (vI p.Y.A), (vI p.Y.B)]), (4, .box [(vI q.X.A), (vI q.X.B), (vI q.Y.A), (vI q.Y.B)]), (5, .box [(vI r2.X.A), (vI r2.X.B), (vI r2.Y.A), (vI r2.Y.B)])]⟩) (by kernel_rfl) (fun hb => ?_) (fun hb => ?_)
  ·replace h := iteT hb h
   refine evs_run 2 (by kernel_rfl) ?_
   obtain ⟨r9, hr9, h⟩ := bindS h
   refine evs_callP [] (by kernel_rfl) (W.sheetmetalref01_ComparePoint_ok hr9) (by kernel_rfl) (.inl rfl) (by kernel_rfl) ?_
   refine evs_run 3 (by kernel_rfl) ?_
   refine evs_split (decide (r9 ≤ 0)) (fun b0 => ⟨[(3, (.ptr 3 0)), (4, (.ptr 4 0)), (5, (.ptr 5 0)), (17, (vB b0))], [(3, .box [(vI p.X.A), (vI p.X.B), (vI p.Y.A), (vI p.Y.B)]), (4, .box [(vI q.X.A), (vI q.X.B), (vI q.Y.A), (vI q.Y.B)]), (5, .box [(vI r2.X.A), (vI r2.X.B), (vI r2.Y.A), (vI r2.Y.B)])]⟩) (by kernel_rfl) (fun hb => ?_) (fun hb => ?_)
   ·replace h := iteT hb h
    refine z6 12 (by kernel_rfl) (fun τ hτ => ?_)
    obtain rfl := Option.some.inj h
    exact leafC hτ (here (by kernel_rfl))
   ·replace h := iteF hb h
    refine evs_run 2 (by kernel_rfl) ?_
    obtain ⟨r10, hr10, h⟩ := bindS h
    refine evs_callP [] (by kernel_rfl) (W.sheetmetalref01_ComparePoint_ok hr10) (by kernel_rfl) (.inl rfl) (by kernel_rfl) ?_
    refine evs_run 2 (by kernel_rfl) ?_
    refine evs_split (decide (r10 ≥ 0)) (fun b0 => ⟨[(4, (.ptr 4 0)), (5, (.ptr 5 0)), (17, (vB false)), (22, (vB b0))], [(4, .box [(vI q.X.A), (vI q.X.B), (vI q.Y.A), (vI q.Y.B)]), (5, .box [(vI r2.X.A), (vI r2.X.B), (vI r2.Y.A), (vI r2.Y.B)])]⟩) (by kernel_rfl) (fun hb => ?_) (fun hb => ?_)
    ·replace h := iteT hb h
     refine evs_run 2 (by kernel_rfl) ?_
     obtain ⟨r11, hr11, h⟩ := bindS h
     refine evs_callP [] (by kernel_rfl) (W.sheetmetalref01_ComparePoint_ok hr11) (by kernel_rfl) (.inl rfl) (by kernel_rfl) ?_
     refine z6 4 (by kernel_rfl) (fun τ hτ => ?_)
     obtain rfl := Option.some.inj h
     exact leafC hτ (here (by kernel_rfl))
    ·replace h := iteF hb h
     refine z6 7 (by kernel_rfl) (fun τ hτ => ?_)
     obtain rfl := Option.some.inj h
     exact leafC hτ (here (by kernel_rfl))
  ·replace h := iteF hb h
   refine evs_run 8 (by kernel_rfl) ?_
   obtain ⟨r12, hr12, h⟩ := bindS h
   refine evs_callP [] (by kernel_rfl) (W.sheetmetalref01_ComparePoint_ok hr12) (by kernel_rfl) (.inl rfl) (by kernel_rfl) ?_
   refine evs_run 2 (by kernel_rfl) ?_
   refine evs_split (decide (r12 ≥ 0)) (fun b0 => ⟨[(4, (.ptr 4 0)), (5, (.ptr 5 0)), (17, (vB false)), (22, (vB b0))], [(4, .box [(vI q.X.A), (vI q.X.B), (vI q.Y.A), (vI q.Y.B)]), (5, .box [(vI r2.X.A), (vI r2.X.B), (vI r2.Y.A), (vI r2.Y.B)])]⟩) (by kernel_rfl) (fun hb => ?_) (fun hb => ?_)
   ·replace h := iteT hb h
    refine evs_run 2 (by kernel_rfl) ?_
    obtain ⟨r13, hr13, h⟩ := bindS h
    refine evs_callP [] (by kernel_rfl) (W.sheetmetalref01_ComparePoint_ok hr13) (by kernel_rfl) (.inl rfl) (by kernel_rfl) ?_
    refine z6 4 (by kernel_rfl) (fun τ hτ => ?_)
    obtain rfl := Option.some.inj h
    exact leafC hτ (here (by kernel_rfl))
   ·replace h := iteF hb h
    refine z6 7 (by kernel_rfl) (fun τ hτ => ?_)
    obtain rfl := Option.some.inj h
    exact leafC hτ (here (by kernel_rfl))
 refine th_normalS hτ ⟨[(6, (vB j7))], []⟩ (here (by kernel_rfl)) ?_
 refine sem_retS (by kernel_rfl) (fun τ hτ => ?_)
 obtain rfl := Option.some.inj h
 exact rk_ret hτ [(6, (vB j7))] (here (by kernel_rfl)) (by kernel_rfl)
theorem W.sheetmetalref01_Wrap_ok {l : (List Point)} {r : (List Point)} (h : sheetmetalref01_Wrap l = some r) : PC G.P 81 [(.sl (List.map c_Point l))] [] (.row (.top 0) 36) [(0, .row 36 [] (List.map c_Point r))] := by
 refine pc_of G (fn := Try.f81) Try.func81 (by kernel_rfl) (by kernel_rfl) (by kernel_rfl) (by kernel_rfl) (by kernel_rfl) ?_
 refine sem_set ⟨[(0, (.sl (List.map c_Point l)))], []⟩ (by kernel_rfl) ?_
 refine z3 1 ⟨[(0, (.sl (List.map c_Point l)))], []⟩ (by kernel_rfl) ?_
 refine z3 1 ⟨[(0, (.sl (List.map c_Point l))), (3, (vI 0))], []⟩ (by kernel_rfl) ?_
 refine sem_seq (by kernel_rfl) ?_
 refine z3 1 ⟨[(0, (.sl (List.map c_Point l))), (3, (vI 0)), (4, (vI 1))], []⟩ (by kernel_rfl) ?_
 refine sem_block (by kernel_rfl) ?_
 obtain ⟨x120, hx120, h⟩ := bindS h
 refine sem_loopS (fun (s81 : Int × Int) => ⟨[(0, (.sl (List.map c_Point l))), (3, (vI s81.1)), (4, (vI s81.2))], []⟩) (fun (x120 : Int) => (.exit 0, ⟨[(0, (.sl (List.map c_Point l))), (3, (vI x120))], []⟩)) (sheetmetalref01_Wrap_l2 l) (0, 1) x120 (by kernel_rfl) (here (by kernel_rfl)) hx120 ?_ ?_ ?_
 ·intro s81 r h
  refine sem_seq (by kernel_rfl) ?_
  refine z7 (by kernel_rfl) ?_
  refine evs_run 2 (by kernel_rfl) ?_
  refine evs_op (st_len (c := c_Point) (l := l) (x := (.sl (List.map c_Point l))) (by kernel_rfl) (by kernel_rfl)) ?_
  refine z1 1 ⟨[(0, (.sl (List.map c_Point l))), (3, (vI s81.1)), (4, (vI s81.2)), (15, (vB (decide (s81.2 < (l.length : Int)))))], []⟩ (by kernel_rfl) ?_
  refine sem_cond (decide (s81.2 < (l.length : Int))) (by kernel_rfl) (by kernel_rfl) (fun hb => ?_) (fun hb => ?_)
  ·replace h := iteT hb h
   refine z4 ⟨[(0, (.sl (List.map c_Point l))), (3, (vI s81.1)), (4, (vI s81.2))], []⟩ (by kernel_rfl) ?_
   refine sem_seqJ (fun (j110 : Int) => ⟨[(0, (.sl (List.map c_Point l))), (3, (vI j110)), (4, (vI s81.2))], []⟩) (sheetmetalref01_Wrap_k1 s81) r (by kernel_rfl) (fun j110 h => ?_) ?_
   ·refine sem_region (by kernel_rfl) ?_
    refine z6 3 (by kernel_rfl) (fun τ hτ => ?_)
    obtain rfl := Option.some.inj h
    exact lk_nextS hτ (here (by kernel_rfl))
   refine sem_block (by kernel_rfl) ?_
   refine sem_seq (by kernel_rfl) ?_
   refine sem_drawN [] [] [] [] [] 8 (by kernel_rfl) (by kernel_rfl) (by kernel_rfl) ?_
   refine evd_run 2 (by kernel_rfl) ?_
   obtain ⟨x117, hx117, h⟩ := bindS h
   refine evd_val (by kernel_rfl) (st_idx (c := c_Point) (l := l) (i := s81.2) (kd := .i64) (sz := 4) (by kernel_rfl) hx117 rfl) (by kernel_rfl) (by kernel_rfl) ?_
   refine evd_run 3 (by kernel_rfl) ?_
   obtain ⟨x118, hx118, h⟩ := bindS h
   refine evd_val (by kernel_rfl) (st_idx (c := c_Point) (l := l) (i := s81.1) (kd := .i64) (sz := 4) (by kernel_rfl) hx118 rfl) (by kernel_rfl) (by kernel_rfl) ?_
   refine evd_run 1 (by kernel_rfl) ?_
   refine evd_end (by kernel_rfl) ?_
   obtain ⟨r119, hr119, h⟩ := bindS h
   refine evo_callP [] (by kernel_rfl) (W.sheetmetalref01_ComparePoint_ok hr119) (by kernel_rfl) (.inl rfl) (by kernel_rfl) ?_
   refine evo_run 1 (by kernel_rfl) ?_
   refine evo_endS (by kernel_rfl) (fun τ hτ => ?_)
   refine th_normalS hτ ⟨[(0, (.sl (List.map c_Point l))), (3, (vI s81.1)), (4, (vI s81.2)), (27, (vB (decide (r119 < 0))))], []⟩ (here (by kernel_rfl)) ?_
   refine sem_cond (decide (r119 < 0)) (by kernel_rfl) (by kernel_rfl) (fun hb => ?_) (fun hb => ?_)
   ·replace h := iteT hb h
    refine sem_region (by kernel_rfl) ?_
    refine z6 2 (by kernel_rfl) (fun τ hτ => ?_)
    refine bl_normal ?_
    exact jk_normal s81.2 h hτ (here (by kernel_rfl))
   ·replace h := iteF hb h
    refine sem_skipS (by kernel_rfl) (fun τ hτ => ?_)
    refine bl_normal ?_
    exact jk_normal s81.1 h hτ (here (by kernel_rfl))
  ·replace h := iteF hb h
   refine sem_exitS 0 (by kernel_rfl) rfl (fun τ hτ => ?_)
   refine th_exit ?_
   obtain rfl := Option.some.inj h
   exact lk_outS hτ rfl (here (by kernel_rfl))
 ·intro x
  rfl
 ·intro τ hτ
  refine bl_hit (by kernel_rfl) ?_
  refine th_normalS hτ ⟨[(0, (.sl (List.map c_Point l))), (3, (vI x120))], []⟩ (here (by kernel_rfl)) ?_
  refine z7 (by kernel_rfl) ?_
  refine evs_run 2 (by kernel_rfl) ?_
  obtain ⟨x122, hx122, h⟩ := bindS h
  refine evs_op (st_idx (c := c_Point) (l := l) (i := x120) (kd := .i64) (sz := 4) (by kernel_rfl) hx122 rfl) ?_
  refine evs_run 1 (by kernel_rfl) ?_
  refine evs_at (at_build (e := 36) (d := 33) (es := (List.map c_Point [x122])) (by kernel_rfl)) ?_
  refine z1 1 ⟨[(0, (.sl (List.map c_Point l))), (3, (vI x120)), (5, (.row (.top 33) 36))], [(33, .row 36 [] (List.map c_Point [x122]))]⟩ (by kernel_rfl) ?_
  refine z3 2 ⟨[(0, (.sl (List.map c_Point l))), (3, (vI x120)), (5, (.row (.top 33) 36)), (6, (vI x120))], [(33, .row 36 [] (List.map c_Point [x122]))]⟩ (by kernel_rfl) ?_
  refine sem_seq (by kernel_rfl) ?_
  refine z3 1 ⟨[(0, (.sl (List.map c_Point l))), (3, (vI x120)), (5, (.row (.top 33) 36)), (6, (vI x120)), (7, (vI 0))], [(33, .row 36 [] (List.map c_Point [x122]))]⟩ (by kernel_rfl) ?_
  refine sem_block (by kernel_rfl) ?_
  obtain ⟨x14386, hx14386, h⟩ := bindS h
  refine sem_loopS (fun (s9633 : Int × Int × (List Point)) => ⟨[(0, (.sl (List.map c_Point l))), (3, (vI x120)), (5, (.row (.top 500000) 36)), (6, (vI s9633.1)), (7, (vI s9633.2.1))], [(500000, .row 36 [] (List.map c_Point s9633.2.2))]⟩) (fun (x14386 : (List Point) ⊕ (List Point)) => match x14386 with | .inl j14387 => (.ret, ⟨[(2, (.row (.top 500000) 36))], [(500000, .row 36 [] (List.map c_Point j14387))]⟩) | .inr j14388 => (.exit 2, ⟨[(5, (.row (.top 500000) 36))], [(500000, .row 36 [] (List.map c_Point j14388))]⟩)) (sheetmetalref01_Wrap_l6 l x120) (x120, 0, [x122]) x14386 (by kernel_rfl) (subR_prep [] [(33, 500000)] (by kernel_rfl) rfl rfl (by kernel_rfl)) hx14386 ?_ ?_ ?_
  ·intro s9633 r h
   refine sem_seq (by kernel_rfl) ?_
   refine z7 (by kernel_rfl) ?_
   refine evs_run 2 (by kernel_rfl) ?_
   refine evs_op (st_len (c := c_Point) (l := l) (x := (.sl (List.map c_Point l))) (by kernel_rfl) (by kernel_rfl)) ?_
   refine z1 1 ⟨[(0, (.sl (List.map c_Point l))), (3, (vI x120)), (5, (.row (.top 500000) 36)), (6, (vI s9633.1)), (7, (vI s9633.2.1)), (38, (vB (decide (s9633.2.1 < (l.length : Int)))))], [(500000, .row 36 [] (List.map c_Point s9633.2.2))]⟩ (by kernel_rfl) ?_
   refine sem_cond (decide (s9633.2.1 < (l.length : Int))) (by kernel_rfl) (by kernel_rfl) (fun hb => ?_) (fun hb => ?_)
   ·replace h := iteT hb h
    refine z4 ⟨[(0, (.sl (List.map c_Point l))), (3, (vI x120)), (5, (.row (.top 500000) 36)), (6, (vI s9633.1)), (7, (vI s9633.2.1))], [(500000, .row 36 [] (List.map c_Point s9633.2.2))]⟩ (by kernel_rfl) ?_
    refine sem_seq (by kernel_rfl) ?_
    refine sem_block (by kernel_rfl) ?_
    refine z3 2 ⟨[(0, (.sl (List.map c_Point l))), (3, (vI x120)), (5, (.row (.top 500000) 36)), (6, (vI s9633.1)), (7, (vI s9633.2.1)), (8, (vI s9633.1))], [(500000, .row 36 [] (List.map c_Point s9633.2.2))]⟩ (by kernel_rfl) ?_
    refine sem_seq (by kernel_rfl) ?_
    refine z3 1 ⟨[(0, (.sl (List.map c_Point l))), (3, (vI x120)), (5, (.row (.top 500000) 36)), (6, (vI s9633.1)), (7, (vI s9633.2.1)), (8, (vI s9633.1)), (9, (vI 0))], [(500000, .row 36 [] (List.map c_Point s9633.2.2))]⟩ (by kernel_rfl) ?_
    refine sem_block (by kernel_rfl) ?_
    obtain ⟨x14361, hx14361, h⟩ := bindS h
    refine sem_loopS (fun (s13974 : Int × Int) => ⟨[(0, (.sl (List.map c_Point l))), (3, (vI x120)), (5, (.row (.top 500000) 36)), (6, (vI s9633.1)), (7, (vI s9633.2.1)), (8, (vI s13974.1)), (9, (vI s13974.2))], [(500000, .row 36 [] (List.map c_Point s9633.2.2))]⟩) (fun (x14361 : Int) => (.exit 4, ⟨[(0, (.sl (List.map c_Point l))), (3, (vI x120)), (5, (.row (.top 500000) 36)), (6, (vI s9633.1)), (7, (vI s9633.2.1)), (8, (vI x14361))], [(500000, .row 36 [] (List.map c_Point s9633.2.2))]⟩)) (sheetmetalref01_Wrap_l5 l s9633) (s9633.1, 0) x14361 (by kernel_rfl) (here (by kernel_rfl)) hx14361 ?_ ?_ ?_
    ·intro s13974 r h
     refine sem_seq (by kernel_rfl) ?_
     refine z7 (by kernel_rfl) ?_
     refine evs_run 2 (by kernel_rfl) ?_
     refine evs_op (st_len (c := c_Point) (l := l) (x := (.sl (List.map c_Point l))) (by kernel_rfl) (by kernel_rfl)) ?_
     refine z1 1 ⟨[(0, (.sl (List.map c_Point l))), (3, (vI x120)), (5, (.row (.top 500000) 36)), (6, (vI s9633.1)), (7, (vI s9633.2.1)), (8, (vI s13974.1)), (9, (vI s13974.2)), (45, (vB (decide (s13974.2 < (l.length : Int)))))], [(500000, .row 36 [] (List.map c_Point s9633.2.2))]⟩ (by kernel_rfl) ?_
     refine sem_cond (decide (s13974.2 < (l.length : Int))) (by kernel_rfl) (by kernel_rfl) (fun hb => ?_) (fun hb => ?_)
     ·replace h := iteT hb h
      refine z4 ⟨[(0, (.sl (List.map c_Point l))), (3, (vI x120)), (5, (.row (.top 500000) 36)), (6, (vI s9633.1)), (7, (vI s9633.2.1)), (8, (vI s13974.1)), (9, (vI s13974.2))], [(500000, .row 36 [] (List.map c_Point s9633.2.2))]⟩ (by kernel_rfl) ?_
      refine sem_seqJ (fun (j14264 : Int) => ⟨[(0, (.sl (List.map c_Point l))), (3, (vI x120)), (5, (.row (.top 500000) 36)), (6, (vI s9633.1)), (7, (vI s9633.2.1)), (8, (vI j14264)), (9, (vI s13974.2))], [(500000, .row 36 [] (List.map c_Point s9633.2.2))]⟩) (sheetmetalref01_Wrap_k3 s13974) r (by kernel_rfl) (fun j14264 h => ?_) ?_
      ·refine sem_region (by kernel_rfl) ?_
       refine z6 3 (by kernel_rfl) (fun τ hτ => ?_)
       obtain rfl := Option.some.inj h
       exact lk_nextS hτ (here (by kernel_rfl))
      refine sem_block (by kernel_rfl) ?_
      refine z3 1 ⟨[(0, (.sl (List.map c_Point l))), (3, (vI x120)), (5, (.row (.top 500000) 36)), (6, (vI s9633.1)), (7, (vI s9633.2.1)), (8, (vI s13974.1)), (9, (vI s13974.2)), (10, (vI 0))], [(500000, .row 36 [] (List.map c_Point s9633.2.2))]⟩ (by kernel_rfl) ?_
      refine sem_seqJ (fun (j14277 : Int) => ⟨[(0, (.sl (List.map c_Point l))), (3, (vI x120)), (5, (.row (.top 500000) 36)), (6, (vI s9633.1)), (7, (vI s9633.2.1)), (8, (vI s13974.1)), (9, (vI s13974.2)), (10, (vI j14277))], [(500000, .row 36 [] (List.map c_Point s9633.2.2))]⟩) (sheetmetalref01_Wrap_k4 l s9633 s13974) r (by kernel_rfl) (fun j14277 h => ?_) ?_
      ·refine sem_seq (by kernel_rfl) ?_
       obtain ⟨j14324, hj14324, h⟩ := bindS h
       refine sem_drawP ⟨[(0, (.sl (List.map c_Point l))), (3, (vI x120)), (5, (.row (.top 500000) 36)), (6, (vI s9633.1)), (7, (vI s9633.2.1)), (8, (vI s13974.1)), (9, (vI s13974.2)), (10, (vI j14277)), (11, (vB j14324))], [(500000, .row 36 [] (List.map c_Point s9633.2.2))]⟩ [] [] [] [] [] 59 (by kernel_rfl) (by kernel_rfl) (by kernel_rfl) ?_ (fun τ hτ => ?_)
       ·replace h := hj14324
        refine evd_run 4 (by kernel_rfl) ?_
        refine evd_split (s13974.1 == s9633.1) (fun b0 => ⟨[(67, (vB b0)), (66, (vB b0)), (65, (vI s9633.1)), (64, (vI s13974.1)), (0, (.sl (List.map c_Point l))), (3, (vI x120)), (5, (.row (.top 500000) 36)), (6, (vI s9633.1)), (7, (vI s9633.2.1)), (8, (vI s13974.1)), (9, (vI s13974.2)), (10, (vI j14277))], [(500000, .row 36 [] (List.map c_Point s9633.2.2))]⟩) (by kernel_rfl) (fun hb => ?_) (fun hb => ?_)
        ·replace h := iteT hb h
         refine evd_run 2 (by kernel_rfl) ?_
         obtain ⟨x14325, hx14325, h⟩ := bindS h
         refine evd_val (by kernel_rfl) (st_idx (c := c_Point) (l := l) (i := s13974.2) (kd := .i64) (sz := 4) (by kernel_rfl) hx14325 rfl) (by kernel_rfl) (by kernel_rfl) ?_
         refine evd_run 3 (by kernel_rfl) ?_
         obtain ⟨x14326, hx14326, h⟩ := bindS h
         refine evd_val (by kernel_rfl) (st_idx (c := c_Point) (l := l) (i := s9633.1) (kd := .i64) (sz := 4) (by kernel_rfl) hx14326 rfl) (by kernel_rfl) (by kernel_rfl) ?_
         refine evd_run 1 (by kernel_rfl) ?_
         obtain ⟨r14327, hr14327, h⟩ := bindS h
         refine evd_callS [] [] (by kernel_rfl) (by kernel_rfl) (W.sheetmetalref01_ComparePoint_ok hr14327) (by kernel_rfl) (.inl rfl) (by kernel_rfl) (by kernel_rfl) ?_
         refine evd_run 3 (by kernel_rfl) ?_
         refine evd_split (r14327 != 0) (fun b0 => ⟨[(79, (vB b0)), (78, (vB b0)), (77, (vB b0)), (76, (vI r14327)), (75, (.agg [(vI x14326.X.A), (vI x14326.X.B), (vI x14326.Y.A), (vI x14326.Y.B)])), (74, (.vptr [(vI x14326.X.A), (vI x14326.X.B), (vI x14326.Y.A), (vI x14326.Y.B)] 0)), (73, (vI s9633.1)), (72, (.sl (List.map c_Point l))), (71, (.agg [(vI x14325.X.A), (vI x14325.X.B), (vI x14325.Y.A), (vI x14325.Y.B)])), (70, (.vptr [(vI x14325.X.A), (vI x14325.X.B), (vI x14325.Y.A), (vI x14325.Y.B)] 0)), (69, (vI s13974.2)), (68, (.sl (List.map c_Point l))), (67, (vB true)), (66, (vB true)), (65, (vI s9633.1)), (64, (vI s13974.1)), (0, (.sl (List.map c_Point l))), (3, (vI x120)), (5, (.row (.top 500000) 36)), (6, (vI s9633.1)), (7, (vI s9633.2.1)), (8, (vI s13974.1)), (9, (vI s13974.2)), (10, (vI j14277))], [(500000, .row 36 [] (List.map c_Point s9633.2.2))]⟩) (by kernel_rfl) (fun hb => ?_) (fun hb => ?_)
         ·replace h := iteT hb h
          refine evd_run 43 (by kernel_rfl) ?_
          refine evd_end (by kernel_rfl) ?_
          refine evo_run 5 (by kernel_rfl) ?_
          refine evo_endS (by kernel_rfl) (fun τ hτ => ?_)
          obtain rfl := Option.some.inj h
          exact leafC hτ (here (by kernel_rfl))
         ·replace h := iteF hb h
          refine evd_run 3 (by kernel_rfl) ?_
          refine evd_split (j14277 == 0) (fun b0 => ⟨[(82, (vB b0)), (81, (vB b0)), (80, (vI j14277)), (79, (vB false)), (78, (vB false)), (77, (vB false)), (76, (vI r14327)), (75, (.agg [(vI x14326.X.A), (vI x14326.X.B), (vI x14326.Y.A), (vI x14326.Y.B)])), (74, (.vptr [(vI x14326.X.A), (vI x14326.X.B), (vI x14326.Y.A), (vI x14326.Y.B)] 0)), (73, (vI s9633.1)), (72, (.sl (List.map c_Point l))), (71, (.agg [(vI x14325.X.A), (vI x14325.X.B), (vI x14325.Y.A), (vI x14325.Y.B)])), (70, (.vptr [(vI x14325.X.A), (vI x14325.X.B), (vI x14325.Y.A), (vI x14325.Y.B)] 0)), (69, (vI s13974.2)), (68, (.sl (List.map c_Point l))), (67, (vB true)), (66, (vB true)), (65, (vI s9633.1)), (64, (vI s13974.1)), (0, (.sl (List.map c_Point l))), (3, (vI x120)), (5, (.row (.top 500000) 36)), (6, (vI s9633.1)), (7, (vI s9633.2.1)), (8, (vI s13974.1)), (9, (vI s13974.2)), (10, (vI j14277))], [(500000, .row 36 [] (List.map c_Point s9633.2.2))]⟩) (by kernel_rfl) (fun hb => ?_) (fun hb => ?_)
          ·replace h := iteT hb h
           refine evd_run 5 (by kernel_rfl) ?_
           refine evd_split (s13974.1 != s9633.1) (fun b0 => ⟨[(87, (vB b0)), (86, (vB b0)), (85, (vB b0)), (84, (vI s9633.1)), (83, (vI s13974.1)), (82, (vB true)), (81, (vB true)), (80, (vI j14277)), (79, (vB false)), (78, (vB false)), (77, (vB false)), (76, (vI r14327)), (75, (.agg [(vI x14326.X.A), (vI x14326.X.B), (vI x14326.Y.A), (vI x14326.Y.B)])), (74, (.vptr [(vI x14326.X.A), (vI x14326.X.B), (vI x14326.Y.A), (vI x14326.Y.B)] 0)), (73, (vI s9633.1)), (72, (.sl (List.map c_Point l))), (71, (.agg [(vI x14325.X.A), (vI x14325.X.B), (vI x14325.Y.A), (vI x14325.Y.B)])), (70, (.vptr [(vI x14325.X.A), (vI x14325.X.B), (vI x14325.Y.A), (vI x14325.Y.B)] 0)), (69, (vI s13974.2)), (68, (.sl (List.map c_Point l))), (67, (vB true)), (66, (vB true)), (65, (vI s9633.1)), (64, (vI s13974.1)), (0, (.sl (List.map c_Point l))), (3, (vI x120)), (5, (.row (.top 500000) 36)), (6, (vI s9633.1)), (7, (vI s9633.2.1)), (8, (vI s13974.1)), (9, (vI s13974.2)), (10, (vI j14277))], [(500000, .row 36 [] (List.map c_Point s9633.2.2))]⟩) (by kernel_rfl) (fun hb => ?_) (fun hb => ?_)
           ·replace h := iteT hb h
            refine evd_run 2 (by kernel_rfl) ?_
            obtain ⟨x14328, hx14328, h⟩ := bindS h
            refine evd_val (by kernel_rfl) (st_idx (c := c_Point) (l := l) (i := s9633.1) (kd := .i64) (sz := 4) (by kernel_rfl) hx14328 rfl) (by kernel_rfl) (by kernel_rfl) ?_
            refine evd_run 3 (by kernel_rfl) ?_
            obtain ⟨x14329, hx14329, h⟩ := bindS h
            refine evd_val (by kernel_rfl) (st_idx (c := c_Point) (l := l) (i := s13974.1) (kd := .i64) (sz := 4) (by kernel_rfl) hx14329 rfl) (by kernel_rfl) (by kernel_rfl) ?_
            refine evd_run 3 (by kernel_rfl) ?_
            obtain ⟨x14330, hx14330, h⟩ := bindS h
            refine evd_val (by kernel_rfl) (st_idx (c := c_Point) (l := l) (i := s13974.2) (kd := .i64) (sz := 4) (by kernel_rfl) hx14330 rfl) (by kernel_rfl) (by kernel_rfl) ?_
            refine evd_run 1 (by kernel_rfl) ?_
            obtain ⟨r14331, hr14331, h⟩ := bindS h
            refine evd_callS [] [] (by kernel_rfl) (by kernel_rfl) (W.sheetmetalref01_between_ok hr14331) (by kernel_rfl) (.inl rfl) (by kernel_rfl) (by kernel_rfl) ?_
            refine evd_run 2 (by kernel_rfl) ?_
            refine evd_split r14331 (fun b0 => ⟨[(102, (vB b0)), (101, (vB b0)), (100, (vB b0)), (99, (.agg [(vI x14330.X.A), (vI x14330.X.B), (vI x14330.Y.A), (vI x14330.Y.B)])), (98, (.vptr [(vI x14330.X.A), (vI x14330.X.B), (vI x14330.Y.A), (vI x14330.Y.B)] 0)), (97, (vI s13974.2)), (96, (.sl (List.map c_Point l))), (95, (.agg [(vI x14329.X.A), (vI x14329.X.B), (vI x14329.Y.A), (vI x14329.Y.B)])), (94, (.vptr [(vI x14329.X.A), (vI x14329.X.B), (vI x14329.Y.A), (vI x14329.Y.B)] 0)), (93, (vI s13974.1)), (92, (.sl (List.map c_Point l))), (91, (.agg [(vI x14328.X.A), (vI x14328.X.B), (vI x14328.Y.A), (vI x14328.Y.B)])), (90, (.vptr [(vI x14328.X.A), (vI x14328.X.B), (vI x14328.Y.A), (vI x14328.Y.B)] 0)), (89, (vI s9633.1)), (88, (.sl (List.map c_Point l))), (87, (vB true)), (86, (vB true)), (85, (vB true)), (84, (vI s9633.1)), (83, (vI s13974.1)), (82, (vB true)), (81, (vB true)), (80, (vI j14277)), (79, (vB false)), (78, (vB false)), (77, (vB false)), (76, (vI r14327)), (75, (.agg [(vI x14326.X.A), (vI x14326.X.B), (vI x14326.Y.A), (vI x14326.Y.B)])), (74, (.vptr [(vI x14326.X.A), (vI x14326.X.B), (vI x14326.Y.A), (vI x14326.Y.B)] 0)), (73, (vI s9633.1)), (72, (.sl (List.map c_Point l))), (71, (.agg [(vI x14325.X.A), (vI x14325.X.B), (vI x14325.Y.A), (vI x14325.Y.B)])), (70, (.vptr [(vI x14325.X.A), (vI x14325.X.B), (vI x14325.Y.A), (vI x14325.Y.B)] 0)), (69, (vI s13974.2)), (68, (.sl (List.map c_Point l))), (67, (vB true)), (66, (vB true)), (65, (vI s9633.1)), (64, (vI s13974.1)), (0, (.sl (List.map c_Point l))), (3, (vI x120)), (5, (.row (.top 500000) 36)), (6, (vI s9633.1)), (7, (vI s9633.2.1)), (8, (vI s13974.1)), (9, (vI s13974.2)), (10, (vI j14277))], [(500000, .row 36 [] (List.map c_Point s9633.2.2))]⟩) (by kernel_rfl) (fun hb => ?_) (fun hb => ?_)
            ·replace h := iteT hb h
             refine evd_run 2 (by kernel_rfl) ?_
             obtain ⟨x14332, hx14332, h⟩ := bindS h
             refine evd_val (by kernel_rfl) (st_idx (c := c_Point) (l := l) (i := s13974.2) (kd := .i64) (sz := 4) (by kernel_rfl) hx14332 rfl) (by kernel_rfl) (by kernel_rfl) ?_
             refine evd_run 3 (by kernel_rfl) ?_
             obtain ⟨x14333, hx14333, h⟩ := bindS h
             refine evd_val (by kernel_rfl) (st_idx (c := c_Point) (l := l) (i := s13974.1) (kd := .i64) (sz := 4) (by kernel_rfl) hx14333 rfl) (by kernel_rfl) (by kernel_rfl) ?_
             refine evd_run 1 (by kernel_rfl) ?_
             obtain ⟨r14334, hr14334, h⟩ := bindS h
             refine evd_callS [] [] (by kernel_rfl) (by kernel_rfl) (W.sheetmetalref01_ComparePoint_ok hr14334) (by kernel_rfl) (.inl rfl) (by kernel_rfl) (by kernel_rfl) ?_
             refine evd_run 3 (by kernel_rfl) ?_
             refine evd_split (r14334 != 0) (fun b0 => ⟨[(114, (vB b0)), (113, (vB b0)), (112, (vB b0)), (111, (vI r14334)), (110, (.agg [(vI x14333.X.A), (vI x14333.X.B), (vI x14333.Y.A), (vI x14333.Y.B)])), (109, (.vptr [(vI x14333.X.A), (vI x14333.X.B), (vI x14333.Y.A), (vI x14333.Y.B)] 0)), (108, (vI s13974.1)), (107, (.sl (List.map c_Point l))), (106, (.agg [(vI x14332.X.A), (vI x14332.X.B), (vI x14332.Y.A), (vI x14332.Y.B)])), (105, (.vptr [(vI x14332.X.A), (vI x14332.X.B), (vI x14332.Y.A), (vI x14332.Y.B)] 0)), (104, (vI s13974.2)), (103, (.sl (List.map c_Point l))), (102, (vB true)), (101, (vB true)), (100, (vB true)), (99, (.agg [(vI x14330.X.A), (vI x14330.X.B), (vI x14330.Y.A), (vI x14330.Y.B)])), (98, (.vptr [(vI x14330.X.A), (vI x14330.X.B), (vI x14330.Y.A), (vI x14330.Y.B)] 0)), (97, (vI s13974.2)), (96, (.sl (List.map c_Point l))), (95, (.agg [(vI x14329.X.A), (vI x14329.X.B), (vI x14329.Y.A), (vI x14329.Y.B)])), (94, (.vptr [(vI x14329.X.A), (vI x14329.X.B), (vI x14329.Y.A), (vI x14329.Y.B)] 0)), (93, (vI s13974.1)), (92, (.sl (List.map c_Point l))), (91, (.agg [(vI x14328.X.A), (vI x14328.X.B), (vI x14328.Y.A), (vI x14328.Y.B)])), (90, (.vptr [(vI x14328.X.A), (vI x14328.X.B), (vI x14328.Y.A), (vI x14328.Y.B)] 0)), (89, (vI s9633.1)), (88, (.sl (List.map c_Point l))), (87, (vB true)), (86, (vB true)), (85, (vB true)), (84, (vI s9633.1)), (83, (vI s13974.1)), (82, (vB true)), (81, (vB true)), (80, (vI j14277)), (79, (vB false)), (78, (vB false)), (77, (vB false)), (76, (vI r14327)), (75, (.agg [(vI x14326.X.A), (vI x14326.X.B), (vI x14326.Y.A), (vI x14326.Y.B)])), (74, (.vptr [(vI x14326.X.A), (vI x14326.X.B), (vI x14326.Y.A), (vI x14326.Y.B)] 0)), (73, (vI s9633.1)), (72, (.sl (List.map c_Point l))), (71, (.agg [(vI x14325.X.A), (vI x14325.X.B), (vI x14325.Y.A), (vI x14325.Y.B)])), (70, (.vptr [(vI x14325.X.A), (vI x14325.X.B), (vI x14325.Y.A), (vI x14325.Y.B)] 0)), (69, (vI s13974.2)), (68, (.sl (List.map c_Point l))), (67, (vB true)), (66, (vB true)), (65, (vI s9633.1)), (64, (vI s13974.1)), (0, (.sl (List.map c_Point l))), (3, (vI x120)), (5, (.row (.top 500000) 36)), (6, (vI s9633.1)), (7, (vI s9633.2.1)), (8, (vI s13974.1)), (9, (vI s13974.2)), (10, (vI j14277))], [(500000, .row 36 [] (List.map c_Point s9633.2.2))]⟩) (by kernel_rfl) (fun hb => ?_) (fun hb => ?_)
             ·replace h := iteT hb h
              refine evd_run 2 (by kernel_rfl) ?_
              obtain ⟨x14335, hx14335, h⟩ := bindS h
              refine evd_val (by kernel_rfl) (st_idx (c := c_Point) (l := l) (i := s13974.2) (kd := .i64) (sz := 4) (by kernel_rfl) hx14335 rfl) (by kernel_rfl) (by kernel_rfl) ?_
              refine evd_run 3 (by kernel_rfl) ?_
              obtain ⟨x14336, hx14336, h⟩ := bindS h
              refine evd_val (by kernel_rfl) (st_idx (c := c_Point) (l := l) (i := s9633.1) (kd := .i64) (sz := 4) (by kernel_rfl) hx14336 rfl) (by kernel_rfl) (by kernel_rfl) ?_
              refine evd_run 1 (by kernel_rfl) ?_
              refine evd_end (by kernel_rfl) ?_
              obtain ⟨r14337, hr14337, h⟩ := bindS h
              refine evo_callP [] (by kernel_rfl) (W.sheetmetalref01_ComparePoint_ok hr14337) (by kernel_rfl) (.inl rfl) (by kernel_rfl) ?_
              refine evo_run 4 (by kernel_rfl) ?_
              refine evo_endS (by kernel_rfl) (fun τ hτ => ?_)
              obtain rfl := Option.some.inj h
              exact leafC hτ (here (by kernel_rfl))
             ·replace h := iteF hb h
              refine evd_run 8 (by kernel_rfl) ?_
              refine evd_end (by kernel_rfl) ?_
              refine evo_run 5 (by kernel_rfl) ?_
              refine evo_endS (by kernel_rfl) (fun τ hτ => ?_)
              obtain rfl := Option.some.inj h
              exact leafC hτ (here (by kernel_rfl))
            ·replace h := iteF hb h
             refine evd_run 20 (by kernel_rfl) ?_
             refine evd_end (by kernel_rfl) ?_
             refine evo_run 5 (by kernel_rfl) ?_
             refine evo_endS (by kernel_rfl) (fun τ hτ => ?_)
             obtain rfl := Option.some.inj h
             exact leafC hτ (here (by kernel_rfl))
           ·replace h := iteF hb h
            refine evd_run 35 (by kernel_rfl) ?_
            refine evd_end (by kernel_rfl) ?_
            refine evo_run 5 (by kernel_rfl) ?_
            refine evo_endS (by kernel_rfl) (fun τ hτ => ?_)
            obtain rfl := Option.some.inj h
            exact leafC hτ (here (by kernel_rfl))
          ·replace h := iteF hb h
           refine evd_run 40 (by kernel_rfl) ?_
           refine evd_end (by kernel_rfl) ?_
           refine evo_run 5 (by kernel_rfl) ?_
           refine evo_endS (by kernel_rfl) (fun τ hτ => ?_)
           obtain rfl := Option.some.inj h
           exact leafC hτ (here (by kernel_rfl))
        ·replace h := iteF hb h
         refine evd_run 15 (by kernel_rfl) ?_
         refine evd_split (j14277 == 0) (fun b0 => ⟨[(82, (vB b0)), (81, (vB b0)), (80, (vI j14277)), (79, (vB false)), (78, (vB false)), (77, vU), (76, vU), (75, vU), (74, vU), (73, vU), (72, vU), (71, vU), (70, vU), (69, vU), (68, vU), (67, (vB false)), (66, (vB false)), (65, (vI s9633.1)), (64, (vI s13974.1)), (0, (.sl (List.map c_Point l))), (3, (vI x120)), (5, (.row (.top 500000) 36)), (6, (vI s9633.1)), (7, (vI s9633.2.1)), (8, (vI s13974.1)), (9, (vI s13974.2)), (10, (vI j14277))], [(500000, .row 36 [] (List.map c_Point s9633.2.2))]⟩) (by kernel_rfl) (fun hb => ?_) (fun hb => ?_)
         ·replace h := iteT hb h
          refine evd_run 5 (by kernel_rfl) ?_
          refine evd_split (s13974.1 != s9633.1) (fun b0 => ⟨[(87, (vB b0)), (86, (vB b0)), (85, (vB b0)), (84, (vI s9633.1)), (83, (vI s13974.1)), (82, (vB true)), (81, (vB true)), (80, (vI j14277)), (79, (vB false)), (78, (vB false)), (77, vU), (76, vU), (75, vU), (74, vU), (73, vU), (72, vU), (71, vU), (70, vU), (69, vU), (68, vU), (67, (vB false)), (66, (vB false)), (65, (vI s9633.1)), (64, (vI s13974.1)), (0, (.sl (List.map c_Point l))), (3, (vI x120)), (5, (.row (.top 500000) 36)), (6, (vI s9633.1)), (7, (vI s9633.2.1)), (8, (vI s13974.1)), (9, (vI s13974.2)), (10, (vI j14277))], [(500000, .row 36 [] (List.map c_Point s9633.2.2))]⟩) (by kernel_rfl) (fun hb => ?_) (fun hb => ?_)
          ·replace h := iteT hb h
           refine evd_run 2 (by kernel_rfl) ?_
           obtain ⟨x14338, hx14338, h⟩ := bindS h
           refine evd_val (by kernel_rfl) (st_idx (c := c_Point) (l := l) (i := s9633.1) (kd := .i64) (sz := 4) (by kernel_rfl) hx14338 rfl) (by kernel_rfl) (by kernel_rfl) ?_
           refine evd_run 3 (by kernel_rfl) ?_
           obtain ⟨x14339, hx14339, h⟩ := bindS h
           refine evd_val (by kernel_rfl) (st_idx (c := c_Point) (l := l) (i := s13974.1) (kd := .i64) (sz := 4) (by kernel_rfl) hx14339 rfl) (by kernel_rfl) (by kernel_rfl) ?_
           refine evd_run 3 (by kernel_rfl) ?_
           obtain ⟨x14340, hx14340, h⟩ := bindS h
           refine evd_val (by kernel_rfl) (st_idx (c := c_Point) (l := l) (i := s13974.2) (kd := .i64) (sz := 4) (by kernel_rfl) hx14340 rfl) (by kernel_rfl) (by kernel_rfl) ?_
           refine evd_run 1 (by kernel_rfl) ?_
           obtain ⟨r14341, hr14341, h⟩ := bindS h
           refine evd_callS [] [] (by kernel_rfl) (by kernel_rfl) (W.sheetmetalref01_between_ok hr14341) (by kernel_rfl) (.inl rfl) (by kernel_rfl) (by kernel_rfl) ?_
           refine evd_run 2 (by kernel_rfl) ?_
           refine evd_split r14341 (fun b0 => ⟨[(102, (vB b0)), (101, (vB b0)), (100, (vB b0)), (99, (.agg [(vI x14340.X.A), (vI x14340.X.B), (vI x14340.Y.A), (vI x14340.Y.B)])), (98, (.vptr [(vI x14340.X.A), (vI x14340.X.B), (vI x14340.Y.A), (vI x14340.Y.B)] 0)), (97, (vI s13974.2)), (96, (.sl (List.map c_Point l))), (95, (.agg [(vI x14339.X.A), (vI x14339.X.B), (vI x14339.Y.A), (vI x14339.Y.B)])), (94, (.vptr [(vI x14339.X.A), (vI x14339.X.B), (vI x14339.Y.A), (vI x14339.Y.B)] 0)), (93, (vI s13974.1)), (92, (.sl (List.map c_Point l))), (91, (.agg [(vI x14338.X.A), (vI x14338.X.B), (vI x14338.Y.A), (vI x14338.Y.B)])), (90, (.vptr [(vI x14338.X.A), (vI x14338.X.B), (vI x14338.Y.A), (vI x14338.Y.B)] 0)), (89, (vI s9633.1)), (88, (.sl (List.map c_Point l))), (87, (vB true)), (86, (vB true)), (85, (vB true)), (84, (vI s9633.1)), (83, (vI s13974.1)), (82, (vB true)), (81, (vB true)), (80, (vI j14277)), (79, (vB false)), (78, (vB false)), (77, vU), (76, vU), (75, vU), (74, vU), (73, vU), (72, vU), (71, vU), (70, vU), (69, vU), (68, vU), (67, (vB false)), (66, (vB false)), (65, (vI s9633.1)), (64, (vI s13974.1)), (0, (.sl (List.map c_Point l))), (3, (vI x120)), (5, (.row (.top 500000) 36)), (6, (vI s9633.1)), (7, (vI s9633.2.1)), (8, (vI s13974.1)), (9, (vI s13974.2)), (10, (vI j14277))], [(500000, .row 36 [] (List.map c_Point s9633.2.2))]⟩) (by kernel_rfl) (fun hb => ?_) (fun hb => ?_)
           ·replace h := iteT hb h
            refine evd_run 2 (by kernel_rfl) ?_
            obtain ⟨x14342, hx14342, h⟩ := bindS h
            refine evd_val (by kernel_rfl) (st_idx (c := c_Point) (l := l) (i := s13974.2) (kd := .i64) (sz := 4) (by kernel_rfl) hx14342 rfl) (by kernel_rfl) (by kernel_rfl) ?_
            refine evd_run 3 (by kernel_rfl) ?_
            obtain ⟨x14343, hx14343, h⟩ := bindS h
            refine evd_val (by kernel_rfl) (st_idx (c := c_Point) (l := l) (i := s13974.1) (kd := .i64) (sz := 4) (by kernel_rfl) hx14343 rfl) (by kernel_rfl) (by kernel_rfl) ?_
            refine evd_run 1 (by kernel_rfl) ?_
            obtain ⟨r14344, hr14344, h⟩ := bindS h
            refine evd_callS [] [] (by kernel_rfl) (by kernel_rfl) (W.sheetmetalref01_ComparePoint_ok hr14344) (by kernel_rfl) (.inl rfl) (by kernel_rfl) (by kernel_rfl) ?_
            refine evd_run 3 (by kernel_rfl) ?_
            refine evd_split (r14344 != 0) (fun b0 => ⟨[(114, (vB b0)), (113, (vB b0)), (112, (vB b0)), (111, (vI r14344)), (110, (.agg [(vI x14343.X.A), (vI x14343.X.B), (vI x14343.Y.A), (vI x14343.Y.B)])), (109, (.vptr [(vI x14343.X.A), (vI x14343.X.B), (vI x14343.Y.A), (vI x14343.Y.B)] 0)), (108, (vI s13974.1)), (107, (.sl (List.map c_Point l))), (106, (.agg [(vI x14342.X.A), (vI x14342.X.B), (vI x14342.Y.A), (vI x14342.Y.B)])), (105, (.vptr [(vI x14342.X.A), (vI x14342.X.B), (vI x14342.Y.A), (vI x14342.Y.B)] 0)), (104, (vI s13974.2)), (103, (.sl (List.map c_Point l))), (102, (vB true)), (101, (vB true)), (100, (vB true)), (99, (.agg [(vI x14340.X.A), (vI x14340.X.B), (vI x14340.Y.A), (vI x14340.Y.B)])), (98, (.vptr [(vI x14340.X.A), (vI x14340.X.B), (vI x14340.Y.A), (vI x14340.Y.B)] 0)), (97, (vI s13974.2)), (96, (.sl (List.map c_Point l))), (95, (.agg [(vI x14339.X.A), (vI x14339.X.B), (vI x14339.Y.A), (vI x14339.Y.B)])), (94, (.vptr [(vI x14339.X.A), (vI x14339.X.B), (vI x14339.Y.A), (vI x14339.Y.B)] 0)), (93, (vI s13974.1)), (92, (.sl (List.map c_Point l))), (91, (.agg [(vI x14338.X.A), (vI x14338.X.B), (vI x14338.Y.A), (vI x14338.Y.B)])), (90, (.vptr [(vI x14338.X.A), (vI x14338.X.B), (vI x14338.Y.A), (vI x14338.Y.B)] 0)), (89, (vI s9633.1)), (88, (.sl (List.map c_Point l))), (87, (vB true)), (86, (vB true)), (85, (vB true)), (84, (vI s9633.1)), (83, (vI s13974.1)), (82, (vB true)), (81, (vB true)), (80, (vI j14277)), (79, (vB false)), (78, (vB false)), (77, vU), (76, vU), (75, vU), (74, vU), (73, vU), (72, vU), (71, vU), (70, vU), (69, vU), (68, vU), (67, (vB false)), (66, (vB false)), (65, (vI s9633.1)), (64, (vI s13974.1)), (0, (.sl (List.map c_Point l))), (3, (vI x120)), (5, (.row (.top 500000) 36)), (6, (vI s9633.1)), (7, (vI s9633.2.1)), (8, (vI s13974.1)), (9, (vI s13974.2)), (10, (vI j14277))], [(500000, .row 36 [] (List.map c_Point s9633.2.2))]⟩) (by kernel_rfl) (fun hb => ?_) (fun hb => ?_)
            ·replace h := iteT hb h
             refine evd_run 2 (by kernel_rfl) ?_
             obtain ⟨x14345, hx14345, h⟩ := bindS h
             refine evd_val (by kernel_rfl) (st_idx (c := c_Point) (l := l) (i := s13974.2) (kd := .i64) (sz := 4) (by kernel_rfl) hx14345 rfl) (by kernel_rfl) (by kernel_rfl) ?_
             refine evd_run 3 (by kernel_rfl) ?_
             obtain ⟨x14346, hx14346, h⟩ := bindS h
             refine evd_val (by kernel_rfl) (st_idx (c := c_Point) (l := l) (i := s9633.1) (kd := .i64) (sz := 4) (by kernel_rfl) hx14346 rfl) (by kernel_rfl) (by kernel_rfl) ?_
             refine evd_run 1 (by kernel_rfl) ?_
             refine evd_end (by kernel_rfl) ?_
             obtain ⟨r14347, hr14347, h⟩ := bindS h
             refine evo_callP [] (by kernel_rfl) (W.sheetmetalref01_ComparePoint_ok hr14347) (by kernel_rfl) (.inl rfl) (by kernel_rfl) ?_
             refine evo_run 4 (by kernel_rfl) ?_
             refine evo_endS (by kernel_rfl) (fun τ hτ => ?_)
             obtain rfl := Option.some.inj h
             exact leafC hτ (here (by kernel_rfl))
            ·replace h := iteF hb h
             refine evd_run 8 (by kernel_rfl) ?_
             refine evd_end (by kernel_rfl) ?_
             refine evo_run 5 (by kernel_rfl) ?_
             refine evo_endS (by kernel_rfl) (fun τ hτ => ?_)
             obtain rfl := Option.some.inj h
             exact leafC hτ (here (by kernel_rfl))
           ·replace h := iteF hb h
            refine evd_run 20 (by kernel_rfl) ?_
            refine evd_end (by kernel_rfl) ?_
            refine evo_run 5 (by kernel_rfl) ?_
            refine evo_endS (by kernel_rfl) (fun τ hτ => ?_)
            obtain rfl := Option.some.inj h
            exact leafC hτ (here (by kernel_rfl))
          ·replace h := iteF hb h
           refine evd_run 35 (by kernel_rfl) ?_
           refine evd_end (by kernel_rfl) ?_
           refine evo_run 5 (by kernel_rfl) ?_
           refine evo_endS (by kernel_rfl) (fun τ hτ => ?_)
           obtain rfl := Option.some.inj h
           exact leafC hτ (here (by kernel_rfl))
         ·replace h := iteF hb h
          refine evd_run 40 (by kernel_rfl) ?_
          refine evd_end (by kernel_rfl) ?_
          refine evo_run 5 (by kernel_rfl) ?_
          refine evo_endS (by kernel_rfl) (fun τ hτ => ?_)
          obtain rfl := Option.some.inj h
          exact leafC hτ (here (by kernel_rfl))
       refine th_normalS hτ ⟨[(0, (.sl (List.map c_Point l))), (3, (vI x120)), (5, (.row (.top 500000) 36)), (6, (vI s9633.1)), (7, (vI s9633.2.1)), (8, (vI s13974.1)), (9, (vI s13974.2)), (10, (vI j14277)), (11, (vB j14324))], [(500000, .row 36 [] (List.map c_Point s9633.2.2))]⟩ (here (by kernel_rfl)) ?_
       refine sem_seq (by kernel_rfl) ?_
       obtain ⟨j14348, hj14348, h⟩ := bindS h
       refine sem_regionC ⟨[(0, (.sl (List.map c_Point l))), (3, (vI x120)), (5, (.row (.top 500000) 36)), (6, (vI s9633.1)), (7, (vI s9633.2.1)), (8, (vI s13974.1)), (9, (vI s13974.2)), (131, (vB j14348))], [(500000, .row 36 [] (List.map c_Point s9633.2.2))]⟩ (by kernel_rfl) ?_ (fun τ hτ => ?_)
       ·replace h := hj14348
        refine evs_run 3 (by kernel_rfl) ?_
        refine evs_split (decide (j14277 < 0)) (fun b0 => ⟨[(0, (.sl (List.map c_Point l))), (3, (vI x120)), (5, (.row (.top 500000) 36)), (6, (vI s9633.1)), (7, (vI s9633.2.1)), (8, (vI s13974.1)), (9, (vI s13974.2)), (11, (vB j14324)), (129, (vB b0))], [(500000, .row 36 [] (List.map c_Point s9633.2.2))]⟩) (by kernel_rfl) (fun hb => ?_) (fun hb => ?_)
        ·replace h := iteT hb h
         refine z6 2 (by kernel_rfl) (fun τ hτ => ?_)
         obtain rfl := Option.some.inj h
         exact leafC hτ (here (by kernel_rfl))
        ·replace h := iteF hb h
         refine z6 2 (by kernel_rfl) (fun τ hτ => ?_)
         obtain rfl := Option.some.inj h
         exact leafC hτ (here (by kernel_rfl))
       refine th_normalS hτ ⟨[(0, (.sl (List.map c_Point l))), (3, (vI x120)), (5, (.row (.top 500000) 36)), (6, (vI s9633.1)), (7, (vI s9633.2.1)), (8, (vI s13974.1)), (9, (vI s13974.2)), (131, (vB j14348))], [(500000, .row 36 [] (List.map c_Point s9633.2.2))]⟩ (here (by kernel_rfl)) ?_
       refine sem_cond j14348 (by kernel_rfl) (by kernel_rfl) (fun hb => ?_) (fun hb => ?_)
       ·replace h := iteT hb h
        refine sem_region (by kernel_rfl) ?_
        refine z6 2 (by kernel_rfl) (fun τ hτ => ?_)
        refine bl_normal ?_
        exact jk_normal s13974.2 h hτ (here (by kernel_rfl))
       ·replace h := iteF hb h
        refine sem_skipS (by kernel_rfl) (fun τ hτ => ?_)
        refine bl_normal ?_
        exact jk_normal s13974.1 h hτ (here (by kernel_rfl))
      refine z3 3 ⟨[(0, (.sl (List.map c_Point l))), (3, (vI x120)), (5, (.row (.top 500000) 36)), (6, (vI s9633.1)), (7, (vI s9633.2.1)), (8, (vI s13974.1)), (9, (vI s13974.2)), (10, (vI 0)), (50, (vB (s13974.1 != s9633.1)))], [(500000, .row 36 [] (List.map c_Point s9633.2.2))]⟩ (by kernel_rfl) ?_
      refine sem_cond (s13974.1 != s9633.1) (by kernel_rfl) (by kernel_rfl) (fun hb => ?_) (fun hb => ?_)
      ·replace h := iteT hb h
       refine sem_drawN [] [] [] [] [] 12 (by kernel_rfl) (by kernel_rfl) (by kernel_rfl) ?_
       refine evd_run 2 (by kernel_rfl) ?_
       obtain ⟨x14357, hx14357, h⟩ := bindS h
       refine evd_val (by kernel_rfl) (st_idx (c := c_Point) (l := l) (i := s9633.1) (kd := .i64) (sz := 4) (by kernel_rfl) hx14357 rfl) (by kernel_rfl) (by kernel_rfl) ?_
       refine evd_run 3 (by kernel_rfl) ?_
       obtain ⟨x14358, hx14358, h⟩ := bindS h
       refine evd_val (by kernel_rfl) (st_idx (c := c_Point) (l := l) (i := s13974.1) (kd := .i64) (sz := 4) (by kernel_rfl) hx14358 rfl) (by kernel_rfl) (by kernel_rfl) ?_
       refine evd_run 3 (by kernel_rfl) ?_
       obtain ⟨x14359, hx14359, h⟩ := bindS h
       refine evd_val (by kernel_rfl) (st_idx (c := c_Point) (l := l) (i := s13974.2) (kd := .i64) (sz := 4) (by kernel_rfl) hx14359 rfl) (by kernel_rfl) (by kernel_rfl) ?_
       refine evd_run 1 (by kernel_rfl) ?_
       refine evd_end (by kernel_rfl) ?_
       obtain ⟨r14360, hr14360, h⟩ := bindS h
       refine evo_callP [] (by kernel_rfl) (W.sheetmetalref01_orient_ok hr14360) (by kernel_rfl) (.inl rfl) (by kernel_rfl) ?_
       refine evo_run 1 (by kernel_rfl) ?_
       refine evo_endS (by kernel_rfl) (fun τ hτ => ?_)
       exact jk_normal r14360 h hτ (here (by kernel_rfl))
      ·replace h := iteF hb h
       refine sem_skipS (by kernel_rfl) (fun τ hτ => ?_)
       exact jk_normal 0 h hτ (here (by kernel_rfl))
     ·replace h := iteF hb h
      refine sem_exitS 4 (by kernel_rfl) rfl (fun τ hτ => ?_)
      refine th_exit ?_
      obtain rfl := Option.some.inj h
      exact lk_outS hτ rfl (here (by kernel_rfl))
    ·intro x
     rfl
    ·intro τ hτ
     refine bl_hit (by kernel_rfl) ?_
     refine th_normalS hτ ⟨[(0, (.sl (List.map c_Point l))), (3, (vI x120)), (5, (.row (.top 500000) 36)), (6, (vI s9633.1)), (7, (vI s9633.2.1)), (8, (vI x14361))], [(500000, .row 36 [] (List.map c_Point s9633.2.2))]⟩ (here (by kernel_rfl)) ?_
     refine sem_seq (by kernel_rfl) ?_
     refine sem_seq (by kernel_rfl) ?_
     obtain ⟨j14378, hj14378, h⟩ := bindS h
     refine sem_drawP ⟨[(0, (.sl (List.map c_Point l))), (3, (vI x120)), (5, (.row (.top 500000) 36)), (7, (vI s9633.2.1)), (8, (vI x14361)), (147, (vB j14378))], [(500000, .row 36 [] (List.map c_Point s9633.2.2))]⟩ [] [] [] [] [] 12 (by kernel_rfl) (by kernel_rfl) (by kernel_rfl) ?_ (fun τ hτ => ?_)
     ·replace h := hj14378
      refine evd_run 4 (by kernel_rfl) ?_
      refine evd_split (x14361 == s9633.1) (fun b0 => ⟨[(136, (vB b0)), (135, (vB b0)), (134, (vI s9633.1)), (133, (vI x14361)), (0, (.sl (List.map c_Point l))), (3, (vI x120)), (5, (.row (.top 500000) 36)), (6, (vI s9633.1)), (7, (vI s9633.2.1)), (8, (vI x14361))], [(500000, .row 36 [] (List.map c_Point s9633.2.2))]⟩) (by kernel_rfl) (fun hb => ?_) (fun hb => ?_)
      ·replace h := iteT hb h
       refine evd_run 8 (by kernel_rfl) ?_
       refine evd_end (by kernel_rfl) ?_
       refine evo_run 3 (by kernel_rfl) ?_
       refine evo_endS (by kernel_rfl) (fun τ hτ => ?_)
       obtain rfl := Option.some.inj h
       exact leafC hτ (here (by kernel_rfl))
      ·replace h := iteF hb h
       refine evd_run 2 (by kernel_rfl) ?_
       obtain ⟨x14379, hx14379, h⟩ := bindS h
       refine evd_val (by kernel_rfl) (st_idx (c := c_Point) (l := l) (i := x14361) (kd := .i64) (sz := 4) (by kernel_rfl) hx14379 rfl) (by kernel_rfl) (by kernel_rfl) ?_
       refine evd_run 3 (by kernel_rfl) ?_
       obtain ⟨x14380, hx14380, h⟩ := bindS h
       refine evd_val (by kernel_rfl) (st_idx (c := c_Point) (l := l) (i := x120) (kd := .i64) (sz := 4) (by kernel_rfl) hx14380 rfl) (by kernel_rfl) (by kernel_rfl) ?_
       refine evd_run 1 (by kernel_rfl) ?_
       refine evd_end (by kernel_rfl) ?_
       obtain ⟨r14381, hr14381, h⟩ := bindS h
       refine evo_callP [] (by kernel_rfl) (W.sheetmetalref01_ComparePoint_ok hr14381) (by kernel_rfl) (.inl rfl) (by kernel_rfl) ?_
       refine evo_run 2 (by kernel_rfl) ?_
       refine evo_endS (by kernel_rfl) (fun τ hτ => ?_)
       obtain rfl := Option.some.inj h
       exact leafC hτ (here (by kernel_rfl))
     refine th_normalS hτ ⟨[(0, (.sl (List.map c_Point l))), (3, (vI x120)), (5, (.row (.top 500000) 36)), (7, (vI s9633.2.1)), (8, (vI x14361)), (147, (vB j14378))], [(500000, .row 36 [] (List.map c_Point s9633.2.2))]⟩ (here (by kernel_rfl)) ?_
     refine sem_cond j14378 (by kernel_rfl) (by kernel_rfl) (fun hb => ?_) (fun hb => ?_)
     ·replace h := iteT hb h
      refine z8 2 ⟨[(2, (.row (.top 500000) 36))], [(500000, .row 36 [] (List.map c_Point s9633.2.2))]⟩ (by kernel_rfl) (fun τ hτ => ?_)
      refine th_ret ?_
      refine bl_ret ?_
      refine th_ret ?_
      obtain rfl := Option.some.inj h
      exact lk_outS hτ rfl (here (by kernel_rfl))
     ·replace h := iteF hb h
      refine z4 ⟨[(0, (.sl (List.map c_Point l))), (3, (vI x120)), (5, (.row (.top 500000) 36)), (7, (vI s9633.2.1)), (8, (vI x14361))], [(500000, .row 36 [] (List.map c_Point s9633.2.2))]⟩ (by kernel_rfl) ?_
      refine z7 (by kernel_rfl) ?_
      refine evs_run 3 (by kernel_rfl) ?_
      obtain ⟨x14384, hx14384, h⟩ := bindS h
      refine evs_op (st_idx (c := c_Point) (l := l) (i := x14361) (kd := .i64) (sz := 4) (by kernel_rfl) hx14384 rfl) ?_
      refine evs_run 2 (by kernel_rfl) ?_
      obtain ⟨l14385, hl14385, h⟩ := bindS h
      refine evs_op (st_app (c := c_Point) (l := s9633.2.2) (l2 := [x14384]) (x := (.sl (List.map c_Point [x14384]))) (g := 500000) (e := 36) (sz := 4) (d := 155) (by kernel_rfl) (by kernel_rfl) (by kernel_rfl) (by kernel_rfl) (fun _ => rfl) rfl hl14385) ?_
      refine z1 1 ⟨[(0, (.sl (List.map c_Point l))), (3, (vI x120)), (5, (.row (.top 500000) 36)), (7, (vI s9633.2.1)), (8, (vI x14361))], [(500000, .row 36 [] (List.map c_Point l14385))]⟩ (by kernel_rfl) ?_
      refine sem_region (by kernel_rfl) ?_
      refine z6 2 (by kernel_rfl) (fun τ hτ => ?_)
      refine bl_normal ?_
      refine th_normalS hτ ⟨[(0, (.sl (List.map c_Point l))), (3, (vI x120)), (5, (.row (.top 500000) 36)), (6, (vI x14361)), (7, (vI s9633.2.1))], [(500000, .row 36 [] (List.map c_Point l14385))]⟩ (here (by kernel_rfl)) ?_
      refine sem_region (by kernel_rfl) ?_
      refine z6 3 (by kernel_rfl) (fun τ hτ => ?_)
      obtain rfl := Option.some.inj h
      exact lk_nextS hτ (here (by kernel_rfl))
   ·replace h := iteF hb h
    refine sem_exitS 2 (by kernel_rfl) rfl (fun τ hτ => ?_)
    refine th_exit ?_
    obtain rfl := Option.some.inj h
    exact lk_outS hτ rfl (here (by kernel_rfl))
  ·intro x
   rcases x with _ | _ <;> rfl
  ·intro τ hτ
   rcases x14386 with j14387 | j14388
   ·refine bl_ret ?_
    refine th_ret ?_
    obtain rfl := Option.some.inj h
    exact rk_ret hτ [(2, (.row (.top 0) 36))] (subR_prep [] [(500000, 0)] (by kernel_rfl) rfl rfl (by kernel_rfl)) (by kernel_rfl)
   ·refine bl_hit (by kernel_rfl) ?_
    refine th_normalS hτ ⟨[(5, (.row (.top 500000) 36))], [(500000, .row 36 [] (List.map c_Point j14388))]⟩ (here (by kernel_rfl)) ?_
    refine z8 2 ⟨[(2, (.row (.top 500000) 36))], [(500000, .row 36 [] (List.map c_Point j14388))]⟩ (by kernel_rfl) (fun τ hτ => ?_)
    obtain rfl := Option.some.inj h
    exact rk_ret hτ [(2, (.row (.top 0) 36))] (subR_prep [] [(500000, 0)] (by kernel_rfl) rfl rfl (by kernel_rfl)) (by kernel_rfl)
theorem W.geom_outside_ok {a : Point} {b : Point} {l : (List Point)} {r : Bool} (h : geom_outside a b l = some r) : PC G.P 113 [(.agg [(vI a.X.A), (vI a.X.B), (vI a.Y.A), (vI a.Y.B)]), (.agg [(vI b.X.A), (vI b.X.B), (vI b.Y.A), (vI b.Y.B)]), (.sl (List.map c_Point l))] [] (vB r) [] := by
 refine pc_of G (fn := Try.f113) Try.func113 (by kernel_rfl) (by kernel_rfl) (by kernel_rfl) (by kernel_rfl) (by kernel_rfl) ?_
 refine sem_set ⟨[(0, (.agg [(vI a.X.A), (vI a.X.B), (vI a.Y.A), (vI a.Y.B)])), (1, (.agg [(vI b.X.A), (vI b.X.B), (vI b.Y.A), (vI b.Y.B)])), (2, (.sl (List.map c_Point l)))], []⟩ (by kernel_rfl) ?_
 refine z3 3 ⟨[(2, (.sl (List.map c_Point l))), (3, (.ptr 3 0)), (4, (.ptr 4 0))], [(3, .box [(vI a.X.A), (vI a.X.B), (vI a.Y.A), (vI a.Y.B)]), (4, .box [(vI b.X.A), (vI b.X.B), (vI b.Y.A), (vI b.Y.B)])]⟩ (by kernel_rfl) ?_
 refine sem_seq (by kernel_rfl) ?_
 refine z7 (by kernel_rfl) ?_
 refine evs_run 1 (by kernel_rfl) ?_
 refine evs_op (st_len (c := c_Point) (l := l) (x := (.sl (List.map c_Point l))) (by kernel_rfl) (by kernel_rfl)) ?_
 refine z1 1 ⟨[(3, (.ptr 3 0)), (4, (.ptr 4 0)), (9, (.sl (List.map c_Point l))), (10, (vI (l.length : Int))), (11, (vI 0))], [(3, .box [(vI a.X.A), (vI a.X.B), (vI a.Y.A), (vI a.Y.B)]), (4, .box [(vI b.X.A), (vI b.X.B), (vI b.Y.A), (vI b.Y.B)])]⟩ (by kernel_rfl) ?_
 refine sem_block (by kernel_rfl) ?_
 obtain ⟨x56, hx56, h⟩ := bindS h
 refine sem_loopS (fun (s39 : Int) => ⟨[(3, (.ptr 500000 0)), (4, (.ptr 500001 0)), (9, (.sl (List.map c_Point l))), (10, (vI (l.length : Int))), (11, (vI s39))], [(500000, .box [(vI a.X.A), (vI a.X.B), (vI a.Y.A), (vI a.Y.B)]), (500001, .box [(vI b.X.A), (vI b.X.B), (vI b.Y.A), (vI b.Y.B)])]⟩) (fun (x56 : Unit ⊕ Unit) => match x56 with | .inl j57 => (.ret, ⟨[(6, (vB false))], []⟩) | .inr j58 => (.exit 0, ⟨[], []⟩)) (geom_outside_l1 a b l) 0 x56 (by kernel_rfl) (subR_prep [] [(3, 500000), (4, 500001)] (by kernel_rfl) rfl rfl (by kernel_rfl)) hx56 ?_ ?_ ?_
 ·intro s39 r h
  refine z3 1 ⟨[(3, (.ptr 500000 0)), (4, (.ptr 500001 0)), (9, (.sl (List.map c_Point l))), (10, (vI (l.length : Int))), (11, (vI s39)), (12, (vB (decide (s39 < (l.length : Int)))))], [(500000, .box [(vI a.X.A), (vI a.X.B), (vI a.Y.A), (vI a.Y.B)]), (500001, .box [(vI b.X.A), (vI b.X.B), (vI b.Y.A), (vI b.Y.B)])]⟩ (by kernel_rfl) ?_
  refine sem_seq (by kernel_rfl) ?_
  refine sem_cond (decide (s39 < (l.length : Int))) (by kernel_rfl) (by kernel_rfl) (fun hb => ?_) (fun hb => ?_)
  ·replace h := iteT hb h
   refine z4 ⟨[(3, (.ptr 500000 0)), (4, (.ptr 500001 0)), (9, (.sl (List.map c_Point l))), (10, (vI (l.length : Int))), (11, (vI s39))], [(500000, .box [(vI a.X.A), (vI a.X.B), (vI a.Y.A), (vI a.Y.B)]), (500001, .box [(vI b.X.A), (vI b.X.B), (vI b.Y.A), (vI b.Y.B)])]⟩ (by kernel_rfl) ?_
   refine sem_seq (by kernel_rfl) ?_
   refine sem_block (by kernel_rfl) ?_
   refine z7 (by kernel_rfl) ?_
   obtain ⟨x53, hx53, h⟩ := bindS h
   refine evs_op (st_idx (c := c_Point) (l := l) (i := s39) (kd := .i64) (sz := 4) (by kernel_rfl) hx53 rfl) ?_
   refine z1 3 ⟨[(3, (.ptr 500000 0)), (4, (.ptr 500001 0)), (8, (.ptr 8 0)), (9, (.sl (List.map c_Point l))), (10, (vI (l.length : Int))), (11, (vI s39))], [(8, .box [(vI x53.X.A), (vI x53.X.B), (vI x53.Y.A), (vI x53.Y.B)]), (500000, .box [(vI a.X.A), (vI a.X.B), (vI a.Y.A), (vI a.Y.B)]), (500001, .box [(vI b.X.A), (vI b.X.B), (vI b.Y.A), (vI b.Y.B)])]⟩ (by kernel_rfl) ?_
   refine z7 (by kernel_rfl) ?_
   refine evs_run 3 (by kernel_rfl) ?_
   obtain ⟨r55, hr55, h⟩ := bindS h
   refine evs_callP [] (by kernel_rfl) (W.geom_orient_ok hr55) (by kernel_rfl) (.inl rfl) (by kernel_rfl) ?_
   refine z1 1 ⟨[(3, (.ptr 500000 0)), (4, (.ptr 500001 0)), (9, (.sl (List.map c_Point l))), (10, (vI (l.length : Int))), (11, (vI s39)), (19, (vB (decide (r55 > 0))))], [(500000, .box [(vI a.X.A), (vI a.X.B), (vI a.Y.A), (vI a.Y.B)]), (500001, .box [(vI b.X.A), (vI b.X.B), (vI b.Y.A), (vI b.Y.B)])]⟩ (by kernel_rfl) ?_
   refine sem_cond (decide (r55 > 0)) (by kernel_rfl) (by kernel_rfl) (fun hb => ?_) (fun hb => ?_)
   ·replace h := iteT hb h
    refine z8 1 ⟨[(6, (vB false))], []⟩ (by kernel_rfl) (fun τ hτ => ?_)
    refine bl_ret ?_
    refine th_ret ?_
    obtain rfl := Option.some.inj h
    exact lk_outS hτ rfl (here (by kernel_rfl))
   ·replace h := iteF hb h
    refine sem_skipS (by kernel_rfl) (fun τ hτ => ?_)
    refine bl_normal ?_
    refine th_normalS hτ ⟨[(3, (.ptr 500000 0)), (4, (.ptr 500001 0)), (9, (.sl (List.map c_Point l))), (10, (vI (l.length : Int))), (11, (vI s39))], [(500000, .box [(vI a.X.A), (vI a.X.B), (vI a.Y.A), (vI a.Y.B)]), (500001, .box [(vI b.X.A), (vI b.X.B), (vI b.Y.A), (vI b.Y.B)])]⟩ (here (by kernel_rfl)) ?_
    refine sem_region (by kernel_rfl) ?_
    refine z6 2 (by kernel_rfl) (fun τ hτ => ?_)
    obtain rfl := Option.some.inj h
    exact lk_nextS hτ (here (by kernel_rfl))
  ·replace h := iteF hb h
   refine sem_exitS 0 (by kernel_rfl) rfl (fun τ hτ => ?_)
   refine th_exit ?_
   obtain rfl := Option.some.inj h
   exact lk_outS hτ rfl (here (by kernel_rfl))
 ·intro x
  rcases x with _ | _ <;> rfl
 ·intro τ hτ
  rcases x56 with j57 | j58
  ·refine bl_ret ?_
   refine th_ret ?_
   obtain rfl := Option.some.inj h
   exact rk_ret hτ [(6, (vB false))] (here (by kernel_rfl)) (by kernel_rfl)
  ·refine bl_hit (by kernel_rfl) ?_
   refine th_normalS hτ ⟨[], []⟩ (here (by kernel_rfl)) ?_
   refine z8 1 ⟨[(6, (vB true))], []⟩ (by kernel_rfl) (fun τ hτ => ?_)
   obtain rfl := Option.some.inj h
   exact rk_ret hτ [(6, (vB true))] (here (by kernel_rfl)) (by kernel_rfl)
theorem W.geom_apart_ok {a : (List Point)} {b : (List Point)} {r : Bool} (h : geom_apart a b = some r) : PC G.P 93 [(.sl (List.map c_Point a)), (.sl (List.map c_Point b))] [] (vB r) [] := by
 refine pc_of G (fn := Try.f93) Try.func93 (by kernel_rfl) (by kernel_rfl) (by kernel_rfl) (by kernel_rfl) (by kernel_rfl) ?_
 refine sem_set ⟨[(0, (.sl (List.map c_Point a))), (1, (.sl (List.map c_Point b)))], []⟩ (by kernel_rfl) ?_
 refine z3 1 ⟨[(0, (.sl (List.map c_Point a))), (1, (.sl (List.map c_Point b)))], []⟩ (by kernel_rfl) ?_
 refine sem_seq (by kernel_rfl) ?_
 refine z7 (by kernel_rfl) ?_
 refine evs_run 1 (by kernel_rfl) ?_
 refine evs_op (st_len (c := c_Point) (l := a) (x := (.sl (List.map c_Point a))) (by kernel_rfl) (by kernel_rfl)) ?_
 refine z1 1 ⟨[(0, (.sl (List.map c_Point a))), (1, (.sl (List.map c_Point b))), (8, (vI (a.length : Int))), (9, (vI 0))], []⟩ (by kernel_rfl) ?_
 refine sem_block (by kernel_rfl) ?_
 obtain ⟨x152, hx152, h⟩ := bindS h
 refine sem_loopS (fun (s103 : Int) => ⟨[(0, (.sl (List.map c_Point a))), (1, (.sl (List.map c_Point b))), (8, (vI (a.length : Int))), (9, (vI s103))], []⟩) (fun (x152 : Unit ⊕ Unit) => match x152 with | .inl j153 => (.ret, ⟨[(4, (vB true))], []⟩) | .inr j154 => (.exit 0, ⟨[], []⟩)) (geom_apart_l1 a b) 0 x152 (by kernel_rfl) (here (by kernel_rfl)) hx152 ?_ ?_ ?_
 ·intro s103 r h
  refine z3 1 ⟨[(0, (.sl (List.map c_Point a))), (1, (.sl (List.map c_Point b))), (8, (vI (a.length : Int))), (9, (vI s103)), (10, (vB (decide (s103 < (a.length : Int)))))], []⟩ (by kernel_rfl) ?_
  refine sem_seq (by kernel_rfl) ?_
  refine sem_cond (decide (s103 < (a.length : Int))) (by kernel_rfl) (by kernel_rfl) (fun hb => ?_) (fun hb => ?_)
  ·replace h := iteT hb h
   refine z4 ⟨[(0, (.sl (List.map c_Point a))), (1, (.sl (List.map c_Point b))), (8, (vI (a.length : Int))), (9, (vI s103))], []⟩ (by kernel_rfl) ?_
   refine sem_seq (by kernel_rfl) ?_
   refine sem_block (by kernel_rfl) ?_
   refine z3 2 ⟨[(0, (.sl (List.map c_Point a))), (1, (.sl (List.map c_Point b))), (5, (vI s103)), (8, (vI (a.length : Int))), (9, (vI s103))], []⟩ (by kernel_rfl) ?_
   refine z7 (by kernel_rfl) ?_
   refine evs_run 4 (by kernel_rfl) ?_
   refine evs_op (st_len (c := c_Point) (l := a) (x := (.sl (List.map c_Point a))) (by kernel_rfl) (by kernel_rfl)) ?_
   obtain ⟨hb, h⟩ := iteN h
   refine evs_op (st_rem (a := (iadd s103 1)) (b := (a.length : Int)) (kd := .i64) (by kernel_rfl) (bne_iff_ne.1 hb)) ?_
   obtain ⟨x141, hx141, h⟩ := bindS h
   refine evs_op (st_idx (c := c_Point) (l := a) (i := (Int.tmod (iadd s103 1) (a.length : Int))) (kd := .i64) (sz := 4) (by kernel_rfl) hx141 rfl) ?_
   refine z1 3 ⟨[(0, (.sl (List.map c_Point a))), (1, (.sl (List.map c_Point b))), (5, (vI s103)), (6, (.ptr 6 0)), (8, (vI (a.length : Int))), (9, (vI s103))], [(6, .box [(vI x141.X.A), (vI x141.X.B), (vI x141.Y.A), (vI x141.Y.B)])]⟩ (by kernel_rfl) ?_
   refine sem_seq (by kernel_rfl) ?_
   obtain ⟨j148, hj148, h⟩ := bindS h
   refine sem_drawP ⟨[(0, (.sl (List.map c_Point a))), (1, (.sl (List.map c_Point b))), (8, (vI (a.length : Int))), (9, (vI s103)), (34, (vB j148))], []⟩ [] [] [] [] [] 13 (by kernel_rfl) (by kernel_rfl) (by kernel_rfl) ?_ (fun τ hτ => ?_)
   ·replace h := hj148
    refine evd_run 3 (by kernel_rfl) ?_
    obtain ⟨x149, hx149, h⟩ := bindS h
    refine evd_val (by kernel_rfl) (st_idx (c := c_Point) (l := a) (i := s103) (kd := .i64) (sz := 4) (by kernel_rfl) hx149 rfl) (by kernel_rfl) (by kernel_rfl) ?_
    refine evd_run 3 (by kernel_rfl) ?_
    refine evd_split ((x141.X.A == x149.X.A) && ((x141.X.B == x149.X.B) && ((x141.Y.A == x149.Y.A) && ((x141.Y.B == x149.Y.B) && true)))) (fun b0 => ⟨[(26, (vB (!b0))), (25, (vB (!b0))), (24, (.agg [(vI x149.X.A), (vI x149.X.B), (vI x149.Y.A), (vI x149.Y.B)])), (23, (.vptr [(vI x149.X.A), (vI x149.X.B), (vI x149.Y.A), (vI x149.Y.B)] 0)), (22, (vI s103)), (21, (.sl (List.map c_Point a))), (20, (.agg [(vI x141.X.A), (vI x141.X.B), (vI x141.Y.A), (vI x141.Y.B)])), (0, (.sl (List.map c_Point a))), (1, (.sl (List.map c_Point b))), (5, (vI s103)), (6, (.ptr 6 0)), (8, (vI (a.length : Int))), (9, (vI s103))], [(6, .box [(vI x141.X.A), (vI x141.X.B), (vI x141.Y.A), (vI x141.Y.B)])]⟩) (by kernel_rfl) (fun hb => ?_) (fun hb => ?_)
    ·replace h := iteT hb h
     refine evd_run 6 (by kernel_rfl) ?_
     refine evd_end (by kernel_rfl) ?_
     refine evo_run 2 (by kernel_rfl) ?_
     refine evo_endS (by kernel_rfl) (fun τ hτ => ?_)
     obtain rfl := Option.some.inj h
     exact leafC hτ (here (by kernel_rfl))
    ·replace h := iteF hb h
     refine evd_run 2 (by kernel_rfl) ?_
     obtain ⟨x150, hx150, h⟩ := bindS h
     refine evd_val (by kernel_rfl) (st_idx (c := c_Point) (l := a) (i := s103) (kd := .i64) (sz := 4) (by kernel_rfl) hx150 rfl) (by kernel_rfl) (by kernel_rfl) ?_
     refine evd_run 3 (by kernel_rfl) ?_
     refine evd_end (by kernel_rfl) ?_
     obtain ⟨r151, hr151, h⟩ := bindS h
     refine evo_callP [] (by kernel_rfl) (W.geom_outside_ok hr151) (by kernel_rfl) (.inl rfl) (by kernel_rfl) ?_
     refine evo_run 1 (by kernel_rfl) ?_
     refine evo_endS (by kernel_rfl) (fun τ hτ => ?_)
     obtain rfl := Option.some.inj h
     exact leafC hτ (here (by kernel_rfl))
   refine th_normalS hτ ⟨[(0, (.sl (List.map c_Point a))), (1, (.sl (List.map c_Point b))), (8, (vI (a.length : Int))), (9, (vI s103)), (34, (vB j148))], []⟩ (here (by kernel_rfl)) ?_
   refine sem_cond j148 (by kernel_rfl) (by kernel_rfl) (fun hb => ?_) (fun hb => ?_)
   ·replace h := iteT hb h
    refine z8 1 ⟨[(4, (vB true))], []⟩ (by kernel_rfl) (fun τ hτ => ?_)
    refine bl_ret ?_
    refine th_ret ?_
    obtain rfl := Option.some.inj h
    exact lk_outS hτ rfl (here (by kernel_rfl))
   ·replace h := iteF hb h
    refine sem_skipS (by kernel_rfl) (fun τ hτ => ?_)
    refine bl_normal ?_
    refine th_normalS hτ ⟨[(0, (.sl (List.map c_Point a))), (1, (.sl (List.map c_Point b))), (8, (vI (a.length : Int))), (9, (vI s103))], []⟩ (here (by kernel_rfl)) ?_
    refine sem_region (by kernel_rfl) ?_
    refine z6 2 (by kernel_rfl) (fun τ hτ => ?_)
    obtain rfl := Option.some.inj h
    exact lk_nextS hτ (here (by kernel_rfl))
  ·replace h := iteF hb h
   refine sem_exitS 0 (by kernel_rfl) rfl (fun τ hτ => ?_)
   refine th_exit ?_
   obtain rfl := Option.some.inj h
   exact lk_outS hτ rfl (here (by kernel_rfl))
 ·intro x
  rcases x with _ | _ <;> rfl
 ·intro τ hτ
  rcases x152 with j153 | j154
  ·refine bl_ret ?_
   refine th_ret ?_
   obtain rfl := Option.some.inj h
   exact rk_ret hτ [(4, (vB true))] (here (by kernel_rfl)) (by kernel_rfl)
  ·refine bl_hit (by kernel_rfl) ?_
   refine th_normalS hτ ⟨[], []⟩ (here (by kernel_rfl)) ?_
   refine z8 1 ⟨[(4, (vB false))], []⟩ (by kernel_rfl) (fun τ hτ => ?_)
   obtain rfl := Option.some.inj h
   exact rk_ret hτ [(4, (vB false))] (here (by kernel_rfl)) (by kernel_rfl)
theorem W.geom_Meets_ok {a : (List Point)} {b : (List Point)} {r : Bool × Int} (h : geom_Meets a b = some r) : PC G.P 51 [(.sl (List.map c_Point a)), (.sl (List.map c_Point b))] [] (.tup [(vB r.1), (vI r.2)]) [] := by
 refine pc_of G (fn := Try.f51) Try.func51 (by kernel_rfl) (by kernel_rfl) (by kernel_rfl) (by kernel_rfl) (by kernel_rfl) ?_
 refine sem_set ⟨[(0, (.sl (List.map c_Point a))), (1, (.sl (List.map c_Point b)))], []⟩ (by kernel_rfl) ?_
 refine z3 2 ⟨[(0, (.sl (List.map c_Point a))), (1, (.sl (List.map c_Point b)))], []⟩ (by kernel_rfl) ?_
 refine z7 (by kernel_rfl) ?_
 refine evs_run 1 (by kernel_rfl) ?_
 obtain ⟨r3, hr3, h⟩ := bindS h
 refine evs_callP [] (by kernel_rfl) (W.geom_points_ok hr3) (by kernel_rfl) (.inl rfl) (by kernel_rfl) ?_
 refine evs_run 1 (by kernel_rfl) ?_
 obtain ⟨r4, hr4, h⟩ := bindS h
 refine evs_callP [] (by kernel_rfl) (W.geom_points_ok hr4) (by kernel_rfl) (.inl rfl) (by kernel_rfl) ?_
 refine z1 2 ⟨[(0, (.sl (List.map c_Point a))), (1, (.sl (List.map c_Point b))), (6, (vI r3)), (7, (vI r4))], []⟩ (by kernel_rfl) ?_
 refine sem_seq (by kernel_rfl) ?_
 refine sem_block (by kernel_rfl) ?_
 refine sem_seq (by kernel_rfl) ?_
 obtain ⟨j7, hj7, h⟩ := bindS h
 refine sem_regionC ⟨[(0, (.sl (List.map c_Point a))), (1, (.sl (List.map c_Point b))), (6, (vI r3)), (7, (vI r4)), (14, (vB j7))], []⟩ (by kernel_rfl) ?_ (fun τ hτ => ?_)
 ·replace h := hj7
  refine evs_run 3 (by kernel_rfl) ?_
  refine evs_split (r3 == 1) (fun b0 => ⟨[(0, (.sl (List.map c_Point a))), (1, (.sl (List.map c_Point b))), (6, (vI r3)), (7, (vI r4)), (17, (vB b0))], []⟩) (by kernel_rfl) (fun hb => ?_) (fun hb => ?_)
  ·replace h := iteT hb h
   refine z6 4 (by kernel_rfl) (fun τ hτ => ?_)
   obtain rfl := Option.some.inj h
   exact leafC hτ (here (by kernel_rfl))
  ·replace h := iteF hb h
   refine z6 4 (by kernel_rfl) (fun τ hτ => ?_)
   obtain rfl := Option.some.inj h
   exact leafC hτ (here (by kernel_rfl))
 refine th_normalS hτ ⟨[(0, (.sl (List.map c_Point a))), (1, (.sl (List.map c_Point b))), (6, (vI r3)), (7, (vI r4)), (14, (vB j7))], []⟩ (here (by kernel_rfl)) ?_
 refine sem_cond j7 (by kernel_rfl) (by kernel_rfl) (fun hb => ?_) (fun hb => ?_)
 ·replace h := iteT hb h
  refine z8 2 ⟨[(4, (vB false)), (5, (vI 1))], []⟩ (by kernel_rfl) (fun τ hτ => ?_)
  refine bl_ret ?_
  refine th_ret ?_
  obtain rfl := Option.some.inj h
  exact rk_ret hτ [(4, (vB false)), (5, (vI 1))] (here (by kernel_rfl)) (by kernel_rfl)
 ·replace h := iteF hb h
  refine sem_seq (by kernel_rfl) ?_
  obtain ⟨j8, hj8, h⟩ := bindS h
  refine sem_regionC ⟨[(0, (.sl (List.map c_Point a))), (1, (.sl (List.map c_Point b))), (21, (vB j8))], []⟩ (by kernel_rfl) ?_ (fun τ hτ => ?_)
  ·replace h := hj8
   refine evs_run 3 (by kernel_rfl) ?_
   refine evs_split (r3 != 0) (fun b0 => ⟨[(0, (.sl (List.map c_Point a))), (1, (.sl (List.map c_Point b))), (7, (vI r4)), (24, (vB b0))], []⟩) (by kernel_rfl) (fun hb => ?_) (fun hb => ?_)
   ·replace h := iteT hb h
    refine z6 4 (by kernel_rfl) (fun τ hτ => ?_)
    obtain rfl := Option.some.inj h
    exact leafC hτ (here (by kernel_rfl))
   ·replace h := iteF hb h
    refine z6 4 (by kernel_rfl) (fun τ hτ => ?_)
    obtain rfl := Option.some.inj h
    exact leafC hτ (here (by kernel_rfl))
  refine th_normalS hτ ⟨[(0, (.sl (List.map c_Point a))), (1, (.sl (List.map c_Point b))), (21, (vB j8))], []⟩ (here (by kernel_rfl)) ?_
  refine sem_cond j8 (by kernel_rfl) (by kernel_rfl) (fun hb => ?_) (fun hb => ?_)
  ·replace h := iteT hb h
   refine z8 2 ⟨[(4, (vB false)), (5, (vI 4))], []⟩ (by kernel_rfl) (fun τ hτ => ?_)
   refine bl_ret ?_
   refine th_ret ?_
   obtain rfl := Option.some.inj h
   exact rk_ret hτ [(4, (vB false)), (5, (vI 4))] (here (by kernel_rfl)) (by kernel_rfl)
  ·replace h := iteF hb h
   refine sem_skipS (by kernel_rfl) (fun τ hτ => ?_)
   refine bl_normal ?_
   refine th_normalS hτ ⟨[(0, (.sl (List.map c_Point a))), (1, (.sl (List.map c_Point b)))], []⟩ (here (by kernel_rfl)) ?_
   refine z7 (by kernel_rfl) ?_
   refine evs_run 1 (by kernel_rfl) ?_
   obtain ⟨r11, hr11, h⟩ := bindS h
   refine evs_callS [] [(0, 700050)] [] (by kernel_rfl) (W.geom_hull_ok hr11) (by kernel_rfl) (by kernel_rfl) (.inl rfl) ?_
   refine evs_run 1 (by kernel_rfl) ?_
   obtain ⟨r12, hr12, h⟩ := bindS h
   refine evs_callS [] [(0, 700150)] [] (by kernel_rfl) (W.geom_hull_ok hr12) (by kernel_rfl) (by kernel_rfl) (.inl rfl) ?_
   refine z1 2 ⟨[(8, (.row (.top 700050) 36)), (9, (.row (.top 700150) 36))], [(700050, .row 36 [] (List.map c_Point r11)), (700150, .row 36 [] (List.map c_Point r12))]⟩ (by kernel_rfl) ?_
   refine sem_seq (by kernel_rfl) ?_
   refine z7 (by kernel_rfl) ?_
   refine evs_run 1 (by kernel_rfl) ?_
   refine evs_op (st_len (c := c_Point) (l := r12) (x := (.row (.top 700150) 36)) (by kernel_rfl) (by kernel_rfl)) ?_
   refine z1 1 ⟨[(8, (.row (.top 700050) 36)), (9, (.row (.top 700150) 36)), (34, (vB (decide ((r12.length : Int) < 3))))], [(700050, .row 36 [] (List.map c_Point r11)), (700150, .row 36 [] (List.map c_Point r12))]⟩ (by kernel_rfl) ?_
   refine sem_cond (decide ((r12.length : Int) < 3)) (by kernel_rfl) (by kernel_rfl) (fun hb => ?_) (fun hb => ?_)
   ·replace h := iteT hb h
    refine z8 2 ⟨[(4, (vB false)), (5, (vI 6))], []⟩ (by kernel_rfl) (fun τ hτ => ?_)
    refine th_ret ?_
    obtain rfl := Option.some.inj h
    exact rk_ret hτ [(4, (vB false)), (5, (vI 6))] (here (by kernel_rfl)) (by kernel_rfl)
   ·replace h := iteF hb h
    refine z4 ⟨[(8, (.row (.top 700050) 36)), (9, (.row (.top 700150) 36))], [(700050, .row 36 [] (List.map c_Point r11)), (700150, .row 36 [] (List.map c_Point r12))]⟩ (by kernel_rfl) ?_
    refine sem_seq (by kernel_rfl) ?_
    obtain ⟨j15, hj15, h⟩ := bindS h
    refine sem_regionC ⟨[(4, (vB j15)), (5, (vI 0))], []⟩ (by kernel_rfl) ?_ (fun τ hτ => ?_)
    ·replace h := hj15
     refine evs_run 2 (by kernel_rfl) ?_
     obtain ⟨r16, hr16, h⟩ := bindS h
     refine evs_callP [700150, 700050] (by kernel_rfl) (W.geom_apart_ok hr16) (by kernel_rfl) (.inr rfl) (by kernel_rfl) ?_
     refine evs_run 2 (by kernel_rfl) ?_
     refine evs_split r16 (fun b0 => ⟨[(8, (.row (.top 700050) 36)), (9, (.row (.top 700150) 36)), (39, (vB (!b0)))], [(700050, .row 36 [] (List.map c_Point r11)), (700150, .row 36 [] (List.map c_Point r12))]⟩) (by kernel_rfl) (fun hb => ?_) (fun hb => ?_)
     ·replace h := iteT hb h
      refine z6 7 (by kernel_rfl) (fun τ hτ => ?_)
      obtain rfl := Option.some.inj h
      exact leafC hτ (here (by kernel_rfl))
     ·replace h := iteF hb h
      refine evs_run 2 (by kernel_rfl) ?_
      obtain ⟨r17, hr17, h⟩ := bindS h
      refine evs_callP [700050, 700150] (by kernel_rfl) (W.geom_apart_ok hr17) (by kernel_rfl) (.inr rfl) (by kernel_rfl) ?_
      refine z6 4 (by kernel_rfl) (fun τ hτ => ?_)
      obtain rfl := Option.some.inj h
      exact leafC hτ (here (by kernel_rfl))
    refine th_normalS hτ ⟨[(4, (vB j15)), (5, (vI 0))], []⟩ (here (by kernel_rfl)) ?_
    refine sem_retS (by kernel_rfl) (fun τ hτ => ?_)
    obtain rfl := Option.some.inj h
    exact rk_ret hτ [(4, (vB j15)), (5, (vI 0))] (here (by kernel_rfl)) (by kernel_rfl)
theorem W.sheetmetalref01_meets_ok {a : (List Point)} {b : (List Point)} {r : Bool} (h : sheetmetalref01_meets a b = some r) : PC G.P 94 [(.sl (List.map c_Point a)), (.sl (List.map c_Point b))] [] (vB r) [] := by
 refine pc_of G (fn := Try.f94) Try.func94 (by kernel_rfl) (by kernel_rfl) (by kernel_rfl) (by kernel_rfl) (by kernel_rfl) ?_
 refine sem_set ⟨[(0, (.sl (List.map c_Point a))), (1, (.sl (List.map c_Point b)))], []⟩ (by kernel_rfl) ?_
 refine z3 1 ⟨[(0, (.sl (List.map c_Point a))), (1, (.sl (List.map c_Point b)))], []⟩ (by kernel_rfl) ?_
 refine z7 (by kernel_rfl) ?_
 refine evs_run 1 (by kernel_rfl) ?_
 obtain ⟨r3, hr3, h⟩ := bindS h
 refine evs_callS [] [(0, 700050)] [] (by kernel_rfl) (W.sheetmetalref01_Wrap_ok hr3) (by kernel_rfl) (by kernel_rfl) (.inl rfl) ?_
 refine evs_run 1 (by kernel_rfl) ?_
 obtain ⟨r4, hr4, h⟩ := bindS h
 refine evs_callS [] [(0, 700150)] [] (by kernel_rfl) (W.sheetmetalref01_Wrap_ok hr4) (by kernel_rfl) (by kernel_rfl) (.inl rfl) ?_
 refine z1 2 ⟨[(0, (.row (.top 700050) 36)), (1, (.row (.top 700150) 36))], [(700050, .row 36 [] (List.map c_Point r3)), (700150, .row 36 [] (List.map c_Point r4))]⟩ (by kernel_rfl) ?_
 refine z3 1 ⟨[(0, (.row (.top 700050) 36)), (1, (.row (.top 700150) 36)), (5, (.row (.top 5) 36))], [(5, .row 36 [] (List.map c_Point [])), (700050, .row 36 [] (List.map c_Point r3)), (700150, .row 36 [] (List.map c_Point r4))]⟩ (by kernel_rfl) ?_
 refine sem_seq (by kernel_rfl) ?_
 refine z3 1 ⟨[(0, (.row (.top 700050) 36)), (1, (.row (.top 700150) 36)), (5, (.row (.top 5) 36)), (6, (vI 0))], [(5, .row 36 [] (List.map c_Point [])), (700050, .row 36 [] (List.map c_Point r3)), (700150, .row 36 [] (List.map c_Point r4))]⟩ (by kernel_rfl) ?_
 refine sem_block (by kernel_rfl) ?_
 obtain ⟨x1558, hx1558, h⟩ := bindS h
 refine sem_loopS (fun (s1041 : Int × (List Point)) => ⟨[(0, (.row (.top 500000) 36)), (1, (.row (.top 500001) 36)), (5, (.row (.top 500002) 36)), (6, (vI s1041.1))], [(500000, .row 36 [] (List.map c_Point r3)), (500001, .row 36 [] (List.map c_Point r4)), (500002, .row 36 [] (List.map c_Point s1041.2))]⟩) (fun (x1558 : (List Point)) => (.exit 0, ⟨[(5, (.row (.top 500000) 36))], [(500000, .row 36 [] (List.map c_Point x1558))]⟩)) (sheetmetalref01_meets_l2 r3 r4) (0, []) x1558 (by kernel_rfl) (subR_prep [] [(5, 500002), (700050, 500000), (700150, 500001)] (by kernel_rfl) rfl rfl (by kernel_rfl)) hx1558 ?_ ?_ ?_
 ·intro s1041 r h
  refine sem_seq (by kernel_rfl) ?_
  refine z7 (by kernel_rfl) ?_
  refine evs_run 2 (by kernel_rfl) ?_
  refine evs_op (st_len (c := c_Point) (l := r3) (x := (.row (.top 500000) 36)) (by kernel_rfl) (by kernel_rfl)) ?_
  refine z1 1 ⟨[(0, (.row (.top 500000) 36)), (1, (.row (.top 500001) 36)), (5, (.row (.top 500002) 36)), (6, (vI s1041.1)), (17, (vB (decide (s1041.1 < (r3.length : Int)))))], [(500000, .row 36 [] (List.map c_Point r3)), (500001, .row 36 [] (List.map c_Point r4)), (500002, .row 36 [] (List.map c_Point s1041.2))]⟩ (by kernel_rfl) ?_
  refine sem_cond (decide (s1041.1 < (r3.length : Int))) (by kernel_rfl) (by kernel_rfl) (fun hb => ?_) (fun hb => ?_)
  ·replace h := iteT hb h
   refine z4 ⟨[(0, (.row (.top 500000) 36)), (1, (.row (.top 500001) 36)), (5, (.row (.top 500002) 36)), (6, (vI s1041.1))], [(500000, .row 36 [] (List.map c_Point r3)), (500001, .row 36 [] (List.map c_Point r4)), (500002, .row 36 [] (List.map c_Point s1041.2))]⟩ (by kernel_rfl) ?_
   refine sem_seq (by kernel_rfl) ?_
   refine sem_block (by kernel_rfl) ?_
   refine z3 1 ⟨[(0, (.row (.top 500000) 36)), (1, (.row (.top 500001) 36)), (5, (.row (.top 500002) 36)), (6, (vI s1041.1)), (7, (vI 0))], [(500000, .row 36 [] (List.map c_Point r3)), (500001, .row 36 [] (List.map c_Point r4)), (500002, .row 36 [] (List.map c_Point s1041.2))]⟩ (by kernel_rfl) ?_
   refine sem_block (by kernel_rfl) ?_
   obtain ⟨x1557, hx1557, h⟩ := bindS h
   refine sem_loopS (fun (s1472 : Int × (List Point)) => ⟨[(0, (.row (.top 500000) 36)), (1, (.row (.top 500001) 36)), (5, (.row (.top 500002) 36)), (6, (vI s1041.1)), (7, (vI s1472.1))], [(500000, .row 36 [] (List.map c_Point r3)), (500001, .row 36 [] (List.map c_Point r4)), (500002, .row 36 [] (List.map c_Point s1472.2))]⟩) (fun (x1557 : (List Point)) => (.exit 2, ⟨[(0, (.row (.top 500000) 36)), (1, (.row (.top 500001) 36)), (5, (.row (.top 500002) 36)), (6, (vI s1041.1))], [(500000, .row 36 [] (List.map c_Point r3)), (500001, .row 36 [] (List.map c_Point r4)), (500002, .row 36 [] (List.map c_Point x1557))]⟩)) (sheetmetalref01_meets_l1 r3 r4 s1041) (0, s1041.2) x1557 (by kernel_rfl) (here (by kernel_rfl)) hx1557 ?_ ?_ ?_
   ·intro s1472 r h
    refine sem_seq (by kernel_rfl) ?_
    refine z7 (by kernel_rfl) ?_
    refine evs_run 2 (by kernel_rfl) ?_
    refine evs_op (st_len (c := c_Point) (l := r4) (x := (.row (.top 500001) 36)) (by kernel_rfl) (by kernel_rfl)) ?_
    refine z1 1 ⟨[(0, (.row (.top 500000) 36)), (1, (.row (.top 500001) 36)), (5, (.row (.top 500002) 36)), (6, (vI s1041.1)), (7, (vI s1472.1)), (23, (vB (decide (s1472.1 < (r4.length : Int)))))], [(500000, .row 36 [] (List.map c_Point r3)), (500001, .row 36 [] (List.map c_Point r4)), (500002, .row 36 [] (List.map c_Point s1472.2))]⟩ (by kernel_rfl) ?_
    refine sem_cond (decide (s1472.1 < (r4.length : Int))) (by kernel_rfl) (by kernel_rfl) (fun hb => ?_) (fun hb => ?_)
    ·replace h := iteT hb h
     refine z4 ⟨[(0, (.row (.top 500000) 36)), (1, (.row (.top 500001) 36)), (5, (.row (.top 500002) 36)), (6, (vI s1041.1)), (7, (vI s1472.1))], [(500000, .row 36 [] (List.map c_Point r3)), (500001, .row 36 [] (List.map c_Point r4)), (500002, .row 36 [] (List.map c_Point s1472.2))]⟩ (by kernel_rfl) ?_
     refine sem_seq (by kernel_rfl) ?_
     refine sem_block (by kernel_rfl) ?_
     refine sem_draw [(11, [700550]), (22, [701100])] [(11, [700550]), (22, [701100])] [] [(0, [700550, 701100]), (12, [700550]), (13, [700550]), (14, [700550]), (15, [700550]), (16, [700550]), (17, [700550]), (18, [700550]), (19, [700550]), (20, [700550]), (21, [700550])] [(0, [700550, 701100]), (1, [700550, 701100]), (2, [700550, 701100]), (3, [700550, 701100]), (4, [700550, 701100]), (5, [700550, 701100]), (6, [700550, 701100]), (7, [700550, 701100]), (8, [700550, 701100]), (9, [700550, 701100]), (10, [700550, 701100]), (11, [701100]), (12, [700550, 701100]), (13, [700550, 701100]), (14, [700550, 701100]), (15, [700550, 701100]), (16, [700550, 701100]), (17, [700550, 701100]), (18, [700550, 701100]), (19, [700550, 701100]), (20, [700550, 701100]), (21, [700550, 701100])] 25 (by kernel_rfl) (by kernel_rfl) [700550, 701100] (by kernel_rfl) (by kernel_rfl) ?_
     refine evd_run 3 (by kernel_rfl) ?_
     obtain ⟨x1550, hx1550, h⟩ := bindS h
     refine evd_val (by kernel_rfl) (st_idxO (c := c_Point) (l := r3) (i := s1041.1) (kd := .i64) (kk := (.top 500000)) (e := 36) (sz := 4) (by kernel_rfl) (by kernel_rfl) hx1550 rfl) (by kernel_rfl) (by kernel_rfl) ?_
     refine evd_run 1 (by kernel_rfl) ?_
     refine evd_val (by kernel_rfl) (st_ldO (c := c_Point) (l := r3) (i := (Int.toNat s1041.1)) (v := (.agg [(vI x1550.X.A), (vI x1550.X.B)])) (agg := true) (sz := 2) (kk := (.top 500000)) (e := 36) (off := 0) (J := []) (by kernel_rfl) (by kernel_rfl) (by kernel_rfl) ((idxS hx1550).2) (by kernel_rfl)) (by kernel_rfl) (by kernel_rfl) ?_
     refine evd_run 2 (by kernel_rfl) ?_
     obtain ⟨x1551, hx1551, h⟩ := bindS h
     refine evd_val (by kernel_rfl) (st_idxO (c := c_Point) (l := r4) (i := s1472.1) (kd := .i64) (kk := (.top 500001)) (e := 36) (sz := 4) (by kernel_rfl) (by kernel_rfl) hx1551 rfl) (by kernel_rfl) (by kernel_rfl) ?_
     refine evd_run 1 (by kernel_rfl) ?_
     refine evd_val (by kernel_rfl) (st_ldO (c := c_Point) (l := r4) (i := (Int.toNat s1472.1)) (v := (.agg [(vI x1551.X.A), (vI x1551.X.B)])) (agg := true) (sz := 2) (kk := (.top 500001)) (e := 36) (off := 0) (J := []) (by kernel_rfl) (by kernel_rfl) (by kernel_rfl) ((idxS hx1551).2) (by kernel_rfl)) (by kernel_rfl) (by kernel_rfl) ?_
     obtain ⟨r1552, hr1552, h⟩ := bindS h
     refine evd_callS [(0, 700550)] [] (by kernel_rfl) (by kernel_rfl) (W.sheetmetalref01_minus_ok hr1552) (by kernel_rfl) (.inl rfl) (by kernel_rfl) (by kernel_rfl) ?_
     refine evd_run 2 (by kernel_rfl) ?_
     obtain ⟨x1553, hx1553, h⟩ := bindS h
     refine evd_val (by kernel_rfl) (st_idxO (c := c_Point) (l := r3) (i := s1041.1) (kd := .i64) (kk := (.top 500000)) (e := 36) (sz := 4) (by kernel_rfl) (by kernel_rfl) hx1553 rfl) (by kernel_rfl) (by kernel_rfl) ?_
     refine evd_run 1 (by kernel_rfl) ?_
     refine evd_val (by kernel_rfl) (st_ldO (c := c_Point) (l := r3) (i := (Int.toNat s1041.1)) (v := (.agg [(vI x1553.Y.A), (vI x1553.Y.B)])) (agg := true) (sz := 2) (kk := (.top 500000)) (e := 36) (off := 2) (J := []) (by kernel_rfl) (by kernel_rfl) (by kernel_rfl) ((idxS hx1553).2) (by kernel_rfl)) (by kernel_rfl) (by kernel_rfl) ?_
     refine evd_run 2 (by kernel_rfl) ?_
     obtain ⟨x1554, hx1554, h⟩ := bindS h
     refine evd_val (by kernel_rfl) (st_idxO (c := c_Point) (l := r4) (i := s1472.1) (kd := .i64) (kk := (.top 500001)) (e := 36) (sz := 4) (by kernel_rfl) (by kernel_rfl) hx1554 rfl) (by kernel_rfl) (by kernel_rfl) ?_
     refine evd_run 1 (by kernel_rfl) ?_
     refine evd_val (by kernel_rfl) (st_ldO (c := c_Point) (l := r4) (i := (Int.toNat s1472.1)) (v := (.agg [(vI x1554.Y.A), (vI x1554.Y.B)])) (agg := true) (sz := 2) (kk := (.top 500001)) (e := 36) (off := 2) (J := []) (by kernel_rfl) (by kernel_rfl) (by kernel_rfl) ((idxS hx1554).2) (by kernel_rfl)) (by kernel_rfl) (by kernel_rfl) ?_
     obtain ⟨r1555, hr1555, h⟩ := bindS h
     refine evd_callS [(0, 701100)] [] (by kernel_rfl) (by kernel_rfl) (W.sheetmetalref01_minus_ok hr1555) (by kernel_rfl) (.inl rfl) (by kernel_rfl) (by kernel_rfl) ?_
     refine evd_run 2 (by kernel_rfl) ?_
     refine evd_end (by kernel_rfl) ?_
     obtain ⟨l1556, hl1556, h⟩ := bindS h
     refine evo_op (st_app (c := c_Point) (l := s1472.2) (l2 := [(Point.mk r1552 r1555)]) (x := (.sl (List.map c_Point [(Point.mk r1552 r1555)]))) (g := 500002) (e := 36) (sz := 4) (d := 51) (by kernel_rfl) (by kernel_rfl) (by kernel_rfl) (by kernel_rfl) (fun _ => rfl) rfl hl1556) ?_
     refine evo_run 1 (by kernel_rfl) ?_
     refine evo_endS (by kernel_rfl) (fun τ hτ => ?_)
     refine bl_normal ?_
     refine th_normalS hτ ⟨[(0, (.row (.top 500000) 36)), (1, (.row (.top 500001) 36)), (5, (.row (.top 500002) 36)), (6, (vI s1041.1)), (7, (vI s1472.1))], [(500000, .row 36 [] (List.map c_Point r3)), (500001, .row 36 [] (List.map c_Point r4)), (500002, .row 36 [] (List.map c_Point l1556))]⟩ (here (by kernel_rfl)) ?_
     refine sem_region (by kernel_rfl) ?_
     refine z6 3 (by kernel_rfl) (fun τ hτ => ?_)
     obtain rfl := Option.some.inj h
     exact lk_nextS hτ (here (by kernel_rfl))
    ·replace h := iteF hb h
     refine sem_exitS 2 (by kernel_rfl) rfl (fun τ hτ => ?_)
     refine th_exit ?_
     obtain rfl := Option.some.inj h
     exact lk_outS hτ rfl (here (by kernel_rfl))
   ·intro x
    rfl
   ·intro τ hτ
    refine bl_hit (by kernel_rfl) ?_
    refine bl_normal ?_
    refine th_normalS hτ ⟨[(0, (.row (.top 500000) 36)), (1, (.row (.top 500001) 36)), (5, (.row (.top 500002) 36)), (6, (vI s1041.1))], [(500000, .row 36 [] (List.map c_Point r3)), (500001, .row 36 [] (List.map c_Point r4)), (500002, .row 36 [] (List.map c_Point x1557))]⟩ (here (by kernel_rfl)) ?_
    refine sem_region (by kernel_rfl) ?_
    refine z6 3 (by kernel_rfl) (fun τ hτ => ?_)
    obtain rfl := Option.some.inj h
    exact lk_nextS hτ (here (by kernel_rfl))
  ·replace h := iteF hb h
   refine sem_exitS 0 (by kernel_rfl) rfl (fun τ hτ => ?_)
   refine th_exit ?_
   obtain rfl := Option.some.inj h
   exact lk_outS hτ rfl (subR_prep [] [(500002, 500000)] (by kernel_rfl) rfl rfl (by kernel_rfl))
 ·intro x
  rfl
 ·intro τ hτ
  refine bl_hit (by kernel_rfl) ?_
  refine th_normalS hτ ⟨[(5, (.row (.top 500000) 36))], [(500000, .row 36 [] (List.map c_Point x1558))]⟩ (here (by kernel_rfl)) ?_
  refine z7 (by kernel_rfl) ?_
  refine evs_run 1 (by kernel_rfl) ?_
  obtain ⟨r1560, hr1560, h⟩ := bindS h
  refine evs_callS [] [(0, 700050)] [500000] (by kernel_rfl) (W.sheetmetalref01_Wrap_ok hr1560) (by kernel_rfl) (by kernel_rfl) (.inr ⟨rfl, fun _ _ => ind_cons (ind_row fun _ => rfl) (fun _ _ => ind_nil)⟩) ?_
  refine z1 1 ⟨[(8, (.row (.top 700050) 36))], [(700050, .row 36 [] (List.map c_Point r1560))]⟩ (by kernel_rfl) ?_
  refine sem_seq (by kernel_rfl) ?_
  refine z3 1 ⟨[(8, (.row (.top 700050) 36)), (9, (vI 0))], [(700050, .row 36 [] (List.map c_Point r1560))]⟩ (by kernel_rfl) ?_
  refine sem_block (by kernel_rfl) ?_
  obtain ⟨x1676, hx1676, h⟩ := bindS h
  refine sem_loopS (fun (s1639 : Int) => ⟨[(8, (.row (.top 500000) 36)), (9, (vI s1639))], [(500000, .row 36 [] (List.map c_Point r1560))]⟩) (fun (x1676 : Unit ⊕ Unit) => match x1676 with | .inl j1677 => (.ret, ⟨[(4, (vB false))], []⟩) | .inr j1678 => (.exit 4, ⟨[], []⟩)) (sheetmetalref01_meets_l3 r1560) 0 x1676 (by kernel_rfl) (subR_prep [] [(700050, 500000)] (by kernel_rfl) rfl rfl (by kernel_rfl)) hx1676 ?_ ?_ ?_
  ·intro s1639 r h
   refine sem_seq (by kernel_rfl) ?_
   refine z7 (by kernel_rfl) ?_
   refine evs_run 2 (by kernel_rfl) ?_
   refine evs_op (st_len (c := c_Point) (l := r1560) (x := (.row (.top 500000) 36)) (by kernel_rfl) (by kernel_rfl)) ?_
   refine z1 1 ⟨[(8, (.row (.top 500000) 36)), (9, (vI s1639)), (57, (vB (decide (s1639 < (r1560.length : Int)))))], [(500000, .row 36 [] (List.map c_Point r1560))]⟩ (by kernel_rfl) ?_
   refine sem_cond (decide (s1639 < (r1560.length : Int))) (by kernel_rfl) (by kernel_rfl) (fun hb => ?_) (fun hb => ?_)
   ·replace h := iteT hb h
    refine z4 ⟨[(8, (.row (.top 500000) 36)), (9, (vI s1639))], [(500000, .row 36 [] (List.map c_Point r1560))]⟩ (by kernel_rfl) ?_
    refine sem_seq (by kernel_rfl) ?_
    refine sem_block (by kernel_rfl) ?_
    refine sem_seq (by kernel_rfl) ?_
    refine sem_drawN [] [] [] [] [] 13 (by kernel_rfl) (by kernel_rfl) (by kernel_rfl) ?_
    refine evd_run 2 (by kernel_rfl) ?_
    obtain ⟨x1673, hx1673, h⟩ := bindS h
    refine evd_val (by kernel_rfl) (st_idxO (c := c_Point) (l := r1560) (i := s1639) (kd := .i64) (kk := (.top 500000)) (e := 36) (sz := 4) (by kernel_rfl) (by kernel_rfl) hx1673 rfl) (by kernel_rfl) (by kernel_rfl) ?_
    refine evd_val (by kernel_rfl) (st_ldO (c := c_Point) (l := r1560) (i := (Int.toNat s1639)) (v := (.agg [(vI x1673.X.A), (vI x1673.X.B), (vI x1673.Y.A), (vI x1673.Y.B)])) (agg := true) (sz := 4) (kk := (.top 500000)) (e := 36) (off := 0) (J := []) (by kernel_rfl) (by kernel_rfl) (by kernel_rfl) ((idxS hx1673).2) (by kernel_rfl)) (by kernel_rfl) (by kernel_rfl) ?_
    refine evd_run 4 (by kernel_rfl) ?_
    refine evd_val (by kernel_rfl) (st_len (c := c_Point) (l := r1560) (x := (.row (.top 500000) 36)) (by kernel_rfl) (by kernel_rfl)) (by kernel_rfl) (by kernel_rfl) ?_
    obtain ⟨hb, h⟩ := iteN h
    refine evd_val (by kernel_rfl) (st_rem (a := (iadd s1639 1)) (b := (r1560.length : Int)) (kd := .i64) (by kernel_rfl) (bne_iff_ne.1 hb)) (by kernel_rfl) (by kernel_rfl) ?_
    obtain ⟨x1674, hx1674, h⟩ := bindS h
    refine evd_val (by kernel_rfl) (st_idxO (c := c_Point) (l := r1560) (i := (Int.tmod (iadd s1639 1) (r1560.length : Int))) (kd := .i64) (kk := (.top 500000)) (e := 36) (sz := 4) (by kernel_rfl) (by kernel_rfl) hx1674 rfl) (by kernel_rfl) (by kernel_rfl) ?_
    refine evd_val (by kernel_rfl) (st_ldO (c := c_Point) (l := r1560) (i := (Int.toNat (Int.tmod (iadd s1639 1) (r1560.length : Int)))) (v := (.agg [(vI x1674.X.A), (vI x1674.X.B), (vI x1674.Y.A), (vI x1674.Y.B)])) (agg := true) (sz := 4) (kk := (.top 500000)) (e := 36) (off := 0) (J := []) (by kernel_rfl) (by kernel_rfl) (by kernel_rfl) ((idxS hx1674).2) (by kernel_rfl)) (by kernel_rfl) (by kernel_rfl) ?_
    refine evd_run 1 (by kernel_rfl) ?_
    refine evd_end (by kernel_rfl) ?_
    obtain ⟨r1675, hr1675, h⟩ := bindS h
    refine evo_callP [] (by kernel_rfl) (W.sheetmetalref01_orient_ok hr1675) (by kernel_rfl) (.inl rfl) (by kernel_rfl) ?_
    refine evo_run 1 (by kernel_rfl) ?_
    refine evo_endS (by kernel_rfl) (fun τ hτ => ?_)
    refine th_normalS hτ ⟨[(8, (.row (.top 500000) 36)), (9, (vI s1639)), (74, (vB (decide (r1675 ≤ 0))))], [(500000, .row 36 [] (List.map c_Point r1560))]⟩ (here (by kernel_rfl)) ?_
    refine sem_cond (decide (r1675 ≤ 0)) (by kernel_rfl) (by kernel_rfl) (fun hb => ?_) (fun hb => ?_)
    ·replace h := iteT hb h
     refine z8 1 ⟨[(4, (vB false))], []⟩ (by kernel_rfl) (fun τ hτ => ?_)
     refine bl_ret ?_
     refine th_ret ?_
     obtain rfl := Option.some.inj h
     exact lk_outS hτ rfl (here (by kernel_rfl))
    ·replace h := iteF hb h
     refine sem_skipS (by kernel_rfl) (fun τ hτ => ?_)
     refine bl_normal ?_
     refine th_normalS hτ ⟨[(8, (.row (.top 500000) 36)), (9, (vI s1639))], [(500000, .row 36 [] (List.map c_Point r1560))]⟩ (here (by kernel_rfl)) ?_
     refine sem_region (by kernel_rfl) ?_
     refine z6 3 (by kernel_rfl) (fun τ hτ => ?_)
     obtain rfl := Option.some.inj h
     exact lk_nextS hτ (here (by kernel_rfl))
   ·replace h := iteF hb h
    refine sem_exitS 4 (by kernel_rfl) rfl (fun τ hτ => ?_)
    refine th_exit ?_
    obtain rfl := Option.some.inj h
    exact lk_outS hτ rfl (here (by kernel_rfl))
  ·intro x
   rcases x with _ | _ <;> rfl
  ·intro τ hτ
   rcases x1676 with j1677 | j1678
   ·refine bl_ret ?_
    refine th_ret ?_
    obtain rfl := Option.some.inj h
    exact rk_ret hτ [(4, (vB false))] (here (by kernel_rfl)) (by kernel_rfl)
   ·refine bl_hit (by kernel_rfl) ?_
    refine th_normalS hτ ⟨[], []⟩ (here (by kernel_rfl)) ?_
    refine z8 1 ⟨[(4, (vB true))], []⟩ (by kernel_rfl) (fun τ hτ => ?_)
    obtain rfl := Option.some.inj h
    exact rk_ret hτ [(4, (vB true))] (here (by kernel_rfl)) (by kernel_rfl)
theorem W.sheetmetalref01_Meets_ok {a : (List Point)} {b : (List Point)} {r : Bool × Int} (h : sheetmetalref01_Meets a b = some r) : PC G.P 52 [(.sl (List.map c_Point a)), (.sl (List.map c_Point b))] [] (.tup [(vB r.1), (vI r.2)]) [] := by
 refine pc_of G (fn := Try.f52) Try.func52 (by kernel_rfl) (by kernel_rfl) (by kernel_rfl) (by kernel_rfl) (by kernel_rfl) ?_
 refine sem_set ⟨[(0, (.sl (List.map c_Point a))), (1, (.sl (List.map c_Point b)))], []⟩ (by kernel_rfl) ?_
 refine z3 2 ⟨[(0, (.sl (List.map c_Point a))), (1, (.sl (List.map c_Point b)))], []⟩ (by kernel_rfl) ?_
 refine sem_seq (by kernel_rfl) ?_
 refine sem_seq (by kernel_rfl) ?_
 obtain ⟨j8, hj8, h⟩ := bindS h
 refine sem_regionC ⟨[(0, (.sl (List.map c_Point a))), (1, (.sl (List.map c_Point b))), (13, (vB j8))], []⟩ (by kernel_rfl) ?_ (fun τ hτ => ?_)
 ·replace h := hj8
  refine evs_run 1 (by kernel_rfl) ?_
  obtain ⟨r9, hr9, h⟩ := bindS h
  refine evs_callP [] (by kernel_rfl) (W.sheetmetalref01_pointsIn_ok hr9) (by kernel_rfl) (.inl rfl) (by kernel_rfl) ?_
  refine evs_run 2 (by kernel_rfl) ?_
  refine evs_split (r9 != 0) (fun b0 => ⟨[(0, (.sl (List.map c_Point a))), (1, (.sl (List.map c_Point b))), (9, (vB b0))], []⟩) (by kernel_rfl) (fun hb => ?_) (fun hb => ?_)
  ·replace h := iteT hb h
   refine z6 4 (by kernel_rfl) (fun τ hτ => ?_)
   obtain rfl := Option.some.inj h
   exact leafC hτ (here (by kernel_rfl))
  ·replace h := iteF hb h
   refine evs_run 1 (by kernel_rfl) ?_
   obtain ⟨r10, hr10, h⟩ := bindS h
   refine evs_callP [] (by kernel_rfl) (W.sheetmetalref01_pointsIn_ok hr10) (by kernel_rfl) (.inl rfl) (by kernel_rfl) ?_
   refine z6 2 (by kernel_rfl) (fun τ hτ => ?_)
   obtain rfl := Option.some.inj h
   exact leafC hτ (here (by kernel_rfl))
 refine th_normalS hτ ⟨[(0, (.sl (List.map c_Point a))), (1, (.sl (List.map c_Point b))), (13, (vB j8))], []⟩ (here (by kernel_rfl)) ?_
 refine sem_cond j8 (by kernel_rfl) (by kernel_rfl) (fun hb => ?_) (fun hb => ?_)
 ·replace h := iteT hb h
  refine z8 2 ⟨[(4, (vB false)), (5, (vI 1))], []⟩ (by kernel_rfl) (fun τ hτ => ?_)
  refine th_ret ?_
  obtain rfl := Option.some.inj h
  exact rk_ret hτ [(4, (vB false)), (5, (vI 1))] (here (by kernel_rfl)) (by kernel_rfl)
 ·replace h := iteF hb h
  refine z4 ⟨[(0, (.sl (List.map c_Point a))), (1, (.sl (List.map c_Point b)))], []⟩ (by kernel_rfl) ?_
  refine sem_seq (by kernel_rfl) ?_
  refine sem_seq (by kernel_rfl) ?_
  obtain ⟨j18, hj18, h⟩ := bindS h
  refine sem_regionC ⟨[(0, (.sl (List.map c_Point a))), (1, (.sl (List.map c_Point b))), (21, (vB j18))], []⟩ (by kernel_rfl) ?_ (fun τ hτ => ?_)
  ·replace h := hj18
   refine evs_run 1 (by kernel_rfl) ?_
   obtain ⟨r19, hr19, h⟩ := bindS h
   refine evs_callP [] (by kernel_rfl) (W.sheetmetalref01_allSmall_ok hr19) (by kernel_rfl) (.inl rfl) (by kernel_rfl) ?_
   refine evs_run 2 (by kernel_rfl) ?_
   refine evs_split r19 (fun b0 => ⟨[(0, (.sl (List.map c_Point a))), (1, (.sl (List.map c_Point b))), (17, (vB (!b0)))], []⟩) (by kernel_rfl) (fun hb => ?_) (fun hb => ?_)
   ·replace h := iteT hb h
    refine evs_run 1 (by kernel_rfl) ?_
    obtain ⟨r20, hr20, h⟩ := bindS h
    refine evs_callP [] (by kernel_rfl) (W.sheetmetalref01_allSmall_ok hr20) (by kernel_rfl) (.inl rfl) (by kernel_rfl) ?_
    refine z6 2 (by kernel_rfl) (fun τ hτ => ?_)
    obtain rfl := Option.some.inj h
    exact leafC hτ (here (by kernel_rfl))
   ·replace h := iteF hb h
    refine z6 4 (by kernel_rfl) (fun τ hτ => ?_)
    obtain rfl := Option.some.inj h
    exact leafC hτ (here (by kernel_rfl))
  refine th_normalS hτ ⟨[(0, (.sl (List.map c_Point a))), (1, (.sl (List.map c_Point b))), (21, (vB j18))], []⟩ (here (by kernel_rfl)) ?_
  refine sem_cond j18 (by kernel_rfl) (by kernel_rfl) (fun hb => ?_) (fun hb => ?_)
  ·replace h := iteT hb h
   refine z8 2 ⟨[(4, (vB false)), (5, (vI 4))], []⟩ (by kernel_rfl) (fun τ hτ => ?_)
   refine th_ret ?_
   obtain rfl := Option.some.inj h
   exact rk_ret hτ [(4, (vB false)), (5, (vI 4))] (here (by kernel_rfl)) (by kernel_rfl)
  ·replace h := iteF hb h
   refine z4 ⟨[(0, (.sl (List.map c_Point a))), (1, (.sl (List.map c_Point b)))], []⟩ (by kernel_rfl) ?_
   refine sem_seq (by kernel_rfl) ?_
   refine z7 (by kernel_rfl) ?_
   refine evs_run 1 (by kernel_rfl) ?_
   obtain ⟨r24, hr24, h⟩ := bindS h
   refine evs_callS [] [(0, 700050)] [] (by kernel_rfl) (W.sheetmetalref01_Wrap_ok hr24) (by kernel_rfl) (by kernel_rfl) (.inl rfl) ?_
   refine evs_op (st_len (c := c_Point) (l := r24) (x := (.row (.top 700050) 36)) (by kernel_rfl) (by kernel_rfl)) ?_
   refine z1 1 ⟨[(0, (.sl (List.map c_Point a))), (1, (.sl (List.map c_Point b))), (25, (vB (decide ((r24.length : Int) < 3))))], []⟩ (by kernel_rfl) ?_
   refine sem_cond (decide ((r24.length : Int) < 3)) (by kernel_rfl) (by kernel_rfl) (fun hb => ?_) (fun hb => ?_)
   ·replace h := iteT hb h
    refine z8 2 ⟨[(4, (vB false)), (5, (vI 6))], []⟩ (by kernel_rfl) (fun τ hτ => ?_)
    refine th_ret ?_
    obtain rfl := Option.some.inj h
    exact rk_ret hτ [(4, (vB false)), (5, (vI 6))] (here (by kernel_rfl)) (by kernel_rfl)
   ·replace h := iteF hb h
    refine z4 ⟨[(0, (.sl (List.map c_Point a))), (1, (.sl (List.map c_Point b)))], []⟩ (by kernel_rfl) ?_
    refine z7 (by kernel_rfl) ?_
    refine evs_run 2 (by kernel_rfl) ?_
    obtain ⟨r26, hr26, h⟩ := bindS h
    refine evs_callP [] (by kernel_rfl) (W.sheetmetalref01_meets_ok hr26) (by kernel_rfl) (.inl rfl) (by kernel_rfl) ?_
    refine z1 2 ⟨[(4, (vB r26)), (5, (vI 0))], []⟩ (by kernel_rfl) ?_
    refine sem_retS (by kernel_rfl) (fun τ hτ => ?_)
    obtain rfl := Option.some.inj h
    exact rk_ret hτ [(4, (vB r26)), (5, (vI 0))] (here (by kernel_rfl)) (by kernel_rfl)
theorem W.sheetmetallaw01_GeomMeets_ok {a : (List Point)} {b : (List Point)} {r : Bool} (h : sheetmetallaw01_GeomMeets a b = some r) : PC G.P 13 [(.sl (List.map c_Point a)), (.sl (List.map c_Point b))] [] (vB r) [] := by
 refine pc_of G (fn := Try.f13) Try.func13 (by kernel_rfl) (by kernel_rfl) (by kernel_rfl) (by kernel_rfl) (by kernel_rfl) ?_
 refine sem_set ⟨[(0, (.sl (List.map c_Point a))), (1, (.sl (List.map c_Point b)))], []⟩ (by kernel_rfl) ?_
 refine z3 1 ⟨[(0, (.sl (List.map c_Point a))), (1, (.sl (List.map c_Point b)))], []⟩ (by kernel_rfl) ?_
 refine sem_seq (by kernel_rfl) ?_
 refine sem_seq (by kernel_rfl) ?_
 obtain ⟨j10, hj10, h⟩ := bindS h
 refine sem_regionC ⟨[(0, (.sl (List.map c_Point a))), (1, (.sl (List.map c_Point b))), (14, (vB j10))], []⟩ (by kernel_rfl) ?_ (fun τ hτ => ?_)
 ·replace h := hj10
  refine evs_run 1 (by kernel_rfl) ?_
  obtain ⟨r11, hr11, h⟩ := bindS h
  refine evs_callP [] (by kernel_rfl) (W.sheetmetallaw01_long_ok hr11) (by kernel_rfl) (.inl rfl) (by kernel_rfl) ?_
  refine evs_run 1 (by kernel_rfl) ?_
  refine evs_split r11 (fun b0 => ⟨[(0, (.sl (List.map c_Point a))), (1, (.sl (List.map c_Point b))), (11, (vB b0))], []⟩) (by kernel_rfl) (fun hb => ?_) (fun hb => ?_)
  ·replace h := iteT hb h
   refine z6 3 (by kernel_rfl) (fun τ hτ => ?_)
   obtain rfl := Option.some.inj h
   exact leafC hτ (here (by kernel_rfl))
  ·replace h := iteF hb h
   refine evs_run 1 (by kernel_rfl) ?_
   obtain ⟨r12, hr12, h⟩ := bindS h
   refine evs_callP [] (by kernel_rfl) (W.sheetmetallaw01_long_ok hr12) (by kernel_rfl) (.inl rfl) (by kernel_rfl) ?_
   refine z6 1 (by kernel_rfl) (fun τ hτ => ?_)
   obtain rfl := Option.some.inj h
   exact leafC hτ (here (by kernel_rfl))
 refine th_normalS hτ ⟨[(0, (.sl (List.map c_Point a))), (1, (.sl (List.map c_Point b))), (14, (vB j10))], []⟩ (here (by kernel_rfl)) ?_
 refine sem_cond j10 (by kernel_rfl) (by kernel_rfl) (fun hb => ?_) (fun hb => ?_)
 ·replace h := iteT hb h
  refine z7 (by kernel_rfl) ?_
  obtain ⟨r14, hr14, h⟩ := bindS h
  refine evs_callP [] (by kernel_rfl) (W.sheetmetallaw01_known_ok hr14) (by kernel_rfl) (.inl rfl) (by kernel_rfl) ?_
  refine z1 1 ⟨[(4, (vB r14))], []⟩ (by kernel_rfl) ?_
  refine sem_retS (by kernel_rfl) (fun τ hτ => ?_)
  refine th_ret ?_
  obtain rfl := Option.some.inj h
  exact rk_ret hτ [(4, (vB r14))] (here (by kernel_rfl)) (by kernel_rfl)
 ·replace h := iteF hb h
  refine z4 ⟨[(0, (.sl (List.map c_Point a))), (1, (.sl (List.map c_Point b)))], []⟩ (by kernel_rfl) ?_
  refine z7 (by kernel_rfl) ?_
  refine evs_run 2 (by kernel_rfl) ?_
  obtain ⟨r16, hr16, h⟩ := bindS h
  refine evs_callP [] (by kernel_rfl) (W.geom_Meets_ok hr16) (by kernel_rfl) (.inl rfl) (by kernel_rfl) ?_
  refine z1 5 ⟨[(0, (.sl (List.map c_Point a))), (1, (.sl (List.map c_Point b))), (5, (vB r16.1)), (6, (vI r16.2))], []⟩ (by kernel_rfl) ?_
  refine z7 (by kernel_rfl) ?_
  refine evs_run 2 (by kernel_rfl) ?_
  obtain ⟨r18, hr18, h⟩ := bindS h
  refine evs_callP [] (by kernel_rfl) (W.sheetmetalref01_Meets_ok hr18) (by kernel_rfl) (.inl rfl) (by kernel_rfl) ?_
  refine z1 5 ⟨[(5, (vB r16.1)), (6, (vI r16.2)), (7, (vB r18.1)), (8, (vI r18.2))], []⟩ (by kernel_rfl) ?_
  refine sem_seq (by kernel_rfl) ?_
  obtain ⟨j20, hj20, h⟩ := bindS h
  refine sem_regionC ⟨[(4, (vB j20))], []⟩ (by kernel_rfl) ?_ (fun τ hτ => ?_)
  ·replace h := hj20
   refine evs_run 4 (by kernel_rfl) ?_
   refine evs_split (r16.1 == r18.1) (fun b0 => ⟨[(6, (vI r16.2)), (8, (vI r18.2)), (31, (vB b0))], []⟩) (by kernel_rfl) (fun hb => ?_) (fun hb => ?_)
   ·replace h := iteT hb h
    refine evs_run 5 (by kernel_rfl) ?_
    refine evs_split (r16.2 == r18.2) (fun b0 => ⟨[(36, (vB b0))], []⟩) (by kernel_rfl) (fun hb => ?_) (fun hb => ?_)
    ·replace h := iteT hb h
     obtain ⟨r21, hr21, h⟩ := bindS h
     refine evs_callP [] (by kernel_rfl) (W.sheetmetallaw01_known_ok hr21) (by kernel_rfl) (.inl rfl) (by kernel_rfl) ?_
     refine z6 2 (by kernel_rfl) (fun τ hτ => ?_)
     obtain rfl := Option.some.inj h
     exact leafC hτ (here (by kernel_rfl))
    ·replace h := iteF hb h
     refine z6 3 (by kernel_rfl) (fun τ hτ => ?_)
     obtain rfl := Option.some.inj h
     exact leafC hτ (here (by kernel_rfl))
   ·replace h := iteF hb h
    refine z6 8 (by kernel_rfl) (fun τ hτ => ?_)
    obtain rfl := Option.some.inj h
    exact leafC hτ (here (by kernel_rfl))
  refine th_normalS hτ ⟨[(4, (vB j20))], []⟩ (here (by kernel_rfl)) ?_
  refine sem_retS (by kernel_rfl) (fun τ hτ => ?_)
  obtain rfl := Option.some.inj h
  exact rk_ret hτ [(4, (vB j20))] (here (by kernel_rfl)) (by kernel_rfl)
end Go.Proofs.Ytiodkdpfkchkjaa
