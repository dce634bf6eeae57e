/- Each Go function does what its model says; written by a program out of the translation. -/
import Derived.Test.YtiodkdpfkchkjaaWI1
import Derived.Test.YtiodkdpfkchkjaaGeMI
set_option linter.unusedVariables false
set_option linter.unusedSimpArgs false
set_option linter.unusedSectionVars false
namespace Go.Proofs.Ytiodkdpfkchkjaa
open Go Go.VI Go.SM Go.Proofs
set_option maxRecDepth 100000
set_option maxHeartbeats 4000000
theorem W.geom_half_ok {l : (List Point)} {r : (List Point)} (h : geom_half l = some r) : PC G.P 107 [(.sl (List.map c_Point l))] [] (.row (.top 0) 36) [(0, .row 36 [] (List.map c_Point r))] := by
 refine pc_of G (fn := Try.f107) Try.func107 (by kernel_rfl) (by kernel_rfl) (by kernel_rfl) (by kernel_rfl) (by kernel_rfl) ?_
 refine sem_set ⟨[(0, (.sl (List.map c_Point l)))], []⟩ (by kernel_rfl) ?_
 refine z3 1 ⟨[(0, (.sl (List.map c_Point l)))], []⟩ (by kernel_rfl) ?_
 refine z3 1 ⟨[(0, (.sl (List.map c_Point l))), (3, (.row (.top 3) 36))], [(3, .row 36 [] (List.map c_Point []))]⟩ (by kernel_rfl) ?_
 refine sem_seq (by kernel_rfl) ?_
 refine z7 (by kernel_rfl) ?_
 refine evs_run 1 (by kernel_rfl) ?_
 refine evs_op (st_len (c := c_Point) (l := l) (x := (.sl (List.map c_Point l))) (by kernel_rfl) (by kernel_rfl)) ?_
 refine z1 1 ⟨[(3, (.row (.top 3) 36)), (6, (.sl (List.map c_Point l))), (7, (vI (l.length : Int))), (8, (vI 0))], [(3, .row 36 [] (List.map c_Point []))]⟩ (by kernel_rfl) ?_
 refine sem_block (by kernel_rfl) ?_
 obtain ⟨x1710, hx1710, h⟩ := bindS h
 refine sem_loopS (fun (s1141 : Int × (List Point)) => ⟨[(3, (.row (.top 500000) 36)), (6, (.sl (List.map c_Point l))), (7, (vI (l.length : Int))), (8, (vI s1141.1))], [(500000, .row 36 [] (List.map c_Point s1141.2))]⟩) (fun (x1710 : (List Point)) => (.exit 0, ⟨[(3, (.row (.top 500000) 36))], [(500000, .row 36 [] (List.map c_Point x1710))]⟩)) (geom_half_l2 l) (0, []) x1710 (by kernel_rfl) (subR_prep [] [(3, 500000)] (by kernel_rfl) rfl rfl (by kernel_rfl)) hx1710 ?_ ?_ ?_
 ·intro s1141 r h
  refine z3 1 ⟨[(3, (.row (.top 500000) 36)), (6, (.sl (List.map c_Point l))), (7, (vI (l.length : Int))), (8, (vI s1141.1)), (9, (vB (decide (s1141.1 < (l.length : Int)))))], [(500000, .row 36 [] (List.map c_Point s1141.2))]⟩ (by kernel_rfl) ?_
  refine sem_seq (by kernel_rfl) ?_
  refine sem_cond (decide (s1141.1 < (l.length : Int))) (by kernel_rfl) (by kernel_rfl) (fun hb => ?_) (fun hb => ?_)
  ·replace h := iteT hb h
   refine z4 ⟨[(3, (.row (.top 500000) 36)), (6, (.sl (List.map c_Point l))), (7, (vI (l.length : Int))), (8, (vI s1141.1))], [(500000, .row 36 [] (List.map c_Point s1141.2))]⟩ (by kernel_rfl) ?_
   refine sem_seq (by kernel_rfl) ?_
   refine sem_block (by kernel_rfl) ?_
   refine z7 (by kernel_rfl) ?_
   obtain ⟨x1569, hx1569, h⟩ := bindS h
   refine evs_op (st_idx (c := c_Point) (l := l) (i := s1141.1) (kd := .i64) (sz := 4) (by kernel_rfl) hx1569 rfl) ?_
   refine z1 3 ⟨[(3, (.row (.top 500000) 36)), (5, (.ptr 5 0)), (6, (.sl (List.map c_Point l))), (7, (vI (l.length : Int))), (8, (vI s1141.1))], [(5, .box [(vI x1569.X.A), (vI x1569.X.B), (vI x1569.Y.A), (vI x1569.Y.B)]), (500000, .row 36 [] (List.map c_Point s1141.2))]⟩ (by kernel_rfl) ?_
   refine sem_seq (by kernel_rfl) ?_
   refine sem_block (by kernel_rfl) ?_
   obtain ⟨x1707, hx1707, h⟩ := bindS h
   refine sem_loopS (fun (s1662 : (List Point)) => ⟨[(3, (.row (.top 500000) 36)), (5, (.ptr 500001 0)), (6, (.sl (List.map c_Point l))), (7, (vI (l.length : Int))), (8, (vI s1141.1))], [(500000, .row 36 [] (List.map c_Point s1662)), (500001, .box [(vI x1569.X.A), (vI x1569.X.B), (vI x1569.Y.A), (vI x1569.Y.B)])]⟩) (fun (x1707 : (List Point)) => (.exit 2, ⟨[(3, (.row (.top 500000) 36)), (5, (.ptr 500001 0)), (6, (.sl (List.map c_Point l))), (7, (vI (l.length : Int))), (8, (vI s1141.1))], [(500000, .row 36 [] (List.map c_Point x1707)), (500001, .box [(vI x1569.X.A), (vI x1569.X.B), (vI x1569.Y.A), (vI x1569.Y.B)])]⟩)) (geom_half_l1 x1569) s1141.2 x1707 (by kernel_rfl) (subR_prep [] [(5, 500001), (500000, 500000)] (by kernel_rfl) rfl rfl (by kernel_rfl)) hx1707 ?_ ?_ ?_
   ·intro s1662 r h
    refine sem_seq (by kernel_rfl) ?_
    refine sem_seq (by kernel_rfl) ?_
    obtain ⟨j1701, hj1701, h⟩ := bindS h
    refine sem_drawP ⟨[(3, (.row (.top 500000) 36)), (5, (.ptr 500001 0)), (6, (.sl (List.map c_Point l))), (7, (vI (l.length : Int))), (8, (vI s1141.1)), (31, (vB j1701))], [(500000, .row 36 [] (List.map c_Point s1662)), (500001, .box [(vI x1569.X.A), (vI x1569.X.B), (vI x1569.Y.A), (vI x1569.Y.B)])]⟩ [] [] [] [] [] 17 (by kernel_rfl) (by kernel_rfl) (by kernel_rfl) ?_ (fun τ hτ => ?_)
    ·replace h := hj1701
     refine evd_run 1 (by kernel_rfl) ?_
     refine evd_val (by kernel_rfl) (st_len (c := c_Point) (l := s1662) (x := (.row (.top 500000) 36)) (by kernel_rfl) (by kernel_rfl)) (by kernel_rfl) (by kernel_rfl) ?_
     refine evd_run 2 (by kernel_rfl) ?_
     refine evd_split (decide ((s1662.length : Int) > 1)) (fun b0 => ⟨[(15, (vB b0)), (14, (vB b0)), (13, (vI (s1662.length : Int))), (12, (.row (.top 500000) 36)), (3, (.row (.top 500000) 36)), (5, (.ptr 500001 0)), (6, (.sl (List.map c_Point l))), (7, (vI (l.length : Int))), (8, (vI s1141.1))], [(500000, .row 36 [] (List.map c_Point s1662)), (500001, .box [(vI x1569.X.A), (vI x1569.X.B), (vI x1569.Y.A), (vI x1569.Y.B)])]⟩) (by kernel_rfl) (fun hb => ?_) (fun hb => ?_)
     ·replace h := iteT hb h
      refine evd_run 2 (by kernel_rfl) ?_
      refine evd_val (by kernel_rfl) (st_len (c := c_Point) (l := s1662) (x := (.row (.top 500000) 36)) (by kernel_rfl) (by kernel_rfl)) (by kernel_rfl) (by kernel_rfl) ?_
      refine evd_run 1 (by kernel_rfl) ?_
      obtain ⟨x1702, hx1702, h⟩ := bindS h
      refine evd_val (by kernel_rfl) (st_idxO (c := c_Point) (l := s1662) (i := (isub (s1662.length : Int) 2)) (kd := .i64) (kk := (.top 500000)) (e := 36) (sz := 4) (by kernel_rfl) (by kernel_rfl) hx1702 rfl) (by kernel_rfl) (by kernel_rfl) ?_
      refine evd_val (by kernel_rfl) (st_ldO (c := c_Point) (l := s1662) (i := (Int.toNat (isub (s1662.length : Int) 2))) (v := (.agg [(vI x1702.X.A), (vI x1702.X.B), (vI x1702.Y.A), (vI x1702.Y.B)])) (agg := true) (sz := 4) (kk := (.top 500000)) (e := 36) (off := 0) (J := []) (by kernel_rfl) (by kernel_rfl) (by kernel_rfl) ((idxS hx1702).2) (by kernel_rfl)) (by kernel_rfl) (by kernel_rfl) ?_
      refine evd_run 2 (by kernel_rfl) ?_
      refine evd_val (by kernel_rfl) (st_len (c := c_Point) (l := s1662) (x := (.row (.top 500000) 36)) (by kernel_rfl) (by kernel_rfl)) (by kernel_rfl) (by kernel_rfl) ?_
      refine evd_run 1 (by kernel_rfl) ?_
      obtain ⟨x1703, hx1703, h⟩ := bindS h
      refine evd_val (by kernel_rfl) (st_idxO (c := c_Point) (l := s1662) (i := (isub (s1662.length : Int) 1)) (kd := .i64) (kk := (.top 500000)) (e := 36) (sz := 4) (by kernel_rfl) (by kernel_rfl) hx1703 rfl) (by kernel_rfl) (by kernel_rfl) ?_
      refine evd_val (by kernel_rfl) (st_ldO (c := c_Point) (l := s1662) (i := (Int.toNat (isub (s1662.length : Int) 1))) (v := (.agg [(vI x1703.X.A), (vI x1703.X.B), (vI x1703.Y.A), (vI x1703.Y.B)])) (agg := true) (sz := 4) (kk := (.top 500000)) (e := 36) (off := 0) (J := []) (by kernel_rfl) (by kernel_rfl) (by kernel_rfl) ((idxS hx1703).2) (by kernel_rfl)) (by kernel_rfl) (by kernel_rfl) ?_
      refine evd_run 1 (by kernel_rfl) ?_
      refine evd_end (by kernel_rfl) ?_
      obtain ⟨r1704, hr1704, h⟩ := bindS h
      refine evo_callP [] (by kernel_rfl) (W.geom_orient_ok hr1704) (by kernel_rfl) (.inl rfl) (by kernel_rfl) ?_
      refine evo_run 2 (by kernel_rfl) ?_
      refine evo_endS (by kernel_rfl) (fun τ hτ => ?_)
      obtain rfl := Option.some.inj h
      exact leafC hτ (here (by kernel_rfl))
     ·replace h := iteF hb h
      refine evd_run 13 (by kernel_rfl) ?_
      refine evd_end (by kernel_rfl) ?_
      refine evo_run 3 (by kernel_rfl) ?_
      refine evo_endS (by kernel_rfl) (fun τ hτ => ?_)
      obtain rfl := Option.some.inj h
      exact leafC hτ (here (by kernel_rfl))
    refine th_normalS hτ ⟨[(3, (.row (.top 500000) 36)), (5, (.ptr 500001 0)), (6, (.sl (List.map c_Point l))), (7, (vI (l.length : Int))), (8, (vI s1141.1)), (31, (vB j1701))], [(500000, .row 36 [] (List.map c_Point s1662)), (500001, .box [(vI x1569.X.A), (vI x1569.X.B), (vI x1569.Y.A), (vI x1569.Y.B)])]⟩ (here (by kernel_rfl)) ?_
    refine sem_cond j1701 (by kernel_rfl) (by kernel_rfl) (fun hb => ?_) (fun hb => ?_)
    ·replace h := iteT hb h
     refine z4 ⟨[(3, (.row (.top 500000) 36)), (5, (.ptr 500001 0)), (6, (.sl (List.map c_Point l))), (7, (vI (l.length : Int))), (8, (vI s1141.1))], [(500000, .row 36 [] (List.map c_Point s1662)), (500001, .box [(vI x1569.X.A), (vI x1569.X.B), (vI x1569.Y.A), (vI x1569.Y.B)])]⟩ (by kernel_rfl) ?_
     refine sem_block (by kernel_rfl) ?_
     refine sem_region (by kernel_rfl) ?_
     refine evs_run 2 (by kernel_rfl) ?_
     refine evs_op (st_len (c := c_Point) (l := s1662) (x := (.row (.top 500000) 36)) (by kernel_rfl) (by kernel_rfl)) ?_
     refine evs_run 1 (by kernel_rfl) ?_
     obtain ⟨l1706, hl1706, h⟩ := bindS h
     refine evs_at (at_cut (J := []) (c := c_Point) (l := s1662) (e := 36) (g := 500000) (hi := (isub (s1662.length : Int) 1)) (k2 := .i64) (by kernel_rfl) (by kernel_rfl) rfl hl1706) ?_
     refine z6 1 (by kernel_rfl) (fun τ hτ => ?_)
     refine bl_normal ?_
     obtain rfl := Option.some.inj h
     exact lk_nextS hτ (here (by kernel_rfl))
    ·replace h := iteF hb h
     refine sem_exitS 2 (by kernel_rfl) rfl (fun τ hτ => ?_)
     refine th_exit ?_
     obtain rfl := Option.some.inj h
     exact lk_outS hτ rfl (here (by kernel_rfl))
   ·intro x
    rfl
   ·intro τ hτ
    refine bl_hit (by kernel_rfl) ?_
    refine th_normalS hτ ⟨[(3, (.row (.top 500000) 36)), (5, (.ptr 500001 0)), (6, (.sl (List.map c_Point l))), (7, (vI (l.length : Int))), (8, (vI s1141.1))], [(500000, .row 36 [] (List.map c_Point x1707)), (500001, .box [(vI x1569.X.A), (vI x1569.X.B), (vI x1569.Y.A), (vI x1569.Y.B)])]⟩ (here (by kernel_rfl)) ?_
    refine sem_region (by kernel_rfl) ?_
    refine evs_run 3 (by kernel_rfl) ?_
    obtain ⟨l1709, hl1709, h⟩ := bindS h
    refine evs_op (st_app (c := c_Point) (l := x1707) (l2 := [x1569]) (x := (.sl (List.map c_Point [x1569]))) (g := 500000) (e := 36) (sz := 4) (d := 40) (by kernel_rfl) (by kernel_rfl) (by kernel_rfl) (by kernel_rfl) (fun _ => rfl) rfl hl1709) ?_
    refine z6 1 (by kernel_rfl) (fun τ hτ => ?_)
    refine bl_normal ?_
    refine th_normalS hτ ⟨[(3, (.row (.top 500000) 36)), (6, (.sl (List.map c_Point l))), (7, (vI (l.length : Int))), (8, (vI s1141.1))], [(500000, .row 36 [] (List.map c_Point l1709))]⟩ (here (by kernel_rfl)) ?_
    refine sem_region (by kernel_rfl) ?_
    refine z6 2 (by kernel_rfl) (fun τ hτ => ?_)
    obtain rfl := Option.some.inj h
    exact lk_nextS hτ (here (by kernel_rfl))
  ·replace h := iteF hb h
   refine sem_exitS 0 (by kernel_rfl) rfl (fun τ hτ => ?_)
   refine th_exit ?_
   obtain rfl := Option.some.inj h
   exact lk_outS hτ rfl (here (by kernel_rfl))
 ·intro x
  rfl
 ·intro τ hτ
  refine bl_hit (by kernel_rfl) ?_
  refine th_normalS hτ ⟨[(3, (.row (.top 500000) 36))], [(500000, .row 36 [] (List.map c_Point x1710))]⟩ (here (by kernel_rfl)) ?_
  refine z8 2 ⟨[(2, (.row (.top 500000) 36))], [(500000, .row 36 [] (List.map c_Point x1710))]⟩ (by kernel_rfl) (fun τ hτ => ?_)
  obtain rfl := Option.some.inj h
  exact rk_ret hτ [(2, (.row (.top 0) 36))] (subR_prep [] [(500000, 0)] (by kernel_rfl) rfl rfl (by kernel_rfl)) (by kernel_rfl)
theorem W.slices_Reverse_Lapi_Point_api_Point_ok {h0 : (List Point)} {r : (List Point)} (h : slices_Reverse_Lapi_Point_api_Point h0 = some r) : PC G.P 108 [(.row (.top 1000000) 36)] [(1000000, .row 36 [] (List.map c_Point h0))] (.tup []) [(1000000, .row 36 [] (List.map c_Point r))] := by
 refine pc_of G (fn := Try.f108) Try.func108 (by kernel_rfl) (by kernel_rfl) (by kernel_rfl) (by kernel_rfl) (by kernel_rfl) ?_
 refine sem_set ⟨[(0, (.row (.top 1000000) 36))], [(1000000, .row 36 [] (List.map c_Point h0))]⟩ (by kernel_rfl) ?_
 refine z7 (by kernel_rfl) ?_
 refine evs_run 1 (by kernel_rfl) ?_
 refine evs_op (st_len (c := c_Point) (l := h0) (x := (.row (.top 1000000) 36)) (by kernel_rfl) (by kernel_rfl)) ?_
 refine z1 3 ⟨[(0, (.row (.top 1000000) 36)), (2, (vI 0)), (3, (vI (isub (h0.length : Int) 1)))], [(1000000, .row 36 [] (List.map c_Point h0))]⟩ (by kernel_rfl) ?_
 refine sem_block (by kernel_rfl) ?_
 obtain ⟨x75, hx75, h⟩ := bindS h
 refine sem_loopS (fun (s26 : Int × Int × (List Point)) => ⟨[(0, (.row (.top 1000000) 36)), (2, (vI s26.1)), (3, (vI s26.2.1))], [(1000000, .row 36 [] (List.map c_Point s26.2.2))]⟩) (fun (x75 : (List Point)) => (.exit 0, ⟨[], [(1000000, .row 36 [] (List.map c_Point x75))]⟩)) (slices_Reverse_Lapi_Point_api_Point_l1) (0, (isub (h0.length : Int) 1), h0) x75 (by kernel_rfl) (here (by kernel_rfl)) hx75 ?_ ?_ ?_
 ·intro s26 r h
  refine sem_seq (by kernel_rfl) ?_
  refine z3 3 ⟨[(0, (.row (.top 1000000) 36)), (2, (vI s26.1)), (3, (vI s26.2.1)), (9, (vB (decide (s26.1 < s26.2.1))))], [(1000000, .row 36 [] (List.map c_Point s26.2.2))]⟩ (by kernel_rfl) ?_
  refine sem_cond (decide (s26.1 < s26.2.1)) (by kernel_rfl) (by kernel_rfl) (fun hb => ?_) (fun hb => ?_)
  ·replace h := iteT hb h
   refine z4 ⟨[(0, (.row (.top 1000000) 36)), (2, (vI s26.1)), (3, (vI s26.2.1))], [(1000000, .row 36 [] (List.map c_Point s26.2.2))]⟩ (by kernel_rfl) ?_
   refine sem_seq (by kernel_rfl) ?_
   refine sem_block (by kernel_rfl) ?_
   refine sem_drawN [(13, [1000000])] [] [] [(2, [1000000]), (3, [1000000])] [] 14 (by kernel_rfl) (by kernel_rfl) (by kernel_rfl) ?_
   refine evd_run 6 (by kernel_rfl) ?_
   obtain ⟨x71, hx71, h⟩ := bindS h
   refine evd_val (by kernel_rfl) (st_idxO (c := c_Point) (l := s26.2.2) (i := s26.2.1) (kd := .i64) (kk := (.top 1000000)) (e := 36) (sz := 4) (by kernel_rfl) (by kernel_rfl) hx71 rfl) (by kernel_rfl) (by kernel_rfl) ?_
   refine evd_val (by kernel_rfl) (st_ldO (c := c_Point) (l := s26.2.2) (i := (Int.toNat s26.2.1)) (v := (.agg [(vI x71.X.A), (vI x71.X.B), (vI x71.Y.A), (vI x71.Y.B)])) (agg := true) (sz := 4) (kk := (.top 1000000)) (e := 36) (off := 0) (J := []) (by kernel_rfl) (by kernel_rfl) (by kernel_rfl) ((idxS hx71).2) (by kernel_rfl)) (by kernel_rfl) (by kernel_rfl) ?_
   refine evd_run 2 (by kernel_rfl) ?_
   obtain ⟨x72, hx72, h⟩ := bindS h
   refine evd_val (by kernel_rfl) (st_idxO (c := c_Point) (l := s26.2.2) (i := s26.1) (kd := .i64) (kk := (.top 1000000)) (e := 36) (sz := 4) (by kernel_rfl) (by kernel_rfl) hx72 rfl) (by kernel_rfl) (by kernel_rfl) ?_
   refine evd_val (by kernel_rfl) (st_ldO (c := c_Point) (l := s26.2.2) (i := (Int.toNat s26.1)) (v := (.agg [(vI x72.X.A), (vI x72.X.B), (vI x72.Y.A), (vI x72.Y.B)])) (agg := true) (sz := 4) (kk := (.top 1000000)) (e := 36) (off := 0) (J := []) (by kernel_rfl) (by kernel_rfl) (by kernel_rfl) ((idxS hx72).2) (by kernel_rfl)) (by kernel_rfl) (by kernel_rfl) ?_
   obtain ⟨x73, hx73, h⟩ := bindS h
   refine evd_val (by kernel_rfl) (st_idxO (c := c_Point) (l := s26.2.2) (i := s26.1) (kd := .i64) (kk := (.top 1000000)) (e := 36) (sz := 4) (by kernel_rfl) (by kernel_rfl) hx73 rfl) (by kernel_rfl) (by kernel_rfl) ?_
   refine evd_set (by kernel_rfl) (st_stO (c := c_Point) (l := s26.2.2) (i := (Int.toNat s26.1)) (x := x73) (x' := x71) (v := (.agg [(vI x71.X.A), (vI x71.X.B), (vI x71.Y.A), (vI x71.Y.B)])) (agg := true) (sz := 4) (kk := (.top 1000000)) (e := 36) (off := 0) (J := []) (o := .row 36 [] (List.map c_Point (List.set s26.2.2 (Int.toNat s26.1) x71))) (by kernel_rfl) (by kernel_rfl) (by kernel_rfl) ((idxS hx73).2) (by kernel_rfl) (by kernel_rfl) (by kernel_rfl)) (by kernel_rfl) (by kernel_rfl) (by kernel_rfl) ?_
   refine evd_end (by kernel_rfl) ?_
   obtain ⟨x74, hx74, h⟩ := bindS h
   refine evo_op (st_idxO (c := c_Point) (l := (List.set s26.2.2 (Int.toNat s26.1) x71)) (i := s26.2.1) (kd := .i64) (kk := (.top 1000000)) (e := 36) (sz := 4) (by kernel_rfl) (by kernel_rfl) hx74 rfl) ?_
   refine evo_op (st_stO (c := c_Point) (l := (List.set s26.2.2 (Int.toNat s26.1) x71)) (i := (Int.toNat s26.2.1)) (x := x74) (x' := x72) (v := (.agg [(vI x72.X.A), (vI x72.X.B), (vI x72.Y.A), (vI x72.Y.B)])) (agg := true) (sz := 4) (kk := (.top 1000000)) (e := 36) (off := 0) (J := []) (o := .row 36 [] (List.map c_Point (List.set (List.set s26.2.2 (Int.toNat s26.1) x71) (Int.toNat s26.2.1) x72))) (by kernel_rfl) (by kernel_rfl) (by kernel_rfl) ((idxS hx74).2) (by kernel_rfl) (by kernel_rfl) (by kernel_rfl)) ?_
   refine evo_endS (by kernel_rfl) (fun τ hτ => ?_)
   refine bl_normal ?_
   refine th_normalS hτ ⟨[(0, (.row (.top 1000000) 36)), (2, (vI s26.1)), (3, (vI s26.2.1))], [(1000000, .row 36 [] (List.map c_Point (List.set (List.set s26.2.2 (Int.toNat s26.1) x71) (Int.toNat s26.2.1) x72)))]⟩ (here (by kernel_rfl)) ?_
   refine sem_region (by kernel_rfl) ?_
   refine z6 6 (by kernel_rfl) (fun τ hτ => ?_)
   obtain rfl := Option.some.inj h
   exact lk_nextS hτ (here (by kernel_rfl))
  ·replace h := iteF hb h
   refine sem_exitS 0 (by kernel_rfl) rfl (fun τ hτ => ?_)
   refine th_exit ?_
   obtain rfl := Option.some.inj h
   exact lk_outS hτ rfl (here (by kernel_rfl))
 ·intro x
  rfl
 ·intro τ hτ
  refine bl_hit (by kernel_rfl) ?_
  obtain rfl := Option.some.inj h
  exact rk_normal hτ [] (here (by kernel_rfl)) (by kernel_rfl)
theorem W.geom_hull_ok {l : (List Point)} {r : (List Point)} (h : geom_hull l = some r) : PC G.P 78 [(.sl (List.map c_Point l))] [] (.row (.top 0) 36) [(0, .row 36 [] (List.map c_Point r))] := by
 refine pc_of G (fn := Try.f78) Try.func78 (by kernel_rfl) (by kernel_rfl) (by kernel_rfl) (by kernel_rfl) (by kernel_rfl) ?_
 refine sem_set ⟨[(0, (.sl (List.map c_Point l)))], []⟩ (by kernel_rfl) ?_
 refine z3 1 ⟨[(0, (.sl (List.map c_Point l)))], []⟩ (by kernel_rfl) ?_
 refine z7 (by kernel_rfl) ?_
 refine evs_run 1 (by kernel_rfl) ?_
 obtain ⟨r2, hr2, h⟩ := bindS h
 refine evs_callS [] [(0, 700050)] [] (by kernel_rfl) (W.geom_sorted_api_Point__geom_comparePoints_ok hr2) (by kernel_rfl) (by kernel_rfl) (.inl rfl) ?_
 refine z1 1 ⟨[(0, (.row (.top 700050) 36))], [(700050, .row 36 [] (List.map c_Point r2))]⟩ (by kernel_rfl) ?_
 refine sem_seq (by kernel_rfl) ?_
 refine z7 (by kernel_rfl) ?_
 refine evs_run 1 (by kernel_rfl) ?_
 refine evs_op (st_len (c := c_Point) (l := r2) (x := (.row (.top 700050) 36)) (by kernel_rfl) (by kernel_rfl)) ?_
 refine z1 1 ⟨[(0, (.row (.top 700050) 36)), (9, (vB (decide ((r2.length : Int) < 3))))], [(700050, .row 36 [] (List.map c_Point r2))]⟩ (by kernel_rfl) ?_
 refine sem_cond (decide ((r2.length : Int) < 3)) (by kernel_rfl) (by kernel_rfl) (fun hb => ?_) (fun hb => ?_)
 ·replace h := iteT hb h
  refine z8 2 ⟨[(2, (.row (.top 700050) 36))], [(700050, .row 36 [] (List.map c_Point r2))]⟩ (by kernel_rfl) (fun τ hτ => ?_)
  refine th_ret ?_
  obtain rfl := Option.some.inj h
  exact rk_ret hτ [(2, (.row (.top 0) 36))] (subR_prep [] [(700050, 0)] (by kernel_rfl) rfl rfl (by kernel_rfl)) (by kernel_rfl)
 ·replace h := iteF hb h
  refine z4 ⟨[(0, (.row (.top 700050) 36))], [(700050, .row 36 [] (List.map c_Point r2))]⟩ (by kernel_rfl) ?_
  refine z7 (by kernel_rfl) ?_
  refine evs_run 1 (by kernel_rfl) ?_
  obtain ⟨r4, hr4, h⟩ := bindS h
  refine evs_callS [] [(0, 700051)] [700050] (by kernel_rfl) (W.geom_half_ok hr4) (by kernel_rfl) (by kernel_rfl) (.inr ⟨rfl, fun _ _ => ind_cons (ind_row fun _ => rfl) (fun _ _ => ind_nil)⟩) ?_
  refine z1 1 ⟨[(0, (.row (.top 700050) 36)), (3, (.row (.top 700051) 36))], [(700050, .row 36 [] (List.map c_Point r2)), (700051, .row 36 [] (List.map c_Point r4))]⟩ (by kernel_rfl) ?_
  refine z7 (by kernel_rfl) ?_
  refine evs_run 1 (by kernel_rfl) ?_
  obtain ⟨r6, hr6, h⟩ := bindS h
  refine evs_callS [(1000000, 700050)] [] [] (by kernel_rfl) (W.slices_Reverse_Lapi_Point_api_Point_ok hr6) (by kernel_rfl) (by kernel_rfl) (.inl rfl) ?_
  refine evs_endS (by kernel_rfl) (fun τ hτ => ?_)
  refine th_normalS hτ ⟨[(0, (.row (.top 700050) 36)), (3, (.row (.top 700051) 36))], [(700050, .row 36 [] (List.map c_Point r6)), (700051, .row 36 [] (List.map c_Point r4))]⟩ (here (by kernel_rfl)) ?_
  refine z7 (by kernel_rfl) ?_
  refine evs_run 1 (by kernel_rfl) ?_
  obtain ⟨r8, hr8, h⟩ := bindS h
  refine evs_callS [] [(0, 700052)] [700050] (by kernel_rfl) (W.geom_half_ok hr8) (by kernel_rfl) (by kernel_rfl) (.inr ⟨rfl, fun _ _ => ind_cons (ind_row fun _ => rfl) (fun _ _ => ind_nil)⟩) ?_
  refine z1 1 ⟨[(3, (.row (.top 700051) 36)), (4, (.row (.top 700052) 36))], [(700051, .row 36 [] (List.map c_Point r4)), (700052, .row 36 [] (List.map c_Point r8))]⟩ (by kernel_rfl) ?_
  refine sem_seq (by kernel_rfl) ?_
  refine sem_prep [.frz 700052] (by kernel_rfl) ?_
  refine sem_draw [(4, [700051, 600004])] [(4, [600004])] [] [(5, [700051, 600004]), (6, [700051, 600004]), (7, [700051, 600004]), (8, [700051, 600004]), (9, [700051, 600004])] [(0, [600004]), (1, [600004]), (2, [600004]), (3, [600004]), (5, [600004]), (6, [600004]), (7, [600004]), (8, [600004]), (9, [600004])] 10 (by kernel_rfl) (by kernel_rfl) [600004] (by kernel_rfl) (by kernel_rfl) ?_
  refine evd_run 2 (by kernel_rfl) ?_
  refine evd_val (by kernel_rfl) (st_len (c := c_Point) (l := r4) (x := (.row (.top 700051) 36)) (by kernel_rfl) (by kernel_rfl)) (by kernel_rfl) (by kernel_rfl) ?_
  refine evd_run 1 (by kernel_rfl) ?_
  obtain ⟨l16, hl16, h⟩ := bindS h
  refine evd_cut (J := []) (c := c_Point) (l := r4) (e := 36) (g := 700051) (g2 := 600004) (hi := (isub (r4.length : Int) 1)) (k2 := .i64) (by kernel_rfl) (by kernel_rfl) (by kernel_rfl) hl16 (by kernel_rfl) (by kernel_rfl) (by kernel_rfl) (by kernel_rfl) (by kernel_rfl) ?_
  refine evd_run 2 (by kernel_rfl) ?_
  refine evd_val (by kernel_rfl) (st_len (c := c_Point) (l := r8) (x := (.sl (List.map c_Point r8))) (by kernel_rfl) (by kernel_rfl)) (by kernel_rfl) (by kernel_rfl) ?_
  refine evd_run 1 (by kernel_rfl) ?_
  obtain ⟨l17, hl17, h⟩ := bindS h
  refine evd_val (by kernel_rfl) (st_slH (c := c_Point) (l := r8) (sz := 4) (hi := (isub (r8.length : Int) 1)) (k2 := .i64) (by kernel_rfl) hl17) (by kernel_rfl) (by kernel_rfl) ?_
  refine evd_end (by kernel_rfl) ?_
  obtain ⟨l18, hl18, h⟩ := bindS h
  refine evo_op (st_app (c := c_Point) (l := l16) (l2 := l17) (x := (.sl (List.map c_Point l17))) (g := 600004) (e := 36) (sz := 4) (d := 27) (by kernel_rfl) (by kernel_rfl) (by kernel_rfl) (by kernel_rfl) (fun _ => rfl) rfl hl18) ?_
  refine evo_run 1 (by kernel_rfl) ?_
  refine evo_endS (by kernel_rfl) (fun τ hτ => ?_)
  refine th_normalS hτ ⟨[(2, (.row (.top 600004) 36))], [(600004, .row 36 [] (List.map c_Point l18))]⟩ (here (by kernel_rfl)) ?_
  refine sem_retS (by kernel_rfl) (fun τ hτ => ?_)
  obtain rfl := Option.some.inj h
  exact rk_ret hτ [(2, (.row (.top 0) 36))] (subR_prep [] [(600004, 0)] (by kernel_rfl) rfl rfl (by kernel_rfl)) (by kernel_rfl)
theorem W.geom_Hull_ok {l : (List Point)} {r : (List Point) × Int} (h : geom_Hull l = some r) : PC G.P 38 [(.sl (List.map c_Point l))] [] (.tup [(.row (.top 0) 36), (vI r.2)]) [(0, .row 36 [] (List.map c_Point r.1))] := by
 refine pc_of G (fn := Try.f38) Try.func38 (by kernel_rfl) (by kernel_rfl) (by kernel_rfl) (by kernel_rfl) (by kernel_rfl) ?_
 refine sem_set ⟨[(0, (.sl (List.map c_Point l)))], []⟩ (by kernel_rfl) ?_
 refine z3 2 ⟨[(0, (.sl (List.map c_Point l)))], []⟩ (by kernel_rfl) ?_
 refine sem_seq (by kernel_rfl) ?_
 refine z7 (by kernel_rfl) ?_
 refine evs_run 1 (by kernel_rfl) ?_
 obtain ⟨r4, hr4, h⟩ := bindS h
 refine evs_callP [] (by kernel_rfl) (W.geom_points_ok hr4) (by kernel_rfl) (.inl rfl) (by kernel_rfl) ?_
 refine z1 1 ⟨[(0, (.sl (List.map c_Point l))), (4, (vI r4))], []⟩ (by kernel_rfl) ?_
 refine z3 2 ⟨[(0, (.sl (List.map c_Point l))), (4, (vI r4)), (8, (vB (r4 != 0)))], []⟩ (by kernel_rfl) ?_
 refine sem_cond (r4 != 0) (by kernel_rfl) (by kernel_rfl) (fun hb => ?_) (fun hb => ?_)
 ·replace h := iteT hb h
  refine z8 3 ⟨[(2, (.row (.top 2) 36)), (3, (vI r4))], [(2, .row 36 [] (List.map c_Point []))]⟩ (by kernel_rfl) (fun τ hτ => ?_)
  refine th_ret ?_
  obtain rfl := Option.some.inj h
  exact rk_ret hτ [(2, (.row (.top 0) 36)), (3, (vI r4))] (subR_prep [] [(2, 0)] (by kernel_rfl) rfl rfl (by kernel_rfl)) (by kernel_rfl)
 ·replace h := iteF hb h
  refine z4 ⟨[(0, (.sl (List.map c_Point l)))], []⟩ (by kernel_rfl) ?_
  refine z7 (by kernel_rfl) ?_
  refine evs_run 1 (by kernel_rfl) ?_
  obtain ⟨r6, hr6, h⟩ := bindS h
  refine evs_callS [] [(0, 700050)] [] (by kernel_rfl) (W.geom_hull_ok hr6) (by kernel_rfl) (by kernel_rfl) (.inl rfl) ?_
  refine z1 2 ⟨[(2, (.row (.top 700050) 36)), (3, (vI 0))], [(700050, .row 36 [] (List.map c_Point r6))]⟩ (by kernel_rfl) ?_
  refine sem_retS (by kernel_rfl) (fun τ hτ => ?_)
  obtain rfl := Option.some.inj h
  exact rk_ret hτ [(2, (.row (.top 0) 36)), (3, (vI 0))] (subR_prep [] [(700050, 0)] (by kernel_rfl) rfl rfl (by kernel_rfl)) (by kernel_rfl)
theorem W.sheetmetalref01_SamePoints_ok {a : (List Point)} {b : (List Point)} {r : Bool} (h : sheetmetalref01_SamePoints a b = some r) : PC G.P 40 [(.sl (List.map c_Point a)), (.sl (List.map c_Point b))] [] (vB r) [] := by
 refine pc_of G (fn := Try.f40) Try.func40 (by kernel_rfl) (by kernel_rfl) (by kernel_rfl) (by kernel_rfl) (by kernel_rfl) ?_
 refine sem_set ⟨[(0, (.sl (List.map c_Point a))), (1, (.sl (List.map c_Point b)))], []⟩ (by kernel_rfl) ?_
 refine z3 1 ⟨[(0, (.sl (List.map c_Point a))), (1, (.sl (List.map c_Point b)))], []⟩ (by kernel_rfl) ?_
 refine sem_seq (by kernel_rfl) ?_
 refine z7 (by kernel_rfl) ?_
 refine evs_run 1 (by kernel_rfl) ?_
 refine evs_op (st_len (c := c_Point) (l := a) (x := (.sl (List.map c_Point a))) (by kernel_rfl) (by kernel_rfl)) ?_
 refine evs_run 1 (by kernel_rfl) ?_
 refine evs_op (st_len (c := c_Point) (l := b) (x := (.sl (List.map c_Point b))) (by kernel_rfl) (by kernel_rfl)) ?_
 refine z1 1 ⟨[(0, (.sl (List.map c_Point a))), (1, (.sl (List.map c_Point b))), (10, (vB ((a.length : Int) != (b.length : Int))))], []⟩ (by kernel_rfl) ?_
 refine sem_cond ((a.length : Int) != (b.length : Int)) (by kernel_rfl) (by kernel_rfl) (fun hb => ?_) (fun hb => ?_)
 ·replace h := iteT hb h
  refine z8 1 ⟨[(4, (vB false))], []⟩ (by kernel_rfl) (fun τ hτ => ?_)
  refine th_ret ?_
  obtain rfl := Option.some.inj h
  exact rk_ret hτ [(4, (vB false))] (here (by kernel_rfl)) (by kernel_rfl)
 ·replace h := iteF hb h
  refine z4 ⟨[(0, (.sl (List.map c_Point a))), (1, (.sl (List.map c_Point b)))], []⟩ (by kernel_rfl) ?_
  refine sem_seq (by kernel_rfl) ?_
  refine z3 1 ⟨[(0, (.sl (List.map c_Point a))), (1, (.sl (List.map c_Point b))), (5, (vI 0))], []⟩ (by kernel_rfl) ?_
  refine sem_block (by kernel_rfl) ?_
  obtain ⟨x80, hx80, h⟩ := bindS h
  refine sem_loopS (fun (s55 : Int) => ⟨[(0, (.sl (List.map c_Point a))), (1, (.sl (List.map c_Point b))), (5, (vI s55))], []⟩) (fun (x80 : Unit ⊕ Unit) => match x80 with | .inl j81 => (.ret, ⟨[(4, (vB false))], []⟩) | .inr j82 => (.exit 0, ⟨[], []⟩)) (sheetmetalref01_SamePoints_l1 a b) 0 x80 (by kernel_rfl) (here (by kernel_rfl)) hx80 ?_ ?_ ?_
  ·intro s55 r h
   refine sem_seq (by kernel_rfl) ?_
   refine z7 (by kernel_rfl) ?_
   refine evs_run 2 (by kernel_rfl) ?_
   refine evs_op (st_len (c := c_Point) (l := a) (x := (.sl (List.map c_Point a))) (by kernel_rfl) (by kernel_rfl)) ?_
   refine z1 1 ⟨[(0, (.sl (List.map c_Point a))), (1, (.sl (List.map c_Point b))), (5, (vI s55)), (14, (vB (decide (s55 < (a.length : Int)))))], []⟩ (by kernel_rfl) ?_
   refine sem_cond (decide (s55 < (a.length : Int))) (by kernel_rfl) (by kernel_rfl) (fun hb => ?_) (fun hb => ?_)
   ·replace h := iteT hb h
    refine z4 ⟨[(0, (.sl (List.map c_Point a))), (1, (.sl (List.map c_Point b))), (5, (vI s55))], []⟩ (by kernel_rfl) ?_
    refine sem_seq (by kernel_rfl) ?_
    refine sem_block (by kernel_rfl) ?_
    refine sem_seq (by kernel_rfl) ?_
    refine sem_drawN [] [] [] [] [] 8 (by kernel_rfl) (by kernel_rfl) (by kernel_rfl) ?_
    refine evd_run 2 (by kernel_rfl) ?_
    obtain ⟨x78, hx78, h⟩ := bindS h
    refine evd_val (by kernel_rfl) (st_idx (c := c_Point) (l := a) (i := s55) (kd := .i64) (sz := 4) (by kernel_rfl) hx78 rfl) (by kernel_rfl) (by kernel_rfl) ?_
    refine evd_run 3 (by kernel_rfl) ?_
    obtain ⟨x79, hx79, h⟩ := bindS h
    refine evd_val (by kernel_rfl) (st_idx (c := c_Point) (l := b) (i := s55) (kd := .i64) (sz := 4) (by kernel_rfl) hx79 rfl) (by kernel_rfl) (by kernel_rfl) ?_
    refine evd_run 1 (by kernel_rfl) ?_
    refine evd_end (by kernel_rfl) ?_
    refine evo_run 1 (by kernel_rfl) ?_
    refine evo_endS (by kernel_rfl) (fun τ hτ => ?_)
    refine th_normalS hτ ⟨[(0, (.sl (List.map c_Point a))), (1, (.sl (List.map c_Point b))), (5, (vI s55)), (25, (vB (!((x78.X.A == x79.X.A) && ((x78.X.B == x79.X.B) && ((x78.Y.A == x79.Y.A) && ((x78.Y.B == x79.Y.B) && true)))))))], []⟩ (here (by kernel_rfl)) ?_
    refine sem_cond (!((x78.X.A == x79.X.A) && ((x78.X.B == x79.X.B) && ((x78.Y.A == x79.Y.A) && ((x78.Y.B == x79.Y.B) && true))))) (by kernel_rfl) (by kernel_rfl) (fun hb => ?_) (fun hb => ?_)
    ·replace h := iteT hb h
     refine z8 1 ⟨[(4, (vB false))], []⟩ (by kernel_rfl) (fun τ hτ => ?_)
     refine bl_ret ?_
     refine th_ret ?_
     obtain rfl := Option.some.inj h
     exact lk_outS hτ rfl (here (by kernel_rfl))
    ·replace h := iteF hb h
     refine sem_skipS (by kernel_rfl) (fun τ hτ => ?_)
     refine bl_normal ?_
     refine th_normalS hτ ⟨[(0, (.sl (List.map c_Point a))), (1, (.sl (List.map c_Point b))), (5, (vI s55))], []⟩ (here (by kernel_rfl)) ?_
     refine sem_region (by kernel_rfl) ?_
     refine z6 3 (by kernel_rfl) (fun τ hτ => ?_)
     obtain rfl := Option.some.inj h
     exact lk_nextS hτ (here (by kernel_rfl))
   ·replace h := iteF hb h
    refine sem_exitS 0 (by kernel_rfl) rfl (fun τ hτ => ?_)
    refine th_exit ?_
    obtain rfl := Option.some.inj h
    exact lk_outS hτ rfl (here (by kernel_rfl))
  ·intro x
   rcases x with _ | _ <;> rfl
  ·intro τ hτ
   rcases x80 with j81 | j82
   ·refine bl_ret ?_
    refine th_ret ?_
    obtain rfl := Option.some.inj h
    exact rk_ret hτ [(4, (vB false))] (here (by kernel_rfl)) (by kernel_rfl)
   ·refine bl_hit (by kernel_rfl) ?_
    refine th_normalS hτ ⟨[], []⟩ (here (by kernel_rfl)) ?_
    refine z8 1 ⟨[(4, (vB true))], []⟩ (by kernel_rfl) (fun τ hτ => ?_)
    obtain rfl := Option.some.inj h
    exact rk_ret hτ [(4, (vB true))] (here (by kernel_rfl)) (by kernel_rfl)
theorem W.sheetmetallaw01_GeomHullHolds_ok {l : (List Point)} {r : Bool} (h : sheetmetallaw01_GeomHullHolds l = some r) : PC G.P 11 [(.sl (List.map c_Point l))] [] (vB r) [] := by
 refine pc_of G (fn := Try.f11) Try.func11 (by kernel_rfl) (by kernel_rfl) (by kernel_rfl) (by kernel_rfl) (by kernel_rfl) ?_
 refine sem_set ⟨[(0, (.sl (List.map c_Point l)))], []⟩ (by kernel_rfl) ?_
 refine z3 1 ⟨[(0, (.sl (List.map c_Point l)))], []⟩ (by kernel_rfl) ?_
 refine sem_seq (by kernel_rfl) ?_
 refine z7 (by kernel_rfl) ?_
 refine evs_run 1 (by kernel_rfl) ?_
 obtain ⟨r6, hr6, h⟩ := bindS h
 refine evs_callP [] (by kernel_rfl) (W.sheetmetallaw01_long_ok hr6) (by kernel_rfl) (.inl rfl) (by kernel_rfl) ?_
 refine evs_endS (by kernel_rfl) (fun τ hτ => ?_)
 refine th_normalS hτ ⟨[(0, (.sl (List.map c_Point l))), (16, (vB r6))], []⟩ (here (by kernel_rfl)) ?_
 refine sem_cond r6 (by kernel_rfl) (by kernel_rfl) (fun hb => ?_) (fun hb => ?_)
 ·replace h := iteT hb h
  refine z7 (by kernel_rfl) ?_
  obtain ⟨r8, hr8, h⟩ := bindS h
  refine evs_callP [] (by kernel_rfl) (W.sheetmetallaw01_known_ok hr8) (by kernel_rfl) (.inl rfl) (by kernel_rfl) ?_
  refine z1 1 ⟨[(2, (vB r8))], []⟩ (by kernel_rfl) ?_
  refine sem_retS (by kernel_rfl) (fun τ hτ => ?_)
  refine th_ret ?_
  obtain rfl := Option.some.inj h
  exact rk_ret hτ [(2, (vB r8))] (here (by kernel_rfl)) (by kernel_rfl)
 ·replace h := iteF hb h
  refine z4 ⟨[(0, (.sl (List.map c_Point l)))], []⟩ (by kernel_rfl) ?_
  refine z7 (by kernel_rfl) ?_
  refine evs_run 1 (by kernel_rfl) ?_
  obtain ⟨r10, hr10, h⟩ := bindS h
  refine evs_callS [] [(0, 700050)] [] (by kernel_rfl) (W.geom_Hull_ok hr10) (by kernel_rfl) (by kernel_rfl) (.inl rfl) ?_
  refine z1 5 ⟨[(0, (.sl (List.map c_Point l))), (3, (.row (.top 700050) 36)), (4, (vI r10.2))], [(700050, .row 36 [] (List.map c_Point r10.1))]⟩ (by kernel_rfl) ?_
  refine sem_seq (by kernel_rfl) ?_
  refine z3 2 ⟨[(0, (.sl (List.map c_Point l))), (3, (.row (.top 700050) 36)), (24, (vB (r10.2 != 0)))], [(700050, .row 36 [] (List.map c_Point r10.1))]⟩ (by kernel_rfl) ?_
  refine sem_cond (r10.2 != 0) (by kernel_rfl) (by kernel_rfl) (fun hb => ?_) (fun hb => ?_)
  ·replace h := iteT hb h
   refine sem_seq (by kernel_rfl) ?_
   obtain ⟨j15, hj15, h⟩ := bindS h
   refine sem_regionC ⟨[(2, (vB j15))], []⟩ (by kernel_rfl) ?_ (fun τ hτ => ?_)
   ·replace h := hj15
    refine evs_run 1 (by kernel_rfl) ?_
    refine evs_op (st_len (c := c_Point) (l := r10.1) (x := (.row (.top 700050) 36)) (by kernel_rfl) (by kernel_rfl)) ?_
    refine evs_run 2 (by kernel_rfl) ?_
    refine evs_split ((r10.1.length : Int) == 0) (fun b0 => ⟨[(28, (vB b0))], []⟩) (by kernel_rfl) (fun hb => ?_) (fun hb => ?_)
    ·replace h := iteT hb h
     obtain ⟨r16, hr16, h⟩ := bindS h
     refine evs_callP [] (by kernel_rfl) (W.sheetmetallaw01_known_ok hr16) (by kernel_rfl) (.inl rfl) (by kernel_rfl) ?_
     refine z6 2 (by kernel_rfl) (fun τ hτ => ?_)
     obtain rfl := Option.some.inj h
     exact leafC hτ (here (by kernel_rfl))
    ·replace h := iteF hb h
     refine z6 3 (by kernel_rfl) (fun τ hτ => ?_)
     obtain rfl := Option.some.inj h
     exact leafC hτ (here (by kernel_rfl))
   refine th_normalS hτ ⟨[(2, (vB j15))], []⟩ (here (by kernel_rfl)) ?_
   refine sem_retS (by kernel_rfl) (fun τ hτ => ?_)
   refine th_ret ?_
   obtain rfl := Option.some.inj h
   exact rk_ret hτ [(2, (vB j15))] (here (by kernel_rfl)) (by kernel_rfl)
  ·replace h := iteF hb h
   refine z4 ⟨[(0, (.sl (List.map c_Point l))), (3, (.row (.top 700050) 36))], [(700050, .row 36 [] (List.map c_Point r10.1))]⟩ (by kernel_rfl) ?_
   refine z7 (by kernel_rfl) ?_
   refine evs_run 1 (by kernel_rfl) ?_
   refine evs_op (st_len (c := c_Point) (l := r10.1) (x := (.row (.top 700050) 36)) (by kernel_rfl) (by kernel_rfl)) ?_
   refine z1 1 ⟨[(0, (.sl (List.map c_Point l))), (3, (.row (.top 700050) 36)), (5, (vI (r10.1.length : Int)))], [(700050, .row 36 [] (List.map c_Point r10.1))]⟩ (by kernel_rfl) ?_
   refine sem_seq (by kernel_rfl) ?_
   refine z3 1 ⟨[(0, (.sl (List.map c_Point l))), (3, (.row (.top 700050) 36)), (5, (vI (r10.1.length : Int))), (6, (vI 0))], [(700050, .row 36 [] (List.map c_Point r10.1))]⟩ (by kernel_rfl) ?_
   refine sem_block (by kernel_rfl) ?_
   obtain ⟨x3180, hx3180, h⟩ := bindS h
   refine sem_loopS (fun (s2127 : Int) => ⟨[(0, (.sl (List.map c_Point l))), (3, (.row (.top 500000) 36)), (5, (vI (r10.1.length : Int))), (6, (vI s2127))], [(500000, .row 36 [] (List.map c_Point r10.1))]⟩) (fun (x3180 : Unit ⊕ Unit) => match x3180 with | .inl j3181 => (.ret, ⟨[(2, (vB false))], []⟩) | .inr j3182 => (.exit 0, ⟨[(3, (.row (.top 500000) 36)), (5, (vI (r10.1.length : Int)))], [(500000, .row 36 [] (List.map c_Point r10.1))]⟩)) (sheetmetallaw01_GeomHullHolds_l2 l r10) 0 x3180 (by kernel_rfl) (subR_prep [] [(700050, 500000)] (by kernel_rfl) rfl rfl (by kernel_rfl)) hx3180 ?_ ?_ ?_
   ·intro s2127 r h
    refine sem_seq (by kernel_rfl) ?_
    refine z3 3 ⟨[(0, (.sl (List.map c_Point l))), (3, (.row (.top 500000) 36)), (5, (vI (r10.1.length : Int))), (6, (vI s2127)), (35, (vB (decide (s2127 < (r10.1.length : Int)))))], [(500000, .row 36 [] (List.map c_Point r10.1))]⟩ (by kernel_rfl) ?_
    refine sem_cond (decide (s2127 < (r10.1.length : Int))) (by kernel_rfl) (by kernel_rfl) (fun hb => ?_) (fun hb => ?_)
    ·replace h := iteT hb h
     refine z4 ⟨[(0, (.sl (List.map c_Point l))), (3, (.row (.top 500000) 36)), (5, (vI (r10.1.length : Int))), (6, (vI s2127))], [(500000, .row 36 [] (List.map c_Point r10.1))]⟩ (by kernel_rfl) ?_
     refine sem_seq (by kernel_rfl) ?_
     refine sem_block (by kernel_rfl) ?_
     refine z3 1 ⟨[(0, (.sl (List.map c_Point l))), (3, (.row (.top 500000) 36)), (5, (vI (r10.1.length : Int))), (6, (vI s2127)), (7, (vB false))], [(500000, .row 36 [] (List.map c_Point r10.1))]⟩ (by kernel_rfl) ?_
     refine sem_seq (by kernel_rfl) ?_
     refine z3 1 ⟨[(0, (.sl (List.map c_Point l))), (3, (.row (.top 500000) 36)), (5, (vI (r10.1.length : Int))), (6, (vI s2127)), (7, (vB false)), (8, (vI 0))], [(500000, .row 36 [] (List.map c_Point r10.1))]⟩ (by kernel_rfl) ?_
     refine sem_block (by kernel_rfl) ?_
     obtain ⟨x3164, hx3164, h⟩ := bindS h
     refine sem_loopS (fun (s3083 : Bool × Int) => ⟨[(0, (.sl (List.map c_Point l))), (3, (.row (.top 500000) 36)), (5, (vI (r10.1.length : Int))), (6, (vI s2127)), (7, (vB s3083.1)), (8, (vI s3083.2))], [(500000, .row 36 [] (List.map c_Point r10.1))]⟩) (fun (x3164 : Unit ⊕ Bool) => match x3164 with | .inl j3165 => (.ret, ⟨[(2, (vB false))], []⟩) | .inr j3166 => (.exit 2, ⟨[(0, (.sl (List.map c_Point l))), (3, (.row (.top 500000) 36)), (5, (vI (r10.1.length : Int))), (6, (vI s2127)), (7, (vB j3166))], [(500000, .row 36 [] (List.map c_Point r10.1))]⟩)) (sheetmetallaw01_GeomHullHolds_l1 l r10 s2127) (false, 0) x3164 (by kernel_rfl) (here (by kernel_rfl)) hx3164 ?_ ?_ ?_
     ·intro s3083 r h
      refine sem_seq (by kernel_rfl) ?_
      refine z7 (by kernel_rfl) ?_
      refine evs_run 2 (by kernel_rfl) ?_
      refine evs_op (st_len (c := c_Point) (l := l) (x := (.sl (List.map c_Point l))) (by kernel_rfl) (by kernel_rfl)) ?_
      refine z1 1 ⟨[(0, (.sl (List.map c_Point l))), (3, (.row (.top 500000) 36)), (5, (vI (r10.1.length : Int))), (6, (vI s2127)), (7, (vB s3083.1)), (8, (vI s3083.2)), (41, (vB (decide (s3083.2 < (l.length : Int)))))], [(500000, .row 36 [] (List.map c_Point r10.1))]⟩ (by kernel_rfl) ?_
      refine sem_cond (decide (s3083.2 < (l.length : Int))) (by kernel_rfl) (by kernel_rfl) (fun hb => ?_) (fun hb => ?_)
      ·replace h := iteT hb h
       refine z4 ⟨[(0, (.sl (List.map c_Point l))), (3, (.row (.top 500000) 36)), (5, (vI (r10.1.length : Int))), (6, (vI s2127)), (7, (vB s3083.1)), (8, (vI s3083.2))], [(500000, .row 36 [] (List.map c_Point r10.1))]⟩ (by kernel_rfl) ?_
       refine sem_seq (by kernel_rfl) ?_
       refine sem_block (by kernel_rfl) ?_
       refine sem_seq (by kernel_rfl) ?_
       obtain ⟨j3148, hj3148, h⟩ := bindS h
       refine sem_drawP ⟨[(0, (.sl (List.map c_Point l))), (3, (.row (.top 500000) 36)), (5, (vI (r10.1.length : Int))), (6, (vI s2127)), (7, (vB j3148)), (8, (vI s3083.2))], [(500000, .row 36 [] (List.map c_Point r10.1))]⟩ [] [] [] [] [] 10 (by kernel_rfl) (by kernel_rfl) (by kernel_rfl) ?_ (fun τ hτ => ?_)
       ·replace h := hj3148
        refine evd_run 2 (by kernel_rfl) ?_
        refine evd_split s3083.1 (fun b0 => ⟨[(45, (vB b0)), (44, (vB b0)), (0, (.sl (List.map c_Point l))), (3, (.row (.top 500000) 36)), (5, (vI (r10.1.length : Int))), (6, (vI s2127)), (7, (vB b0)), (8, (vI s3083.2))], [(500000, .row 36 [] (List.map c_Point r10.1))]⟩) (by kernel_rfl) (fun hb => ?_) (fun hb => ?_)
        ·replace h := iteT hb h
         refine evd_run 8 (by kernel_rfl) ?_
         refine evd_end (by kernel_rfl) ?_
         refine evo_run 3 (by kernel_rfl) ?_
         refine evo_endS (by kernel_rfl) (fun τ hτ => ?_)
         obtain rfl := Option.some.inj h
         exact leafC hτ (here (by kernel_rfl))
        ·replace h := iteF hb h
         refine evd_run 2 (by kernel_rfl) ?_
         obtain ⟨x3149, hx3149, h⟩ := bindS h
         refine evd_val (by kernel_rfl) (st_idx (c := c_Point) (l := l) (i := s3083.2) (kd := .i64) (sz := 4) (by kernel_rfl) hx3149 rfl) (by kernel_rfl) (by kernel_rfl) ?_
         refine evd_run 3 (by kernel_rfl) ?_
         obtain ⟨x3150, hx3150, h⟩ := bindS h
         refine evd_val (by kernel_rfl) (st_idxO (c := c_Point) (l := r10.1) (i := s2127) (kd := .i64) (kk := (.top 500000)) (e := 36) (sz := 4) (by kernel_rfl) (by kernel_rfl) hx3150 rfl) (by kernel_rfl) (by kernel_rfl) ?_
         refine evd_val (by kernel_rfl) (st_ldO (c := c_Point) (l := r10.1) (i := (Int.toNat s2127)) (v := (.agg [(vI x3150.X.A), (vI x3150.X.B), (vI x3150.Y.A), (vI x3150.Y.B)])) (agg := true) (sz := 4) (kk := (.top 500000)) (e := 36) (off := 0) (J := []) (by kernel_rfl) (by kernel_rfl) (by kernel_rfl) ((idxS hx3150).2) (by kernel_rfl)) (by kernel_rfl) (by kernel_rfl) ?_
         refine evd_end (by kernel_rfl) ?_
         refine evo_run 3 (by kernel_rfl) ?_
         refine evo_endS (by kernel_rfl) (fun τ hτ => ?_)
         obtain rfl := Option.some.inj h
         exact leafC hτ (here (by kernel_rfl))
       refine th_normalS hτ ⟨[(0, (.sl (List.map c_Point l))), (3, (.row (.top 500000) 36)), (5, (vI (r10.1.length : Int))), (6, (vI s2127)), (7, (vB j3148)), (8, (vI s3083.2))], [(500000, .row 36 [] (List.map c_Point r10.1))]⟩ (here (by kernel_rfl)) ?_
       refine sem_seq (by kernel_rfl) ?_
       refine sem_drawN [] [] [] [] [] 20 (by kernel_rfl) (by kernel_rfl) (by kernel_rfl) ?_
       refine evd_run 2 (by kernel_rfl) ?_
       obtain ⟨x3159, hx3159, h⟩ := bindS h
       refine evd_val (by kernel_rfl) (st_idxO (c := c_Point) (l := r10.1) (i := s2127) (kd := .i64) (kk := (.top 500000)) (e := 36) (sz := 4) (by kernel_rfl) (by kernel_rfl) hx3159 rfl) (by kernel_rfl) (by kernel_rfl) ?_
       refine evd_val (by kernel_rfl) (st_ldO (c := c_Point) (l := r10.1) (i := (Int.toNat s2127)) (v := (.agg [(vI x3159.X.A), (vI x3159.X.B), (vI x3159.Y.A), (vI x3159.Y.B)])) (agg := true) (sz := 4) (kk := (.top 500000)) (e := 36) (off := 0) (J := []) (by kernel_rfl) (by kernel_rfl) (by kernel_rfl) ((idxS hx3159).2) (by kernel_rfl)) (by kernel_rfl) (by kernel_rfl) ?_
       refine evd_run 4 (by kernel_rfl) ?_
       obtain ⟨hb, h⟩ := iteN h
       refine evd_val (by kernel_rfl) (st_rem (a := (iadd s2127 1)) (b := (r10.1.length : Int)) (kd := .i64) (by kernel_rfl) (bne_iff_ne.1 hb)) (by kernel_rfl) (by kernel_rfl) ?_
       obtain ⟨x3160, hx3160, h⟩ := bindS h
       refine evd_val (by kernel_rfl) (st_idxO (c := c_Point) (l := r10.1) (i := (Int.tmod (iadd s2127 1) (r10.1.length : Int))) (kd := .i64) (kk := (.top 500000)) (e := 36) (sz := 4) (by kernel_rfl) (by kernel_rfl) hx3160 rfl) (by kernel_rfl) (by kernel_rfl) ?_
       refine evd_val (by kernel_rfl) (st_ldO (c := c_Point) (l := r10.1) (i := (Int.toNat (Int.tmod (iadd s2127 1) (r10.1.length : Int)))) (v := (.agg [(vI x3160.X.A), (vI x3160.X.B), (vI x3160.Y.A), (vI x3160.Y.B)])) (agg := true) (sz := 4) (kk := (.top 500000)) (e := 36) (off := 0) (J := []) (by kernel_rfl) (by kernel_rfl) (by kernel_rfl) ((idxS hx3160).2) (by kernel_rfl)) (by kernel_rfl) (by kernel_rfl) ?_
       refine evd_run 2 (by kernel_rfl) ?_
       obtain ⟨x3161, hx3161, h⟩ := bindS h
       refine evd_val (by kernel_rfl) (st_idx (c := c_Point) (l := l) (i := s3083.2) (kd := .i64) (sz := 4) (by kernel_rfl) hx3161 rfl) (by kernel_rfl) (by kernel_rfl) ?_
       refine evd_run 1 (by kernel_rfl) ?_
       obtain ⟨r3162, hr3162, h⟩ := bindS h
       refine evd_callS [] [] (by kernel_rfl) (by kernel_rfl) (W.geom_Orient_ok hr3162) (by kernel_rfl) (.inl rfl) (by kernel_rfl) (by kernel_rfl) ?_
       refine evd_run 4 (by kernel_rfl) ?_
       refine evd_end (by kernel_rfl) ?_
       refine evo_run 1 (by kernel_rfl) ?_
       refine evo_endS (by kernel_rfl) (fun τ hτ => ?_)
       refine th_normalS hτ ⟨[(0, (.sl (List.map c_Point l))), (3, (.row (.top 500000) 36)), (5, (vI (r10.1.length : Int))), (6, (vI s2127)), (7, (vB j3148)), (8, (vI s3083.2)), (9, (vI r3162.1)), (10, (vI r3162.2))], [(500000, .row 36 [] (List.map c_Point r10.1))]⟩ (here (by kernel_rfl)) ?_
       refine sem_seq (by kernel_rfl) ?_
       obtain ⟨j3163, hj3163, h⟩ := bindS h
       refine sem_regionC ⟨[(0, (.sl (List.map c_Point l))), (3, (.row (.top 500000) 36)), (5, (vI (r10.1.length : Int))), (6, (vI s2127)), (7, (vB j3148)), (8, (vI s3083.2)), (80, (vB j3163))], [(500000, .row 36 [] (List.map c_Point r10.1))]⟩ (by kernel_rfl) ?_ (fun τ hτ => ?_)
       ·replace h := hj3163
        refine evs_run 3 (by kernel_rfl) ?_
        refine evs_split (r3162.2 != 0) (fun b0 => ⟨[(0, (.sl (List.map c_Point l))), (3, (.row (.top 500000) 36)), (5, (vI (r10.1.length : Int))), (6, (vI s2127)), (7, (vB j3148)), (8, (vI s3083.2)), (9, (vI r3162.1)), (77, (vB b0))], [(500000, .row 36 [] (List.map c_Point r10.1))]⟩) (by kernel_rfl) (fun hb => ?_) (fun hb => ?_)
        ·replace h := iteT hb h
         refine z6 3 (by kernel_rfl) (fun τ hτ => ?_)
         obtain rfl := Option.some.inj h
         exact leafC hτ (here (by kernel_rfl))
        ·replace h := iteF hb h
         refine z6 3 (by kernel_rfl) (fun τ hτ => ?_)
         obtain rfl := Option.some.inj h
         exact leafC hτ (here (by kernel_rfl))
       refine th_normalS hτ ⟨[(0, (.sl (List.map c_Point l))), (3, (.row (.top 500000) 36)), (5, (vI (r10.1.length : Int))), (6, (vI s2127)), (7, (vB j3148)), (8, (vI s3083.2)), (80, (vB j3163))], [(500000, .row 36 [] (List.map c_Point r10.1))]⟩ (here (by kernel_rfl)) ?_
       refine sem_cond j3163 (by kernel_rfl) (by kernel_rfl) (fun hb => ?_) (fun hb => ?_)
       ·replace h := iteT hb h
        refine z8 1 ⟨[(2, (vB false))], []⟩ (by kernel_rfl) (fun τ hτ => ?_)
        refine bl_ret ?_
        refine th_ret ?_
        obtain rfl := Option.some.inj h
        exact lk_outS hτ rfl (here (by kernel_rfl))
       ·replace h := iteF hb h
        refine sem_skipS (by kernel_rfl) (fun τ hτ => ?_)
        refine bl_normal ?_
        refine th_normalS hτ ⟨[(0, (.sl (List.map c_Point l))), (3, (.row (.top 500000) 36)), (5, (vI (r10.1.length : Int))), (6, (vI s2127)), (7, (vB j3148)), (8, (vI s3083.2))], [(500000, .row 36 [] (List.map c_Point r10.1))]⟩ (here (by kernel_rfl)) ?_
        refine sem_region (by kernel_rfl) ?_
        refine z6 3 (by kernel_rfl) (fun τ hτ => ?_)
        obtain rfl := Option.some.inj h
        exact lk_nextS hτ (here (by kernel_rfl))
      ·replace h := iteF hb h
       refine sem_exitS 2 (by kernel_rfl) rfl (fun τ hτ => ?_)
       refine th_exit ?_
       obtain rfl := Option.some.inj h
       exact lk_outS hτ rfl (here (by kernel_rfl))
     ·intro x
      rcases x with _ | _ <;> rfl
     ·intro τ hτ
      rcases x3164 with j3165 | j3166
      ·refine bl_ret ?_
       refine th_ret ?_
       refine bl_ret ?_
       refine th_ret ?_
       obtain rfl := Option.some.inj h
       exact lk_outS hτ rfl (here (by kernel_rfl))
      ·refine bl_hit (by kernel_rfl) ?_
       refine th_normalS hτ ⟨[(0, (.sl (List.map c_Point l))), (3, (.row (.top 500000) 36)), (5, (vI (r10.1.length : Int))), (6, (vI s2127)), (7, (vB j3166))], [(500000, .row 36 [] (List.map c_Point r10.1))]⟩ (here (by kernel_rfl)) ?_
       refine sem_seq (by kernel_rfl) ?_
       refine sem_drawN [] [] [] [] [] 23 (by kernel_rfl) (by kernel_rfl) (by kernel_rfl) ?_
       refine evd_run 2 (by kernel_rfl) ?_
       obtain ⟨x3175, hx3175, h⟩ := bindS h
       refine evd_val (by kernel_rfl) (st_idxO (c := c_Point) (l := r10.1) (i := s2127) (kd := .i64) (kk := (.top 500000)) (e := 36) (sz := 4) (by kernel_rfl) (by kernel_rfl) hx3175 rfl) (by kernel_rfl) (by kernel_rfl) ?_
       refine evd_val (by kernel_rfl) (st_ldO (c := c_Point) (l := r10.1) (i := (Int.toNat s2127)) (v := (.agg [(vI x3175.X.A), (vI x3175.X.B), (vI x3175.Y.A), (vI x3175.Y.B)])) (agg := true) (sz := 4) (kk := (.top 500000)) (e := 36) (off := 0) (J := []) (by kernel_rfl) (by kernel_rfl) (by kernel_rfl) ((idxS hx3175).2) (by kernel_rfl)) (by kernel_rfl) (by kernel_rfl) ?_
       refine evd_run 4 (by kernel_rfl) ?_
       obtain ⟨hb, h⟩ := iteN h
       refine evd_val (by kernel_rfl) (st_rem (a := (iadd s2127 1)) (b := (r10.1.length : Int)) (kd := .i64) (by kernel_rfl) (bne_iff_ne.1 hb)) (by kernel_rfl) (by kernel_rfl) ?_
       obtain ⟨x3176, hx3176, h⟩ := bindS h
       refine evd_val (by kernel_rfl) (st_idxO (c := c_Point) (l := r10.1) (i := (Int.tmod (iadd s2127 1) (r10.1.length : Int))) (kd := .i64) (kk := (.top 500000)) (e := 36) (sz := 4) (by kernel_rfl) (by kernel_rfl) hx3176 rfl) (by kernel_rfl) (by kernel_rfl) ?_
       refine evd_val (by kernel_rfl) (st_ldO (c := c_Point) (l := r10.1) (i := (Int.toNat (Int.tmod (iadd s2127 1) (r10.1.length : Int)))) (v := (.agg [(vI x3176.X.A), (vI x3176.X.B), (vI x3176.Y.A), (vI x3176.Y.B)])) (agg := true) (sz := 4) (kk := (.top 500000)) (e := 36) (off := 0) (J := []) (by kernel_rfl) (by kernel_rfl) (by kernel_rfl) ((idxS hx3176).2) (by kernel_rfl)) (by kernel_rfl) (by kernel_rfl) ?_
       refine evd_run 4 (by kernel_rfl) ?_
       obtain ⟨hb, h⟩ := iteN h
       refine evd_val (by kernel_rfl) (st_rem (a := (iadd s2127 2)) (b := (r10.1.length : Int)) (kd := .i64) (by kernel_rfl) (bne_iff_ne.1 hb)) (by kernel_rfl) (by kernel_rfl) ?_
       obtain ⟨x3177, hx3177, h⟩ := bindS h
       refine evd_val (by kernel_rfl) (st_idxO (c := c_Point) (l := r10.1) (i := (Int.tmod (iadd s2127 2) (r10.1.length : Int))) (kd := .i64) (kk := (.top 500000)) (e := 36) (sz := 4) (by kernel_rfl) (by kernel_rfl) hx3177 rfl) (by kernel_rfl) (by kernel_rfl) ?_
       refine evd_val (by kernel_rfl) (st_ldO (c := c_Point) (l := r10.1) (i := (Int.toNat (Int.tmod (iadd s2127 2) (r10.1.length : Int)))) (v := (.agg [(vI x3177.X.A), (vI x3177.X.B), (vI x3177.Y.A), (vI x3177.Y.B)])) (agg := true) (sz := 4) (kk := (.top 500000)) (e := 36) (off := 0) (J := []) (by kernel_rfl) (by kernel_rfl) (by kernel_rfl) ((idxS hx3177).2) (by kernel_rfl)) (by kernel_rfl) (by kernel_rfl) ?_
       obtain ⟨r3178, hr3178, h⟩ := bindS h
       refine evd_callS [] [] (by kernel_rfl) (by kernel_rfl) (W.geom_Orient_ok hr3178) (by kernel_rfl) (.inl rfl) (by kernel_rfl) (by kernel_rfl) ?_
       refine evd_run 4 (by kernel_rfl) ?_
       refine evd_end (by kernel_rfl) ?_
       refine evo_run 1 (by kernel_rfl) ?_
       refine evo_endS (by kernel_rfl) (fun τ hτ => ?_)
       refine th_normalS hτ ⟨[(0, (.sl (List.map c_Point l))), (3, (.row (.top 500000) 36)), (5, (vI (r10.1.length : Int))), (6, (vI s2127)), (7, (vB j3166)), (11, (vI r3178.1)), (12, (vI r3178.2))], [(500000, .row 36 [] (List.map c_Point r10.1))]⟩ (here (by kernel_rfl)) ?_
       refine sem_seq (by kernel_rfl) ?_
       obtain ⟨j3179, hj3179, h⟩ := bindS h
       refine sem_regionC ⟨[(0, (.sl (List.map c_Point l))), (3, (.row (.top 500000) 36)), (5, (vI (r10.1.length : Int))), (6, (vI s2127)), (116, (vB j3179))], [(500000, .row 36 [] (List.map c_Point r10.1))]⟩ (by kernel_rfl) ?_ (fun τ hτ => ?_)
       ·replace h := hj3179
        refine evs_run 3 (by kernel_rfl) ?_
        refine evs_split j3166 (fun b0 => ⟨[(0, (.sl (List.map c_Point l))), (3, (.row (.top 500000) 36)), (5, (vI (r10.1.length : Int))), (6, (vI s2127)), (11, (vI r3178.1)), (12, (vI r3178.2)), (105, (vB (!b0)))], [(500000, .row 36 [] (List.map c_Point r10.1))]⟩) (by kernel_rfl) (fun hb => ?_) (fun hb => ?_)
        ·replace h := iteT hb h
         refine evs_run 4 (by kernel_rfl) ?_
         refine evs_split (r3178.2 != 0) (fun b0 => ⟨[(0, (.sl (List.map c_Point l))), (3, (.row (.top 500000) 36)), (5, (vI (r10.1.length : Int))), (6, (vI s2127)), (11, (vI r3178.1)), (106, (vI r3178.2)), (107, (vB b0)), (109, (vB b0))], [(500000, .row 36 [] (List.map c_Point r10.1))]⟩) (by kernel_rfl) (fun hb => ?_) (fun hb => ?_)
         ·replace h := iteT hb h
          refine z6 7 (by kernel_rfl) (fun τ hτ => ?_)
          obtain rfl := Option.some.inj h
          exact leafC hτ (here (by kernel_rfl))
         ·replace h := iteF hb h
          refine evs_run 3 (by kernel_rfl) ?_
          refine evs_split (decide ((r10.1.length : Int) > 2)) (fun b0 => ⟨[(0, (.sl (List.map c_Point l))), (3, (.row (.top 500000) 36)), (5, (vI (r10.1.length : Int))), (6, (vI s2127)), (11, (vI r3178.1)), (106, (vI r3178.2)), (107, (vB false)), (109, (vB false)), (110, (vI (r10.1.length : Int))), (111, (vB b0)), (112, (vB b0))], [(500000, .row 36 [] (List.map c_Point r10.1))]⟩) (by kernel_rfl) (fun hb => ?_) (fun hb => ?_)
          ·replace h := iteT hb h
           refine z6 4 (by kernel_rfl) (fun τ hτ => ?_)
           obtain rfl := Option.some.inj h
           exact leafC hτ (here (by kernel_rfl))
          ·replace h := iteF hb h
           refine z6 4 (by kernel_rfl) (fun τ hτ => ?_)
           obtain rfl := Option.some.inj h
           exact leafC hτ (here (by kernel_rfl))
        ·replace h := iteF hb h
         refine z6 11 (by kernel_rfl) (fun τ hτ => ?_)
         obtain rfl := Option.some.inj h
         exact leafC hτ (here (by kernel_rfl))
       refine th_normalS hτ ⟨[(0, (.sl (List.map c_Point l))), (3, (.row (.top 500000) 36)), (5, (vI (r10.1.length : Int))), (6, (vI s2127)), (116, (vB j3179))], [(500000, .row 36 [] (List.map c_Point r10.1))]⟩ (here (by kernel_rfl)) ?_
       refine sem_cond j3179 (by kernel_rfl) (by kernel_rfl) (fun hb => ?_) (fun hb => ?_)
       ·replace h := iteT hb h
        refine z8 1 ⟨[(2, (vB false))], []⟩ (by kernel_rfl) (fun τ hτ => ?_)
        refine bl_ret ?_
        refine th_ret ?_
        obtain rfl := Option.some.inj h
        exact lk_outS hτ rfl (here (by kernel_rfl))
       ·replace h := iteF hb h
        refine sem_skipS (by kernel_rfl) (fun τ hτ => ?_)
        refine bl_normal ?_
        refine th_normalS hτ ⟨[(0, (.sl (List.map c_Point l))), (3, (.row (.top 500000) 36)), (5, (vI (r10.1.length : Int))), (6, (vI s2127))], [(500000, .row 36 [] (List.map c_Point r10.1))]⟩ (here (by kernel_rfl)) ?_
        refine sem_region (by kernel_rfl) ?_
        refine z6 3 (by kernel_rfl) (fun τ hτ => ?_)
        obtain rfl := Option.some.inj h
        exact lk_nextS hτ (here (by kernel_rfl))
    ·replace h := iteF hb h
     refine sem_exitS 0 (by kernel_rfl) rfl (fun τ hτ => ?_)
     refine th_exit ?_
     obtain rfl := Option.some.inj h
     exact lk_outS hτ rfl (here (by kernel_rfl))
   ·intro x
    rcases x with _ | _ <;> rfl
   ·intro τ hτ
    rcases x3180 with j3181 | j3182
    ·refine bl_ret ?_
     refine th_ret ?_
     obtain rfl := Option.some.inj h
     exact rk_ret hτ [(2, (vB false))] (here (by kernel_rfl)) (by kernel_rfl)
    ·refine bl_hit (by kernel_rfl) ?_
     refine th_normalS hτ ⟨[(3, (.row (.top 500000) 36)), (5, (vI (r10.1.length : Int)))], [(500000, .row 36 [] (List.map c_Point r10.1))]⟩ (here (by kernel_rfl)) ?_
     refine z7 (by kernel_rfl) ?_
     refine evs_run 1 (by kernel_rfl) ?_
     obtain ⟨r3184, hr3184, h⟩ := bindS h
     refine evs_callS [] [(0, 700050)] [500000] (by kernel_rfl) (W.geom_Hull_ok hr3184) (by kernel_rfl) (by kernel_rfl) (.inr ⟨rfl, fun _ _ => ind_cons (ind_row fun _ => rfl) (fun _ _ => ind_nil)⟩) ?_
     refine z1 5 ⟨[(3, (.row (.top 500000) 36)), (5, (vI (r10.1.length : Int))), (13, (.row (.top 700050) 36)), (14, (vI r3184.2))], [(500000, .row 36 [] (List.map c_Point r10.1)), (700050, .row 36 [] (List.map c_Point r3184.1))]⟩ (by kernel_rfl) ?_
     refine sem_seq (by kernel_rfl) ?_
     obtain ⟨j3187, hj3187, h⟩ := bindS h
     refine sem_regionC ⟨[(2, (vB j3187))], []⟩ (by kernel_rfl) ?_ (fun τ hτ => ?_)
     ·replace h := hj3187
      refine evs_run 3 (by kernel_rfl) ?_
      refine evs_split (decide ((r10.1.length : Int) > 0)) (fun b0 => ⟨[(3, (.row (.top 500000) 36)), (13, (.row (.top 700050) 36)), (14, (vI r3184.2)), (124, (vB b0))], [(500000, .row 36 [] (List.map c_Point r10.1)), (700050, .row 36 [] (List.map c_Point r3184.1))]⟩) (by kernel_rfl) (fun hb => ?_) (fun hb => ?_)
      ·replace h := iteT hb h
       refine evs_run 4 (by kernel_rfl) ?_
       refine evs_split (r3184.2 == 0) (fun b0 => ⟨[(3, (.row (.top 500000) 36)), (13, (.row (.top 700050) 36)), (128, (vB b0))], [(500000, .row 36 [] (List.map c_Point r10.1)), (700050, .row 36 [] (List.map c_Point r3184.1))]⟩) (by kernel_rfl) (fun hb => ?_) (fun hb => ?_)
       ·replace h := iteT hb h
        refine evs_run 2 (by kernel_rfl) ?_
        obtain ⟨r3188, hr3188, h⟩ := bindS h
        refine evs_callP [700050, 500000] (by kernel_rfl) (W.sheetmetalref01_SamePoints_ok hr3188) (by kernel_rfl) (.inr rfl) (by kernel_rfl) ?_
        refine evs_run 2 (by kernel_rfl) ?_
        refine evs_split r3188 (fun b0 => ⟨[(133, (vB b0))], []⟩) (by kernel_rfl) (fun hb => ?_) (fun hb => ?_)
        ·replace h := iteT hb h
         obtain ⟨r3189, hr3189, h⟩ := bindS h
         refine evs_callP [] (by kernel_rfl) (W.sheetmetallaw01_known_ok hr3189) (by kernel_rfl) (.inl rfl) (by kernel_rfl) ?_
         refine z6 2 (by kernel_rfl) (fun τ hτ => ?_)
         obtain rfl := Option.some.inj h
         exact leafC hτ (here (by kernel_rfl))
        ·replace h := iteF hb h
         refine z6 3 (by kernel_rfl) (fun τ hτ => ?_)
         obtain rfl := Option.some.inj h
         exact leafC hτ (here (by kernel_rfl))
       ·replace h := iteF hb h
        refine z6 8 (by kernel_rfl) (fun τ hτ => ?_)
        obtain rfl := Option.some.inj h
        exact leafC hτ (here (by kernel_rfl))
      ·replace h := iteF hb h
       refine z6 12 (by kernel_rfl) (fun τ hτ => ?_)
       obtain rfl := Option.some.inj h
       exact leafC hτ (here (by kernel_rfl))
     refine th_normalS hτ ⟨[(2, (vB j3187))], []⟩ (here (by kernel_rfl)) ?_
     refine sem_retS (by kernel_rfl) (fun τ hτ => ?_)
     obtain rfl := Option.some.inj h
     exact rk_ret hτ [(2, (vB j3187))] (here (by kernel_rfl)) (by kernel_rfl)
end Go.Proofs.Ytiodkdpfkchkjaa
