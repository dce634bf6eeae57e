/- Each Go function does what its model says; written by a program out of the translation. -/
import Derived.Test.YtiodkdpfkchkjaaWS1
import Derived.Test.YtiodkdpfkchkjaaGeMS
set_option linter.unusedVariables false
set_option linter.unusedSimpArgs false
set_option linter.unusedSectionVars false
namespace Go.Proofs.Ytiodkdpfkchkjaa
open Go Go.VI Go.SM Go.Proofs
set_option maxRecDepth 100000
set_option maxHeartbeats 4000000
theorem W.geom_half_ok {l : (List Point)} {r : (List Point)} (h : geom_half l = some r) : PC G.P 107 [(.sl (List.map c_Point l))] [] (.row (.top 0) 36) [(0, .row 36 [] (List.map c_Point r))] := by
 refine pc_of G (fn := Try.f107) Try.func107 (by kernel_rfl) (by kernel_rfl) (by kernel_rfl) (by kernel_rfl) (by kernel_rfl) ?_
 refine sem_set ⟨[(0, (.sl (List.map c_Point l)))], []⟩ (by kernel_rfl) ?_
 refine z3 1 ⟨[(0, (.sl (List.map c_Point l)))], []⟩ (by kernel_rfl) ?_
 refine z3 1 ⟨[(0, (.sl (List.map c_Point l))), (3, (.row (.top 3) 36))], [(3, .row 36 [] (List.map c_Point []))]⟩ (by kernel_rfl) ?_
 refine sem_seq (by kernel_rfl) ?_
 refine z7 (by kernel_rfl) ?_
 refine evs_run 1 (by kernel_rfl) ?_
 refine evs_op (st_len (c := c_Point) (l := l) (x := (.sl (List.map c_Point l))) (by kernel_rfl) (by kernel_rfl)) ?_
 refine z1 1 ⟨[(3, (.row (.top 3) 36)), (6, (.sl (List.map c_Point l))), (7, (vI (l.length : Int))), (8, (vI 0))], [(3, .row 36 [] (List.map c_Point []))]⟩ (by kernel_rfl) ?_
 refine sem_block (by kernel_rfl) ?_
 obtain ⟨x1710, hx1710, h⟩ := bindS h
 refine sem_loopS (fun (s1141 : Int × (List Point)) => ⟨[(3, (.row (.top 500000) 36)), (6, (.sl (List.map c_Point l))), (7, (vI (l.length : Int))), (8, (vI s1141.1))], [(500000, .row 36 [] (List.map c_Point s1141.2))]⟩) (fun (x1710 : (List Point)) => (.exit 0, ⟨[(3, (.row (.top 500000) 36))], [(500000, .row 36 [] (List.map c_Point x1710))]⟩)) (geom_half_l2 l) (0, []) x1710 (by kernel_rfl) (subR_prep [] [(3, 500000)] (by kernel_rfl) rfl rfl (by kernel_rfl)) hx1710 ?_ ?_ ?_
 ·intro s1141 r h
  refine z3 1 ⟨[(3, (.row (.top 500000) 36)), (6, (.sl (List.map c_Point l))), (7, (vI (l.length : Int))), (8, (vI s1141.1)), (9, (vB (decide (s1141.1 < (l.length : Int)))))], [(500000, .row 36 [] (List.map c_Point s1141.2))]⟩ (by kernel_rfl) ?_
  refine sem_seq (by kernel_rfl) ?_
  refine sem_cond (decide (s1141.1 < (l.length : Int))) (by kernel_rfl) (by kernel_rfl) (fun hb => ?_) (fun hb => ?_)
  ·replace h := iteT hb h
   refine z4 ⟨[(3, (.row (.top 500000) 36)), (6, (.sl (List.map c_Point l))), (7, (vI (l.length : Int))), (8, (vI s1141.1))], [(500000, .row 36 [] (List.map c_Point s1141.2))]⟩ (by kernel_rfl) ?_
   refine sem_seq (by kernel_rfl) ?_
   refine sem_block (by kernel_rfl) ?_
   refine z7 (by kernel_rfl) ?_
   obtain ⟨x1569, hx1569, h⟩ := bindS h
   refine evs_op (st_idx (c := c_Point) (l := l) (i := s1141.1) (kd := .i64) (sz := 4) (by kernel_rfl) hx1569 rfl) ?_
   refine z1 3 ⟨[(3, (.row (.top 500000) 36)), (5, (.ptr 5 0)), (6, (.sl (List.map c_Point l))), (7, (vI (l.length : Int))), (8, (vI s1141.1))], [(5, .box [(vI x1569.X.A), (vI x1569.X.B), (vI x1569.Y.A), (vI x1569.Y.B)]), (500000, .row 36 [] (List.map c_Point s1141.2))]⟩ (by kernel_rfl) ?_
   refine sem_seq (by kernel_rfl) ?_
   refine sem_block (by kernel_rfl) ?_
   obtain ⟨x1707, hx1707, h⟩ := bindS h
   refine sem_loopS (fun (s1662 : (List Point)) => ⟨[(3, (.row (.top 500000) 36)), (5, (.ptr 500001 0)), (6, (.sl (List.map c_Point l))), (7, (vI (l.length : Int))), (8, (vI s1141.1))], [(500000, .row 36 [] (List.map c_Point s1662)), (500001, .box [(vI x1569.X.A), (vI x1569.X.B), (vI x1569.Y.A), (vI x1569.Y.B)])]⟩) (fun (x1707 : (List Point)) => (.exit 2, ⟨[(3, (.row (.top 500000) 36)), (5, (.ptr 500001 0)), (6, (.sl (List.map c_Point l))), (7, (vI (l.length : Int))), (8, (vI s1141.1))], [(500000, .row 36 [] (List.map c_Point x1707)), (500001, .box [(vI x1569.X.A), (vI x1569.X.B), (vI x1569.Y.A), (vI x1569.Y.B)])]⟩)) (geom_half_l1 x1569) s1141.2 x1707 (by kernel_rfl) (subR_prep [] [(5, 500001), (500000, 500000)] (by kernel_rfl) rfl rfl (by kernel_rfl)) hx1707 ?_ ?_ ?_
   ·intro s1662 r h
    refine sem_seq (by kernel_rfl) ?_
    refine sem_seq (by kernel_rfl) ?_
    obtain ⟨j1701, hj1701, h⟩ := bindS h
    refine sem_drawP ⟨[(3, (.row (.top 500000) 36)), (5, (.ptr 500001 0)), (6, (.sl (List.map c_Point l))), (7, (vI (l.length : Int))), (8, (vI s1141.1)), (31, (vB j1701))], [(500000, .row 36 [] (List.map c_Point s1662)), (500001, .box [(vI x1569.X.A), (vI x1569.X.B), (vI x1569.Y.A), (vI x1569.Y.B)])]⟩ [] [] [] [] [] 17 (by kernel_rfl) (by kernel_rfl) (by kernel_rfl) ?_ (fun τ hτ => ?_)
    ·replace h := hj1701
     refine evd_run 1 (by kernel_rfl) ?_
     refine evd_val (by kernel_rfl) (st_len (c := c_Point) (l := s1662) (x := (.row (.top 500000) 36)) (by kernel_rfl) (by kernel_rfl)) (by kernel_rfl) (by kernel_rfl) ?_
     refine evd_run 2 (by kernel_rfl) ?_
     refine evd_split (decide ((s1662.length : Int) > 1)) (fun b0 => ⟨[(15, (vB b0)), (14, (vB b0)), (13, (vI (s1662.length : Int))), (12, (.row (.top 500000) 36)), (3, (.row (.top 500000) 36)), (5, (.ptr 500001 0)), (6, (.sl (List.map c_Point l))), (7, (vI (l.length : Int))), (8, (vI s1141.1))], [(500000, .row 36 [] (List.map c_Point s1662)), (500001, .box [(vI x1569.X.A), (vI x1569.X.B), (vI x1569.Y.A), (vI x1569.Y.B)])]⟩) (by kernel_rfl) (fun hb => ?_) (fun hb => ?_)
     ·replace h := iteT hb h
      refine evd_run 2 (by kernel_rfl) ?_
      refine evd_val (by kernel_rfl) (st_len (c := c_Point) (l := s1662) (x := (.row (.top 500000) 36)) (by kernel_rfl) (by kernel_rfl)) (by kernel_rfl) (by kernel_rfl) ?_
      refine evd_run 1 (by kernel_rfl) ?_
      obtain ⟨x1702, hx1702, h⟩ := bindS h
      refine evd_val (by kernel_rfl) (st_idxO (c := c_Point) (l := s1662) (i := (isub (s1662.length : Int) 2)) (kd := .i64) (kk := (.top 500000)) (e := 36) (sz := 4) (by kernel_rfl) (by kernel_rfl) hx1702 rfl) (by kernel_rfl) (by kernel_rfl) ?_
      refine evd_val (by kernel_rfl) (st_ldO (c := c_Point) (l := s1662) (i := (Int.toNat (isub (s1662.length : Int) 2))) (v := (.agg [(vI x1702.X.A), (vI x1702.X.B), (vI x1702.Y.A), (vI x1702.Y.B)])) (agg := true) (sz := 4) (kk := (.top 500000)) (e := 36) (off := 0) (J := []) (by kernel_rfl) (by kernel_rfl) (by kernel_rfl) ((idxS hx1702).2) (by kernel_rfl)) (by kernel_rfl) (by kernel_rfl) ?_
      refine evd_run 2 (by kernel_rfl) ?_
      refine evd_val (by kernel_rfl) (st_len (c := c_Point) (l := s1662) (x := (.row (.top 500000) 36)) (by kernel_rfl) (by kernel_rfl)) (by kernel_rfl) (by kernel_rfl) ?_
      refine evd_run 1 (by kernel_rfl) ?_
      obtain ⟨x1703, hx1703, h⟩ := bindS h
      refine evd_val (by kernel_rfl) (st_idxO (c := c_Point) (l := s1662) (i := (isub (s1662.length : Int) 1)) (kd := .i64) (kk := (.top 500000)) (e := 36) (sz := 4) (by kernel_rfl) (by kernel_rfl) hx1703 rfl) (by kernel_rfl) (by kernel_rfl) ?_
      refine evd_val (by kernel_rfl) (st_ldO (c := c_Point) (l := s1662) (i := (Int.toNat (isub (s1662.length : Int) 1))) (v := (.agg [(vI x1703.X.A), (vI x1703.X.B), (vI x1703.Y.A), (vI x1703.Y.B)])) (agg := true) (sz := 4) (kk := (.top 500000)) (e := 36) (off := 0) (J := []) (by kernel_rfl) (by kernel_rfl) (by kernel_rfl) ((idxS hx1703).2) (by kernel_rfl)) (by kernel_rfl) (by kernel_rfl) ?_
      refine evd_run 1 (by kernel_rfl) ?_
      refine evd_end (by kernel_rfl) ?_
      obtain ⟨r1704, hr1704, h⟩ := bindS h
      refine evo_callP [] (by kernel_rfl) (W.geom_orient_ok hr1704) (by kernel_rfl) (.inl rfl) (by kernel_rfl) ?_
      refine evo_run 2 (by kernel_rfl) ?_
      refine evo_endS (by kernel_rfl) (fun τ hτ => ?_)
      obtain rfl := Option.some.inj h
      exact leafC hτ (here (by kernel_rfl))
     ·replace h := iteF hb h
      refine evd_run 13 (by kernel_rfl) ?_
      refine evd_end (by kernel_rfl) ?_
      refine evo_run 3 (by kernel_rfl) ?_
      refine evo_endS (by kernel_rfl) (fun τ hτ => ?_)
      obtain rfl := Option.some.inj h
      exact leafC hτ (here (by kernel_rfl))
    refine th_normalS hτ ⟨[(3, (.row (.top 500000) 36)), (5, (.ptr 500001 0)), (6, (.sl (List.map c_Point l))), (7, (vI (l.length : Int))), (8, (vI s1141.1)), (31, (vB j1701))], [(500000, .row 36 [] (List.map c_Point s1662)), (500001, .box [(vI x1569.X.A), (vI x1569.X.B), (vI x1569.Y.A), (vI x1569.Y.B)])]⟩ (here (by kernel_rfl)) ?_
    refine sem_cond j1701 (by kernel_rfl) (by kernel_rfl) (fun hb => ?_) (fun hb => ?_)
    ·replace h := iteT hb h
     refine z4 ⟨[(3, (.row (.top 500000) 36)), (5, (.ptr 500001 0)), (6, (.sl (List.map c_Point l))), (7, (vI (l.length : Int))), (8, (vI s1141.1))], [(500000, .row 36 [] (List.map c_Point s1662)), (500001, .box [(vI x1569.X.A), (vI x1569.X.B), (vI x1569.Y.A), (vI x1569.Y.B)])]⟩ (by kernel_rfl) ?_
     refine sem_block (by kernel_rfl) ?_
     refine sem_region (by kernel_rfl) ?_
     refine evs_run 2 (by kernel_rfl) ?_
     refine evs_op (st_len (c := c_Point) (l := s1662) (x := (.row (.top 500000) 36)) (by kernel_rfl) (by kernel_rfl)) ?_
     refine evs_run 1 (by kernel_rfl) ?_
     obtain ⟨l1706, hl1706, h⟩ := bindS h
     refine evs_at (at_cut (J := []) (c := c_Point) (l := s1662) (e := 36) (g := 500000) (hi := (isub (s1662.length : Int) 1)) (k2 := .i64) (by kernel_rfl) (by kernel_rfl) rfl hl1706) ?_
     refine z6 1 (by kernel_rfl) (fun τ hτ => ?_)
     refine bl_normal ?_
     obtain rfl := Option.some.inj h
     exact lk_nextS hτ (here (by kernel_rfl))
    ·replace h := iteF hb h
     refine sem_exitS 2 (by kernel_rfl) rfl (fun τ hτ => ?_)
     refine th_exit ?_
     obtain rfl := Option.some.inj h
     exact lk_outS hτ rfl (here (by kernel_rfl))
   ·intro x
    rfl
   ·intro τ hτ
    refine bl_hit (by kernel_rfl) ?_
    refine th_normalS hτ ⟨[(3, (.row (.top 500000) 36)), (5, (.ptr 500001 0)), (6, (.sl (List.map c_Point l))), (7, (vI (l.length : Int))), (8, (vI s1141.1))], [(500000, .row 36 [] (List.map c_Point x1707)), (500001, .box [(vI x1569.X.A), (vI x1569.X.B), (vI x1569.Y.A), (vI x1569.Y.B)])]⟩ (here (by kernel_rfl)) ?_
    refine sem_region (by kernel_rfl) ?_
    refine evs_run 3 (by kernel_rfl) ?_
    obtain ⟨l1709, hl1709, h⟩ := bindS h
    refine evs_op (st_app (c := c_Point) (l := x1707) (l2 := [x1569]) (x := (.sl (List.map c_Point [x1569]))) (g := 500000) (e := 36) (sz := 4) (d := 40) (by kernel_rfl) (by kernel_rfl) (by kernel_rfl) (by kernel_rfl) (fun _ => rfl) rfl hl1709) ?_
    refine z6 1 (by kernel_rfl) (fun τ hτ => ?_)
    refine bl_normal ?_
    refine th_normalS hτ ⟨[(3, (.row (.top 500000) 36)), (6, (.sl (List.map c_Point l))), (7, (vI (l.length : Int))), (8, (vI s1141.1))], [(500000, .row 36 [] (List.map c_Point l1709))]⟩ (here (by kernel_rfl)) ?_
    refine sem_region (by kernel_rfl) ?_
    refine z6 2 (by kernel_rfl) (fun τ hτ => ?_)
    obtain rfl := Option.some.inj h
    exact lk_nextS hτ (here (by kernel_rfl))
  ·replace h := iteF hb h
   refine sem_exitS 0 (by kernel_rfl) rfl (fun τ hτ => ?_)
   refine th_exit ?_
   obtain rfl := Option.some.inj h
   exact lk_outS hτ rfl (here (by kernel_rfl))
 ·intro x
  rfl
 ·intro τ hτ
  refine bl_hit (by kernel_rfl) ?_
  refine th_normalS hτ ⟨[(3, (.row (.top 500000) 36))], [(500000, .row 36 [] (List.map c_Point x1710))]⟩ (here (by kernel_rfl)) ?_
  refine z8 2 ⟨[(2, (.row (.top 500000) 36))], [(500000, .row 36 [] (List.map c_Point x1710))]⟩ (by kernel_rfl) (fun τ hτ => ?_)
  obtain rfl := Option.some.inj h
  exact rk_ret hτ [(2, (.row (.top 0) 36))] (subR_prep [] [(500000, 0)] (by kernel_rfl) rfl rfl (by kernel_rfl)) (by kernel_rfl)
theorem W.slices_Reverse_Lapi_Point_api_Point_ok {h0 : (List Point)} {r : (List Point)} (h : slices_Reverse_Lapi_Point_api_Point h0 = some r) : PC G.P 108 [(.row (.top 1000000) 36)] [(1000000, .row 36 [] (List.map c_Point h0))] (.tup []) [(1000000, .row 36 [] (List.map c_Point r))] := by
 refine pc_of G (fn := Try.f108) Try.func108 (by kernel_rfl) (by kernel_rfl) (by kernel_rfl) (by kernel_rfl) (by kernel_rfl) ?_
 refine sem_set ⟨[(0, (.row (.top 1000000) 36))], [(1000000, .row 36 [] (List.map c_Point h0))]⟩ (by kernel_rfl) ?_
 refine z7 (by kernel_rfl) ?_
 refine evs_run 1 (by kernel_rfl) ?_
 refine evs_op (st_len (c := c_Point) (l := h0) (x := (.row (.top 1000000) 36)) (by kernel_rfl) (by kernel_rfl)) ?_
 refine z1 3 ⟨[(0, (.row (.top 1000000) 36)), (2, (vI 0)), (3, (vI (isub (h0.length : Int) 1)))], [(1000000, .row 36 [] (List.map c_Point h0))]⟩ (by kernel_rfl) ?_
 refine sem_block (by kernel_rfl) ?_
 obtain ⟨x75, hx75, h⟩ := bindS h
 refine sem_loopS (fun (s26 : Int × Int × (List Point)) => ⟨[(0, (.row (.top 1000000) 36)), (2, (vI s26.1)), (3, (vI s26.2.1))], [(1000000, .row 36 [] (List.map c_Point s26.2.2))]⟩) (fun (x75 : (List Point)) => (.exit 0, ⟨[], [(1000000, .row 36 [] (List.map c_Point x75))]⟩)) (slices_Reverse_Lapi_Point_api_Point_l1) (0, (isub (h0.length : Int) 1), h0) x75 (by kernel_rfl) (here (by kernel_rfl)) hx75 ?_ ?_ ?_
 ·intro s26 r h
  refine sem_seq (by kernel_rfl) ?_
  refine z3 3 ⟨[(0, (.row (.top 1000000) 36)), (2, (vI s26.1)), (3, (vI s26.2.1)), (9, (vB (decide (s26.1 < s26.2.1))))], [(1000000, .row 36 [] (List.map c_Point s26.2.2))]⟩ (by kernel_rfl) ?_
  refine sem_cond (decide (s26.1 < s26.2.1)) (by kernel_rfl) (by kernel_rfl) (fun hb => ?_) (fun hb => ?_)
  ·replace h := iteT hb h
   refine z4 ⟨[(0, (.row (.top 1000000) 36)), (2, (vI s26.1)), (3, (vI s26.2.1))], [(1000000, .row 36 [] (List.map c_Point s26.2.2))]⟩ (by kernel_rfl) ?_
   refine sem_seq (by kernel_rfl) ?_
   refine sem_block (by kernel_rfl) ?_
   refine sem_drawN [(13, [1000000])] [] [] [(2, [1000000]), (3, [1000000])] [] 14 (by kernel_rfl) (by kernel_rfl) (by kernel_rfl) ?_
   refine evd_run 6 (by kernel_rfl) ?_
   obtain ⟨x71, hx71, h⟩ := bindS h
   refine evd_val (by kernel_rfl) (st_idxO (c := c_Point) (l := s26.2.2) (i := s26.2.1) (kd := .i64) (kk := (.top 1000000)) (e := 36) (sz := 4) (by kernel_rfl) (by kernel_rfl) hx71 rfl) (by kernel_rfl) (by kernel_rfl) ?_
   refine evd_val (by kernel_rfl) (st_ldO (c := c_Point) (l := s26.2.2) (i := (Int.toNat s26.2.1)) (v := (.agg [(vI x71.X.A), (vI x71.X.B), (vI x71.Y.A), (vI x71.Y.B)])) (agg := true) (sz := 4) (kk := (.top 1000000)) (e := 36) (off := 0) (J := []) (by kernel_rfl) (by kernel_rfl) (by kernel_rfl) ((idxS hx71).2) (by kernel_rfl)) (by kernel_rfl) (by kernel_rfl) ?_
   refine evd_run 2 (by kernel_rfl) ?_
   obtain ⟨x72, hx72, h⟩ := bindS h
   refine evd_val (by kernel_rfl) (st_idxO (c := c_Point) (l := s26.2.2) (i := s26.1) (kd := .i64) (kk := (.top 1000000)) (e := 36) (sz := 4) (by kernel_rfl) (by kernel_rfl) hx72 rfl) (by kernel_rfl) (by kernel_rfl) ?_
   refine evd_val (by kernel_rfl) (st_ldO (c := c_Point) (l := s26.2.2) (i := (Int.toNat s26.1)) (v := (.agg [(vI x72.X.A), (vI x72.X.B), (vI x72.Y.A), (vI x72.Y.B)])) (agg := true) (sz := 4) (kk := (.top 1000000)) (e := 36) (off := 0) (J := []) (by kernel_rfl) (by kernel_rfl) (by kernel_rfl) ((idxS hx72).2) (by kernel_rfl)) (by kernel_rfl) (by kernel_rfl) ?_
   obtain ⟨x73, hx73, h⟩ := bindS h
   refine evd_val (by kernel_rfl) (st_idxO (c := c_Point) (l := s26.2.2) (i := s26.1) (kd := .i64) (kk := (.top 1000000)) (e := 36) (sz := 4) (by kernel_rfl) (by kernel_rfl) hx73 rfl) (by kernel_rfl) (by kernel_rfl) ?_
   refine evd_set (by kernel_rfl) (st_stO (c := c_Point) (l := s26.2.2) (i := (Int.toNat s26.1)) (x := x73) (x' := x71) (v := (.agg [(vI x71.X.A), (vI x71.X.B), (vI x71.Y.A), (vI x71.Y.B)])) (agg := true) (sz := 4) (kk := (.top 1000000)) (e := 36) (off := 0) (J := []) (o := .row 36 [] (List.map c_Point (List.set s26.2.2 (Int.toNat s26.1) x71))) (by kernel_rfl) (by kernel_rfl) (by kernel_rfl) ((idxS hx73).2) (by kernel_rfl) (by kernel_rfl) (by kernel_rfl)) (by kernel_rfl) (by kernel_rfl) (by kernel_rfl) ?_
   refine evd_end (by kernel_rfl) ?_
   obtain ⟨x74, hx74, h⟩ := bindS h
   refine evo_op (st_idxO (c := c_Point) (l := (List.set s26.2.2 (Int.toNat s26.1) x71)) (i := s26.2.1) (kd := .i64) (kk := (.top 1000000)) (e := 36) (sz := 4) (by kernel_rfl) (by kernel_rfl) hx74 rfl) ?_
   refine evo_op (st_stO (c := c_Point) (l := (List.set s26.2.2 (Int.toNat s26.1) x71)) (i := (Int.toNat s26.2.1)) (x := x74) (x' := x72) (v := (.agg [(vI x72.X.A), (vI x72.X.B), (vI x72.Y.A), (vI x72.Y.B)])) (agg := true) (sz := 4) (kk := (.top 1000000)) (e := 36) (off := 0) (J := []) (o := .row 36 [] (List.map c_Point (List.set (List.set s26.2.2 (Int.toNat s26.1) x71) (Int.toNat s26.2.1) x72))) (by kernel_rfl) (by kernel_rfl) (by kernel_rfl) ((idxS hx74).2) (by kernel_rfl) (by kernel_rfl) (by kernel_rfl)) ?_
   refine evo_endS (by kernel_rfl) (fun τ hτ => ?_)
   refine bl_normal ?_
   refine th_normalS hτ ⟨[(0, (.row (.top 1000000) 36)), (2, (vI s26.1)), (3, (vI s26.2.1))], [(1000000, .row 36 [] (List.map c_Point (List.set (List.set s26.2.2 (Int.toNat s26.1) x71) (Int.toNat s26.2.1) x72)))]⟩ (here (by kernel_rfl)) ?_
   refine sem_region (by kernel_rfl) ?_
   refine z6 6 (by kernel_rfl) (fun τ hτ => ?_)
   obtain rfl := Option.some.inj h
   exact lk_nextS hτ (here (by kernel_rfl))
  ·replace h := iteF hb h
   refine sem_exitS 0 (by kernel_rfl) rfl (fun τ hτ => ?_)
   refine th_exit ?_
   obtain rfl := Option.some.inj h
   exact lk_outS hτ rfl (here (by kernel_rfl))
 ·intro x
  rfl
 ·intro τ hτ
  refine bl_hit (by kernel_rfl) ?_
  obtain rfl := Option.some.inj h
  exact rk_normal hτ [] (here (by kernel_rfl)) (by kernel_rfl)
theorem W.geom_hull_ok {l : (List Point)} {r : (List Point)} (h : geom_hull l = some r) : PC G.P 78 [(.sl (List.map c_Point l))] [] (.row (.top 0) 36) [(0, .row 36 [] (List.map c_Point r))] := by
 refine pc_of G (fn := Try.f78) Try.func78 (by kernel_rfl) (by kernel_rfl) (by kernel_rfl) (by kernel_rfl) (by kernel_rfl) ?_
 refine sem_set ⟨[(0, (.sl (List.map c_Point l)))], []⟩ (by kernel_rfl) ?_
 refine z3 1 ⟨[(0, (.sl (List.map c_Point l)))], []⟩ (by kernel_rfl) ?_
 refine z7 (by kernel_rfl) ?_
 refine evs_run 1 (by kernel_rfl) ?_
 obtain ⟨r2, hr2, h⟩ := bindS h
 refine evs_callS [] [(0, 700050)] [] (by kernel_rfl) (W.geom_sorted_api_Point__geom_comparePoints_ok hr2) (by kernel_rfl) (by kernel_rfl) (.inl rfl) ?_
 refine z1 1 ⟨[(0, (.row (.top 700050) 36))], [(700050, .row 36 [] (List.map c_Point r2))]⟩ (by kernel_rfl) ?_
 refine sem_seq (by kernel_rfl) ?_
 refine z7 (by kernel_rfl) ?_
 refine evs_run 1 (by kernel_rfl) ?_
 refine evs_op (st_len (c := c_Point) (l := r2) (x := (.row (.top 700050) 36)) (by kernel_rfl) (by kernel_rfl)) ?_
 refine z1 1 ⟨[(0, (.row (.top 700050) 36)), (9, (vB (decide ((r2.length : Int) < 3))))], [(700050, .row 36 [] (List.map c_Point r2))]⟩ (by kernel_rfl) ?_
 refine sem_cond (decide ((r2.length : Int) < 3)) (by kernel_rfl) (by kernel_rfl) (fun hb => ?_) (fun hb => ?_)
 ·replace h := iteT hb h
  refine z8 2 ⟨[(2, (.row (.top 700050) 36))], [(700050, .row 36 [] (List.map c_Point r2))]⟩ (by kernel_rfl) (fun τ hτ => ?_)
  refine th_ret ?_
  obtain rfl := Option.some.inj h
  exact rk_ret hτ [(2, (.row (.top 0) 36))] (subR_prep [] [(700050, 0)] (by kernel_rfl) rfl rfl (by kernel_rfl)) (by kernel_rfl)
 ·replace h := iteF hb h
  refine z4 ⟨[(0, (.row (.top 700050) 36))], [(700050, .row 36 [] (List.map c_Point r2))]⟩ (by kernel_rfl) ?_
  refine z7 (by kernel_rfl) ?_
  refine evs_run 1 (by kernel_rfl) ?_
  obtain ⟨r4, hr4, h⟩ := bindS h
  refine evs_callS [] [(0, 700051)] [700050] (by kernel_rfl) (W.geom_half_ok hr4) (by kernel_rfl) (by kernel_rfl) (.inr ⟨rfl, fun _ _ => ind_cons (ind_row fun _ => rfl) (fun _ _ => ind_nil)⟩) ?_
  refine z1 1 ⟨[(0, (.row (.top 700050) 36)), (3, (.row (.top 700051) 36))], [(700050, .row 36 [] (List.map c_Point r2)), (700051, .row 36 [] (List.map c_Point r4))]⟩ (by kernel_rfl) ?_
  refine z7 (by kernel_rfl) ?_
  refine evs_run 1 (by kernel_rfl) ?_
  obtain ⟨r6, hr6, h⟩ := bindS h
  refine evs_callS [(1000000, 700050)] [] [] (by kernel_rfl) (W.slices_Reverse_Lapi_Point_api_Point_ok hr6) (by kernel_rfl) (by kernel_rfl) (.inl rfl) ?_
  refine evs_endS (by kernel_rfl) (fun τ hτ => ?_)
  refine th_normalS hτ ⟨[(0, (.row (.top 700050) 36)), (3, (.row (.top 700051) 36))], [(700050, .row 36 [] (List.map c_Point r6)), (700051, .row 36 [] (List.map c_Point r4))]⟩ (here (by kernel_rfl)) ?_
  refine z7 (by kernel_rfl) ?_
  refine evs_run 1 (by kernel_rfl) ?_
  obtain ⟨r8, hr8, h⟩ := bindS h
  refine evs_callS [] [(0, 700052)] [700050] (by kernel_rfl) (W.geom_half_ok hr8) (by kernel_rfl) (by kernel_rfl) (.inr ⟨rfl, fun _ _ => ind_cons (ind_row fun _ => rfl) (fun _ _ => ind_nil)⟩) ?_
  refine z1 1 ⟨[(3, (.row (.top 700051) 36)), (4, (.row (.top 700052) 36))], [(700051, .row 36 [] (List.map c_Point r4)), (700052, .row 36 [] (List.map c_Point r8))]⟩ (by kernel_rfl) ?_
  refine sem_seq (by kernel_rfl) ?_
  refine sem_prep [.frz 700052] (by kernel_rfl) ?_
  refine sem_draw [(4, [700051, 600004])] [(4, [600004])] [] [(5, [700051, 600004]), (6, [700051, 600004]), (7, [700051, 600004]), (8, [700051, 600004]), (9, [700051, 600004])] [(0, [600004]), (1, [600004]), (2, [600004]), (3, [600004]), (5, [600004]), (6, [600004]), (7, [600004]), (8, [600004]), (9, [600004])] 10 (by kernel_rfl) (by kernel_rfl) [600004] (by kernel_rfl) (by kernel_rfl) ?_
  refine evd_run 2 (by kernel_rfl) ?_
  refine evd_val (by kernel_rfl) (st_len (c := c_Point) (l := r4) (x := (.row (.top 700051) 36)) (by kernel_rfl) (by kernel_rfl)) (by kernel_rfl) (by kernel_rfl) ?_
  refine evd_run 1 (by kernel_rfl) ?_
  obtain ⟨l16, hl16, h⟩ := bindS h
  refine evd_cut (J := []) (c := c_Point) (l := r4) (e := 36) (g := 700051) (g2 := 600004) (hi := (isub (r4.length : Int) 1)) (k2 := .i64) (by kernel_rfl) (by kernel_rfl) (by kernel_rfl) hl16 (by kernel_rfl) (by kernel_rfl) (by kernel_rfl) (by kernel_rfl) (by kernel_rfl) ?_
  refine evd_run 2 (by kernel_rfl) ?_
  refine evd_val (by kernel_rfl) (st_len (c := c_Point) (l := r8) (x := (.sl (List.map c_Point r8))) (by kernel_rfl) (by kernel_rfl)) (by kernel_rfl) (by kernel_rfl) ?_
  refine evd_run 1 (by kernel_rfl) ?_
  obtain ⟨l17, hl17, h⟩ := bindS h
  refine evd_val (by kernel_rfl) (st_slH (c := c_Point) (l := r8) (sz := 4) (hi := (isub (r8.length : Int) 1)) (k2 := .i64) (by kernel_rfl) hl17) (by kernel_rfl) (by kernel_rfl) ?_
  refine evd_end (by kernel_rfl) ?_
  obtain ⟨l18, hl18, h⟩ := bindS h
  refine evo_op (st_app (c := c_Point) (l := l16) (l2 := l17) (x := (.sl (List.map c_Point l17))) (g := 600004) (e := 36) (sz := 4) (d := 27) (by kernel_rfl) (by kernel_rfl) (by kernel_rfl) (by kernel_rfl) (fun _ => rfl) rfl hl18) ?_
  refine evo_run 1 (by kernel_rfl) ?_
  refine evo_endS (by kernel_rfl) (fun τ hτ => ?_)
  refine th_normalS hτ ⟨[(2, (.row (.top 600004) 36))], [(600004, .row 36 [] (List.map c_Point l18))]⟩ (here (by kernel_rfl)) ?_
  refine sem_retS (by kernel_rfl) (fun τ hτ => ?_)
  obtain rfl := Option.some.inj h
  exact rk_ret hτ [(2, (.row (.top 0) 36))] (subR_prep [] [(600004, 0)] (by kernel_rfl) rfl rfl (by kernel_rfl)) (by kernel_rfl)
theorem W.sheetmetalref01_ComparePoint_ok {a : Point} {b : Point} {r : Int} (h : sheetmetalref01_ComparePoint a b = some r) : PC G.P 109 [(.agg [(vI a.X.A), (vI a.X.B), (vI a.Y.A), (vI a.Y.B)]), (.agg [(vI b.X.A), (vI b.X.B), (vI b.Y.A), (vI b.Y.B)])] [] (vI r) [] := by
 refine pc_of G (fn := Try.f109) Try.func109 (by kernel_rfl) (by kernel_rfl) (by kernel_rfl) (by kernel_rfl) (by kernel_rfl) ?_
 refine sem_set ⟨[(0, (.agg [(vI a.X.A), (vI a.X.B), (vI a.Y.A), (vI a.Y.B)])), (1, (.agg [(vI b.X.A), (vI b.X.B), (vI b.Y.A), (vI b.Y.B)]))], []⟩ (by kernel_rfl) ?_
 refine z3 3 ⟨[(2, (.ptr 2 0)), (3, (.ptr 3 0))], [(2, .box [(vI a.X.A), (vI a.X.B), (vI a.Y.A), (vI a.Y.B)]), (3, .box [(vI b.X.A), (vI b.X.B), (vI b.Y.A), (vI b.Y.B)])]⟩ (by kernel_rfl) ?_
 refine z7 (by kernel_rfl) ?_
 refine evs_run 4 (by kernel_rfl) ?_
 obtain ⟨r3, hr3, h⟩ := bindS h
 refine evs_callS [] [(0, 700200)] [] (by kernel_rfl) (W.sheetmetalref01_minus_ok hr3) (by kernel_rfl) (by kernel_rfl) (.inl rfl) ?_
 obtain ⟨r4, hr4, h⟩ := bindS h
 refine evs_callP [] (by kernel_rfl) (W.sheetmetalref01_sign_ok hr4) (by kernel_rfl) (.inl rfl) (by kernel_rfl) ?_
 refine z1 1 ⟨[(2, (.ptr 2 0)), (3, (.ptr 3 0)), (5, (vI r4))], [(2, .box [(vI a.X.A), (vI a.X.B), (vI a.Y.A), (vI a.Y.B)]), (3, .box [(vI b.X.A), (vI b.X.B), (vI b.Y.A), (vI b.Y.B)])]⟩ (by kernel_rfl) ?_
 refine sem_seq (by kernel_rfl) ?_
 refine z3 2 ⟨[(2, (.ptr 2 0)), (3, (.ptr 3 0)), (5, (vI r4)), (13, (vB (r4 == 0)))], [(2, .box [(vI a.X.A), (vI a.X.B), (vI a.Y.A), (vI a.Y.B)]), (3, .box [(vI b.X.A), (vI b.X.B), (vI b.Y.A), (vI b.Y.B)])]⟩ (by kernel_rfl) ?_
 refine sem_cond (r4 == 0) (by kernel_rfl) (by kernel_rfl) (fun hb => ?_) (fun hb => ?_)
 ·replace h := iteT hb h
  refine z7 (by kernel_rfl) ?_
  refine evs_run 4 (by kernel_rfl) ?_
  obtain ⟨r11, hr11, h⟩ := bindS h
  refine evs_callS [] [(0, 700200)] [] (by kernel_rfl) (W.sheetmetalref01_minus_ok hr11) (by kernel_rfl) (by kernel_rfl) (.inl rfl) ?_
  obtain ⟨r12, hr12, h⟩ := bindS h
  refine evs_callP [] (by kernel_rfl) (W.sheetmetalref01_sign_ok hr12) (by kernel_rfl) (.inl rfl) (by kernel_rfl) ?_
  refine z1 1 ⟨[(4, (vI r12))], []⟩ (by kernel_rfl) ?_
  refine sem_retS (by kernel_rfl) (fun τ hτ => ?_)
  refine th_ret ?_
  obtain rfl := Option.some.inj h
  exact rk_ret hτ [(4, (vI r12))] (here (by kernel_rfl)) (by kernel_rfl)
 ·replace h := iteF hb h
  refine z4 ⟨[(5, (vI r4))], []⟩ (by kernel_rfl) ?_
  refine z8 2 ⟨[(4, (vI r4))], []⟩ (by kernel_rfl) (fun τ hτ => ?_)
  obtain rfl := Option.some.inj h
  exact rk_ret hτ [(4, (vI r4))] (here (by kernel_rfl)) (by kernel_rfl)
theorem W.sheetmetalref01_between_ok {p : Point} {q : Point} {r2 : Point} {r : Bool} (h : sheetmetalref01_between p q r2 = some r) : PC G.P 110 [(.agg [(vI p.X.A), (vI p.X.B), (vI p.Y.A), (vI p.Y.B)]), (.agg [(vI q.X.A), (vI q.X.B), (vI q.Y.A), (vI q.Y.B)]), (.agg [(vI r2.X.A), (vI r2.X.B), (vI r2.Y.A), (vI r2.Y.B)])] [] (vB r) [] := by
 refine pc_of G (fn := Try.f110) Try.func110 (by kernel_rfl) (by kernel_rfl) (by kernel_rfl) (by kernel_rfl) (by kernel_rfl) ?_
 refine sem_set ⟨[(0, (.agg [(vI p.X.A), (vI p.X.B), (vI p.Y.A), (vI p.Y.B)])), (1, (.agg [(vI q.X.A), (vI q.X.B), (vI q.Y.A), (vI q.Y.B)])), (2, (.agg [(vI r2.X.A), (vI r2.X.B), (vI r2.Y.A), (vI r2.Y.B)]))], []⟩ (by kernel_rfl) ?_
 refine z3 4 ⟨[(3, (.ptr 3 0)), (4, (.ptr 4 0)), (5, (.ptr 5 0))], [(3, .box [(vI p.X.A), (vI p.X.B), (vI p.Y.A), (vI p.Y.B)]), (4, .box [(vI q.X.A), (vI q.X.B), (vI q.Y.A), (vI q.Y.B)]), (5, .box [(vI r2.X.A), (vI r2.X.B), (vI r2.Y.A), (vI r2.Y.B)])]⟩ (by kernel_rfl) ?_
 refine sem_seq (by kernel_rfl) ?_
 obtain ⟨j7, hj7, h⟩ := bindS h
 refine sem_regionC ⟨[(6, (vB j7))], []⟩ (by kernel_rfl) ?_ (fun τ hτ => ?_)
 ·replace h := hj7
  refine evs_run 2 (by kernel_rfl) ?_
  obtain ⟨r8, hr8, h⟩ := bindS h
  refine evs_callP [] (by kernel_rfl) (W.sheetmetalref01_ComparePoint_ok hr8) (by kernel_rfl) (.inl rfl) (by kernel_rfl) ?_
  refine evs_run 2 (by kernel_rfl) ?_
  refine evs_split (decide (r8 ≤ 0)) (fun b0 => ⟨[(3, (.ptr 3 0)), (4, (.ptr 4 0)), (5, (.ptr 5 0)), (11, (vB b0))], [(3, .box [(vI p.X.A), (vI p.X.B), (vI p.Y.A), (vI p.Y.B)]), (4, .box [(vI q.X.A), (vI q.X.B), (vI q.Y.A), (vI q.Y.B)]), (5, .box [(vI r2.X.A), (vI r2.X.B), (vI r2.Y.A), (vI r2.Y.B)])]⟩) (by kernel_rfl) (fun hb => ?_) (fun hb => ?_)
  ·replace h := iteT hb h
   refine evs_run 2 (by kernel_rfl) ?_
   obtain ⟨r9, hr9, h⟩ := bindS h
   refine evs_callP [] (by kernel_rfl) (W.sheetmetalref01_ComparePoint_ok hr9) (by kernel_rfl) (.inl rfl) (by kernel_rfl) ?_
   refine evs_run 3 (by kernel_rfl) ?_
   refine evs_split (decide (r9 ≤ 0)) (fun b0 => ⟨[(3, (.ptr 3 0)), (4, (.ptr 4 0)), (5, (.ptr 5 0)), (17, (vB b0))], [(3, .box [(vI p.X.A), (vI p.X.B), (vI p.Y.A), (vI p.Y.B)]), (4, .box [(vI q.X.A), (vI q.X.B), (vI q.Y.A), (vI q.Y.B)]), (5, .box [(vI r2.X.A), (vI r2.X.B), (vI r2.Y.A), (vI r2.Y.B)])]⟩) (by kernel_rfl) (fun hb => ?_) (fun hb => ?_)
   ·replace h := iteT hb h
    refine z6 12 (by kernel_rfl) (fun τ hτ => ?_)
    obtain rfl := Option.some.inj h
    exact leafC hτ (here (by kernel_rfl))
   ·replace h := iteF hb h
    refine evs_run 2 (by kernel_rfl) ?_
    obtain ⟨r10, hr10, h⟩ := bindS h
    refine evs_callP [] (by kernel_rfl) (W.sheetmetalref01_ComparePoint_ok hr10) (by kernel_rfl) (.inl rfl) (by kernel_rfl) ?_
    refine evs_run 2 (by kernel_rfl) ?_
    refine evs_split (decide (r10 ≥ 0)) (fun b0 => ⟨[(4, (.ptr 4 0)), (5, (.ptr 5 0)), (17, (vB false)), (22, (vB b0))], [(4, .box [(vI q.X.A), (vI q.X.B), (vI q.Y.A), (vI q.Y.B)]), (5, .box [(vI r2.X.A), (vI r2.X.B), (vI r2.Y.A), (vI r2.Y.B)])]⟩) (by kernel_rfl) (fun hb => ?_) (fun hb => ?_)
    ·replace h := iteT hb h
     refine evs_run 2 (by kernel_rfl) ?_
     obtain ⟨r11, hr11, h⟩ := bindS h
     refine evs_callP [] (by kernel_rfl) (W.sheetmetalref01_ComparePoint_ok hr11) (by kernel_rfl) (.inl rfl) (by kernel_rfl) ?_
     refine z6 4 (by kernel_rfl) (fun τ hτ => ?_)
     obtain rfl := Option.some.inj h
     exact leafC hτ (here (by kernel_rfl))
    ·replace h := iteF hb h
     refine z6 7 (by kernel_rfl) (fun τ hτ => ?_)
     obtain rfl := Option.some.inj h
     exact leafC hτ (here (by kernel_rfl))
  ·replace h := iteF hb h
   refine evs_run 8 (by kernel_rfl) ?_
   obtain ⟨r12, hr12, h⟩ := bindS h
   refine evs_callP [] (by kernel_rfl) (W.sheetmetalref01_ComparePoint_ok hr12) (by kernel_rfl) (.inl rfl) (by kernel_rfl) ?_
   refine evs_run 2 (by kernel_rfl) ?_
   refine evs_split (decide (r12 ≥ 0)) (fun b0 => ⟨[(4, (.ptr 4 0)), (5, (.ptr 5 0)), (17, (vB false)), (22, (vB b0))], [(4, .box [(vI q.X.A), (vI q.X.B), (vI q.Y.A), (vI q.Y.B)]), (5, .box [(vI r2.X.A), (vI r2.X.B), (vI r2.Y.A), (vI r2.Y.B)])]⟩) (by kernel_rfl) (fun hb => ?_) (fun hb => ?_)
   ·replace h := iteT hb h
    refine evs_run 2 (by kernel_rfl) ?_
    obtain ⟨r13, hr13, h⟩ := bindS h
    refine evs_callP [] (by kernel_rfl) (W.sheetmetalref01_ComparePoint_ok hr13) (by kernel_rfl) (.inl rfl) (by kernel_rfl) ?_
    refine z6 4 (by kernel_rfl) (fun τ hτ => ?_)
    obtain rfl := Option.some.inj h
    exact leafC hτ (here (by kernel_rfl))
   ·replace h := iteF hb h
    refine z6 7 (by kernel_rfl) (fun τ hτ => ?_)
    obtain rfl := Option.some.inj h
    exact leafC hτ (here (by kernel_rfl))
 refine th_normalS hτ ⟨[(6, (vB j7))], []⟩ (here (by kernel_rfl)) ?_
 refine sem_retS (by kernel_rfl) (fun τ hτ => ?_)
 obtain rfl := Option.some.inj h
 exact rk_ret hτ [(6, (vB j7))] (here (by kernel_rfl)) (by kernel_rfl)
theorem W.sheetmetalref01_Wrap_ok {l : (List Point)} {r : (List Point)} (h : sheetmetalref01_Wrap l = some r) : PC G.P 81 [(.sl (List.map c_Point l))] [] (.row (.top 0) 36) [(0, .row 36 [] (List.map c_Point r))] := by
 refine pc_of G (fn := Try.f81) Try.func81 (by kernel_rfl) (by kernel_rfl) (by kernel_rfl) (by kernel_rfl) (by kernel_rfl) ?_
 refine sem_set ⟨[(0, (.sl (List.map c_Point l)))], []⟩ (by kernel_rfl) ?_
 refine z3 1 ⟨[(0, (.sl (List.map c_Point l)))], []⟩ (by kernel_rfl) ?_
 refine z3 1 ⟨[(0, (.sl (List.map c_Point l))), (3, (vI 0))], []⟩ (by kernel_rfl) ?_
 refine sem_seq (by kernel_rfl) ?_
 refine z3 1 ⟨[(0, (.sl (List.map c_Point l))), (3, (vI 0)), (4, (vI 1))], []⟩ (by kernel_rfl) ?_
 refine sem_block (by kernel_rfl) ?_
 obtain ⟨x120, hx120, h⟩ := bindS h
 refine sem_loopS (fun (s81 : Int × Int) => ⟨[(0, (.sl (List.map c_Point l))), (3, (vI s81.1)), (4, (vI s81.2))], []⟩) (fun (x120 : Int) => (.exit 0, ⟨[(0, (.sl (List.map c_Point l))), (3, (vI x120))], []⟩)) (sheetmetalref01_Wrap_l2 l) (0, 1) x120 (by kernel_rfl) (here (by kernel_rfl)) hx120 ?_ ?_ ?_
 ·intro s81 r h
  refine sem_seq (by kernel_rfl) ?_
  refine z7 (by kernel_rfl) ?_
  refine evs_run 2 (by kernel_rfl) ?_
  refine evs_op (st_len (c := c_Point) (l := l) (x := (.sl (List.map c_Point l))) (by kernel_rfl) (by kernel_rfl)) ?_
  refine z1 1 ⟨[(0, (.sl (List.map c_Point l))), (3, (vI s81.1)), (4, (vI s81.2)), (15, (vB (decide (s81.2 < (l.length : Int)))))], []⟩ (by kernel_rfl) ?_
  refine sem_cond (decide (s81.2 < (l.length : Int))) (by kernel_rfl) (by kernel_rfl) (fun hb => ?_) (fun hb => ?_)
  ·replace h := iteT hb h
   refine z4 ⟨[(0, (.sl (List.map c_Point l))), (3, (vI s81.1)), (4, (vI s81.2))], []⟩ (by kernel_rfl) ?_
   refine sem_seqJ (fun (j110 : Int) => ⟨[(0, (.sl (List.map c_Point l))), (3, (vI j110)), (4, (vI s81.2))], []⟩) (sheetmetalref01_Wrap_k1 s81) r (by kernel_rfl) (fun j110 h => ?_) ?_
   ·refine sem_region (by kernel_rfl) ?_
    refine z6 3 (by kernel_rfl) (fun τ hτ => ?_)
    obtain rfl := Option.some.inj h
    exact lk_nextS hτ (here (by kernel_rfl))
   refine sem_block (by kernel_rfl) ?_
   refine sem_seq (by kernel_rfl) ?_
   refine sem_drawN [] [] [] [] [] 8 (by kernel_rfl) (by kernel_rfl) (by kernel_rfl) ?_
   refine evd_run 2 (by kernel_rfl) ?_
   obtain ⟨x117, hx117, h⟩ := bindS h
   refine evd_val (by kernel_rfl) (st_idx (c := c_Point) (l := l) (i := s81.2) (kd := .i64) (sz := 4) (by kernel_rfl) hx117 rfl) (by kernel_rfl) (by kernel_rfl) ?_
   refine evd_run 3 (by kernel_rfl) ?_
   obtain ⟨x118, hx118, h⟩ := bindS h
   refine evd_val (by kernel_rfl) (st_idx (c := c_Point) (l := l) (i := s81.1) (kd := .i64) (sz := 4) (by kernel_rfl) hx118 rfl) (by kernel_rfl) (by kernel_rfl) ?_
   refine evd_run 1 (by kernel_rfl) ?_
   refine evd_end (by kernel_rfl) ?_
   obtain ⟨r119, hr119, h⟩ := bindS h
   refine evo_callP [] (by kernel_rfl) (W.sheetmetalref01_ComparePoint_ok hr119) (by kernel_rfl) (.inl rfl) (by kernel_rfl) ?_
   refine evo_run 1 (by kernel_rfl) ?_
   refine evo_endS (by kernel_rfl) (fun τ hτ => ?_)
   refine th_normalS hτ ⟨[(0, (.sl (List.map c_Point l))), (3, (vI s81.1)), (4, (vI s81.2)), (27, (vB (decide (r119 < 0))))], []⟩ (here (by kernel_rfl)) ?_
   refine sem_cond (decide (r119 < 0)) (by kernel_rfl) (by kernel_rfl) (fun hb => ?_) (fun hb => ?_)
   ·replace h := iteT hb h
    refine sem_region (by kernel_rfl) ?_
    refine z6 2 (by kernel_rfl) (fun τ hτ => ?_)
    refine bl_normal ?_
    exact jk_normal s81.2 h hτ (here (by kernel_rfl))
   ·replace h := iteF hb h
    refine sem_skipS (by kernel_rfl) (fun τ hτ => ?_)
    refine bl_normal ?_
    exact jk_normal s81.1 h hτ (here (by kernel_rfl))
  ·replace h := iteF hb h
   refine sem_exitS 0 (by kernel_rfl) rfl (fun τ hτ => ?_)
   refine th_exit ?_
   obtain rfl := Option.some.inj h
   exact lk_outS hτ rfl (here (by kernel_rfl))
 ·intro x
  rfl
 ·intro τ hτ
  refine bl_hit (by kernel_rfl) ?_
  refine th_normalS hτ ⟨[(0, (.sl (List.map c_Point l))), (3, (vI x120))], []⟩ (here (by kernel_rfl)) ?_
  refine z7 (by kernel_rfl) ?_
  refine evs_run 2 (by kernel_rfl) ?_
  obtain ⟨x122, hx122, h⟩ := bindS h
  refine evs_op (st_idx (c := c_Point) (l := l) (i := x120) (kd := .i64) (sz := 4) (by kernel_rfl) hx122 rfl) ?_
  refine evs_run 1 (by kernel_rfl) ?_
  refine evs_at (at_build (e := 36) (d := 33) (es := (List.map c_Point [x122])) (by kernel_rfl)) ?_
  refine z1 1 ⟨[(0, (.sl (List.map c_Point l))), (3, (vI x120)), (5, (.row (.top 33) 36))], [(33, .row 36 [] (List.map c_Point [x122]))]⟩ (by kernel_rfl) ?_
  refine z3 2 ⟨[(0, (.sl (List.map c_Point l))), (3, (vI x120)), (5, (.row (.top 33) 36)), (6, (vI x120))], [(33, .row 36 [] (List.map c_Point [x122]))]⟩ (by kernel_rfl) ?_
  refine sem_seq (by kernel_rfl) ?_
  refine z3 1 ⟨[(0, (.sl (List.map c_Point l))), (3, (vI x120)), (5, (.row (.top 33) 36)), (6, (vI x120)), (7, (vI 0))], [(33, .row 36 [] (List.map c_Point [x122]))]⟩ (by kernel_rfl) ?_
  refine sem_block (by kernel_rfl) ?_
  obtain ⟨x14386, hx14386, h⟩ := bindS h
  refine sem_loopS (fun (s9633 : Int × Int × (List Point)) => ⟨[(0, (.sl (List.map c_Point l))), (3, (vI x120)), (5, (.row (.top 500000) 36)), (6, (vI s9633.1)), (7, (vI s9633.2.1))], [(500000, .row 36 [] (List.map c_Point s9633.2.2))]⟩) (fun (x14386 : (List Point) ⊕ (List Point)) => match x14386 with | .inl j14387 => (.ret, ⟨[(2, (.row (.top 500000) 36))], [(500000, .row 36 [] (List.map c_Point j14387))]⟩) | .inr j14388 => (.exit 2, ⟨[(5, (.row (.top 500000) 36))], [(500000, .row 36 [] (List.map c_Point j14388))]⟩)) (sheetmetalref01_Wrap_l6 l x120) (x120, 0, [x122]) x14386 (by kernel_rfl) (subR_prep [] [(33, 500000)] (by kernel_rfl) rfl rfl (by kernel_rfl)) hx14386 ?_ ?_ ?_
  ·intro s9633 r h
   refine sem_seq (by kernel_rfl) ?_
   refine z7 (by kernel_rfl) ?_
   refine evs_run 2 (by kernel_rfl) ?_
   refine evs_op (st_len (c := c_Point) (l := l) (x := (.sl (List.map c_Point l))) (by kernel_rfl) (by kernel_rfl)) ?_
   refine z1 1 ⟨[(0, (.sl (List.map c_Point l))), (3, (vI x120)), (5, (.row (.top 500000) 36)), (6, (vI s9633.1)), (7, (vI s9633.2.1)), (38, (vB (decide (s9633.2.1 < (l.length : Int)))))], [(500000, .row 36 [] (List.map c_Point s9633.2.2))]⟩ (by kernel_rfl) ?_
   refine sem_cond (decide (s9633.2.1 < (l.length : Int))) (by kernel_rfl) (by kernel_rfl) (fun hb => ?_) (fun hb => ?_)
   ·replace h := iteT hb h
    refine z4 ⟨[(0, (.sl (List.map c_Point l))), (3, (vI x120)), (5, (.row (.top 500000) 36)), (6, (vI s9633.1)), (7, (vI s9633.2.1))], [(500000, .row 36 [] (List.map c_Point s9633.2.2))]⟩ (by kernel_rfl) ?_
    refine sem_seq (by kernel_rfl) ?_
    refine sem_block (by kernel_rfl) ?_
    refine z3 2 ⟨[(0, (.sl (List.map c_Point l))), (3, (vI x120)), (5, (.row (.top 500000) 36)), (6, (vI s9633.1)), (7, (vI s9633.2.1)), (8, (vI s9633.1))], [(500000, .row 36 [] (List.map c_Point s9633.2.2))]⟩ (by kernel_rfl) ?_
    refine sem_seq (by kernel_rfl) ?_
    refine z3 1 ⟨[(0, (.sl (List.map c_Point l))), (3, (vI x120)), (5, (.row (.top 500000) 36)), (6, (vI s9633.1)), (7, (vI s9633.2.1)), (8, (vI s9633.1)), (9, (vI 0))], [(500000, .row 36 [] (List.map c_Point s9633.2.2))]⟩ (by kernel_rfl) ?_
    refine sem_block (by kernel_rfl) ?_
    obtain ⟨x14361, hx14361, h⟩ := bindS h
    refine sem_loopS (fun (s13974 : Int × Int) => ⟨[(0, (.sl (List.map c_Point l))), (3, (vI x120)), (5, (.row (.top 500000) 36)), (6, (vI s9633.1)), (7, (vI s9633.2.1)), (8, (vI s13974.1)), (9, (vI s13974.2))], [(500000, .row 36 [] (List.map c_Point s9633.2.2))]⟩) (fun (x14361 : Int) => (.exit 4, ⟨[(0, (.sl (List.map c_Point l))), (3, (vI x120)), (5, (.row (.top 500000) 36)), (6, (vI s9633.1)), (7, (vI s9633.2.1)), (8, (vI x14361))], [(500000, .row 36 [] (List.map c_Point s9633.2.2))]⟩)) (sheetmetalref01_Wrap_l5 l s9633) (s9633.1, 0) x14361 (by kernel_rfl) (here (by kernel_rfl)) hx14361 ?_ ?_ ?_
    ·intro s13974 r h
     refine sem_seq (by kernel_rfl) ?_
     refine z7 (by kernel_rfl) ?_
     refine evs_run 2 (by kernel_rfl) ?_
     refine evs_op (st_len (c := c_Point) (l := l) (x := (.sl (List.map c_Point l))) (by kernel_rfl) (by kernel_rfl)) ?_
     refine z1 1 ⟨[(0, (.sl (List.map c_Point l))), (3, (vI x120)), (5, (.row (.top 500000) 36)), (6, (vI s9633.1)), (7, (vI s9633.2.1)), (8, (vI s13974.1)), (9, (vI s13974.2)), (45, (vB (decide (s13974.2 < (l.length : Int)))))], [(500000, .row 36 [] (List.map c_Point s9633.2.2))]⟩ (by kernel_rfl) ?_
     refine sem_cond (decide (s13974.2 < (l.length : Int))) (by kernel_rfl) (by kernel_rfl) (fun hb => ?_) (fun hb => ?_)
     ·replace h := iteT hb h
      refine z4 ⟨[(0, (.sl (List.map c_Point l))), (3, (vI x120)), (5, (.row (.top 500000) 36)), (6, (vI s9633.1)), (7, (vI s9633.2.1)), (8, (vI s13974.1)), (9, (vI s13974.2))], [(500000, .row 36 [] (List.map c_Point s9633.2.2))]⟩ (by kernel_rfl) ?_
      refine sem_seqJ (fun (j14264 : Int) => ⟨[(0, (.sl (List.map c_Point l))), (3, (vI x120)), (5, (.row (.top 500000) 36)), (6, (vI s9633.1)), (7, (vI s9633.2.1)), (8, (vI j14264)), (9, (vI s13974.2))], [(500000, .row 36 [] (List.map c_Point s9633.2.2))]⟩) (sheetmetalref01_Wrap_k3 s13974) r (by kernel_rfl) (fun j14264 h => ?_) ?_
      ·refine sem_region (by kernel_rfl) ?_
       refine z6 3 (by kernel_rfl) (fun τ hτ => ?_)
       obtain rfl := Option.some.inj h
       exact lk_nextS hτ (here (by kernel_rfl))
      refine sem_block (by kernel_rfl) ?_
      refine z3 1 ⟨[(0, (.sl (List.map c_Point l))), (3, (vI x120)), (5, (.row (.top 500000) 36)), (6, (vI s9633.1)), (7, (vI s9633.2.1)), (8, (vI s13974.1)), (9, (vI s13974.2)), (10, (vI 0))], [(500000, .row 36 [] (List.map c_Point s9633.2.2))]⟩ (by kernel_rfl) ?_
      refine sem_seqJ (fun (j14277 : Int) => ⟨[(0, (.sl (List.map c_Point l))), (3, (vI x120)), (5, (.row (.top 500000) 36)), (6, (vI s9633.1)), (7, (vI s9633.2.1)), (8, (vI s13974.1)), (9, (vI s13974.2)), (10, (vI j14277))], [(500000, .row 36 [] (List.map c_Point s9633.2.2))]⟩) (sheetmetalref01_Wrap_k4 l s9633 s13974) r (by kernel_rfl) (fun j14277 h => ?_) ?_
      ·refine sem_seq (by kernel_rfl) ?_
       obtain ⟨j14324, hj14324, h⟩ := bindS h
       refine sem_drawP ⟨[(0, (.sl (List.map c_Point l))), (3, (vI x120)), (5, (.row (.top 500000) 36)), (6, (vI s9633.1)), (7, (vI s9633.2.1)), (8, (vI s13974.1)), (9, (vI s13974.2)), (10, (vI j14277)), (11, (vB j14324))], [(500000, .row 36 [] (List.map c_Point s9633.2.2))]⟩ [] [] [] [] [] 59 (by kernel_rfl) (by kernel_rfl) (by kernel_rfl) ?_ (fun τ hτ => ?_)
       ·replace h := hj14324
        refine evd_run 4 (by kernel_rfl) ?_
        refine evd_split (s13974.1 == s9633.1) (fun b0 => ⟨[(67, (vB b0)), (66, (vB b0)), (65, (vI s9633.1)), (64, (vI s13974.1)), (0, (.sl (List.map c_Point l))), (3, (vI x120)), (5, (.row (.top 500000) 36)), (6, (vI s9633.1)), (7, (vI s9633.2.1)), (8, (vI s13974.1)), (9, (vI s13974.2)), (10, (vI j14277))], [(500000, .row 36 [] (List.map c_Point s9633.2.2))]⟩) (by kernel_rfl) (fun hb => ?_) (fun hb => ?_)
        ·replace h := iteT hb h
         refine evd_run 2 (by kernel_rfl) ?_
         obtain ⟨x14325, hx14325, h⟩ := bindS h
         refine evd_val (by kernel_rfl) (st_idx (c := c_Point) (l := l) (i := s13974.2) (kd := .i64) (sz := 4) (by kernel_rfl) hx14325 rfl) (by kernel_rfl) (by kernel_rfl) ?_
         refine evd_run 3 (by kernel_rfl) ?_
         obtain ⟨x14326, hx14326, h⟩ := bindS h
         refine evd_val (by kernel_rfl) (st_idx (c := c_Point) (l := l) (i := s9633.1) (kd := .i64) (sz := 4) (by kernel_rfl) hx14326 rfl) (by kernel_rfl) (by kernel_rfl) ?_
         refine evd_run 1 (by kernel_rfl) ?_
         obtain ⟨r14327, hr14327, h⟩ := bindS h
         refine evd_callS [] [] (by kernel_rfl) (by kernel_rfl) (W.sheetmetalref01_ComparePoint_ok hr14327) (by kernel_rfl) (.inl rfl) (by kernel_rfl) (by kernel_rfl) ?_
         refine evd_run 3 (by kernel_rfl) ?_
         refine evd_split (r14327 != 0) (fun b0 => ⟨[(79, (vB b0)), (78, (vB b0)), (77, (vB b0)), (76, (vI r14327)), (75, (.agg [(vI x14326.X.A), (vI x14326.X.B), (vI x14326.Y.A), (vI x14326.Y.B)])), (74, (.vptr [(vI x14326.X.A), (vI x14326.X.B), (vI x14326.Y.A), (vI x14326.Y.B)] 0)), (73, (vI s9633.1)), (72, (.sl (List.map c_Point l))), (71, (.agg [(vI x14325.X.A), (vI x14325.X.B), (vI x14325.Y.A), (vI x14325.Y.B)])), (70, (.vptr [(vI x14325.X.A), (vI x14325.X.B), (vI x14325.Y.A), (vI x14325.Y.B)] 0)), (69, (vI s13974.2)), (68, (.sl (List.map c_Point l))), (67, (vB true)), (66, (vB true)), (65, (vI s9633.1)), (64, (vI s13974.1)), (0, (.sl (List.map c_Point l))), (3, (vI x120)), (5, (.row (.top 500000) 36)), (6, (vI s9633.1)), (7, (vI s9633.2.1)), (8, (vI s13974.1)), (9, (vI s13974.2)), (10, (vI j14277))], [(500000, .row 36 [] (List.map c_Point s9633.2.2))]⟩) (by kernel_rfl) (fun hb => ?_) (fun hb => ?_)
         ·replace h := iteT hb h
          refine evd_run 43 (by kernel_rfl) ?_
          refine evd_end (by kernel_rfl) ?_
          refine evo_run 5 (by kernel_rfl) ?_
          refine evo_endS (by kernel_rfl) (fun τ hτ => ?_)
          obtain rfl := Option.some.inj h
          exact leafC hτ (here (by kernel_rfl))
         ·replace h := iteF hb h
          refine evd_run 3 (by kernel_rfl) ?_
          refine evd_split (j14277 == 0) (fun b0 => ⟨[(82, (vB b0)), (81, (vB b0)), (80, (vI j14277)), (79, (vB false)), (78, (vB false)), (77, (vB false)), (76, (vI r14327)), (75, (.agg [(vI x14326.X.A), (vI x14326.X.B), (vI x14326.Y.A), (vI x14326.Y.B)])), (74, (.vptr [(vI x14326.X.A), (vI x14326.X.B), (vI x14326.Y.A), (vI x14326.Y.B)] 0)), (73, (vI s9633.1)), (72, (.sl (List.map c_Point l))), (71, (.agg [(vI x14325.X.A), (vI x14325.X.B), (vI x14325.Y.A), (vI x14325.Y.B)])), (70, (.vptr [(vI x14325.X.A), (vI x14325.X.B), (vI x14325.Y.A), (vI x14325.Y.B)] 0)), (69, (vI s13974.2)), (68, (.sl (List.map c_Point l))), (67, (vB true)), (66, (vB true)), (65, (vI s9633.1)), (64, (vI s13974.1)), (0, (.sl (List.map c_Point l))), (3, (vI x120)), (5, (.row (.top 500000) 36)), (6, (vI s9633.1)), (7, (vI s9633.2.1)), (8, (vI s13974.1)), (9, (vI s13974.2)), (10, (vI j14277))], [(500000, .row 36 [] (List.map c_Point s9633.2.2))]⟩) (by kernel_rfl) (fun hb => ?_) (fun hb => ?_)
          ·replace h := iteT hb h
           refine evd_run 5 (by kernel_rfl) ?_
           refine evd_split (s13974.1 != s9633.1) (fun b0 => ⟨[(87, (vB b0)), (86, (vB b0)), (85, (vB b0)), (84, (vI s9633.1)), (83, (vI s13974.1)), (82, (vB true)), (81, (vB true)), (80, (vI j14277)), (79, (vB false)), (78, (vB false)), (77, (vB false)), (76, (vI r14327)), (75, (.agg [(vI x14326.X.A), (vI x14326.X.B), (vI x14326.Y.A), (vI x14326.Y.B)])), (74, (.vptr [(vI x14326.X.A), (vI x14326.X.B), (vI x14326.Y.A), (vI x14326.Y.B)] 0)), (73, (vI s9633.1)), (72, (.sl (List.map c_Point l))), (71, (.agg [(vI x14325.X.A), (vI x14325.X.B), (vI x14325.Y.A), (vI x14325.Y.B)])), (70, (.vptr [(vI x14325.X.A), (vI x14325.X.B), (vI x14325.Y.A), (vI x14325.Y.B)] 0)), (69, (vI s13974.2)), (68, (.sl (List.map c_Point l))), (67, (vB true)), (66, (vB true)), (65, (vI s9633.1)), (64, (vI s13974.1)), (0, (.sl (List.map c_Point l))), (3, (vI x120)), (5, (.row (.top 500000) 36)), (6, (vI s9633.1)), (7, (vI s9633.2.1)), (8, (vI s13974.1)), (9, (vI s13974.2)), (10, (vI j14277))], [(500000, .row 36 [] (List.map c_Point s9633.2.2))]⟩) (by kernel_rfl) (fun hb => ?_) (fun hb => ?_)
           ·replace h := iteT hb h
            refine evd_run 2 (by kernel_rfl) ?_
            obtain ⟨x14328, hx14328, h⟩ := bindS h
            refine evd_val (by kernel_rfl) (st_idx (c := c_Point) (l := l) (i := s9633.1) (kd := .i64) (sz := 4) (by kernel_rfl) hx14328 rfl) (by kernel_rfl) (by kernel_rfl) ?_
            refine evd_run 3 (by kernel_rfl) ?_
            obtain ⟨x14329, hx14329, h⟩ := bindS h
            refine evd_val (by kernel_rfl) (st_idx (c := c_Point) (l := l) (i := s13974.1) (kd := .i64) (sz := 4) (by kernel_rfl) hx14329 rfl) (by kernel_rfl) (by kernel_rfl) ?_
            refine evd_run 3 (by kernel_rfl) ?_
            obtain ⟨x14330, hx14330, h⟩ := bindS h
            refine evd_val (by kernel_rfl) (st_idx (c := c_Point) (l := l) (i := s13974.2) (kd := .i64) (sz := 4) (by kernel_rfl) hx14330 rfl) (by kernel_rfl) (by kernel_rfl) ?_
            refine evd_run 1 (by kernel_rfl) ?_
            obtain ⟨r14331, hr14331, h⟩ := bindS h
            refine evd_callS [] [] (by kernel_rfl) (by kernel_rfl) (W.sheetmetalref01_between_ok hr14331) (by kernel_rfl) (.inl rfl) (by kernel_rfl) (by kernel_rfl) ?_
            refine evd_run 2 (by kernel_rfl) ?_
            refine evd_split r14331 (fun b0 => ⟨[(102, (vB b0)), (101, (vB b0)), (100, (vB b0)), (99, (.agg [(vI x14330.X.A), (vI x14330.X.B), (vI x14330.Y.A), (vI x14330.Y.B)])), (98, (.vptr [(vI x14330.X.A), (vI x14330.X.B), (vI x14330.Y.A), (vI x14330.Y.B)] 0)), (97, (vI s13974.2)), (96, (.sl (List.map c_Point l))), (95, (.agg [(vI x14329.X.A), (vI x14329.X.B), (vI x14329.Y.A), (vI x14329.Y.B)])), (94, (.vptr [(vI x14329.X.A), (vI x14329.X.B), (vI x14329.Y.A), (vI x14329.Y.B)] 0)), (93, (vI s13974.1)), (92, (.sl (List.map c_Point l))), (91, (.agg [(vI x14328.X.A), (vI x14328.X.B), (vI x14328.Y.A), (vI x14328.Y.B)])), (90, (.vptr [(vI x14328.X.A), (vI x14328.X.B), (vI x14328.Y.A), (vI x14328.Y.B)] 0)), (89, (vI s9633.1)), (88, (.sl (List.map c_Point l))), (87, (vB true)), (86, (vB true)), (85, (vB true)), (84, (vI s9633.1)), (83, (vI s13974.1)), (82, (vB true)), (81, (vB true)), (80, (vI j14277)), (79, (vB false)), (78, (vB false)), (77, (vB false)), (76, (vI r14327)), (75, (.agg [(vI x14326.X.A), (vI x14326.X.B), (vI x14326.Y.A), (vI x14326.Y.B)])), (74, (.vptr [(vI x14326.X.A), (vI x14326.X.B), (vI x14326.Y.A), (vI x14326.Y.B)] 0)), (73, (vI s9633.1)), (72, (.sl (List.map c_Point l))), (71, (.agg [(vI x14325.X.A), (vI x14325.X.B), (vI x14325.Y.A), (vI x14325.Y.B)])), (70, (.vptr [(vI x14325.X.A), (vI x14325.X.B), (vI x14325.Y.A), (vI x14325.Y.B)] 0)), (69, (vI s13974.2)), (68, (.sl (List.map c_Point l))), (67, (vB true)), (66, (vB true)), (65, (vI s9633.1)), (64, (vI s13974.1)), (0, (.sl (List.map c_Point l))), (3, (vI x120)), (5, (.row (.top 500000) 36)), (6, (vI s9633.1)), (7, (vI s9633.2.1)), (8, (vI s13974.1)), (9, (vI s13974.2)), (10, (vI j14277))], [(500000, .row 36 [] (List.map c_Point s9633.2.2))]⟩) (by kernel_rfl) (fun hb => ?_) (fun hb => ?_)
            ·replace h := iteT hb h
             refine evd_run 2 (by kernel_rfl) ?_
             obtain ⟨x14332, hx14332, h⟩ := bindS h
             refine evd_val (by kernel_rfl) (st_idx (c := c_Point) (l := l) (i := s13974.2) (kd := .i64) (sz := 4) (by kernel_rfl) hx14332 rfl) (by kernel_rfl) (by kernel_rfl) ?_
             refine evd_run 3 (by kernel_rfl) ?_
             obtain ⟨x14333, hx14333, h⟩ := bindS h
             refine evd_val (by kernel_rfl) (st_idx (c := c_Point) (l := l) (i := s13974.1) (kd := .i64) (sz := 4) (by kernel_rfl) hx14333 rfl) (by kernel_rfl) (by kernel_rfl) ?_
             refine evd_run 1 (by kernel_rfl) ?_
             obtain ⟨r14334, hr14334, h⟩ := bindS h
             refine evd_callS [] [] (by kernel_rfl) (by kernel_rfl) (W.sheetmetalref01_ComparePoint_ok hr14334) (by kernel_rfl) (.inl rfl) (by kernel_rfl) (by kernel_rfl) ?_
             refine evd_run 3 (by kernel_rfl) ?_
             refine evd_split (r14334 != 0) (fun b0 => ⟨[(114, (vB b0)), (113, (vB b0)), (112, (vB b0)), (111, (vI r14334)), (110, (.agg [(vI x14333.X.A), (vI x14333.X.B), (vI x14333.Y.A), (vI x14333.Y.B)])), (109, (.vptr [(vI x14333.X.A), (vI x14333.X.B), (vI x14333.Y.A), (vI x14333.Y.B)] 0)), (108, (vI s13974.1)), (107, (.sl (List.map c_Point l))), (106, (.agg [(vI x14332.X.A), (vI x14332.X.B), (vI x14332.Y.A), (vI x14332.Y.B)])), (105, (.vptr [(vI x14332.X.A), (vI x14332.X.B), (vI x14332.Y.A), (vI x14332.Y.B)] 0)), (104, (vI s13974.2)), (103, (.sl (List.map c_Point l))), (102, (vB true)), (101, (vB true)), (100, (vB true)), (99, (.agg [(vI x14330.X.A), (vI x14330.X.B), (vI x14330.Y.A), (vI x14330.Y.B)])), (98, (.vptr [(vI x14330.X.A), (vI x14330.X.B), (vI x14330.Y.A), (vI x14330.Y.B)] 0)), (97, (vI s13974.2)), (96, (.sl (List.map c_Point l))), (95, (.agg [(vI x14329.X.A), (vI x14329.X.B), (vI x14329.Y.A), (vI x14329.Y.B)])), (94, (.vptr [(vI x14329.X.A), (vI x14329.X.B), (vI x14329.Y.A), (vI x14329.Y.B)] 0)), (93, (vI s13974.1)), (92, (.sl (List.map c_Point l))), (91, (.agg [(vI x14328.X.A), (vI x14328.X.B), (vI x14328.Y.A), (vI x14328.Y.B)])), (90, (.vptr [(vI x14328.X.A), (vI x14328.X.B), (vI x14328.Y.A), (vI x14328.Y.B)] 0)), (89, (vI s9633.1)), (88, (.sl (List.map c_Point l))), (87, (vB true)), (86, (vB true)), (85, (vB true)), (84, (vI s9633.1)), (83, (vI s13974.1)), (82, (vB true)), (81, (vB true)), (80, (vI j14277)), (79, (vB false)), (78, (vB false)), (77, (vB false)), (76, (vI r14327)), (75, (.agg [(vI x14326.X.A), (vI x14326.X.B), (vI x14326.Y.A), (vI x14326.Y.B)])), (74, (.vptr [(vI x14326.X.A), (vI x14326.X.B), (vI x14326.Y.A), (vI x14326.Y.B)] 0)), (73, (vI s9633.1)), (72, (.sl (List.map c_Point l))), (71, (.agg [(vI x14325.X.A), (vI x14325.X.B), (vI x14325.Y.A), (vI x14325.Y.B)])), (70, (.vptr [(vI x14325.X.A), (vI x14325.X.B), (vI x14325.Y.A), (vI x14325.Y.B)] 0)), (69, (vI s13974.2)), (68, (.sl (List.map c_Point l))), (67, (vB true)), (66, (vB true)), (65, (vI s9633.1)), (64, (vI s13974.1)), (0, (.sl (List.map c_Point l))), (3, (vI x120)), (5, (.row (.top 500000) 36)), (6, (vI s9633.1)), (7, (vI s9633.2.1)), (8, (vI s13974.1)), (9, (vI s13974.2)), (10, (vI j14277))], [(500000, .row 36 [] (List.map c_Point s9633.2.2))]⟩) (by kernel_rfl) (fun hb => ?_) (fun hb => ?_)
             ·replace h := iteT hb h
              refine evd_run 2 (by kernel_rfl) ?_
              obtain ⟨x14335, hx14335, h⟩ := bindS h
              refine evd_val (by kernel_rfl) (st_idx (c := c_Point) (l := l) (i := s13974.2) (kd := .i64) (sz := 4) (by kernel_rfl) hx14335 rfl) (by kernel_rfl) (by kernel_rfl) ?_
              refine evd_run 3 (by kernel_rfl) ?_
              obtain ⟨x14336, hx14336, h⟩ := bindS h
              refine evd_val (by kernel_rfl) (st_idx (c := c_Point) (l := l) (i := s9633.1) (kd := .i64) (sz := 4) (by kernel_rfl) hx14336 rfl) (by kernel_rfl) (by kernel_rfl) ?_
              refine evd_run 1 (by kernel_rfl) ?_
              refine evd_end (by kernel_rfl) ?_
              obtain ⟨r14337, hr14337, h⟩ := bindS h
              refine evo_callP [] (by kernel_rfl) (W.sheetmetalref01_ComparePoint_ok hr14337) (by kernel_rfl) (.inl rfl) (by kernel_rfl) ?_
              refine evo_run 4 (by kernel_rfl) ?_
              refine evo_endS (by kernel_rfl) (fun τ hτ => ?_)
              obtain rfl := Option.some.inj h
              exact leafC hτ (here (by kernel_rfl))
             ·replace h := iteF hb h
              refine evd_run 8 (by kernel_rfl) ?_
              refine evd_end (by kernel_rfl) ?_
              refine evo_run 5 (by kernel_rfl) ?_
              refine evo_endS (by kernel_rfl) (fun τ hτ => ?_)
              obtain rfl := Option.some.inj h
              exact leafC hτ (here (by kernel_rfl))
            ·replace h := iteF hb h
             refine evd_run 20 (by kernel_rfl) ?_
             refine evd_end (by kernel_rfl) ?_
             refine evo_run 5 (by kernel_rfl) ?_
             refine evo_endS (by kernel_rfl) (fun τ hτ => ?_)
             obtain rfl := Option.some.inj h
             exact leafC hτ (here (by kernel_rfl))
           ·replace h := iteF hb h
            refine evd_run 35 (by kernel_rfl) ?_
            refine evd_end (by kernel_rfl) ?_
            refine evo_run 5 (by kernel_rfl) ?_
            refine evo_endS (by kernel_rfl) (fun τ hτ => ?_)
            obtain rfl := Option.some.inj h
            exact leafC hτ (here (by kernel_rfl))
          ·replace h := iteF hb h
           refine evd_run 40 (by kernel_rfl) ?_
           refine evd_end (by kernel_rfl) ?_
           refine evo_run 5 (by kernel_rfl) ?_
           refine evo_endS (by kernel_rfl) (fun τ hτ => ?_)
           obtain rfl := Option.some.inj h
           exact leafC hτ (here (by kernel_rfl))
        ·replace h := iteF hb h
         refine evd_run 15 (by kernel_rfl) ?_
         refine evd_split (j14277 == 0) (fun b0 => ⟨[(82, (vB b0)), (81, (vB b0)), (80, (vI j14277)), (79, (vB false)), (78, (vB false)), (77, vU), (76, vU), (75, vU), (74, vU), (73, vU), (72, vU), (71, vU), (70, vU), (69, vU), (68, vU), (67, (vB false)), (66, (vB false)), (65, (vI s9633.1)), (64, (vI s13974.1)), (0, (.sl (List.map c_Point l))), (3, (vI x120)), (5, (.row (.top 500000) 36)), (6, (vI s9633.1)), (7, (vI s9633.2.1)), (8, (vI s13974.1)), (9, (vI s13974.2)), (10, (vI j14277))], [(500000, .row 36 [] (List.map c_Point s9633.2.2))]⟩) (by kernel_rfl) (fun hb => ?_) (fun hb => ?_)
         ·replace h := iteT hb h
          refine evd_run 5 (by kernel_rfl) ?_
          refine evd_split (s13974.1 != s9633.1) (fun b0 => ⟨[(87, (vB b0)), (86, (vB b0)), (85, (vB b0)), (84, (vI s9633.1)), (83, (vI s13974.1)), (82, (vB true)), (81, (vB true)), (80, (vI j14277)), (79, (vB false)), (78, (vB false)), (77, vU), (76, vU), (75, vU), (74, vU), (73, vU), (72, vU), (71, vU), (70, vU), (69, vU), (68, vU), (67, (vB false)), (66, (vB false)), (65, (vI s9633.1)), (64, (vI s13974.1)), (0, (.sl (List.map c_Point l))), (3, (vI x120)), (5, (.row (.top 500000) 36)), (6, (vI s9633.1)), (7, (vI s9633.2.1)), (8, (vI s13974.1)), (9, (vI s13974.2)), (10, (vI j14277))], [(500000, .row 36 [] (List.map c_Point s9633.2.2))]⟩) (by kernel_rfl) (fun hb => ?_) (fun hb => ?_)
          ·replace h := iteT hb h
           refine evd_run 2 (by kernel_rfl) ?_
           obtain ⟨x14338, hx14338, h⟩ := bindS h
           refine evd_val (by kernel_rfl) (st_idx (c := c_Point) (l := l) (i := s9633.1) (kd := .i64) (sz := 4) (by kernel_rfl) hx14338 rfl) (by kernel_rfl) (by kernel_rfl) ?_
           refine evd_run 3 (by kernel_rfl) ?_
           obtain ⟨x14339, hx14339, h⟩ := bindS h
           refine evd_val (by kernel_rfl) (st_idx (c := c_Point) (l := l) (i := s13974.1) (kd := .i64) (sz := 4) (by kernel_rfl) hx14339 rfl) (by kernel_rfl) (by kernel_rfl) ?_
           refine evd_run 3 (by kernel_rfl) ?_
           obtain ⟨x14340, hx14340, h⟩ := bindS h
           refine evd_val (by kernel_rfl) (st_idx (c := c_Point) (l := l) (i := s13974.2) (kd := .i64) (sz := 4) (by kernel_rfl) hx14340 rfl) (by kernel_rfl) (by kernel_rfl) ?_
           refine evd_run 1 (by kernel_rfl) ?_
           obtain ⟨r14341, hr14341, h⟩ := bindS h
           refine evd_callS [] [] (by kernel_rfl) (by kernel_rfl) (W.sheetmetalref01_between_ok hr14341) (by kernel_rfl) (.inl rfl) (by kernel_rfl) (by kernel_rfl) ?_
           refine evd_run 2 (by kernel_rfl) ?_
           refine evd_split r14341 (fun b0 => ⟨[(102, (vB b0)), (101, (vB b0)), (100, (vB b0)), (99, (.agg [(vI x14340.X.A), (vI x14340.X.B), (vI x14340.Y.A), (vI x14340.Y.B)])), (98, (.vptr [(vI x14340.X.A), (vI x14340.X.B), (vI x14340.Y.A), (vI x14340.Y.B)] 0)), (97, (vI s13974.2)), (96, (.sl (List.map c_Point l))), (95, (.agg [(vI x14339.X.A), (vI x14339.X.B), (vI x14339.Y.A), (vI x14339.Y.B)])), (94, (.vptr [(vI x14339.X.A), (vI x14339.X.B), (vI x14339.Y.A), (vI x14339.Y.B)] 0)), (93, (vI s13974.1)), (92, (.sl (List.map c_Point l))), (91, (.agg [(vI x14338.X.A), (vI x14338.X.B), (vI x14338.Y.A), (vI x14338.Y.B)])), (90, (.vptr [(vI x14338.X.A), (vI x14338.X.B), (vI x14338.Y.A), (vI x14338.Y.B)] 0)), (89, (vI s9633.1)), (88, (.sl (List.map c_Point l))), (87, (vB true)), (86, (vB true)), (85, (vB true)), (84, (vI s9633.1)), (83, (vI s13974.1)), (82, (vB true)), (81, (vB true)), (80, (vI j14277)), (79, (vB false)), (78, (vB false)), (77, vU), (76, vU), (75, vU), (74, vU), (73, vU), (72, vU), (71, vU), (70, vU), (69, vU), (68, vU), (67, (vB false)), (66, (vB false)), (65, (vI s9633.1)), (64, (vI s13974.1)), (0, (.sl (List.map c_Point l))), (3, (vI x120)), (5, (.row (.top 500000) 36)), (6, (vI s9633.1)), (7, (vI s9633.2.1)), (8, (vI s13974.1)), (9, (vI s13974.2)), (10, (vI j14277))], [(500000, .row 36 [] (List.map c_Point s9633.2.2))]⟩) (by kernel_rfl) (fun hb => ?_) (fun hb => ?_)
           ·replace h := iteT hb h
            refine evd_run 2 (by kernel_rfl) ?_
            obtain ⟨x14342, hx14342, h⟩ := bindS h
            refine evd_val (by kernel_rfl) (st_idx (c := c_Point) (l := l) (i := s13974.2) (kd := .i64) (sz := 4) (by kernel_rfl) hx14342 rfl) (by kernel_rfl) (by kernel_rfl) ?_
            refine evd_run 3 (by kernel_rfl) ?_
            obtain ⟨x14343, hx14343, h⟩ := bindS h
            refine evd_val (by kernel_rfl) (st_idx (c := c_Point) (l := l) (i := s13974.1) (kd := .i64) (sz := 4) (by kernel_rfl) hx14343 rfl) (by kernel_rfl) (by kernel_rfl) ?_
            refine evd_run 1 (by kernel_rfl) ?_
            obtain ⟨r14344, hr14344, h⟩ := bindS h
            refine evd_callS [] [] (by kernel_rfl) (by kernel_rfl) (W.sheetmetalref01_ComparePoint_ok hr14344) (by kernel_rfl) (.inl rfl) (by kernel_rfl) (by kernel_rfl) ?_
            refine evd_run 3 (by kernel_rfl) ?_
            refine evd_split (r14344 != 0) (fun b0 => ⟨[(114, (vB b0)), (113, (vB b0)), (112, (vB b0)), (111, (vI r14344)), (110, (.agg [(vI x14343.X.A), (vI x14343.X.B), (vI x14343.Y.A), (vI x14343.Y.B)])), (109, (.vptr [(vI x14343.X.A), (vI x14343.X.B), (vI x14343.Y.A), (vI x14343.Y.B)] 0)), (108, (vI s13974.1)), (107, (.sl (List.map c_Point l))), (106, (.agg [(vI x14342.X.A), (vI x14342.X.B), (vI x14342.Y.A), (vI x14342.Y.B)])), (105, (.vptr [(vI x14342.X.A), (vI x14342.X.B), (vI x14342.Y.A), (vI x14342.Y.B)] 0)), (104, (vI s13974.2)), (103, (.sl (List.map c_Point l))), (102, (vB true)), (101, (vB true)), (100, (vB true)), (99, (.agg [(vI x14340.X.A), (vI x14340.X.B), (vI x14340.Y.A), (vI x14340.Y.B)])), (98, (.vptr [(vI x14340.X.A), (vI x14340.X.B), (vI x14340.Y.A), (vI x14340.Y.B)] 0)), (97, (vI s13974.2)), (96, (.sl (List.map c_Point l))), (95, (.agg [(vI x14339.X.A), (vI x14339.X.B), (vI x14339.Y.A), (vI x14339.Y.B)])), (94, (.vptr [(vI x14339.X.A), (vI x14339.X.B), (vI x14339.Y.A), (vI x14339.Y.B)] 0)), (93, (vI s13974.1)), (92, (.sl (List.map c_Point l))), (91, (.agg [(vI x14338.X.A), (vI x14338.X.B), (vI x14338.Y.A), (vI x14338.Y.B)])), (90, (.vptr [(vI x14338.X.A), (vI x14338.X.B), (vI x14338.Y.A), (vI x14338.Y.B)] 0)), (89, (vI s9633.1)), (88, (.sl (List.map c_Point l))), (87, (vB true)), (86, (vB true)), (85, (vB true)), (84, (vI s9633.1)), (83, (vI s13974.1)), (82, (vB true)), (81, (vB true)), (80, (vI j14277)), (79, (vB false)), (78, (vB false)), (77, vU), (76, vU), (75, vU), (74, vU), (73, vU), (72, vU), (71, vU), (70, vU), (69, vU), (68, vU), (67, (vB false)), (66, (vB false)), (65, (vI s9633.1)), (64, (vI s13974.1)), (0, (.sl (List.map c_Point l))), (3, (vI x120)), (5, (.row (.top 500000) 36)), (6, (vI s9633.1)), (7, (vI s9633.2.1)), (8, (vI s13974.1)), (9, (vI s13974.2)), (10, (vI j14277))], [(500000, .row 36 [] (List.map c_Point s9633.2.2))]⟩) (by kernel_rfl) (fun hb => ?_) (fun hb => ?_)
            ·replace h := iteT hb h
             refine evd_run 2 (by kernel_rfl) ?_
             obtain ⟨x14345, hx14345, h⟩ := bindS h
             refine evd_val (by kernel_rfl) (st_idx (c := c_Point) (l := l) (i := s13974.2) (kd := .i64) (sz := 4) (by kernel_rfl) hx14345 rfl) (by kernel_rfl) (by kernel_rfl) ?_
             refine evd_run 3 (by kernel_rfl) ?_
             obtain ⟨x14346, hx14346, h⟩ := bindS h
             refine evd_val (by kernel_rfl) (st_idx (c := c_Point) (l := l) (i := s9633.1) (kd := .i64) (sz := 4) (by kernel_rfl) hx14346 rfl) (by kernel_rfl) (by kernel_rfl) ?_
             refine evd_run 1 (by kernel_rfl) ?_
             refine evd_end (by kernel_rfl) ?_
             obtain ⟨r14347, hr14347, h⟩ := bindS h
             refine evo_callP [] (by kernel_rfl) (W.sheetmetalref01_ComparePoint_ok hr14347) (by kernel_rfl) (.inl rfl) (by kernel_rfl) ?_
             refine evo_run 4 (by kernel_rfl) ?_
             refine evo_endS (by kernel_rfl) (fun τ hτ => ?_)
             obtain rfl := Option.some.inj h
             exact leafC hτ (here (by kernel_rfl))
            ·replace h := iteF hb h
             refine evd_run 8 (by kernel_rfl) ?_
             refine evd_end (by kernel_rfl) ?_
             refine evo_run 5 (by kernel_rfl) ?_
             refine evo_endS (by kernel_rfl) (fun τ hτ => ?_)
             obtain rfl := Option.some.inj h
             exact leafC hτ (here (by kernel_rfl))
           ·replace h := iteF hb h
            refine evd_run 20 (by kernel_rfl) ?_
            refine evd_end (by kernel_rfl) ?_
            refine evo_run 5 (by kernel_rfl) ?_
            refine evo_endS (by kernel_rfl) (fun τ hτ => ?_)
            obtain rfl := Option.some.inj h
            exact leafC hτ (here (by kernel_rfl))
          ·replace h := iteF hb h
           refine evd_run 35 (by kernel_rfl) ?_
           refine evd_end (by kernel_rfl) ?_
           refine evo_run 5 (by kernel_rfl) ?_
           refine evo_endS (by kernel_rfl) (fun τ hτ => ?_)
           obtain rfl := Option.some.inj h
           exact leafC hτ (here (by kernel_rfl))
         ·replace h := iteF hb h
          refine evd_run 40 (by kernel_rfl) ?_
          refine evd_end (by kernel_rfl) ?_
          refine evo_run 5 (by kernel_rfl) ?_
          refine evo_endS (by kernel_rfl) (fun τ hτ => ?_)
          obtain rfl := Option.some.inj h
          exact leafC hτ (here (by kernel_rfl))
       refine th_normalS hτ ⟨[(0, (.sl (List.map c_Point l))), (3, (vI x120)), (5, (.row (.top 500000) 36)), (6, (vI s9633.1)), (7, (vI s9633.2.1)), (8, (vI s13974.1)), (9, (vI s13974.2)), (10, (vI j14277)), (11, (vB j14324))], [(500000, .row 36 [] (List.map c_Point s9633.2.2))]⟩ (here (by kernel_rfl)) ?_
       refine sem_seq (by kernel_rfl) ?_
       obtain ⟨j14348, hj14348, h⟩ := bindS h
       refine sem_regionC ⟨[(0, (.sl (List.map c_Point l))), (3, (vI x120)), (5, (.row (.top 500000) 36)), (6, (vI s9633.1)), (7, (vI s9633.2.1)), (8, (vI s13974.1)), (9, (vI s13974.2)), (131, (vB j14348))], [(500000, .row 36 [] (List.map c_Point s9633.2.2))]⟩ (by kernel_rfl) ?_ (fun τ hτ => ?_)
       ·replace h := hj14348
        refine evs_run 3 (by kernel_rfl) ?_
        refine evs_split (decide (j14277 < 0)) (fun b0 => ⟨[(0, (.sl (List.map c_Point l))), (3, (vI x120)), (5, (.row (.top 500000) 36)), (6, (vI s9633.1)), (7, (vI s9633.2.1)), (8, (vI s13974.1)), (9, (vI s13974.2)), (11, (vB j14324)), (129, (vB b0))], [(500000, .row 36 [] (List.map c_Point s9633.2.2))]⟩) (by kernel_rfl) (fun hb => ?_) (fun hb => ?_)
        ·replace h := iteT hb h
         refine z6 2 (by kernel_rfl) (fun τ hτ => ?_)
         obtain rfl := Option.some.inj h
         exact leafC hτ (here (by kernel_rfl))
        ·replace h := iteF hb h
         refine z6 2 (by kernel_rfl) (fun τ hτ => ?_)
         obtain rfl := Option.some.inj h
         exact leafC hτ (here (by kernel_rfl))
       refine th_normalS hτ ⟨[(0, (.sl (List.map c_Point l))), (3, (vI x120)), (5, (.row (.top 500000) 36)), (6, (vI s9633.1)), (7, (vI s9633.2.1)), (8, (vI s13974.1)), (9, (vI s13974.2)), (131, (vB j14348))], [(500000, .row 36 [] (List.map c_Point s9633.2.2))]⟩ (here (by kernel_rfl)) ?_
       refine sem_cond j14348 (by kernel_rfl) (by kernel_rfl) (fun hb => ?_) (fun hb => ?_)
       ·replace h := iteT hb h
        refine sem_region (by kernel_rfl) ?_
        refine z6 2 (by kernel_rfl) (fun τ hτ => ?_)
        refine bl_normal ?_
        exact jk_normal s13974.2 h hτ (here (by kernel_rfl))
       ·replace h := iteF hb h
        refine sem_skipS (by kernel_rfl) (fun τ hτ => ?_)
        refine bl_normal ?_
        exact jk_normal s13974.1 h hτ (here (by kernel_rfl))
      refine z3 3 ⟨[(0, (.sl (List.map c_Point l))), (3, (vI x120)), (5, (.row (.top 500000) 36)), (6, (vI s9633.1)), (7, (vI s9633.2.1)), (8, (vI s13974.1)), (9, (vI s13974.2)), (10, (vI 0)), (50, (vB (s13974.1 != s9633.1)))], [(500000, .row 36 [] (List.map c_Point s9633.2.2))]⟩ (by kernel_rfl) ?_
      refine sem_cond (s13974.1 != s9633.1) (by kernel_rfl) (by kernel_rfl) (fun hb => ?_) (fun hb => ?_)
      ·replace h := iteT hb h
       refine sem_drawN [] [] [] [] [] 12 (by kernel_rfl) (by kernel_rfl) (by kernel_rfl) ?_
       refine evd_run 2 (by kernel_rfl) ?_
       obtain ⟨x14357, hx14357, h⟩ := bindS h
       refine evd_val (by kernel_rfl) (st_idx (c := c_Point) (l := l) (i := s9633.1) (kd := .i64) (sz := 4) (by kernel_rfl) hx14357 rfl) (by kernel_rfl) (by kernel_rfl) ?_
       refine evd_run 3 (by kernel_rfl) ?_
       obtain ⟨x14358, hx14358, h⟩ := bindS h
       refine evd_val (by kernel_rfl) (st_idx (c := c_Point) (l := l) (i := s13974.1) (kd := .i64) (sz := 4) (by kernel_rfl) hx14358 rfl) (by kernel_rfl) (by kernel_rfl) ?_
       refine evd_run 3 (by kernel_rfl) ?_
       obtain ⟨x14359, hx14359, h⟩ := bindS h
       refine evd_val (by kernel_rfl) (st_idx (c := c_Point) (l := l) (i := s13974.2) (kd := .i64) (sz := 4) (by kernel_rfl) hx14359 rfl) (by kernel_rfl) (by kernel_rfl) ?_
       refine evd_run 1 (by kernel_rfl) ?_
       refine evd_end (by kernel_rfl) ?_
       obtain ⟨r14360, hr14360, h⟩ := bindS h
       refine evo_callP [] (by kernel_rfl) (W.sheetmetalref01_orient_ok hr14360) (by kernel_rfl) (.inl rfl) (by kernel_rfl) ?_
       refine evo_run 1 (by kernel_rfl) ?_
       refine evo_endS (by kernel_rfl) (fun τ hτ => ?_)
       exact jk_normal r14360 h hτ (here (by kernel_rfl))
      ·replace h := iteF hb h
       refine sem_skipS (by kernel_rfl) (fun τ hτ => ?_)
       exact jk_normal 0 h hτ (here (by kernel_rfl))
     ·replace h := iteF hb h
      refine sem_exitS 4 (by kernel_rfl) rfl (fun τ hτ => ?_)
      refine th_exit ?_
      obtain rfl := Option.some.inj h
      exact lk_outS hτ rfl (here (by kernel_rfl))
    ·intro x
     rfl
    ·intro τ hτ
     refine bl_hit (by kernel_rfl) ?_
     refine th_normalS hτ ⟨[(0, (.sl (List.map c_Point l))), (3, (vI x120)), (5, (.row (.top 500000) 36)), (6, (vI s9633.1)), (7, (vI s9633.2.1)), (8, (vI x14361))], [(500000, .row 36 [] (List.map c_Point s9633.2.2))]⟩ (here (by kernel_rfl)) ?_
     refine sem_seq (by kernel_rfl) ?_
     refine sem_seq (by kernel_rfl) ?_
     obtain ⟨j14378, hj14378, h⟩ := bindS h
     refine sem_drawP ⟨[(0, (.sl (List.map c_Point l))), (3, (vI x120)), (5, (.row (.top 500000) 36)), (7, (vI s9633.2.1)), (8, (vI x14361)), (147, (vB j14378))], [(500000, .row 36 [] (List.map c_Point s9633.2.2))]⟩ [] [] [] [] [] 12 (by kernel_rfl) (by kernel_rfl) (by kernel_rfl) ?_ (fun τ hτ => ?_)
     ·replace h := hj14378
      refine evd_run 4 (by kernel_rfl) ?_
      refine evd_split (x14361 == s9633.1) (fun b0 => ⟨[(136, (vB b0)), (135, (vB b0)), (134, (vI s9633.1)), (133, (vI x14361)), (0, (.sl (List.map c_Point l))), (3, (vI x120)), (5, (.row (.top 500000) 36)), (6, (vI s9633.1)), (7, (vI s9633.2.1)), (8, (vI x14361))], [(500000, .row 36 [] (List.map c_Point s9633.2.2))]⟩) (by kernel_rfl) (fun hb => ?_) (fun hb => ?_)
      ·replace h := iteT hb h
       refine evd_run 8 (by kernel_rfl) ?_
       refine evd_end (by kernel_rfl) ?_
       refine evo_run 3 (by kernel_rfl) ?_
       refine evo_endS (by kernel_rfl) (fun τ hτ => ?_)
       obtain rfl := Option.some.inj h
       exact leafC hτ (here (by kernel_rfl))
      ·replace h := iteF hb h
       refine evd_run 2 (by kernel_rfl) ?_
       obtain ⟨x14379, hx14379, h⟩ := bindS h
       refine evd_val (by kernel_rfl) (st_idx (c := c_Point) (l := l) (i := x14361) (kd := .i64) (sz := 4) (by kernel_rfl) hx14379 rfl) (by kernel_rfl) (by kernel_rfl) ?_
       refine evd_run 3 (by kernel_rfl) ?_
       obtain ⟨x14380, hx14380, h⟩ := bindS h
       refine evd_val (by kernel_rfl) (st_idx (c := c_Point) (l := l) (i := x120) (kd := .i64) (sz := 4) (by kernel_rfl) hx14380 rfl) (by kernel_rfl) (by kernel_rfl) ?_
       refine evd_run 1 (by kernel_rfl) ?_
       refine evd_end (by kernel_rfl) ?_
       obtain ⟨r14381, hr14381, h⟩ := bindS h
       refine evo_callP [] (by kernel_rfl) (W.sheetmetalref01_ComparePoint_ok hr14381) (by kernel_rfl) (.inl rfl) (by kernel_rfl) ?_
       refine evo_run 2 (by kernel_rfl) ?_
       refine evo_endS (by kernel_rfl) (fun τ hτ => ?_)
       obtain rfl := Option.some.inj h
       exact leafC hτ (here (by kernel_rfl))
     refine th_normalS hτ ⟨[(0, (.sl (List.map c_Point l))), (3, (vI x120)), (5, (.row (.top 500000) 36)), (7, (vI s9633.2.1)), (8, (vI x14361)), (147, (vB j14378))], [(500000, .row 36 [] (List.map c_Point s9633.2.2))]⟩ (here (by kernel_rfl)) ?_
     refine sem_cond j14378 (by kernel_rfl) (by kernel_rfl) (fun hb => ?_) (fun hb => ?_)
     ·replace h := iteT hb h
      refine z8 2 ⟨[(2, (.row (.top 500000) 36))], [(500000, .row 36 [] (List.map c_Point s9633.2.2))]⟩ (by kernel_rfl) (fun τ hτ => ?_)
      refine th_ret ?_
      refine bl_ret ?_
      refine th_ret ?_
      obtain rfl := Option.some.inj h
      exact lk_outS hτ rfl (here (by kernel_rfl))
     ·replace h := iteF hb h
      refine z4 ⟨[(0, (.sl (List.map c_Point l))), (3, (vI x120)), (5, (.row (.top 500000) 36)), (7, (vI s9633.2.1)), (8, (vI x14361))], [(500000, .row 36 [] (List.map c_Point s9633.2.2))]⟩ (by kernel_rfl) ?_
      refine z7 (by kernel_rfl) ?_
      refine evs_run 3 (by kernel_rfl) ?_
      obtain ⟨x14384, hx14384, h⟩ := bindS h
      refine evs_op (st_idx (c := c_Point) (l := l) (i := x14361) (kd := .i64) (sz := 4) (by kernel_rfl) hx14384 rfl) ?_
      refine evs_run 2 (by kernel_rfl) ?_
      obtain ⟨l14385, hl14385, h⟩ := bindS h
      refine evs_op (st_app (c := c_Point) (l := s9633.2.2) (l2 := [x14384]) (x := (.sl (List.map c_Point [x14384]))) (g := 500000) (e := 36) (sz := 4) (d := 155) (by kernel_rfl) (by kernel_rfl) (by kernel_rfl) (by kernel_rfl) (fun _ => rfl) rfl hl14385) ?_
      refine z1 1 ⟨[(0, (.sl (List.map c_Point l))), (3, (vI x120)), (5, (.row (.top 500000) 36)), (7, (vI s9633.2.1)), (8, (vI x14361))], [(500000, .row 36 [] (List.map c_Point l14385))]⟩ (by kernel_rfl) ?_
      refine sem_region (by kernel_rfl) ?_
      refine z6 2 (by kernel_rfl) (fun τ hτ => ?_)
      refine bl_normal ?_
      refine th_normalS hτ ⟨[(0, (.sl (List.map c_Point l))), (3, (vI x120)), (5, (.row (.top 500000) 36)), (6, (vI x14361)), (7, (vI s9633.2.1))], [(500000, .row 36 [] (List.map c_Point l14385))]⟩ (here (by kernel_rfl)) ?_
      refine sem_region (by kernel_rfl) ?_
      refine z6 3 (by kernel_rfl) (fun τ hτ => ?_)
      obtain rfl := Option.some.inj h
      exact lk_nextS hτ (here (by kernel_rfl))
   ·replace h := iteF hb h
    refine sem_exitS 2 (by kernel_rfl) rfl (fun τ hτ => ?_)
    refine th_exit ?_
    obtain rfl := Option.some.inj h
    exact lk_outS hτ rfl (here (by kernel_rfl))
  ·intro x
   rcases x with _ | _ <;> rfl
  ·intro τ hτ
   rcases x14386 with j14387 | j14388
   ·refine bl_ret ?_
    refine th_ret ?_
    obtain rfl := Option.some.inj h
    exact rk_ret hτ [(2, (.row (.top 0) 36))] (subR_prep [] [(500000, 0)] (by kernel_rfl) rfl rfl (by kernel_rfl)) (by kernel_rfl)
   ·refine bl_hit (by kernel_rfl) ?_
    refine th_normalS hτ ⟨[(5, (.row (.top 500000) 36))], [(500000, .row 36 [] (List.map c_Point j14388))]⟩ (here (by kernel_rfl)) ?_
    refine z8 2 ⟨[(2, (.row (.top 500000) 36))], [(500000, .row 36 [] (List.map c_Point j14388))]⟩ (by kernel_rfl) (fun τ hτ => ?_)
    obtain rfl := Option.some.inj h
    exact rk_ret hτ [(2, (.row (.top 0) 36))] (subR_prep [] [(500000, 0)] (by kernel_rfl) rfl rfl (by kernel_rfl)) (by kernel_rfl)
theorem W.sheetmetalref01_SamePoints_ok {a : (List Point)} {b : (List Point)} {r : Bool} (h : sheetmetalref01_SamePoints a b = some r) : PC G.P 40 [(.sl (List.map c_Point a)), (.sl (List.map c_Point b))] [] (vB r) [] := by
 refine pc_of G (fn := Try.f40) Try.func40 (by kernel_rfl) (by kernel_rfl) (by kernel_rfl) (by kernel_rfl) (by kernel_rfl) ?_
 refine sem_set ⟨[(0, (.sl (List.map c_Point a))), (1, (.sl (List.map c_Point b)))], []⟩ (by kernel_rfl) ?_
 refine z3 1 ⟨[(0, (.sl (List.map c_Point a))), (1, (.sl (List.map c_Point b)))], []⟩ (by kernel_rfl) ?_
 refine sem_seq (by kernel_rfl) ?_
 refine z7 (by kernel_rfl) ?_
 refine evs_run 1 (by kernel_rfl) ?_
 refine evs_op (st_len (c := c_Point) (l := a) (x := (.sl (List.map c_Point a))) (by kernel_rfl) (by kernel_rfl)) ?_
 refine evs_run 1 (by kernel_rfl) ?_
 refine evs_op (st_len (c := c_Point) (l := b) (x := (.sl (List.map c_Point b))) (by kernel_rfl) (by kernel_rfl)) ?_
 refine z1 1 ⟨[(0, (.sl (List.map c_Point a))), (1, (.sl (List.map c_Point b))), (10, (vB ((a.length : Int) != (b.length : Int))))], []⟩ (by kernel_rfl) ?_
 refine sem_cond ((a.length : Int) != (b.length : Int)) (by kernel_rfl) (by kernel_rfl) (fun hb => ?_) (fun hb => ?_)
 ·replace h := iteT hb h
  refine z8 1 ⟨[(4, (vB false))], []⟩ (by kernel_rfl) (fun τ hτ => ?_)
  refine th_ret ?_
  obtain rfl := Option.some.inj h
  exact rk_ret hτ [(4, (vB false))] (here (by kernel_rfl)) (by kernel_rfl)
 ·replace h := iteF hb h
  refine z4 ⟨[(0, (.sl (List.map c_Point a))), (1, (.sl (List.map c_Point b)))], []⟩ (by kernel_rfl) ?_
  refine sem_seq (by kernel_rfl) ?_
  refine z3 1 ⟨[(0, (.sl (List.map c_Point a))), (1, (.sl (List.map c_Point b))), (5, (vI 0))], []⟩ (by kernel_rfl) ?_
  refine sem_block (by kernel_rfl) ?_
  obtain ⟨x80, hx80, h⟩ := bindS h
  refine sem_loopS (fun (s55 : Int) => ⟨[(0, (.sl (List.map c_Point a))), (1, (.sl (List.map c_Point b))), (5, (vI s55))], []⟩) (fun (x80 : Unit ⊕ Unit) => match x80 with | .inl j81 => (.ret, ⟨[(4, (vB false))], []⟩) | .inr j82 => (.exit 0, ⟨[], []⟩)) (sheetmetalref01_SamePoints_l1 a b) 0 x80 (by kernel_rfl) (here (by kernel_rfl)) hx80 ?_ ?_ ?_
  ·intro s55 r h
   refine sem_seq (by kernel_rfl) ?_
   refine z7 (by kernel_rfl) ?_
   refine evs_run 2 (by kernel_rfl) ?_
   refine evs_op (st_len (c := c_Point) (l := a) (x := (.sl (List.map c_Point a))) (by kernel_rfl) (by kernel_rfl)) ?_
   refine z1 1 ⟨[(0, (.sl (List.map c_Point a))), (1, (.sl (List.map c_Point b))), (5, (vI s55)), (14, (vB (decide (s55 < (a.length : Int)))))], []⟩ (by kernel_rfl) ?_
   refine sem_cond (decide (s55 < (a.length : Int))) (by kernel_rfl) (by kernel_rfl) (fun hb => ?_) (fun hb => ?_)
   ·replace h := iteT hb h
    refine z4 ⟨[(0, (.sl (List.map c_Point a))), (1, (.sl (List.map c_Point b))), (5, (vI s55))], []⟩ (by kernel_rfl) ?_
    refine sem_seq (by kernel_rfl) ?_
    refine sem_block (by kernel_rfl) ?_
    refine sem_seq (by kernel_rfl) ?_
    refine sem_drawN [] [] [] [] [] 8 (by kernel_rfl) (by kernel_rfl) (by kernel_rfl) ?_
    refine evd_run 2 (by kernel_rfl) ?_
    obtain ⟨x78, hx78, h⟩ := bindS h
    refine evd_val (by kernel_rfl) (st_idx (c := c_Point) (l := a) (i := s55) (kd := .i64) (sz := 4) (by kernel_rfl) hx78 rfl) (by kernel_rfl) (by kernel_rfl) ?_
    refine evd_run 3 (by kernel_rfl) ?_
    obtain ⟨x79, hx79, h⟩ := bindS h
    refine evd_val (by kernel_rfl) (st_idx (c := c_Point) (l := b) (i := s55) (kd := .i64) (sz := 4) (by kernel_rfl) hx79 rfl) (by kernel_rfl) (by kernel_rfl) ?_
    refine evd_run 1 (by kernel_rfl) ?_
    refine evd_end (by kernel_rfl) ?_
    refine evo_run 1 (by kernel_rfl) ?_
    refine evo_endS (by kernel_rfl) (fun τ hτ => ?_)
    refine th_normalS hτ ⟨[(0, (.sl (List.map c_Point a))), (1, (.sl (List.map c_Point b))), (5, (vI s55)), (25, (vB (!((x78.X.A == x79.X.A) && ((x78.X.B == x79.X.B) && ((x78.Y.A == x79.Y.A) && ((x78.Y.B == x79.Y.B) && true)))))))], []⟩ (here (by kernel_rfl)) ?_
    refine sem_cond (!((x78.X.A == x79.X.A) && ((x78.X.B == x79.X.B) && ((x78.Y.A == x79.Y.A) && ((x78.Y.B == x79.Y.B) && true))))) (by kernel_rfl) (by kernel_rfl) (fun hb => ?_) (fun hb => ?_)
    ·replace h := iteT hb h
     refine z8 1 ⟨[(4, (vB false))], []⟩ (by kernel_rfl) (fun τ hτ => ?_)
     refine bl_ret ?_
     refine th_ret ?_
     obtain rfl := Option.some.inj h
     exact lk_outS hτ rfl (here (by kernel_rfl))
    ·replace h := iteF hb h
     refine sem_skipS (by kernel_rfl) (fun τ hτ => ?_)
     refine bl_normal ?_
     refine th_normalS hτ ⟨[(0, (.sl (List.map c_Point a))), (1, (.sl (List.map c_Point b))), (5, (vI s55))], []⟩ (here (by kernel_rfl)) ?_
     refine sem_region (by kernel_rfl) ?_
     refine z6 3 (by kernel_rfl) (fun τ hτ => ?_)
     obtain rfl := Option.some.inj h
     exact lk_nextS hτ (here (by kernel_rfl))
   ·replace h := iteF hb h
    refine sem_exitS 0 (by kernel_rfl) rfl (fun τ hτ => ?_)
    refine th_exit ?_
    obtain rfl := Option.some.inj h
    exact lk_outS hτ rfl (here (by kernel_rfl))
  ·intro x
   rcases x with _ | _ <;> rfl
  ·intro τ hτ
   rcases x80 with j81 | j82
   ·refine bl_ret ?_
    refine th_ret ?_
    obtain rfl := Option.some.inj h
    exact rk_ret hτ [(4, (vB false))] (here (by kernel_rfl)) (by kernel_rfl)
   ·refine bl_hit (by kernel_rfl) ?_
    refine th_normalS hτ ⟨[], []⟩ (here (by kernel_rfl)) ?_
    refine z8 1 ⟨[(4, (vB true))], []⟩ (by kernel_rfl) (fun τ hτ => ?_)
    obtain rfl := Option.some.inj h
    exact rk_ret hτ [(4, (vB true))] (here (by kernel_rfl)) (by kernel_rfl)
theorem W.geom_Sweep_1_ok {k : Int} {a_0 : (List Spot)} {r : (List Point)} (h : geom_Sweep_1 k a_0 = some r) : PC G.P 82 [(vI k), (.vptr [(.sl (List.map c_Spot a_0))] 0)] [] (.row (.top 0) 36) [(0, .row 36 [] (List.map c_Point r))] := by
 refine pc_of G (fn := Try.f82) Try.func82 (by kernel_rfl) (by kernel_rfl) (by kernel_rfl) (by kernel_rfl) (by kernel_rfl) ?_
 refine sem_set ⟨[(0, (vI k)), (1, (.vptr [(.sl (List.map c_Spot a_0))] 0))], []⟩ (by kernel_rfl) ?_
 refine z3 1 ⟨[(0, (vI k)), (1, (.vptr [(.sl (List.map c_Spot a_0))] 0))], []⟩ (by kernel_rfl) ?_
 refine z3 1 ⟨[(0, (vI k)), (1, (.vptr [(.sl (List.map c_Spot a_0))] 0)), (4, (.row (.top 4) 36))], [(4, .row 36 [] (List.map c_Point []))]⟩ (by kernel_rfl) ?_
 refine sem_seq (by kernel_rfl) ?_
 refine z7 (by kernel_rfl) ?_
 refine evs_run 1 (by kernel_rfl) ?_
 refine evs_op (st_len (c := c_Spot) (l := a_0) (x := (.sl (List.map c_Spot a_0))) (by kernel_rfl) (by kernel_rfl)) ?_
 refine z1 1 ⟨[(0, (vI k)), (4, (.row (.top 4) 36)), (7, (.sl (List.map c_Spot a_0))), (8, (vI (a_0.length : Int))), (9, (vI 0))], [(4, .row 36 [] (List.map c_Point []))]⟩ (by kernel_rfl) ?_
 refine sem_block (by kernel_rfl) ?_
 obtain ⟨x78, hx78, h⟩ := bindS h
 refine sem_loopS (fun (s53 : Int × (List Point)) => ⟨[(0, (vI k)), (4, (.row (.top 500000) 36)), (7, (.sl (List.map c_Spot a_0))), (8, (vI (a_0.length : Int))), (9, (vI s53.1))], [(500000, .row 36 [] (List.map c_Point s53.2))]⟩) (fun (x78 : (List Point)) => (.exit 0, ⟨[(4, (.row (.top 500000) 36))], [(500000, .row 36 [] (List.map c_Point x78))]⟩)) (geom_Sweep_1_l1 k a_0) (0, []) x78 (by kernel_rfl) (subR_prep [] [(4, 500000)] (by kernel_rfl) rfl rfl (by kernel_rfl)) hx78 ?_ ?_ ?_
 ·intro s53 r h
  refine z3 1 ⟨[(0, (vI k)), (4, (.row (.top 500000) 36)), (7, (.sl (List.map c_Spot a_0))), (8, (vI (a_0.length : Int))), (9, (vI s53.1)), (10, (vB (decide (s53.1 < (a_0.length : Int)))))], [(500000, .row 36 [] (List.map c_Point s53.2))]⟩ (by kernel_rfl) ?_
  refine sem_seq (by kernel_rfl) ?_
  refine sem_cond (decide (s53.1 < (a_0.length : Int))) (by kernel_rfl) (by kernel_rfl) (fun hb => ?_) (fun hb => ?_)
  ·replace h := iteT hb h
   refine z4 ⟨[(0, (vI k)), (4, (.row (.top 500000) 36)), (7, (.sl (List.map c_Spot a_0))), (8, (vI (a_0.length : Int))), (9, (vI s53.1))], [(500000, .row 36 [] (List.map c_Point s53.2))]⟩ (by kernel_rfl) ?_
   refine sem_seq (by kernel_rfl) ?_
   refine sem_block (by kernel_rfl) ?_
   refine z7 (by kernel_rfl) ?_
   obtain ⟨x73, hx73, h⟩ := bindS h
   refine evs_op (st_idx (c := c_Spot) (l := a_0) (i := s53.1) (kd := .i64) (sz := 2) (by kernel_rfl) hx73 rfl) ?_
   refine z1 3 ⟨[(0, (vI k)), (4, (.row (.top 500000) 36)), (6, (.ptr 6 0)), (7, (.sl (List.map c_Spot a_0))), (8, (vI (a_0.length : Int))), (9, (vI s53.1))], [(6, .box [(vI x73.X), (vI x73.Y)]), (500000, .row 36 [] (List.map c_Point s53.2))]⟩ (by kernel_rfl) ?_
   refine sem_region (by kernel_rfl) ?_
   refine evs_run 3 (by kernel_rfl) ?_
   obtain ⟨r76, hr76, h⟩ := bindS h
   refine evs_callS [] [(0, 700150)] [] (by kernel_rfl) (W.geom_turned_ok hr76) (by kernel_rfl) (by kernel_rfl) (.inl rfl) ?_
   refine evs_run 1 (by kernel_rfl) ?_
   obtain ⟨l77, hl77, h⟩ := bindS h
   refine evs_op (st_app (c := c_Point) (l := s53.2) (l2 := [(Point.mk (Root.mk r76.1.X.A r76.1.X.B) (Root.mk r76.1.Y.A r76.1.Y.B))]) (x := (.sl (List.map c_Point [(Point.mk (Root.mk r76.1.X.A r76.1.X.B) (Root.mk r76.1.Y.A r76.1.Y.B))]))) (g := 500000) (e := 36) (sz := 4) (d := 18) (by kernel_rfl) (by kernel_rfl) (by kernel_rfl) (by kernel_rfl) (fun _ => rfl) rfl hl77) ?_
   refine z6 1 (by kernel_rfl) (fun τ hτ => ?_)
   refine bl_normal ?_
   refine th_normalS hτ ⟨[(0, (vI k)), (4, (.row (.top 500000) 36)), (7, (.sl (List.map c_Spot a_0))), (8, (vI (a_0.length : Int))), (9, (vI s53.1))], [(500000, .row 36 [] (List.map c_Point l77))]⟩ (here (by kernel_rfl)) ?_
   refine sem_region (by kernel_rfl) ?_
   refine z6 2 (by kernel_rfl) (fun τ hτ => ?_)
   obtain rfl := Option.some.inj h
   exact lk_nextS hτ (here (by kernel_rfl))
  ·replace h := iteF hb h
   refine sem_exitS 0 (by kernel_rfl) rfl (fun τ hτ => ?_)
   refine th_exit ?_
   obtain rfl := Option.some.inj h
   exact lk_outS hτ rfl (here (by kernel_rfl))
 ·intro x
  rfl
 ·intro τ hτ
  refine bl_hit (by kernel_rfl) ?_
  refine th_normalS hτ ⟨[(4, (.row (.top 500000) 36))], [(500000, .row 36 [] (List.map c_Point x78))]⟩ (here (by kernel_rfl)) ?_
  refine z8 2 ⟨[(3, (.row (.top 500000) 36))], [(500000, .row 36 [] (List.map c_Point x78))]⟩ (by kernel_rfl) (fun τ hτ => ?_)
  obtain rfl := Option.some.inj h
  exact rk_ret hτ [(3, (.row (.top 0) 36))] (subR_prep [] [(500000, 0)] (by kernel_rfl) rfl rfl (by kernel_rfl)) (by kernel_rfl)
theorem W.geom_Sweep_ok {l : (List Spot)} {from1 : Int} {to2 : Int} {r : (List (List Point)) × Int} (h : geom_Sweep l from1 to2 = some r) : PC G.P 41 [(.sl (List.map c_Spot l)), (vI from1), (vI to2)] [] (.tup [(.sl (List.map (cS c_Point) r.1)), (vI r.2)]) [] := by
 refine pc_of G (fn := Try.f41) Try.func41 (by kernel_rfl) (by kernel_rfl) (by kernel_rfl) (by kernel_rfl) (by kernel_rfl) ?_
 refine sem_set ⟨[(0, (.sl (List.map c_Spot l))), (1, (vI from1)), (2, (vI to2))], []⟩ (by kernel_rfl) ?_
 refine z3 3 ⟨[(1, (vI from1)), (2, (vI to2)), (3, (.ptr 3 0))], [(3, .box [(.sl (List.map c_Spot l))])]⟩ (by kernel_rfl) ?_
 refine sem_seq (by kernel_rfl) ?_
 refine sem_seq (by kernel_rfl) ?_
 obtain ⟨j2, hj2, h⟩ := bindS h
 refine sem_regionC ⟨[(1, (vI from1)), (2, (vI to2)), (3, (.ptr 500000 0)), (33, (vB j2))], [(500000, .box [(.sl (List.map c_Spot l))])]⟩ (by kernel_rfl) ?_ (fun τ hτ => ?_)
 ·replace h := hj2
  refine evs_run 1 (by kernel_rfl) ?_
  refine evs_op (st_len (c := c_Spot) (l := l) (x := (.sl (List.map c_Spot l))) (by kernel_rfl) (by kernel_rfl)) ?_
  refine evs_run 2 (by kernel_rfl) ?_
  refine evs_split ((l.length : Int) == 0) (fun b0 => ⟨[(1, (vI from1)), (2, (vI to2)), (3, (.ptr 3 0)), (16, (vB b0))], [(3, .box [(.sl (List.map c_Spot l))])]⟩) (by kernel_rfl) (fun hb => ?_) (fun hb => ?_)
  ·replace h := iteT hb h
   refine z6 17 (by kernel_rfl) (fun τ hτ => ?_)
   obtain rfl := Option.some.inj h
   exact leafC hτ (subR_prep [] [(3, 500000)] (by kernel_rfl) rfl rfl (by kernel_rfl))
  ·replace h := iteF hb h
   refine evs_run 1 (by kernel_rfl) ?_
   refine evs_op (st_len (c := c_Spot) (l := l) (x := (.sl (List.map c_Spot l))) (by kernel_rfl) (by kernel_rfl)) ?_
   refine evs_run 3 (by kernel_rfl) ?_
   refine evs_split (decide ((l.length : Int) > 12)) (fun b0 => ⟨[(1, (vI from1)), (2, (vI to2)), (3, (.ptr 3 0)), (21, (vB b0))], [(3, .box [(.sl (List.map c_Spot l))])]⟩) (by kernel_rfl) (fun hb => ?_) (fun hb => ?_)
   ·replace h := iteT hb h
    refine z6 12 (by kernel_rfl) (fun τ hτ => ?_)
    obtain rfl := Option.some.inj h
    exact leafC hτ (subR_prep [] [(3, 500000)] (by kernel_rfl) rfl rfl (by kernel_rfl))
   ·replace h := iteF hb h
    refine evs_run 4 (by kernel_rfl) ?_
    refine evs_split (decide (from1 < 0)) (fun b0 => ⟨[(1, (vI from1)), (2, (vI to2)), (3, (.ptr 3 0)), (25, (vB b0))], [(3, .box [(.sl (List.map c_Spot l))])]⟩) (by kernel_rfl) (fun hb => ?_) (fun hb => ?_)
    ·replace h := iteT hb h
     refine z6 8 (by kernel_rfl) (fun τ hτ => ?_)
     obtain rfl := Option.some.inj h
     exact leafC hτ (subR_prep [] [(3, 500000)] (by kernel_rfl) rfl rfl (by kernel_rfl))
    ·replace h := iteF hb h
     refine evs_run 4 (by kernel_rfl) ?_
     refine evs_split (decide (to2 > 6)) (fun b0 => ⟨[(1, (vI from1)), (2, (vI to2)), (3, (.ptr 3 0)), (29, (vB b0))], [(3, .box [(.sl (List.map c_Spot l))])]⟩) (by kernel_rfl) (fun hb => ?_) (fun hb => ?_)
     ·replace h := iteT hb h
      refine z6 4 (by kernel_rfl) (fun τ hτ => ?_)
      obtain rfl := Option.some.inj h
      exact leafC hτ (subR_prep [] [(3, 500000)] (by kernel_rfl) rfl rfl (by kernel_rfl))
     ·replace h := iteF hb h
      refine z6 4 (by kernel_rfl) (fun τ hτ => ?_)
      obtain rfl := Option.some.inj h
      exact leafC hτ (subR_prep [] [(3, 500000)] (by kernel_rfl) rfl rfl (by kernel_rfl))
 refine th_normalS hτ ⟨[(1, (vI from1)), (2, (vI to2)), (3, (.ptr 500000 0)), (33, (vB j2))], [(500000, .box [(.sl (List.map c_Spot l))])]⟩ (here (by kernel_rfl)) ?_
 refine sem_cond j2 (by kernel_rfl) (by kernel_rfl) (fun hb => ?_) (fun hb => ?_)
 ·replace h := iteT hb h
  refine z8 2 ⟨[(6, (.row (.top 6) 47)), (7, (vI 1))], [(6, .row 47 [] (List.map (cS c_Point) []))]⟩ (by kernel_rfl) (fun τ hτ => ?_)
  refine th_ret ?_
  obtain rfl := Option.some.inj h
  exact rk_ret hτ [(6, (.sl (List.map (cS c_Point) []))), (7, (vI 1))] (subR_prep [.frz 6] [] (by kernel_rfl) rfl rfl (by kernel_rfl)) (by kernel_rfl)
 ·replace h := iteF hb h
  refine z4 ⟨[(1, (vI from1)), (2, (vI to2)), (3, (.ptr 500000 0))], [(500000, .box [(.sl (List.map c_Spot l))])]⟩ (by kernel_rfl) ?_
  refine sem_seq (by kernel_rfl) ?_
  refine z7 (by kernel_rfl) ?_
  refine evs_run 1 (by kernel_rfl) ?_
  refine evs_op (st_len (c := c_Spot) (l := l) (x := (.sl (List.map c_Spot l))) (by kernel_rfl) (by kernel_rfl)) ?_
  refine z1 1 ⟨[(1, (vI from1)), (2, (vI to2)), (3, (.ptr 500000 0)), (34, (.sl (List.map c_Spot l))), (35, (vI (l.length : Int))), (36, (vI 0))], [(500000, .box [(.sl (List.map c_Spot l))])]⟩ (by kernel_rfl) ?_
  refine sem_block (by kernel_rfl) ?_
  obtain ⟨x58, hx58, h⟩ := bindS h
  refine sem_loopS (fun (s41 : Int) => ⟨[(1, (vI from1)), (2, (vI to2)), (3, (.ptr 500000 0)), (34, (.sl (List.map c_Spot l))), (35, (vI (l.length : Int))), (36, (vI s41))], [(500000, .box [(.sl (List.map c_Spot l))])]⟩) (fun (x58 : Unit ⊕ Unit) => match x58 with | .inl j59 => (.ret, ⟨[(6, (.row (.top 500000) 47)), (7, (vI 1))], [(500000, .row 47 [] (List.map (cS c_Point) []))]⟩) | .inr j60 => (.exit 0, ⟨[(1, (vI from1)), (2, (vI to2)), (3, (.ptr 500000 0))], [(500000, .box [(.sl (List.map c_Spot l))])]⟩)) (geom_Sweep_l1 l) 0 x58 (by kernel_rfl) (here (by kernel_rfl)) hx58 ?_ ?_ ?_
  ·intro s41 r h
   refine z3 1 ⟨[(1, (vI from1)), (2, (vI to2)), (3, (.ptr 500000 0)), (34, (.sl (List.map c_Spot l))), (35, (vI (l.length : Int))), (36, (vI s41)), (37, (vB (decide (s41 < (l.length : Int)))))], [(500000, .box [(.sl (List.map c_Spot l))])]⟩ (by kernel_rfl) ?_
   refine sem_seq (by kernel_rfl) ?_
   refine sem_cond (decide (s41 < (l.length : Int))) (by kernel_rfl) (by kernel_rfl) (fun hb => ?_) (fun hb => ?_)
   ·replace h := iteT hb h
    refine z4 ⟨[(1, (vI from1)), (2, (vI to2)), (3, (.ptr 500000 0)), (34, (.sl (List.map c_Spot l))), (35, (vI (l.length : Int))), (36, (vI s41))], [(500000, .box [(.sl (List.map c_Spot l))])]⟩ (by kernel_rfl) ?_
    refine sem_seq (by kernel_rfl) ?_
    refine sem_block (by kernel_rfl) ?_
    refine z7 (by kernel_rfl) ?_
    obtain ⟨x55, hx55, h⟩ := bindS h
    refine evs_op (st_idx (c := c_Spot) (l := l) (i := s41) (kd := .i64) (sz := 2) (by kernel_rfl) hx55 rfl) ?_
    refine z1 3 ⟨[(1, (vI from1)), (2, (vI to2)), (3, (.ptr 500000 0)), (9, (.ptr 9 0)), (34, (.sl (List.map c_Spot l))), (35, (vI (l.length : Int))), (36, (vI s41))], [(9, .box [(vI x55.X), (vI x55.Y)]), (500000, .box [(.sl (List.map c_Spot l))])]⟩ (by kernel_rfl) ?_
    refine z7 (by kernel_rfl) ?_
    refine evs_run 1 (by kernel_rfl) ?_
    obtain ⟨r57, hr57, h⟩ := bindS h
    refine evs_callP [] (by kernel_rfl) (W.geom_near_ok hr57) (by kernel_rfl) (.inl rfl) (by kernel_rfl) ?_
    refine z1 1 ⟨[(1, (vI from1)), (2, (vI to2)), (3, (.ptr 500000 0)), (34, (.sl (List.map c_Spot l))), (35, (vI (l.length : Int))), (36, (vI s41)), (42, (vB (!r57)))], [(500000, .box [(.sl (List.map c_Spot l))])]⟩ (by kernel_rfl) ?_
    refine sem_cond (!r57) (by kernel_rfl) (by kernel_rfl) (fun hb => ?_) (fun hb => ?_)
    ·replace h := iteT hb h
     refine z8 2 ⟨[(6, (.row (.top 6) 47)), (7, (vI 1))], [(6, .row 47 [] (List.map (cS c_Point) []))]⟩ (by kernel_rfl) (fun τ hτ => ?_)
     refine bl_ret ?_
     refine th_ret ?_
     obtain rfl := Option.some.inj h
     exact lk_outS hτ rfl (subR_prep [] [(6, 500000)] (by kernel_rfl) rfl rfl (by kernel_rfl))
    ·replace h := iteF hb h
     refine sem_skipS (by kernel_rfl) (fun τ hτ => ?_)
     refine bl_normal ?_
     refine th_normalS hτ ⟨[(1, (vI from1)), (2, (vI to2)), (3, (.ptr 500000 0)), (34, (.sl (List.map c_Spot l))), (35, (vI (l.length : Int))), (36, (vI s41))], [(500000, .box [(.sl (List.map c_Spot l))])]⟩ (here (by kernel_rfl)) ?_
     refine sem_region (by kernel_rfl) ?_
     refine z6 2 (by kernel_rfl) (fun τ hτ => ?_)
     obtain rfl := Option.some.inj h
     exact lk_nextS hτ (here (by kernel_rfl))
   ·replace h := iteF hb h
    refine sem_exitS 0 (by kernel_rfl) rfl (fun τ hτ => ?_)
    refine th_exit ?_
    obtain rfl := Option.some.inj h
    exact lk_outS hτ rfl (here (by kernel_rfl))
  ·intro x
   rcases x with _ | _ <;> rfl
  ·intro τ hτ
   rcases x58 with j59 | j60
   ·refine bl_ret ?_
    refine th_ret ?_
    obtain rfl := Option.some.inj h
    exact rk_ret hτ [(6, (.sl (List.map (cS c_Point) []))), (7, (vI 1))] (subR_prep [.frz 500000] [] (by kernel_rfl) rfl rfl (by kernel_rfl)) (by kernel_rfl)
   ·refine bl_hit (by kernel_rfl) ?_
    refine th_normalS hτ ⟨[(1, (vI from1)), (2, (vI to2)), (3, (.ptr 500000 0))], [(500000, .box [(.sl (List.map c_Spot l))])]⟩ (here (by kernel_rfl)) ?_
    refine z3 2 ⟨[(1, (vI from1)), (2, (vI to2)), (10, (.fn 82 [(.ptr 500000 0)]))], [(500000, .box [(.sl (List.map c_Spot l))])]⟩ (by kernel_rfl) ?_
    refine sem_seq (by kernel_rfl) ?_
    refine z3 3 ⟨[(1, (vI from1)), (2, (vI to2)), (10, (.fn 82 [(.ptr 500000 0)])), (47, (vB (from1 == to2)))], [(500000, .box [(.sl (List.map c_Spot l))])]⟩ (by kernel_rfl) ?_
    refine sem_cond (from1 == to2) (by kernel_rfl) (by kernel_rfl) (fun hb => ?_) (fun hb => ?_)
    ·replace h := iteT hb h
     refine z7 (by kernel_rfl) ?_
     refine evs_run 2 (by kernel_rfl) ?_
     obtain ⟨r67, hr67, h⟩ := bindS h
     refine evs_callS [] [(0, 700100)] [500000] (by kernel_rfl) (W.geom_Sweep_1_ok hr67) (by kernel_rfl) (by kernel_rfl) (.inr ⟨rfl, fun _ _ => ind_cons (ind_row fun _ => rfl) (fun _ _ => ind_nil)⟩) ?_
     obtain ⟨r68, hr68, h⟩ := bindS h
     refine evs_callS [] [(0, 700150)] [700100] (by kernel_rfl) (W.geom_hull_ok hr68) (by kernel_rfl) (by kernel_rfl) (.inr ⟨rfl, fun _ _ => ind_cons (ind_row fun _ => rfl) (fun _ _ => ind_nil)⟩) ?_
     refine evs_prep [.frz 700150] (by kernel_rfl) ?_
     refine z1 3 ⟨[(6, (.sl (List.map (cS c_Point) [r68]))), (7, (vI 0))], []⟩ (by kernel_rfl) ?_
     refine sem_retS (by kernel_rfl) (fun τ hτ => ?_)
     refine th_ret ?_
     obtain rfl := Option.some.inj h
     exact rk_ret hτ [(6, (.sl (List.map (cS c_Point) [r68]))), (7, (vI 0))] (here (by kernel_rfl)) (by kernel_rfl)
    ·replace h := iteF hb h
     refine z4 ⟨[(1, (vI from1)), (2, (vI to2)), (10, (.fn 82 [(.ptr 500000 0)]))], [(500000, .box [(.sl (List.map c_Spot l))])]⟩ (by kernel_rfl) ?_
     refine z3 1 ⟨[(1, (vI from1)), (2, (vI to2)), (10, (.fn 82 [(.ptr 500000 0)])), (11, (.row (.top 11) 47))], [(11, .row 47 [] (List.map (cS c_Point) [])), (500000, .box [(.sl (List.map c_Spot l))])]⟩ (by kernel_rfl) ?_
     refine sem_seq (by kernel_rfl) ?_
     refine z3 2 ⟨[(2, (vI to2)), (10, (.fn 82 [(.ptr 500000 0)])), (11, (.row (.top 11) 47)), (12, (vI from1))], [(11, .row 47 [] (List.map (cS c_Point) [])), (500000, .box [(.sl (List.map c_Spot l))])]⟩ (by kernel_rfl) ?_
     refine sem_block (by kernel_rfl) ?_
     obtain ⟨x194, hx194, h⟩ := bindS h
     refine sem_loopS (fun (s153 : Int × (List (List Point))) => ⟨[(2, (vI to2)), (10, (.fn 82 [(.ptr 500000 0)])), (11, (.row (.top 500001) 47)), (12, (vI s153.1))], [(500000, .box [(.sl (List.map c_Spot l))]), (500001, .row 47 [] (List.map (cS c_Point) s153.2))]⟩) (fun (x194 : (List (List Point))) => (.exit 2, ⟨[(11, (.row (.top 500000) 47))], [(500000, .row 47 [] (List.map (cS c_Point) x194))]⟩)) (geom_Sweep_l2 l to2) (from1, []) x194 (by kernel_rfl) (subR_prep [] [(11, 500001), (500000, 500000)] (by kernel_rfl) rfl rfl (by kernel_rfl)) hx194 ?_ ?_ ?_
     ·intro s153 r h
      refine sem_seq (by kernel_rfl) ?_
      refine z3 3 ⟨[(2, (vI to2)), (10, (.fn 82 [(.ptr 500000 0)])), (11, (.row (.top 500001) 47)), (12, (vI s153.1)), (56, (vB (decide (s153.1 < to2))))], [(500000, .box [(.sl (List.map c_Spot l))]), (500001, .row 47 [] (List.map (cS c_Point) s153.2))]⟩ (by kernel_rfl) ?_
      refine sem_cond (decide (s153.1 < to2)) (by kernel_rfl) (by kernel_rfl) (fun hb => ?_) (fun hb => ?_)
      ·replace h := iteT hb h
       refine z4 ⟨[(2, (vI to2)), (10, (.fn 82 [(.ptr 500000 0)])), (11, (.row (.top 500001) 47)), (12, (vI s153.1))], [(500000, .box [(.sl (List.map c_Spot l))]), (500001, .row 47 [] (List.map (cS c_Point) s153.2))]⟩ (by kernel_rfl) ?_
       refine sem_seq (by kernel_rfl) ?_
       refine sem_block (by kernel_rfl) ?_
       refine sem_region (by kernel_rfl) ?_
       refine evs_run 3 (by kernel_rfl) ?_
       obtain ⟨r189, hr189, h⟩ := bindS h
       refine evs_callS [] [(0, 700150)] [500000] (by kernel_rfl) (W.geom_Sweep_1_ok hr189) (by kernel_rfl) (by kernel_rfl) (.inr ⟨rfl, fun _ _ => ind_cons (ind_row fun _ => rfl) (fun _ _ => ind_nil)⟩) ?_
       refine evs_run 3 (by kernel_rfl) ?_
       obtain ⟨r190, hr190, h⟩ := bindS h
       refine evs_callS [] [(0, 700350)] [500000] (by kernel_rfl) (W.geom_Sweep_1_ok hr190) (by kernel_rfl) (by kernel_rfl) (.inr ⟨rfl, fun _ _ => ind_cons (ind_row fun _ => rfl) (fun _ _ => ind_nil)⟩) ?_
       obtain ⟨l191, hl191, h⟩ := bindS h
       refine evs_op (st_app (c := c_Point) (l := r189) (l2 := r190) (x := (.row (.top 700350) 36)) (g := 700150) (e := 36) (sz := 4) (d := 67) (by kernel_rfl) (by kernel_rfl) (by kernel_rfl) (by kernel_rfl) (fun _ => rfl) rfl hl191) ?_
       obtain ⟨r192, hr192, h⟩ := bindS h
       refine evs_callS [] [(0, 700450)] [700150] (by kernel_rfl) (W.geom_hull_ok hr192) (by kernel_rfl) (by kernel_rfl) (.inr ⟨rfl, fun _ _ => ind_cons (ind_row fun _ => rfl) (fun _ _ => ind_nil)⟩) ?_
       refine evs_prep [.frz 700450] (by kernel_rfl) ?_
       refine evs_run 1 (by kernel_rfl) ?_
       obtain ⟨l193, hl193, h⟩ := bindS h
       refine evs_op (st_app (c := (cS c_Point)) (l := s153.2) (l2 := [r192]) (x := (.sl (List.map (cS c_Point) [r192]))) (g := 500001) (e := 47) (sz := 1) (d := 70) (by kernel_rfl) (by kernel_rfl) (by kernel_rfl) (by kernel_rfl) (fun _ => rfl) rfl hl193) ?_
       refine z6 1 (by kernel_rfl) (fun τ hτ => ?_)
       refine bl_normal ?_
       refine th_normalS hτ ⟨[(2, (vI to2)), (10, (.fn 82 [(.ptr 500000 0)])), (11, (.row (.top 500001) 47)), (12, (vI s153.1))], [(500000, .box [(.sl (List.map c_Spot l))]), (500001, .row 47 [] (List.map (cS c_Point) l193))]⟩ (here (by kernel_rfl)) ?_
       refine sem_region (by kernel_rfl) ?_
       refine z6 3 (by kernel_rfl) (fun τ hτ => ?_)
       obtain rfl := Option.some.inj h
       exact lk_nextS hτ (here (by kernel_rfl))
      ·replace h := iteF hb h
       refine sem_exitS 2 (by kernel_rfl) rfl (fun τ hτ => ?_)
       refine th_exit ?_
       obtain rfl := Option.some.inj h
       exact lk_outS hτ rfl (subR_prep [] [(500001, 500000)] (by kernel_rfl) rfl rfl (by kernel_rfl))
     ·intro x
      rfl
     ·intro τ hτ
      refine bl_hit (by kernel_rfl) ?_
      refine th_normalS hτ ⟨[(11, (.row (.top 500000) 47))], [(500000, .row 47 [] (List.map (cS c_Point) x194))]⟩ (here (by kernel_rfl)) ?_
      refine z8 3 ⟨[(6, (.row (.top 500000) 47)), (7, (vI 0))], [(500000, .row 47 [] (List.map (cS c_Point) x194))]⟩ (by kernel_rfl) (fun τ hτ => ?_)
      obtain rfl := Option.some.inj h
      exact rk_ret hτ [(6, (.sl (List.map (cS c_Point) x194))), (7, (vI 0))] (subR_prep [.frz 500000] [] (by kernel_rfl) rfl rfl (by kernel_rfl)) (by kernel_rfl)
theorem W.sheetmetalref01_Sweep_ok {l : (List Spot)} {from1 : Int} {to2 : Int} {r : (List (List Point)) × Int} (h : sheetmetalref01_Sweep l from1 to2 = some r) : PC G.P 42 [(.sl (List.map c_Spot l)), (vI from1), (vI to2)] [] (.tup [(.row (.top 0) 47), (vI r.2)]) [(0, .row 47 [] (List.map (cS c_Point) r.1))] := by
 refine pc_of G (fn := Try.f42) Try.func42 (by kernel_rfl) (by kernel_rfl) (by kernel_rfl) (by kernel_rfl) (by kernel_rfl) ?_
 refine sem_set ⟨[(0, (.sl (List.map c_Spot l))), (1, (vI from1)), (2, (vI to2))], []⟩ (by kernel_rfl) ?_
 refine z3 2 ⟨[(0, (.sl (List.map c_Spot l))), (1, (vI from1)), (2, (vI to2))], []⟩ (by kernel_rfl) ?_
 refine sem_seq (by kernel_rfl) ?_
 refine sem_seq (by kernel_rfl) ?_
 obtain ⟨j2, hj2, h⟩ := bindS h
 refine sem_regionC ⟨[(0, (.sl (List.map c_Spot l))), (1, (vI from1)), (2, (vI to2)), (33, (vB j2))], []⟩ (by kernel_rfl) ?_ (fun τ hτ => ?_)
 ·replace h := hj2
  refine evs_run 1 (by kernel_rfl) ?_
  refine evs_op (st_len (c := c_Spot) (l := l) (x := (.sl (List.map c_Spot l))) (by kernel_rfl) (by kernel_rfl)) ?_
  refine evs_run 2 (by kernel_rfl) ?_
  refine evs_split ((l.length : Int) == 0) (fun b0 => ⟨[(0, (.sl (List.map c_Spot l))), (1, (vI from1)), (2, (vI to2)), (16, (vB b0))], []⟩) (by kernel_rfl) (fun hb => ?_) (fun hb => ?_)
  ·replace h := iteT hb h
   refine z6 17 (by kernel_rfl) (fun τ hτ => ?_)
   obtain rfl := Option.some.inj h
   exact leafC hτ (here (by kernel_rfl))
  ·replace h := iteF hb h
   refine evs_run 1 (by kernel_rfl) ?_
   refine evs_op (st_len (c := c_Spot) (l := l) (x := (.sl (List.map c_Spot l))) (by kernel_rfl) (by kernel_rfl)) ?_
   refine evs_run 3 (by kernel_rfl) ?_
   refine evs_split (decide ((l.length : Int) > 12)) (fun b0 => ⟨[(0, (.sl (List.map c_Spot l))), (1, (vI from1)), (2, (vI to2)), (21, (vB b0))], []⟩) (by kernel_rfl) (fun hb => ?_) (fun hb => ?_)
   ·replace h := iteT hb h
    refine z6 12 (by kernel_rfl) (fun τ hτ => ?_)
    obtain rfl := Option.some.inj h
    exact leafC hτ (here (by kernel_rfl))
   ·replace h := iteF hb h
    refine evs_run 4 (by kernel_rfl) ?_
    refine evs_split (decide (from1 < 0)) (fun b0 => ⟨[(0, (.sl (List.map c_Spot l))), (1, (vI from1)), (2, (vI to2)), (25, (vB b0))], []⟩) (by kernel_rfl) (fun hb => ?_) (fun hb => ?_)
    ·replace h := iteT hb h
     refine z6 8 (by kernel_rfl) (fun τ hτ => ?_)
     obtain rfl := Option.some.inj h
     exact leafC hτ (here (by kernel_rfl))
    ·replace h := iteF hb h
     refine evs_run 4 (by kernel_rfl) ?_
     refine evs_split (decide (to2 > 6)) (fun b0 => ⟨[(0, (.sl (List.map c_Spot l))), (1, (vI from1)), (2, (vI to2)), (29, (vB b0))], []⟩) (by kernel_rfl) (fun hb => ?_) (fun hb => ?_)
     ·replace h := iteT hb h
      refine z6 4 (by kernel_rfl) (fun τ hτ => ?_)
      obtain rfl := Option.some.inj h
      exact leafC hτ (here (by kernel_rfl))
     ·replace h := iteF hb h
      refine z6 4 (by kernel_rfl) (fun τ hτ => ?_)
      obtain rfl := Option.some.inj h
      exact leafC hτ (here (by kernel_rfl))
 refine th_normalS hτ ⟨[(0, (.sl (List.map c_Spot l))), (1, (vI from1)), (2, (vI to2)), (33, (vB j2))], []⟩ (here (by kernel_rfl)) ?_
 refine sem_cond j2 (by kernel_rfl) (by kernel_rfl) (fun hb => ?_) (fun hb => ?_)
 ·replace h := iteT hb h
  refine z8 2 ⟨[(6, (.row (.top 6) 47)), (7, (vI 1))], [(6, .row 47 [] (List.map (cS c_Point) []))]⟩ (by kernel_rfl) (fun τ hτ => ?_)
  refine th_ret ?_
  obtain rfl := Option.some.inj h
  exact rk_ret hτ [(6, (.row (.top 0) 47)), (7, (vI 1))] (subR_prep [] [(6, 0)] (by kernel_rfl) rfl rfl (by kernel_rfl)) (by kernel_rfl)
 ·replace h := iteF hb h
  refine z4 ⟨[(0, (.sl (List.map c_Spot l))), (1, (vI from1)), (2, (vI to2))], []⟩ (by kernel_rfl) ?_
  refine sem_seq (by kernel_rfl) ?_
  refine z3 1 ⟨[(0, (.sl (List.map c_Spot l))), (1, (vI from1)), (2, (vI to2)), (8, (vI 0))], []⟩ (by kernel_rfl) ?_
  refine sem_block (by kernel_rfl) ?_
  obtain ⟨x58, hx58, h⟩ := bindS h
  refine sem_loopS (fun (s41 : Int) => ⟨[(0, (.sl (List.map c_Spot l))), (1, (vI from1)), (2, (vI to2)), (8, (vI s41))], []⟩) (fun (x58 : Unit ⊕ Unit) => match x58 with | .inl j59 => (.ret, ⟨[(6, (.row (.top 500000) 47)), (7, (vI 1))], [(500000, .row 47 [] (List.map (cS c_Point) []))]⟩) | .inr j60 => (.exit 0, ⟨[(0, (.sl (List.map c_Spot l))), (1, (vI from1)), (2, (vI to2))], []⟩)) (sheetmetalref01_Sweep_l1 l) 0 x58 (by kernel_rfl) (here (by kernel_rfl)) hx58 ?_ ?_ ?_
  ·intro s41 r h
   refine sem_seq (by kernel_rfl) ?_
   refine z7 (by kernel_rfl) ?_
   refine evs_run 2 (by kernel_rfl) ?_
   refine evs_op (st_len (c := c_Spot) (l := l) (x := (.sl (List.map c_Spot l))) (by kernel_rfl) (by kernel_rfl)) ?_
   refine z1 1 ⟨[(0, (.sl (List.map c_Spot l))), (1, (vI from1)), (2, (vI to2)), (8, (vI s41)), (37, (vB (decide (s41 < (l.length : Int)))))], []⟩ (by kernel_rfl) ?_
   refine sem_cond (decide (s41 < (l.length : Int))) (by kernel_rfl) (by kernel_rfl) (fun hb => ?_) (fun hb => ?_)
   ·replace h := iteT hb h
    refine z4 ⟨[(0, (.sl (List.map c_Spot l))), (1, (vI from1)), (2, (vI to2)), (8, (vI s41))], []⟩ (by kernel_rfl) ?_
    refine sem_seq (by kernel_rfl) ?_
    refine sem_block (by kernel_rfl) ?_
    refine z7 (by kernel_rfl) ?_
    refine evs_run 2 (by kernel_rfl) ?_
    obtain ⟨x56, hx56, h⟩ := bindS h
    refine evs_op (st_idx (c := c_Spot) (l := l) (i := s41) (kd := .i64) (sz := 2) (by kernel_rfl) hx56 rfl) ?_
    refine evs_run 1 (by kernel_rfl) ?_
    obtain ⟨r57, hr57, h⟩ := bindS h
    refine evs_callP [] (by kernel_rfl) (W.sheetmetalref01_spotIn_ok hr57) (by kernel_rfl) (.inl rfl) (by kernel_rfl) ?_
    refine z1 1 ⟨[(0, (.sl (List.map c_Spot l))), (1, (vI from1)), (2, (vI to2)), (8, (vI s41)), (45, (vB (!r57)))], []⟩ (by kernel_rfl) ?_
    refine sem_cond (!r57) (by kernel_rfl) (by kernel_rfl) (fun hb => ?_) (fun hb => ?_)
    ·replace h := iteT hb h
     refine z8 2 ⟨[(6, (.row (.top 6) 47)), (7, (vI 1))], [(6, .row 47 [] (List.map (cS c_Point) []))]⟩ (by kernel_rfl) (fun τ hτ => ?_)
     refine bl_ret ?_
     refine th_ret ?_
     obtain rfl := Option.some.inj h
     exact lk_outS hτ rfl (subR_prep [] [(6, 500000)] (by kernel_rfl) rfl rfl (by kernel_rfl))
    ·replace h := iteF hb h
     refine sem_skipS (by kernel_rfl) (fun τ hτ => ?_)
     refine bl_normal ?_
     refine th_normalS hτ ⟨[(0, (.sl (List.map c_Spot l))), (1, (vI from1)), (2, (vI to2)), (8, (vI s41))], []⟩ (here (by kernel_rfl)) ?_
     refine sem_region (by kernel_rfl) ?_
     refine z6 3 (by kernel_rfl) (fun τ hτ => ?_)
     obtain rfl := Option.some.inj h
     exact lk_nextS hτ (here (by kernel_rfl))
   ·replace h := iteF hb h
    refine sem_exitS 0 (by kernel_rfl) rfl (fun τ hτ => ?_)
    refine th_exit ?_
    obtain rfl := Option.some.inj h
    exact lk_outS hτ rfl (here (by kernel_rfl))
  ·intro x
   rcases x with _ | _ <;> rfl
  ·intro τ hτ
   rcases x58 with j59 | j60
   ·refine bl_ret ?_
    refine th_ret ?_
    obtain rfl := Option.some.inj h
    exact rk_ret hτ [(6, (.row (.top 0) 47)), (7, (vI 1))] (subR_prep [] [(500000, 0)] (by kernel_rfl) rfl rfl (by kernel_rfl)) (by kernel_rfl)
   ·refine bl_hit (by kernel_rfl) ?_
    refine th_normalS hτ ⟨[(0, (.sl (List.map c_Spot l))), (1, (vI from1)), (2, (vI to2))], []⟩ (here (by kernel_rfl)) ?_
    refine z3 1 ⟨[(0, (.sl (List.map c_Spot l))), (1, (vI from1)), (2, (vI to2)), (9, (.row (.top 9) 47))], [(9, .row 47 [] (List.map (cS c_Point) []))]⟩ (by kernel_rfl) ?_
    refine sem_seq (by kernel_rfl) ?_
    refine z3 2 ⟨[(0, (.sl (List.map c_Spot l))), (1, (vI from1)), (2, (vI to2)), (9, (.row (.top 9) 47)), (10, (vI from1))], [(9, .row 47 [] (List.map (cS c_Point) []))]⟩ (by kernel_rfl) ?_
    refine sem_block (by kernel_rfl) ?_
    obtain ⟨x1998, hx1998, h⟩ := bindS h
    refine sem_loopS (fun (s1353 : Int × (List (List Point))) => ⟨[(0, (.sl (List.map c_Spot l))), (1, (vI from1)), (2, (vI to2)), (9, (.row (.top 500000) 47)), (10, (vI s1353.1))], [(500000, .row 47 [] (List.map (cS c_Point) s1353.2))]⟩) (fun (x1998 : (List (List Point))) => (.exit 2, ⟨[(9, (.row (.top 500000) 47))], [(500000, .row 47 [] (List.map (cS c_Point) x1998))]⟩)) (sheetmetalref01_Sweep_l4 l from1 to2) (from1, []) x1998 (by kernel_rfl) (subR_prep [] [(9, 500000)] (by kernel_rfl) rfl rfl (by kernel_rfl)) hx1998 ?_ ?_ ?_
    ·intro s1353 r h
     refine sem_seq (by kernel_rfl) ?_
     refine sem_seq (by kernel_rfl) ?_
     obtain ⟨j1677, hj1677, h⟩ := bindS h
     refine sem_regionC ⟨[(0, (.sl (List.map c_Spot l))), (1, (vI from1)), (2, (vI to2)), (9, (.row (.top 500000) 47)), (10, (vI s1353.1)), (54, (vB j1677))], [(500000, .row 47 [] (List.map (cS c_Point) s1353.2))]⟩ (by kernel_rfl) ?_ (fun τ hτ => ?_)
     ·replace h := hj1677
      refine evs_run 4 (by kernel_rfl) ?_
      refine evs_split (decide (s1353.1 < to2)) (fun b0 => ⟨[(0, (.sl (List.map c_Spot l))), (1, (vI from1)), (2, (vI to2)), (9, (.row (.top 500000) 47)), (10, (vI s1353.1)), (50, (vB b0))], [(500000, .row 47 [] (List.map (cS c_Point) s1353.2))]⟩) (by kernel_rfl) (fun hb => ?_) (fun hb => ?_)
      ·replace h := iteT hb h
       refine z6 4 (by kernel_rfl) (fun τ hτ => ?_)
       obtain rfl := Option.some.inj h
       exact leafC hτ (here (by kernel_rfl))
      ·replace h := iteF hb h
       refine z6 4 (by kernel_rfl) (fun τ hτ => ?_)
       obtain rfl := Option.some.inj h
       exact leafC hτ (here (by kernel_rfl))
     refine th_normalS hτ ⟨[(0, (.sl (List.map c_Spot l))), (1, (vI from1)), (2, (vI to2)), (9, (.row (.top 500000) 47)), (10, (vI s1353.1)), (54, (vB j1677))], [(500000, .row 47 [] (List.map (cS c_Point) s1353.2))]⟩ (here (by kernel_rfl)) ?_
     refine sem_cond j1677 (by kernel_rfl) (by kernel_rfl) (fun hb => ?_) (fun hb => ?_)
     ·replace h := iteT hb h
      refine z4 ⟨[(0, (.sl (List.map c_Spot l))), (1, (vI from1)), (2, (vI to2)), (9, (.row (.top 500000) 47)), (10, (vI s1353.1))], [(500000, .row 47 [] (List.map (cS c_Point) s1353.2))]⟩ (by kernel_rfl) ?_
      refine sem_seq (by kernel_rfl) ?_
      refine sem_block (by kernel_rfl) ?_
      refine z3 1 ⟨[(0, (.sl (List.map c_Spot l))), (1, (vI from1)), (2, (vI to2)), (9, (.row (.top 500000) 47)), (10, (vI s1353.1)), (11, (.row (.top 11) 36))], [(11, .row 36 [] (List.map c_Point [])), (500000, .row 47 [] (List.map (cS c_Point) s1353.2))]⟩ (by kernel_rfl) ?_
      refine sem_seq (by kernel_rfl) ?_
      refine z3 1 ⟨[(0, (.sl (List.map c_Spot l))), (1, (vI from1)), (2, (vI to2)), (9, (.row (.top 500000) 47)), (10, (vI s1353.1)), (11, (.row (.top 11) 36)), (12, (vI 0))], [(11, .row 36 [] (List.map c_Point [])), (500000, .row 47 [] (List.map (cS c_Point) s1353.2))]⟩ (by kernel_rfl) ?_
      refine sem_block (by kernel_rfl) ?_
      obtain ⟨x1993, hx1993, h⟩ := bindS h
      refine sem_loopS (fun (s1942 : Int × (List Point)) => ⟨[(0, (.sl (List.map c_Spot l))), (1, (vI from1)), (2, (vI to2)), (9, (.row (.top 500000) 47)), (10, (vI s1353.1)), (11, (.row (.top 500001) 36)), (12, (vI s1942.1))], [(500000, .row 47 [] (List.map (cS c_Point) s1353.2)), (500001, .row 36 [] (List.map c_Point s1942.2))]⟩) (fun (x1993 : (List Point)) => (.exit 4, ⟨[(0, (.sl (List.map c_Spot l))), (1, (vI from1)), (2, (vI to2)), (9, (.row (.top 500000) 47)), (10, (vI s1353.1)), (11, (.row (.top 500001) 36))], [(500000, .row 47 [] (List.map (cS c_Point) s1353.2)), (500001, .row 36 [] (List.map c_Point x1993))]⟩)) (sheetmetalref01_Sweep_l3 l from1 to2 s1353) (0, []) x1993 (by kernel_rfl) (subR_prep [] [(11, 500001), (500000, 500000)] (by kernel_rfl) rfl rfl (by kernel_rfl)) hx1993 ?_ ?_ ?_
      ·intro s1942 r h
       refine sem_seq (by kernel_rfl) ?_
       refine z7 (by kernel_rfl) ?_
       refine evs_run 2 (by kernel_rfl) ?_
       refine evs_op (st_len (c := c_Spot) (l := l) (x := (.sl (List.map c_Spot l))) (by kernel_rfl) (by kernel_rfl)) ?_
       refine z1 1 ⟨[(0, (.sl (List.map c_Spot l))), (1, (vI from1)), (2, (vI to2)), (9, (.row (.top 500000) 47)), (10, (vI s1353.1)), (11, (.row (.top 500001) 36)), (12, (vI s1942.1)), (60, (vB (decide (s1942.1 < (l.length : Int)))))], [(500000, .row 47 [] (List.map (cS c_Point) s1353.2)), (500001, .row 36 [] (List.map c_Point s1942.2))]⟩ (by kernel_rfl) ?_
       refine sem_cond (decide (s1942.1 < (l.length : Int))) (by kernel_rfl) (by kernel_rfl) (fun hb => ?_) (fun hb => ?_)
       ·replace h := iteT hb h
        refine z4 ⟨[(0, (.sl (List.map c_Spot l))), (1, (vI from1)), (2, (vI to2)), (9, (.row (.top 500000) 47)), (10, (vI s1353.1)), (11, (.row (.top 500001) 36)), (12, (vI s1942.1))], [(500000, .row 47 [] (List.map (cS c_Point) s1353.2)), (500001, .row 36 [] (List.map c_Point s1942.2))]⟩ (by kernel_rfl) ?_
        refine sem_seqJ (fun (j1980 : (List Point)) => ⟨[(0, (.sl (List.map c_Spot l))), (1, (vI from1)), (2, (vI to2)), (9, (.row (.top 500000) 47)), (10, (vI s1353.1)), (11, (.row (.top 500001) 36)), (12, (vI s1942.1))], [(500000, .row 47 [] (List.map (cS c_Point) s1353.2)), (500001, .row 36 [] (List.map c_Point j1980))]⟩) (sheetmetalref01_Sweep_k2 s1942) r (by kernel_rfl) (fun j1980 h => ?_) ?_
        ·refine sem_region (by kernel_rfl) ?_
         refine z6 3 (by kernel_rfl) (fun τ hτ => ?_)
         obtain rfl := Option.some.inj h
         exact lk_nextS hτ (here (by kernel_rfl))
        refine sem_block (by kernel_rfl) ?_
        refine z7 (by kernel_rfl) ?_
        refine evs_run 3 (by kernel_rfl) ?_
        obtain ⟨x1984, hx1984, h⟩ := bindS h
        refine evs_op (st_idx (c := c_Spot) (l := l) (i := s1942.1) (kd := .i64) (sz := 2) (by kernel_rfl) hx1984 rfl) ?_
        refine evs_run 2 (by kernel_rfl) ?_
        obtain ⟨r1985, hr1985, h⟩ := bindS h
        refine evs_callS [] [(0, 700300)] [] (by kernel_rfl) (W.sheetmetalref01_turned_ok hr1985) (by kernel_rfl) (by kernel_rfl) (.inl rfl) ?_
        refine evs_run 1 (by kernel_rfl) ?_
        obtain ⟨l1986, hl1986, h⟩ := bindS h
        refine evs_op (st_app (c := c_Point) (l := s1942.2) (l2 := [(Point.mk (Root.mk r1985.1.X.A r1985.1.X.B) (Root.mk r1985.1.Y.A r1985.1.Y.B))]) (x := (.sl (List.map c_Point [(Point.mk (Root.mk r1985.1.X.A r1985.1.X.B) (Root.mk r1985.1.Y.A r1985.1.Y.B))]))) (g := 500001) (e := 36) (sz := 4) (d := 71) (by kernel_rfl) (by kernel_rfl) (by kernel_rfl) (by kernel_rfl) (fun _ => rfl) rfl hl1986) ?_
        refine z1 1 ⟨[(0, (.sl (List.map c_Spot l))), (1, (vI from1)), (2, (vI to2)), (9, (.row (.top 500000) 47)), (10, (vI s1353.1)), (11, (.row (.top 500001) 36)), (12, (vI s1942.1))], [(500000, .row 47 [] (List.map (cS c_Point) s1353.2)), (500001, .row 36 [] (List.map c_Point l1986))]⟩ (by kernel_rfl) ?_
        refine z3 3 ⟨[(0, (.sl (List.map c_Spot l))), (1, (vI from1)), (2, (vI to2)), (9, (.row (.top 500000) 47)), (10, (vI s1353.1)), (11, (.row (.top 500001) 36)), (12, (vI s1942.1)), (74, (vB (decide (from1 < to2))))], [(500000, .row 47 [] (List.map (cS c_Point) s1353.2)), (500001, .row 36 [] (List.map c_Point l1986))]⟩ (by kernel_rfl) ?_
        refine sem_cond (decide (from1 < to2)) (by kernel_rfl) (by kernel_rfl) (fun hb => ?_) (fun hb => ?_)
        ·replace h := iteT hb h
         refine sem_region (by kernel_rfl) ?_
         refine evs_run 3 (by kernel_rfl) ?_
         obtain ⟨x1990, hx1990, h⟩ := bindS h
         refine evs_op (st_idx (c := c_Spot) (l := l) (i := s1942.1) (kd := .i64) (sz := 2) (by kernel_rfl) hx1990 rfl) ?_
         refine evs_run 3 (by kernel_rfl) ?_
         obtain ⟨r1991, hr1991, h⟩ := bindS h
         refine evs_callS [] [(0, 700350)] [] (by kernel_rfl) (W.sheetmetalref01_turned_ok hr1991) (by kernel_rfl) (by kernel_rfl) (.inl rfl) ?_
         refine evs_run 1 (by kernel_rfl) ?_
         obtain ⟨l1992, hl1992, h⟩ := bindS h
         refine evs_op (st_app (c := c_Point) (l := l1986) (l2 := [(Point.mk (Root.mk r1991.1.X.A r1991.1.X.B) (Root.mk r1991.1.Y.A r1991.1.Y.B))]) (x := (.sl (List.map c_Point [(Point.mk (Root.mk r1991.1.X.A r1991.1.X.B) (Root.mk r1991.1.Y.A r1991.1.Y.B))]))) (g := 500001) (e := 36) (sz := 4) (d := 84) (by kernel_rfl) (by kernel_rfl) (by kernel_rfl) (by kernel_rfl) (fun _ => rfl) rfl hl1992) ?_
         refine z6 1 (by kernel_rfl) (fun τ hτ => ?_)
         refine bl_normal ?_
         exact jk_normal l1992 h hτ (here (by kernel_rfl))
        ·replace h := iteF hb h
         refine sem_skipS (by kernel_rfl) (fun τ hτ => ?_)
         refine bl_normal ?_
         exact jk_normal l1986 h hτ (here (by kernel_rfl))
       ·replace h := iteF hb h
        refine sem_exitS 4 (by kernel_rfl) rfl (fun τ hτ => ?_)
        refine th_exit ?_
        obtain rfl := Option.some.inj h
        exact lk_outS hτ rfl (here (by kernel_rfl))
      ·intro x
       rfl
      ·intro τ hτ
       refine bl_hit (by kernel_rfl) ?_
       refine th_normalS hτ ⟨[(0, (.sl (List.map c_Spot l))), (1, (vI from1)), (2, (vI to2)), (9, (.row (.top 500000) 47)), (10, (vI s1353.1)), (11, (.row (.top 500001) 36))], [(500000, .row 47 [] (List.map (cS c_Point) s1353.2)), (500001, .row 36 [] (List.map c_Point x1993))]⟩ (here (by kernel_rfl)) ?_
       refine sem_region (by kernel_rfl) ?_
       refine evs_run 2 (by kernel_rfl) ?_
       obtain ⟨r1996, hr1996, h⟩ := bindS h
       refine evs_callS [] [(0, 700100)] [500001] (by kernel_rfl) (W.sheetmetalref01_Wrap_ok hr1996) (by kernel_rfl) (by kernel_rfl) (.inr ⟨rfl, fun _ _ => ind_cons (ind_row fun _ => rfl) (fun _ _ => ind_nil)⟩) ?_
       refine evs_prep [.frz 700100] (by kernel_rfl) ?_
       refine evs_run 1 (by kernel_rfl) ?_
       obtain ⟨l1997, hl1997, h⟩ := bindS h
       refine evs_op (st_app (c := (cS c_Point)) (l := s1353.2) (l2 := [r1996]) (x := (.sl (List.map (cS c_Point) [r1996]))) (g := 500000) (e := 47) (sz := 1) (d := 89) (by kernel_rfl) (by kernel_rfl) (by kernel_rfl) (by kernel_rfl) (fun _ => rfl) rfl hl1997) ?_
       refine z6 1 (by kernel_rfl) (fun τ hτ => ?_)
       refine bl_normal ?_
       refine th_normalS hτ ⟨[(0, (.sl (List.map c_Spot l))), (1, (vI from1)), (2, (vI to2)), (9, (.row (.top 500000) 47)), (10, (vI s1353.1))], [(500000, .row 47 [] (List.map (cS c_Point) l1997))]⟩ (here (by kernel_rfl)) ?_
       refine sem_region (by kernel_rfl) ?_
       refine z6 3 (by kernel_rfl) (fun τ hτ => ?_)
       obtain rfl := Option.some.inj h
       exact lk_nextS hτ (here (by kernel_rfl))
     ·replace h := iteF hb h
      refine sem_exitS 2 (by kernel_rfl) rfl (fun τ hτ => ?_)
      refine th_exit ?_
      obtain rfl := Option.some.inj h
      exact lk_outS hτ rfl (here (by kernel_rfl))
    ·intro x
     rfl
    ·intro τ hτ
     refine bl_hit (by kernel_rfl) ?_
     refine th_normalS hτ ⟨[(9, (.row (.top 500000) 47))], [(500000, .row 47 [] (List.map (cS c_Point) x1998))]⟩ (here (by kernel_rfl)) ?_
     refine z8 3 ⟨[(6, (.row (.top 500000) 47)), (7, (vI 0))], [(500000, .row 47 [] (List.map (cS c_Point) x1998))]⟩ (by kernel_rfl) (fun τ hτ => ?_)
     obtain rfl := Option.some.inj h
     exact rk_ret hτ [(6, (.row (.top 0) 47)), (7, (vI 0))] (subR_prep [] [(500000, 0)] (by kernel_rfl) rfl rfl (by kernel_rfl)) (by kernel_rfl)
theorem W.sheetmetallaw01_GeomSweeps_ok {l : (List Spot)} {from1 : Int} {to2 : Int} {r : Bool} (h : sheetmetallaw01_GeomSweeps l from1 to2 = some r) : PC G.P 9 [(.sl (List.map c_Spot l)), (vI from1), (vI to2)] [] (vB r) [] := by
 refine pc_of G (fn := Try.f9) Try.func9 (by kernel_rfl) (by kernel_rfl) (by kernel_rfl) (by kernel_rfl) (by kernel_rfl) ?_
 refine sem_set ⟨[(0, (.sl (List.map c_Spot l))), (1, (vI from1)), (2, (vI to2))], []⟩ (by kernel_rfl) ?_
 refine z3 1 ⟨[(0, (.sl (List.map c_Spot l))), (1, (vI from1)), (2, (vI to2))], []⟩ (by kernel_rfl) ?_
 refine sem_seq (by kernel_rfl) ?_
 refine z7 (by kernel_rfl) ?_
 refine evs_run 1 (by kernel_rfl) ?_
 refine evs_op (st_len (c := c_Spot) (l := l) (x := (.sl (List.map c_Spot l))) (by kernel_rfl) (by kernel_rfl)) ?_
 refine z1 1 ⟨[(0, (.sl (List.map c_Spot l))), (1, (vI from1)), (2, (vI to2)), (14, (vB (decide ((l.length : Int) > 40))))], []⟩ (by kernel_rfl) ?_
 refine sem_cond (decide ((l.length : Int) > 40)) (by kernel_rfl) (by kernel_rfl) (fun hb => ?_) (fun hb => ?_)
 ·replace h := iteT hb h
  refine z7 (by kernel_rfl) ?_
  obtain ⟨r4, hr4, h⟩ := bindS h
  refine evs_callP [] (by kernel_rfl) (W.sheetmetallaw01_known_ok hr4) (by kernel_rfl) (.inl rfl) (by kernel_rfl) ?_
  refine z1 1 ⟨[(6, (vB r4))], []⟩ (by kernel_rfl) ?_
  refine sem_retS (by kernel_rfl) (fun τ hτ => ?_)
  refine th_ret ?_
  obtain rfl := Option.some.inj h
  exact rk_ret hτ [(6, (vB r4))] (here (by kernel_rfl)) (by kernel_rfl)
 ·replace h := iteF hb h
  refine z4 ⟨[(0, (.sl (List.map c_Spot l))), (1, (vI from1)), (2, (vI to2))], []⟩ (by kernel_rfl) ?_
  refine z7 (by kernel_rfl) ?_
  refine evs_run 3 (by kernel_rfl) ?_
  obtain ⟨r6, hr6, h⟩ := bindS h
  refine evs_callP [] (by kernel_rfl) (W.geom_Sweep_ok hr6) (by kernel_rfl) (.inl rfl) (by kernel_rfl) ?_
  refine z1 5 ⟨[(0, (.sl (List.map c_Spot l))), (1, (vI from1)), (2, (vI to2)), (7, (.sl (List.map (cS c_Point) r6.1))), (8, (vI r6.2))], []⟩ (by kernel_rfl) ?_
  refine z7 (by kernel_rfl) ?_
  refine evs_run 3 (by kernel_rfl) ?_
  obtain ⟨r8, hr8, h⟩ := bindS h
  refine evs_callS [] [(0, 700150)] [] (by kernel_rfl) (W.sheetmetalref01_Sweep_ok hr8) (by kernel_rfl) (by kernel_rfl) (.inl rfl) ?_
  refine z1 5 ⟨[(7, (.sl (List.map (cS c_Point) r6.1))), (8, (vI r6.2)), (9, (.row (.top 700150) 47)), (10, (vI r8.2))], [(700150, .row 47 [] (List.map (cS c_Point) r8.1))]⟩ (by kernel_rfl) ?_
  refine sem_seq (by kernel_rfl) ?_
  refine sem_seq (by kernel_rfl) ?_
  obtain ⟨j10, hj10, h⟩ := bindS h
  refine sem_regionC ⟨[(7, (.sl (List.map (cS c_Point) r6.1))), (9, (.row (.top 500000) 47)), (39, (vB j10))], [(500000, .row 47 [] (List.map (cS c_Point) r8.1))]⟩ (by kernel_rfl) ?_ (fun τ hτ => ?_)
  ·replace h := hj10
   refine evs_run 4 (by kernel_rfl) ?_
   refine evs_split (r6.2 != r8.2) (fun b0 => ⟨[(7, (.sl (List.map (cS c_Point) r6.1))), (9, (.row (.top 700150) 47)), (33, (vB b0))], [(700150, .row 47 [] (List.map (cS c_Point) r8.1))]⟩) (by kernel_rfl) (fun hb => ?_) (fun hb => ?_)
   ·replace h := iteT hb h
    refine z6 6 (by kernel_rfl) (fun τ hτ => ?_)
    obtain rfl := Option.some.inj h
    exact leafC hτ (subR_prep [] [(700150, 500000)] (by kernel_rfl) rfl rfl (by kernel_rfl))
   ·replace h := iteF hb h
    refine evs_run 1 (by kernel_rfl) ?_
    refine evs_op (st_len (c := (cS c_Point)) (l := r6.1) (x := (.sl (List.map (cS c_Point) r6.1))) (by kernel_rfl) (by kernel_rfl)) ?_
    refine evs_run 1 (by kernel_rfl) ?_
    refine evs_op (st_len (c := (cS c_Point)) (l := r8.1) (x := (.row (.top 700150) 47)) (by kernel_rfl) (by kernel_rfl)) ?_
    refine z6 2 (by kernel_rfl) (fun τ hτ => ?_)
    obtain rfl := Option.some.inj h
    exact leafC hτ (subR_prep [] [(700150, 500000)] (by kernel_rfl) rfl rfl (by kernel_rfl))
  refine th_normalS hτ ⟨[(7, (.sl (List.map (cS c_Point) r6.1))), (9, (.row (.top 500000) 47)), (39, (vB j10))], [(500000, .row 47 [] (List.map (cS c_Point) r8.1))]⟩ (here (by kernel_rfl)) ?_
  refine sem_cond j10 (by kernel_rfl) (by kernel_rfl) (fun hb => ?_) (fun hb => ?_)
  ·replace h := iteT hb h
   refine z8 1 ⟨[(6, (vB false))], []⟩ (by kernel_rfl) (fun τ hτ => ?_)
   refine th_ret ?_
   obtain rfl := Option.some.inj h
   exact rk_ret hτ [(6, (vB false))] (here (by kernel_rfl)) (by kernel_rfl)
  ·replace h := iteF hb h
   refine z4 ⟨[(7, (.sl (List.map (cS c_Point) r6.1))), (9, (.row (.top 500000) 47))], [(500000, .row 47 [] (List.map (cS c_Point) r8.1))]⟩ (by kernel_rfl) ?_
   refine sem_seq (by kernel_rfl) ?_
   refine z3 1 ⟨[(7, (.sl (List.map (cS c_Point) r6.1))), (9, (.row (.top 500000) 47)), (11, (vI 0))], [(500000, .row 47 [] (List.map (cS c_Point) r8.1))]⟩ (by kernel_rfl) ?_
   refine sem_block (by kernel_rfl) ?_
   obtain ⟨x126, hx126, h⟩ := bindS h
   refine sem_loopS (fun (s89 : Int) => ⟨[(7, (.sl (List.map (cS c_Point) r6.1))), (9, (.row (.top 500000) 47)), (11, (vI s89))], [(500000, .row 47 [] (List.map (cS c_Point) r8.1))]⟩) (fun (x126 : Unit ⊕ Unit) => match x126 with | .inl j127 => (.ret, ⟨[(6, (vB false))], []⟩) | .inr j128 => (.exit 0, ⟨[], []⟩)) (sheetmetallaw01_GeomSweeps_l1 r6 r8) 0 x126 (by kernel_rfl) (here (by kernel_rfl)) hx126 ?_ ?_ ?_
   ·intro s89 r h
    refine sem_seq (by kernel_rfl) ?_
    refine z7 (by kernel_rfl) ?_
    refine evs_run 2 (by kernel_rfl) ?_
    refine evs_op (st_len (c := (cS c_Point)) (l := r6.1) (x := (.sl (List.map (cS c_Point) r6.1))) (by kernel_rfl) (by kernel_rfl)) ?_
    refine z1 1 ⟨[(7, (.sl (List.map (cS c_Point) r6.1))), (9, (.row (.top 500000) 47)), (11, (vI s89)), (43, (vB (decide (s89 < (r6.1.length : Int)))))], [(500000, .row 47 [] (List.map (cS c_Point) r8.1))]⟩ (by kernel_rfl) ?_
    refine sem_cond (decide (s89 < (r6.1.length : Int))) (by kernel_rfl) (by kernel_rfl) (fun hb => ?_) (fun hb => ?_)
    ·replace h := iteT hb h
     refine z4 ⟨[(7, (.sl (List.map (cS c_Point) r6.1))), (9, (.row (.top 500000) 47)), (11, (vI s89))], [(500000, .row 47 [] (List.map (cS c_Point) r8.1))]⟩ (by kernel_rfl) ?_
     refine sem_seq (by kernel_rfl) ?_
     refine sem_block (by kernel_rfl) ?_
     refine sem_seq (by kernel_rfl) ?_
     refine sem_drawN [] [] [] [] [] 8 (by kernel_rfl) (by kernel_rfl) (by kernel_rfl) ?_
     refine evd_run 2 (by kernel_rfl) ?_
     obtain ⟨x123, hx123, h⟩ := bindS h
     refine evd_val (by kernel_rfl) (st_idx (c := (cS c_Point)) (l := r6.1) (i := s89) (kd := .i64) (sz := 1) (by kernel_rfl) hx123 rfl) (by kernel_rfl) (by kernel_rfl) ?_
     refine evd_run 3 (by kernel_rfl) ?_
     obtain ⟨x124, hx124, h⟩ := bindS h
     refine evd_val (by kernel_rfl) (st_idxO (c := (cS c_Point)) (l := r8.1) (i := s89) (kd := .i64) (kk := (.top 500000)) (e := 47) (sz := 1) (by kernel_rfl) (by kernel_rfl) hx124 rfl) (by kernel_rfl) (by kernel_rfl) ?_
     refine evd_val (by kernel_rfl) (st_ldO (c := (cS c_Point)) (l := r8.1) (i := (Int.toNat s89)) (v := (.sl (List.map c_Point x124))) (agg := false) (sz := 1) (kk := (.top 500000)) (e := 47) (off := 0) (J := []) (by kernel_rfl) (by kernel_rfl) (by kernel_rfl) ((idxS hx124).2) (by kernel_rfl)) (by kernel_rfl) (by kernel_rfl) ?_
     refine evd_end (by kernel_rfl) ?_
     obtain ⟨r125, hr125, h⟩ := bindS h
     refine evo_callP [] (by kernel_rfl) (W.sheetmetalref01_SamePoints_ok hr125) (by kernel_rfl) (.inl rfl) (by kernel_rfl) ?_
     refine evo_run 1 (by kernel_rfl) ?_
     refine evo_endS (by kernel_rfl) (fun τ hτ => ?_)
     refine th_normalS hτ ⟨[(7, (.sl (List.map (cS c_Point) r6.1))), (9, (.row (.top 500000) 47)), (11, (vI s89)), (55, (vB (!r125)))], [(500000, .row 47 [] (List.map (cS c_Point) r8.1))]⟩ (here (by kernel_rfl)) ?_
     refine sem_cond (!r125) (by kernel_rfl) (by kernel_rfl) (fun hb => ?_) (fun hb => ?_)
     ·replace h := iteT hb h
      refine z8 1 ⟨[(6, (vB false))], []⟩ (by kernel_rfl) (fun τ hτ => ?_)
      refine bl_ret ?_
      refine th_ret ?_
      obtain rfl := Option.some.inj h
      exact lk_outS hτ rfl (here (by kernel_rfl))
     ·replace h := iteF hb h
      refine sem_skipS (by kernel_rfl) (fun τ hτ => ?_)
      refine bl_normal ?_
      refine th_normalS hτ ⟨[(7, (.sl (List.map (cS c_Point) r6.1))), (9, (.row (.top 500000) 47)), (11, (vI s89))], [(500000, .row 47 [] (List.map (cS c_Point) r8.1))]⟩ (here (by kernel_rfl)) ?_
      refine sem_region (by kernel_rfl) ?_
      refine z6 3 (by kernel_rfl) (fun τ hτ => ?_)
      obtain rfl := Option.some.inj h
      exact lk_nextS hτ (here (by kernel_rfl))
    ·replace h := iteF hb h
     refine sem_exitS 0 (by kernel_rfl) rfl (fun τ hτ => ?_)
     refine th_exit ?_
     obtain rfl := Option.some.inj h
     exact lk_outS hτ rfl (here (by kernel_rfl))
   ·intro x
    rcases x with _ | _ <;> rfl
   ·intro τ hτ
    rcases x126 with j127 | j128
    ·refine bl_ret ?_
     refine th_ret ?_
     obtain rfl := Option.some.inj h
     exact rk_ret hτ [(6, (vB false))] (here (by kernel_rfl)) (by kernel_rfl)
    ·refine bl_hit (by kernel_rfl) ?_
     refine th_normalS hτ ⟨[], []⟩ (here (by kernel_rfl)) ?_
     refine z7 (by kernel_rfl) ?_
     obtain ⟨r130, hr130, h⟩ := bindS h
     refine evs_callP [] (by kernel_rfl) (W.sheetmetallaw01_known_ok hr130) (by kernel_rfl) (.inl rfl) (by kernel_rfl) ?_
     refine z1 1 ⟨[(6, (vB r130))], []⟩ (by kernel_rfl) ?_
     refine sem_retS (by kernel_rfl) (fun τ hτ => ?_)
     obtain rfl := Option.some.inj h
     exact rk_ret hτ [(6, (vB r130))] (here (by kernel_rfl)) (by kernel_rfl)
end Go.Proofs.Ytiodkdpfkchkjaa
