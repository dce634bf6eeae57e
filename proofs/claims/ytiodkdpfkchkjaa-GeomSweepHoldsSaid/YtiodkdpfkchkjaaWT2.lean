/- Each Go function does what its model says; written by a program out of the translation. -/
import Derived.Test.YtiodkdpfkchkjaaWT1
import Derived.Test.YtiodkdpfkchkjaaGeMT
set_option linter.unusedVariables false
set_option linter.unusedSimpArgs false
set_option linter.unusedSectionVars false
namespace Go.Proofs.Ytiodkdpfkchkjaa
open Go Go.VI Go.SM Go.Proofs
set_option maxRecDepth 100000
set_option maxHeartbeats 4000000
theorem W.geom_half_ok {l : (List Point)} {r : (List Point)} (h : geom_half l = some r) : PC G.P 107 [(.sl (List.map c_Point l))] [] (.row (.top 0) 36) [(0, .row 36 [] (List.map c_Point r))] := by
 refine pc_of G (fn := Try.f107) Try.func107 (by kernel_rfl) (by kernel_rfl) (by kernel_rfl) (by kernel_rfl) (by kernel_rfl) ?_
 refine sem_set ⟨[(0, (.sl (List.map c_Point l)))], []⟩ (by kernel_rfl) ?_
 refine z3 1 ⟨[(0, (.sl (List.map c_Point l)))], []⟩ (by kernel_rfl) ?_
 refine z3 1 ⟨[(0, (.sl (List.map c_Point l))), (3, (.row (.top 3) 36))], [(3, .row 36 [] (List.map c_Point []))]⟩ (by kernel_rfl) ?_
 refine sem_seq (by kernel_rfl) ?_
 refine z7 (by kernel_rfl) ?_
 refine evs_run 1 (by kernel_rfl) ?_
 refine evs_op (st_len (c := c_Point) (l := l) (x := (.sl (List.map c_Point l))) (by kernel_rfl) (by kernel_rfl)) ?_
 refine z1 1 ⟨[(3, (.row (.top 3) 36)), (6, (.sl (List.map c_Point l))), (7, (vI (l.length : Int))), (8, (vI 0))], [(3, .row 36 [] (List.map c_Point []))]⟩ (by kernel_rfl) ?_
 refine sem_block (by kernel_rfl) ?_
 obtain ⟨x1710, hx1710, h⟩ := bindS h
 refine sem_loopS (fun (s1141 : Int × (List Point)) => ⟨[(3, (.row (.top 500000) 36)), (6, (.sl (List.map c_Point l))), (7, (vI (l.length : Int))), (8, (vI s1141.1))], [(500000, .row 36 [] (List.map c_Point s1141.2))]⟩) (fun (x1710 : (List Point)) => (.exit 0, ⟨[(3, (.row (.top 500000) 36))], [(500000, .row 36 [] (List.map c_Point x1710))]⟩)) (geom_half_l2 l) (0, []) x1710 (by kernel_rfl) (subR_prep [] [(3, 500000)] (by kernel_rfl) rfl rfl (by kernel_rfl)) hx1710 ?_ ?_ ?_
 ·intro s1141 r h
  refine z3 1 ⟨[(3, (.row (.top 500000) 36)), (6, (.sl (List.map c_Point l))), (7, (vI (l.length : Int))), (8, (vI s1141.1)), (9, (vB (decide (s1141.1 < (l.length : Int)))))], [(500000, .row 36 [] (List.map c_Point s1141.2))]⟩ (by kernel_rfl) ?_
  refine sem_seq (by kernel_rfl) ?_
  refine sem_cond (decide (s1141.1 < (l.length : Int))) (by kernel_rfl) (by kernel_rfl) (fun hb => ?_) (fun hb => ?_)
  ·replace h := iteT hb h
   refine z4 ⟨[(3, (.row (.top 500000) 36)), (6, (.sl (List.map c_Point l))), (7, (vI (l.length : Int))), (8, (vI s1141.1))], [(500000, .row 36 [] (List.map c_Point s1141.2))]⟩ (by kernel_rfl) ?_
   refine sem_seq (by kernel_rfl) ?_
   refine sem_block (by kernel_rfl) ?_
   refine z7 (by kernel_rfl) ?_
   obtain ⟨x1569, hx1569, h⟩ := bindS h
   refine evs_op (st_idx (c := c_Point) (l := l) (i := s1141.1) (kd := .i64) (sz := 4) (by kernel_rfl) hx1569 rfl) ?_
   refine z1 3 ⟨[(3, (.row (.top 500000) 36)), (5, (.ptr 5 0)), (6, (.sl (List.map c_Point l))), (7, (vI (l.length : Int))), (8, (vI s1141.1))], [(5, .box [(vI x1569.X.A), (vI x1569.X.B), (vI x1569.Y.A), (vI x1569.Y.B)]), (500000, .row 36 [] (List.map c_Point s1141.2))]⟩ (by kernel_rfl) ?_
   refine sem_seq (by kernel_rfl) ?_
   refine sem_block (by kernel_rfl) ?_
   obtain ⟨x1707, hx1707, h⟩ := bindS h
   refine sem_loopS (fun (s1662 : (List Point)) => ⟨[(3, (.row (.top 500000) 36)), (5, (.ptr 500001 0)), (6, (.sl (List.map c_Point l))), (7, (vI (l.length : Int))), (8, (vI s1141.1))], [(500000, .row 36 [] (List.map c_Point s1662)), (500001, .box [(vI x1569.X.A), (vI x1569.X.B), (vI x1569.Y.A), (vI x1569.Y.B)])]⟩) (fun (x1707 : (List Point)) => (.exit 2, ⟨[(3, (.row (.top 500000) 36)), (5, (.ptr 500001 0)), (6, (.sl (List.map c_Point l))), (7, (vI (l.length : Int))), (8, (vI s1141.1))], [(500000, .row 36 [] (List.map c_Point x1707)), (500001, .box [(vI x1569.X.A), (vI x1569.X.B), (vI x1569.Y.A), (vI x1569.Y.B)])]⟩)) (geom_half_l1 x1569) s1141.2 x1707 (by kernel_rfl) (subR_prep [] [(5, 500001), (500000, 500000)] (by kernel_rfl) rfl rfl (by kernel_rfl)) hx1707 ?_ ?_ ?_
   ·intro s1662 r h
    refine sem_seq (by kernel_rfl) ?_
    refine sem_seq (by kernel_rfl) ?_
    obtain ⟨j1701, hj1701, h⟩ := bindS h
    refine sem_drawP ⟨[(3, (.row (.top 500000) 36)), (5, (.ptr 500001 0)), (6, (.sl (List.map c_Point l))), (7, (vI (l.length : Int))), (8, (vI s1141.1)), (31, (vB j1701))], [(500000, .row 36 [] (List.map c_Point s1662)), (500001, .box [(vI x1569.X.A), (vI x1569.X.B), (vI x1569.Y.A), (vI x1569.Y.B)])]⟩ [] [] [] [] [] 17 (by kernel_rfl) (by kernel_rfl) (by kernel_rfl) ?_ (fun τ hτ => ?_)
    ·replace h := hj1701
     refine evd_run 1 (by kernel_rfl) ?_
     refine evd_val (by kernel_rfl) (st_len (c := c_Point) (l := s1662) (x := (.row (.top 500000) 36)) (by kernel_rfl) (by kernel_rfl)) (by kernel_rfl) (by kernel_rfl) ?_
     refine evd_run 2 (by kernel_rfl) ?_
     refine evd_split (decide ((s1662.length : Int) > 1)) (fun b0 => ⟨[(15, (vB b0)), (14, (vB b0)), (13, (vI (s1662.length : Int))), (12, (.row (.top 500000) 36)), (3, (.row (.top 500000) 36)), (5, (.ptr 500001 0)), (6, (.sl (List.map c_Point l))), (7, (vI (l.length : Int))), (8, (vI s1141.1))], [(500000, .row 36 [] (List.map c_Point s1662)), (500001, .box [(vI x1569.X.A), (vI x1569.X.B), (vI x1569.Y.A), (vI x1569.Y.B)])]⟩) (by kernel_rfl) (fun hb => ?_) (fun hb => ?_)
     ·replace h := iteT hb h
      refine evd_run 2 (by kernel_rfl) ?_
      refine evd_val (by kernel_rfl) (st_len (c := c_Point) (l := s1662) (x := (.row (.top 500000) 36)) (by kernel_rfl) (by kernel_rfl)) (by kernel_rfl) (by kernel_rfl) ?_
      refine evd_run 1 (by kernel_rfl) ?_
      obtain ⟨x1702, hx1702, h⟩ := bindS h
      refine evd_val (by kernel_rfl) (st_idxO (c := c_Point) (l := s1662) (i := (isub (s1662.length : Int) 2)) (kd := .i64) (kk := (.top 500000)) (e := 36) (sz := 4) (by kernel_rfl) (by kernel_rfl) hx1702 rfl) (by kernel_rfl) (by kernel_rfl) ?_
      refine evd_val (by kernel_rfl) (st_ldO (c := c_Point) (l := s1662) (i := (Int.toNat (isub (s1662.length : Int) 2))) (v := (.agg [(vI x1702.X.A), (vI x1702.X.B), (vI x1702.Y.A), (vI x1702.Y.B)])) (agg := true) (sz := 4) (kk := (.top 500000)) (e := 36) (off := 0) (J := []) (by kernel_rfl) (by kernel_rfl) (by kernel_rfl) ((idxS hx1702).2) (by kernel_rfl)) (by kernel_rfl) (by kernel_rfl) ?_
      refine evd_run 2 (by kernel_rfl) ?_
      refine evd_val (by kernel_rfl) (st_len (c := c_Point) (l := s1662) (x := (.row (.top 500000) 36)) (by kernel_rfl) (by kernel_rfl)) (by kernel_rfl) (by kernel_rfl) ?_
      refine evd_run 1 (by kernel_rfl) ?_
      obtain ⟨x1703, hx1703, h⟩ := bindS h
      refine evd_val (by kernel_rfl) (st_idxO (c := c_Point) (l := s1662) (i := (isub (s1662.length : Int) 1)) (kd := .i64) (kk := (.top 500000)) (e := 36) (sz := 4) (by kernel_rfl) (by kernel_rfl) hx1703 rfl) (by kernel_rfl) (by kernel_rfl) ?_
      refine evd_val (by kernel_rfl) (st_ldO (c := c_Point) (l := s1662) (i := (Int.toNat (isub (s1662.length : Int) 1))) (v := (.agg [(vI x1703.X.A), (vI x1703.X.B), (vI x1703.Y.A), (vI x1703.Y.B)])) (agg := true) (sz := 4) (kk := (.top 500000)) (e := 36) (off := 0) (J := []) (by kernel_rfl) (by kernel_rfl) (by kernel_rfl) ((idxS hx1703).2) (by kernel_rfl)) (by kernel_rfl) (by kernel_rfl) ?_
      refine evd_run 1 (by kernel_rfl) ?_
      refine evd_end (by kernel_rfl) ?_
      obtain ⟨r1704, hr1704, h⟩ := bindS h
      refine evo_callP [] (by kernel_rfl) (W.geom_orient_ok hr1704) (by kernel_rfl) (.inl rfl) (by kernel_rfl) ?_
      refine evo_run 2 (by kernel_rfl) ?_
      refine evo_endS (by kernel_rfl) (fun τ hτ => ?_)
      obtain rfl := Option.some.inj h
      exact leafC hτ (here (by kernel_rfl))
     ·replace h := iteF hb h
      refine evd_run 13 (by kernel_rfl) ?_
      refine evd_end (by kernel_rfl) ?_
      refine evo_run 3 (by kernel_rfl) ?_
      refine evo_endS (by kernel_rfl) (fun τ hτ => ?_)
      obtain rfl := Option.some.inj h
      exact leafC hτ (here (by kernel_rfl))
    refine th_normalS hτ ⟨[(3, (.row (.top 500000) 36)), (5, (.ptr 500001 0)), (6, (.sl (List.map c_Point l))), (7, (vI (l.length : Int))), (8, (vI s1141.1)), (31, (vB j1701))], [(500000, .row 36 [] (List.map c_Point s1662)), (500001, .box [(vI x1569.X.A), (vI x1569.X.B), (vI x1569.Y.A), (vI x1569.Y.B)])]⟩ (here (by kernel_rfl)) ?_
    refine sem_cond j1701 (by kernel_rfl) (by kernel_rfl) (fun hb => ?_) (fun hb => ?_)
    ·replace h := iteT hb h
     refine z4 ⟨[(3, (.row (.top 500000) 36)), (5, (.ptr 500001 0)), (6, (.sl (List.map c_Point l))), (7, (vI (l.length : Int))), (8, (vI s1141.1))], [(500000, .row 36 [] (List.map c_Point s1662)), (500001, .box [(vI x1569.X.A), (vI x1569.X.B), (vI x1569.Y.A), (vI x1569.Y.B)])]⟩ (by kernel_rfl) ?_
     refine sem_block (by kernel_rfl) ?_
     refine sem_region (by kernel_rfl) ?_
     refine evs_run 2 (by kernel_rfl) ?_
     refine evs_op (st_len (c := c_Point) (l := s1662) (x := (.row (.top 500000) 36)) (by kernel_rfl) (by kernel_rfl)) ?_
     refine evs_run 1 (by kernel_rfl) ?_
     obtain ⟨l1706, hl1706, h⟩ := bindS h
     refine evs_at (at_cut (J := []) (c := c_Point) (l := s1662) (e := 36) (g := 500000) (hi := (isub (s1662.length : Int) 1)) (k2 := .i64) (by kernel_rfl) (by kernel_rfl) rfl hl1706) ?_
     refine z6 1 (by kernel_rfl) (fun τ hτ => ?_)
     refine bl_normal ?_
     obtain rfl := Option.some.inj h
     exact lk_nextS hτ (here (by kernel_rfl))
    ·replace h := iteF hb h
     refine sem_exitS 2 (by kernel_rfl) rfl (fun τ hτ => ?_)
     refine th_exit ?_
     obtain rfl := Option.some.inj h
     exact lk_outS hτ rfl (here (by kernel_rfl))
   ·intro x
    rfl
   ·intro τ hτ
    refine bl_hit (by kernel_rfl) ?_
    refine th_normalS hτ ⟨[(3, (.row (.top 500000) 36)), (5, (.ptr 500001 0)), (6, (.sl (List.map c_Point l))), (7, (vI (l.length : Int))), (8, (vI s1141.1))], [(500000, .row 36 [] (List.map c_Point x1707)), (500001, .box [(vI x1569.X.A), (vI x1569.X.B), (vI x1569.Y.A), (vI x1569.Y.B)])]⟩ (here (by kernel_rfl)) ?_
    refine sem_region (by kernel_rfl) ?_
    refine evs_run 3 (by kernel_rfl) ?_
    obtain ⟨l1709, hl1709, h⟩ := bindS h
    refine evs_op (st_app (c := c_Point) (l := x1707) (l2 := [x1569]) (x := (.sl (List.map c_Point [x1569]))) (g := 500000) (e := 36) (sz := 4) (d := 40) (by kernel_rfl) (by kernel_rfl) (by kernel_rfl) (by kernel_rfl) (fun _ => rfl) rfl hl1709) ?_
    refine z6 1 (by kernel_rfl) (fun τ hτ => ?_)
    refine bl_normal ?_
    refine th_normalS hτ ⟨[(3, (.row (.top 500000) 36)), (6, (.sl (List.map c_Point l))), (7, (vI (l.length : Int))), (8, (vI s1141.1))], [(500000, .row 36 [] (List.map c_Point l1709))]⟩ (here (by kernel_rfl)) ?_
    refine sem_region (by kernel_rfl) ?_
    refine z6 2 (by kernel_rfl) (fun τ hτ => ?_)
    obtain rfl := Option.some.inj h
    exact lk_nextS hτ (here (by kernel_rfl))
  ·replace h := iteF hb h
   refine sem_exitS 0 (by kernel_rfl) rfl (fun τ hτ => ?_)
   refine th_exit ?_
   obtain rfl := Option.some.inj h
   exact lk_outS hτ rfl (here (by kernel_rfl))
 ·intro x
  rfl
 ·intro τ hτ
  refine bl_hit (by kernel_rfl) ?_
  refine th_normalS hτ ⟨[(3, (.row (.top 500000) 36))], [(500000, .row 36 [] (List.map c_Point x1710))]⟩ (here (by kernel_rfl)) ?_
  refine z8 2 ⟨[(2, (.row (.top 500000) 36))], [(500000, .row 36 [] (List.map c_Point x1710))]⟩ (by kernel_rfl) (fun τ hτ => ?_)
  obtain rfl := Option.some.inj h
  exact rk_ret hτ [(2, (.row (.top 0) 36))] (subR_prep [] [(500000, 0)] (by kernel_rfl) rfl rfl (by kernel_rfl)) (by kernel_rfl)
theorem W.slices_Reverse_Lapi_Point_api_Point_ok {h0 : (List Point)} {r : (List Point)} (h : slices_Reverse_Lapi_Point_api_Point h0 = some r) : PC G.P 108 [(.row (.top 1000000) 36)] [(1000000, .row 36 [] (List.map c_Point h0))] (.tup []) [(1000000, .row 36 [] (List.map c_Point r))] := by
 refine pc_of G (fn := Try.f108) Try.func108 (by kernel_rfl) (by kernel_rfl) (by kernel_rfl) (by kernel_rfl) (by kernel_rfl) ?_
 refine sem_set ⟨[(0, (.row (.top 1000000) 36))], [(1000000, .row 36 [] (List.map c_Point h0))]⟩ (by kernel_rfl) ?_
 refine z7 (by kernel_rfl) ?_
 refine evs_run 1 (by kernel_rfl) ?_
 refine evs_op (st_len (c := c_Point) (l := h0) (x := (.row (.top 1000000) 36)) (by kernel_rfl) (by kernel_rfl)) ?_
 refine z1 3 ⟨[(0, (.row (.top 1000000) 36)), (2, (vI 0)), (3, (vI (isub (h0.length : Int) 1)))], [(1000000, .row 36 [] (List.map c_Point h0))]⟩ (by kernel_rfl) ?_
 refine sem_block (by kernel_rfl) ?_
 obtain ⟨x75, hx75, h⟩ := bindS h
 refine sem_loopS (fun (s26 : Int × Int × (List Point)) => ⟨[(0, (.row (.top 1000000) 36)), (2, (vI s26.1)), (3, (vI s26.2.1))], [(1000000, .row 36 [] (List.map c_Point s26.2.2))]⟩) (fun (x75 : (List Point)) => (.exit 0, ⟨[], [(1000000, .row 36 [] (List.map c_Point x75))]⟩)) (slices_Reverse_Lapi_Point_api_Point_l1) (0, (isub (h0.length : Int) 1), h0) x75 (by kernel_rfl) (here (by kernel_rfl)) hx75 ?_ ?_ ?_
 ·intro s26 r h
  refine sem_seq (by kernel_rfl) ?_
  refine z3 3 ⟨[(0, (.row (.top 1000000) 36)), (2, (vI s26.1)), (3, (vI s26.2.1)), (9, (vB (decide (s26.1 < s26.2.1))))], [(1000000, .row 36 [] (List.map c_Point s26.2.2))]⟩ (by kernel_rfl) ?_
  refine sem_cond (decide (s26.1 < s26.2.1)) (by kernel_rfl) (by kernel_rfl) (fun hb => ?_) (fun hb => ?_)
  ·replace h := iteT hb h
   refine z4 ⟨[(0, (.row (.top 1000000) 36)), (2, (vI s26.1)), (3, (vI s26.2.1))], [(1000000, .row 36 [] (List.map c_Point s26.2.2))]⟩ (by kernel_rfl) ?_
   refine sem_seq (by kernel_rfl) ?_
   refine sem_block (by kernel_rfl) ?_
   refine sem_drawN [(13, [1000000])] [] [] [(2, [1000000]), (3, [1000000])] [] 14 (by kernel_rfl) (by kernel_rfl) (by kernel_rfl) ?_
   refine evd_run 6 (by kernel_rfl) ?_
   obtain ⟨x71, hx71, h⟩ := bindS h
   refine evd_val (by kernel_rfl) (st_idxO (c := c_Point) (l := s26.2.2) (i := s26.2.1) (kd := .i64) (kk := (.top 1000000)) (e := 36) (sz := 4) (by kernel_rfl) (by kernel_rfl) hx71 rfl) (by kernel_rfl) (by kernel_rfl) ?_
   refine evd_val (by kernel_rfl) (st_ldO (c := c_Point) (l := s26.2.2) (i := (Int.toNat s26.2.1)) (v := (.agg [(vI x71.X.A), (vI x71.X.B), (vI x71.Y.A), (vI x71.Y.B)])) (agg := true) (sz := 4) (kk := (.top 1000000)) (e := 36) (off := 0) (J := []) (by kernel_rfl) (by kernel_rfl) (by kernel_rfl) ((idxS hx71).2) (by kernel_rfl)) (by kernel_rfl) (by kernel_rfl) ?_
   refine evd_run 2 (by kernel_rfl) ?_
   obtain ⟨x72, hx72, h⟩ := bindS h
   refine evd_val (by kernel_rfl) (st_idxO (c := c_Point) (l := s26.2.2) (i := s26.1) (kd := .i64) (kk := (.top 1000000)) (e := 36) (sz := 4) (by kernel_rfl) (by kernel_rfl) hx72 rfl) (by kernel_rfl) (by kernel_rfl) ?_
   refine evd_val (by kernel_rfl) (st_ldO (c := c_Point) (l := s26.2.2) (i := (Int.toNat s26.1)) (v := (.agg [(vI x72.X.A), (vI x72.X.B), (vI x72.Y.A), (vI x72.Y.B)])) (agg := true) (sz := 4) (kk := (.top 1000000)) (e := 36) (off := 0) (J := []) (by kernel_rfl) (by kernel_rfl) (by kernel_rfl) ((idxS hx72).2) (by kernel_rfl)) (by kernel_rfl) (by kernel_rfl) ?_
   obtain ⟨x73, hx73, h⟩ := bindS h
   refine evd_val (by kernel_rfl) (st_idxO (c := c_Point) (l := s26.2.2) (i := s26.1) (kd := .i64) (kk := (.top 1000000)) (e := 36) (sz := 4) (by kernel_rfl) (by kernel_rfl) hx73 rfl) (by kernel_rfl) (by kernel_rfl) ?_
   refine evd_set (by kernel_rfl) (st_stO (c := c_Point) (l := s26.2.2) (i := (Int.toNat s26.1)) (x := x73) (x' := x71) (v := (.agg [(vI x71.X.A), (vI x71.X.B), (vI x71.Y.A), (vI x71.Y.B)])) (agg := true) (sz := 4) (kk := (.top 1000000)) (e := 36) (off := 0) (J := []) (o := .row 36 [] (List.map c_Point (List.set s26.2.2 (Int.toNat s26.1) x71))) (by kernel_rfl) (by kernel_rfl) (by kernel_rfl) ((idxS hx73).2) (by kernel_rfl) (by kernel_rfl) (by kernel_rfl)) (by kernel_rfl) (by kernel_rfl) (by kernel_rfl) ?_
   refine evd_end (by kernel_rfl) ?_
   obtain ⟨x74, hx74, h⟩ := bindS h
   refine evo_op (st_idxO (c := c_Point) (l := (List.set s26.2.2 (Int.toNat s26.1) x71)) (i := s26.2.1) (kd := .i64) (kk := (.top 1000000)) (e := 36) (sz := 4) (by kernel_rfl) (by kernel_rfl) hx74 rfl) ?_
   refine evo_op (st_stO (c := c_Point) (l := (List.set s26.2.2 (Int.toNat s26.1) x71)) (i := (Int.toNat s26.2.1)) (x := x74) (x' := x72) (v := (.agg [(vI x72.X.A), (vI x72.X.B), (vI x72.Y.A), (vI x72.Y.B)])) (agg := true) (sz := 4) (kk := (.top 1000000)) (e := 36) (off := 0) (J := []) (o := .row 36 [] (List.map c_Point (List.set (List.set s26.2.2 (Int.toNat s26.1) x71) (Int.toNat s26.2.1) x72))) (by kernel_rfl) (by kernel_rfl) (by kernel_rfl) ((idxS hx74).2) (by kernel_rfl) (by kernel_rfl) (by kernel_rfl)) ?_
   refine evo_endS (by kernel_rfl) (fun τ hτ => ?_)
   refine bl_normal ?_
   refine th_normalS hτ ⟨[(0, (.row (.top 1000000) 36)), (2, (vI s26.1)), (3, (vI s26.2.1))], [(1000000, .row 36 [] (List.map c_Point (List.set (List.set s26.2.2 (Int.toNat s26.1) x71) (Int.toNat s26.2.1) x72)))]⟩ (here (by kernel_rfl)) ?_
   refine sem_region (by kernel_rfl) ?_
   refine z6 6 (by kernel_rfl) (fun τ hτ => ?_)
   obtain rfl := Option.some.inj h
   exact lk_nextS hτ (here (by kernel_rfl))
  ·replace h := iteF hb h
   refine sem_exitS 0 (by kernel_rfl) rfl (fun τ hτ => ?_)
   refine th_exit ?_
   obtain rfl := Option.some.inj h
   exact lk_outS hτ rfl (here (by kernel_rfl))
 ·intro x
  rfl
 ·intro τ hτ
  refine bl_hit (by kernel_rfl) ?_
  obtain rfl := Option.some.inj h
  exact rk_normal hτ [] (here (by kernel_rfl)) (by kernel_rfl)
theorem W.geom_hull_ok {l : (List Point)} {r : (List Point)} (h : geom_hull l = some r) : PC G.P 78 [(.sl (List.map c_Point l))] [] (.row (.top 0) 36) [(0, .row 36 [] (List.map c_Point r))] := by
 refine pc_of G (fn := Try.f78) Try.func78 (by kernel_rfl) (by kernel_rfl) (by kernel_rfl) (by kernel_rfl) (by kernel_rfl) ?_
 refine sem_set ⟨[(0, (.sl (List.map c_Point l)))], []⟩ (by kernel_rfl) ?_
 refine z3 1 ⟨[(0, (.sl (List.map c_Point l)))], []⟩ (by kernel_rfl) ?_
 refine z7 (by kernel_rfl) ?_
 refine evs_run 1 (by kernel_rfl) ?_
 obtain ⟨r2, hr2, h⟩ := bindS h
 refine evs_callS [] [(0, 700050)] [] (by kernel_rfl) (W.geom_sorted_api_Point__geom_comparePoints_ok hr2) (by kernel_rfl) (by kernel_rfl) (.inl rfl) ?_
 refine z1 1 ⟨[(0, (.row (.top 700050) 36))], [(700050, .row 36 [] (List.map c_Point r2))]⟩ (by kernel_rfl) ?_
 refine sem_seq (by kernel_rfl) ?_
 refine z7 (by kernel_rfl) ?_
 refine evs_run 1 (by kernel_rfl) ?_
 refine evs_op (st_len (c := c_Point) (l := r2) (x := (.row (.top 700050) 36)) (by kernel_rfl) (by kernel_rfl)) ?_
 refine z1 1 ⟨[(0, (.row (.top 700050) 36)), (9, (vB (decide ((r2.length : Int) < 3))))], [(700050, .row 36 [] (List.map c_Point r2))]⟩ (by kernel_rfl) ?_
 refine sem_cond (decide ((r2.length : Int) < 3)) (by kernel_rfl) (by kernel_rfl) (fun hb => ?_) (fun hb => ?_)
 ·replace h := iteT hb h
  refine z8 2 ⟨[(2, (.row (.top 700050) 36))], [(700050, .row 36 [] (List.map c_Point r2))]⟩ (by kernel_rfl) (fun τ hτ => ?_)
  refine th_ret ?_
  obtain rfl := Option.some.inj h
  exact rk_ret hτ [(2, (.row (.top 0) 36))] (subR_prep [] [(700050, 0)] (by kernel_rfl) rfl rfl (by kernel_rfl)) (by kernel_rfl)
 ·replace h := iteF hb h
  refine z4 ⟨[(0, (.row (.top 700050) 36))], [(700050, .row 36 [] (List.map c_Point r2))]⟩ (by kernel_rfl) ?_
  refine z7 (by kernel_rfl) ?_
  refine evs_run 1 (by kernel_rfl) ?_
  obtain ⟨r4, hr4, h⟩ := bindS h
  refine evs_callS [] [(0, 700051)] [700050] (by kernel_rfl) (W.geom_half_ok hr4) (by kernel_rfl) (by kernel_rfl) (.inr ⟨rfl, fun _ _ => ind_cons (ind_row fun _ => rfl) (fun _ _ => ind_nil)⟩) ?_
  refine z1 1 ⟨[(0, (.row (.top 700050) 36)), (3, (.row (.top 700051) 36))], [(700050, .row 36 [] (List.map c_Point r2)), (700051, .row 36 [] (List.map c_Point r4))]⟩ (by kernel_rfl) ?_
  refine z7 (by kernel_rfl) ?_
  refine evs_run 1 (by kernel_rfl) ?_
  obtain ⟨r6, hr6, h⟩ := bindS h
  refine evs_callS [(1000000, 700050)] [] [] (by kernel_rfl) (W.slices_Reverse_Lapi_Point_api_Point_ok hr6) (by kernel_rfl) (by kernel_rfl) (.inl rfl) ?_
  refine evs_endS (by kernel_rfl) (fun τ hτ => ?_)
  refine th_normalS hτ ⟨[(0, (.row (.top 700050) 36)), (3, (.row (.top 700051) 36))], [(700050, .row 36 [] (List.map c_Point r6)), (700051, .row 36 [] (List.map c_Point r4))]⟩ (here (by kernel_rfl)) ?_
  refine z7 (by kernel_rfl) ?_
  refine evs_run 1 (by kernel_rfl) ?_
  obtain ⟨r8, hr8, h⟩ := bindS h
  refine evs_callS [] [(0, 700052)] [700050] (by kernel_rfl) (W.geom_half_ok hr8) (by kernel_rfl) (by kernel_rfl) (.inr ⟨rfl, fun _ _ => ind_cons (ind_row fun _ => rfl) (fun _ _ => ind_nil)⟩) ?_
  refine z1 1 ⟨[(3, (.row (.top 700051) 36)), (4, (.row (.top 700052) 36))], [(700051, .row 36 [] (List.map c_Point r4)), (700052, .row 36 [] (List.map c_Point r8))]⟩ (by kernel_rfl) ?_
  refine sem_seq (by kernel_rfl) ?_
  refine sem_prep [.frz 700052] (by kernel_rfl) ?_
  refine sem_draw [(4, [700051, 600004])] [(4, [600004])] [] [(5, [700051, 600004]), (6, [700051, 600004]), (7, [700051, 600004]), (8, [700051, 600004]), (9, [700051, 600004])] [(0, [600004]), (1, [600004]), (2, [600004]), (3, [600004]), (5, [600004]), (6, [600004]), (7, [600004]), (8, [600004]), (9, [600004])] 10 (by kernel_rfl) (by kernel_rfl) [600004] (by kernel_rfl) (by kernel_rfl) ?_
  refine evd_run 2 (by kernel_rfl) ?_
  refine evd_val (by kernel_rfl) (st_len (c := c_Point) (l := r4) (x := (.row (.top 700051) 36)) (by kernel_rfl) (by kernel_rfl)) (by kernel_rfl) (by kernel_rfl) ?_
  refine evd_run 1 (by kernel_rfl) ?_
  obtain ⟨l16, hl16, h⟩ := bindS h
  refine evd_cut (J := []) (c := c_Point) (l := r4) (e := 36) (g := 700051) (g2 := 600004) (hi := (isub (r4.length : Int) 1)) (k2 := .i64) (by kernel_rfl) (by kernel_rfl) (by kernel_rfl) hl16 (by kernel_rfl) (by kernel_rfl) (by kernel_rfl) (by kernel_rfl) (by kernel_rfl) ?_
  refine evd_run 2 (by kernel_rfl) ?_
  refine evd_val (by kernel_rfl) (st_len (c := c_Point) (l := r8) (x := (.sl (List.map c_Point r8))) (by kernel_rfl) (by kernel_rfl)) (by kernel_rfl) (by kernel_rfl) ?_
  refine evd_run 1 (by kernel_rfl) ?_
  obtain ⟨l17, hl17, h⟩ := bindS h
  refine evd_val (by kernel_rfl) (st_slH (c := c_Point) (l := r8) (sz := 4) (hi := (isub (r8.length : Int) 1)) (k2 := .i64) (by kernel_rfl) hl17) (by kernel_rfl) (by kernel_rfl) ?_
  refine evd_end (by kernel_rfl) ?_
  obtain ⟨l18, hl18, h⟩ := bindS h
  refine evo_op (st_app (c := c_Point) (l := l16) (l2 := l17) (x := (.sl (List.map c_Point l17))) (g := 600004) (e := 36) (sz := 4) (d := 27) (by kernel_rfl) (by kernel_rfl) (by kernel_rfl) (by kernel_rfl) (fun _ => rfl) rfl hl18) ?_
  refine evo_run 1 (by kernel_rfl) ?_
  refine evo_endS (by kernel_rfl) (fun τ hτ => ?_)
  refine th_normalS hτ ⟨[(2, (.row (.top 600004) 36))], [(600004, .row 36 [] (List.map c_Point l18))]⟩ (here (by kernel_rfl)) ?_
  refine sem_retS (by kernel_rfl) (fun τ hτ => ?_)
  obtain rfl := Option.some.inj h
  exact rk_ret hτ [(2, (.row (.top 0) 36))] (subR_prep [] [(600004, 0)] (by kernel_rfl) rfl rfl (by kernel_rfl)) (by kernel_rfl)
theorem W.geom_Sweep_1_ok {k : Int} {a_0 : (List Spot)} {r : (List Point)} (h : geom_Sweep_1 k a_0 = some r) : PC G.P 82 [(vI k), (.vptr [(.sl (List.map c_Spot a_0))] 0)] [] (.row (.top 0) 36) [(0, .row 36 [] (List.map c_Point r))] := by
 refine pc_of G (fn := Try.f82) Try.func82 (by kernel_rfl) (by kernel_rfl) (by kernel_rfl) (by kernel_rfl) (by kernel_rfl) ?_
 refine sem_set ⟨[(0, (vI k)), (1, (.vptr [(.sl (List.map c_Spot a_0))] 0))], []⟩ (by kernel_rfl) ?_
 refine z3 1 ⟨[(0, (vI k)), (1, (.vptr [(.sl (List.map c_Spot a_0))] 0))], []⟩ (by kernel_rfl) ?_
 refine z3 1 ⟨[(0, (vI k)), (1, (.vptr [(.sl (List.map c_Spot a_0))] 0)), (4, (.row (.top 4) 36))], [(4, .row 36 [] (List.map c_Point []))]⟩ (by kernel_rfl) ?_
 refine sem_seq (by kernel_rfl) ?_
 refine z7 (by kernel_rfl) ?_
 refine evs_run 1 (by kernel_rfl) ?_
 refine evs_op (st_len (c := c_Spot) (l := a_0) (x := (.sl (List.map c_Spot a_0))) (by kernel_rfl) (by kernel_rfl)) ?_
 refine z1 1 ⟨[(0, (vI k)), (4, (.row (.top 4) 36)), (7, (.sl (List.map c_Spot a_0))), (8, (vI (a_0.length : Int))), (9, (vI 0))], [(4, .row 36 [] (List.map c_Point []))]⟩ (by kernel_rfl) ?_
 refine sem_block (by kernel_rfl) ?_
 obtain ⟨x78, hx78, h⟩ := bindS h
 refine sem_loopS (fun (s53 : Int × (List Point)) => ⟨[(0, (vI k)), (4, (.row (.top 500000) 36)), (7, (.sl (List.map c_Spot a_0))), (8, (vI (a_0.length : Int))), (9, (vI s53.1))], [(500000, .row 36 [] (List.map c_Point s53.2))]⟩) (fun (x78 : (List Point)) => (.exit 0, ⟨[(4, (.row (.top 500000) 36))], [(500000, .row 36 [] (List.map c_Point x78))]⟩)) (geom_Sweep_1_l1 k a_0) (0, []) x78 (by kernel_rfl) (subR_prep [] [(4, 500000)] (by kernel_rfl) rfl rfl (by kernel_rfl)) hx78 ?_ ?_ ?_
 ·intro s53 r h
  refine z3 1 ⟨[(0, (vI k)), (4, (.row (.top 500000) 36)), (7, (.sl (List.map c_Spot a_0))), (8, (vI (a_0.length : Int))), (9, (vI s53.1)), (10, (vB (decide (s53.1 < (a_0.length : Int)))))], [(500000, .row 36 [] (List.map c_Point s53.2))]⟩ (by kernel_rfl) ?_
  refine sem_seq (by kernel_rfl) ?_
  refine sem_cond (decide (s53.1 < (a_0.length : Int))) (by kernel_rfl) (by kernel_rfl) (fun hb => ?_) (fun hb => ?_)
  ·replace h := iteT hb h
   refine z4 ⟨[(0, (vI k)), (4, (.row (.top 500000) 36)), (7, (.sl (List.map c_Spot a_0))), (8, (vI (a_0.length : Int))), (9, (vI s53.1))], [(500000, .row 36 [] (List.map c_Point s53.2))]⟩ (by kernel_rfl) ?_
   refine sem_seq (by kernel_rfl) ?_
   refine sem_block (by kernel_rfl) ?_
   refine z7 (by kernel_rfl) ?_
   obtain ⟨x73, hx73, h⟩ := bindS h
   refine evs_op (st_idx (c := c_Spot) (l := a_0) (i := s53.1) (kd := .i64) (sz := 2) (by kernel_rfl) hx73 rfl) ?_
   refine z1 3 ⟨[(0, (vI k)), (4, (.row (.top 500000) 36)), (6, (.ptr 6 0)), (7, (.sl (List.map c_Spot a_0))), (8, (vI (a_0.length : Int))), (9, (vI s53.1))], [(6, .box [(vI x73.X), (vI x73.Y)]), (500000, .row 36 [] (List.map c_Point s53.2))]⟩ (by kernel_rfl) ?_
   refine sem_region (by kernel_rfl) ?_
   refine evs_run 3 (by kernel_rfl) ?_
   obtain ⟨r76, hr76, h⟩ := bindS h
   refine evs_callS [] [(0, 700150)] [] (by kernel_rfl) (W.geom_turned_ok hr76) (by kernel_rfl) (by kernel_rfl) (.inl rfl) ?_
   refine evs_run 1 (by kernel_rfl) ?_
   obtain ⟨l77, hl77, h⟩ := bindS h
   refine evs_op (st_app (c := c_Point) (l := s53.2) (l2 := [(Point.mk (Root.mk r76.1.X.A r76.1.X.B) (Root.mk r76.1.Y.A r76.1.Y.B))]) (x := (.sl (List.map c_Point [(Point.mk (Root.mk r76.1.X.A r76.1.X.B) (Root.mk r76.1.Y.A r76.1.Y.B))]))) (g := 500000) (e := 36) (sz := 4) (d := 18) (by kernel_rfl) (by kernel_rfl) (by kernel_rfl) (by kernel_rfl) (fun _ => rfl) rfl hl77) ?_
   refine z6 1 (by kernel_rfl) (fun τ hτ => ?_)
   refine bl_normal ?_
   refine th_normalS hτ ⟨[(0, (vI k)), (4, (.row (.top 500000) 36)), (7, (.sl (List.map c_Spot a_0))), (8, (vI (a_0.length : Int))), (9, (vI s53.1))], [(500000, .row 36 [] (List.map c_Point l77))]⟩ (here (by kernel_rfl)) ?_
   refine sem_region (by kernel_rfl) ?_
   refine z6 2 (by kernel_rfl) (fun τ hτ => ?_)
   obtain rfl := Option.some.inj h
   exact lk_nextS hτ (here (by kernel_rfl))
  ·replace h := iteF hb h
   refine sem_exitS 0 (by kernel_rfl) rfl (fun τ hτ => ?_)
   refine th_exit ?_
   obtain rfl := Option.some.inj h
   exact lk_outS hτ rfl (here (by kernel_rfl))
 ·intro x
  rfl
 ·intro τ hτ
  refine bl_hit (by kernel_rfl) ?_
  refine th_normalS hτ ⟨[(4, (.row (.top 500000) 36))], [(500000, .row 36 [] (List.map c_Point x78))]⟩ (here (by kernel_rfl)) ?_
  refine z8 2 ⟨[(3, (.row (.top 500000) 36))], [(500000, .row 36 [] (List.map c_Point x78))]⟩ (by kernel_rfl) (fun τ hτ => ?_)
  obtain rfl := Option.some.inj h
  exact rk_ret hτ [(3, (.row (.top 0) 36))] (subR_prep [] [(500000, 0)] (by kernel_rfl) rfl rfl (by kernel_rfl)) (by kernel_rfl)
theorem W.geom_Sweep_ok {l : (List Spot)} {from1 : Int} {to2 : Int} {r : (List (List Point)) × Int} (h : geom_Sweep l from1 to2 = some r) : PC G.P 41 [(.sl (List.map c_Spot l)), (vI from1), (vI to2)] [] (.tup [(.sl (List.map (cS c_Point) r.1)), (vI r.2)]) [] := by
 refine pc_of G (fn := Try.f41) Try.func41 (by kernel_rfl) (by kernel_rfl) (by kernel_rfl) (by kernel_rfl) (by kernel_rfl) ?_
 refine sem_set ⟨[(0, (.sl (List.map c_Spot l))), (1, (vI from1)), (2, (vI to2))], []⟩ (by kernel_rfl) ?_
 refine z3 3 ⟨[(1, (vI from1)), (2, (vI to2)), (3, (.ptr 3 0))], [(3, .box [(.sl (List.map c_Spot l))])]⟩ (by kernel_rfl) ?_
 refine sem_seq (by kernel_rfl) ?_
 refine sem_seq (by kernel_rfl) ?_
 obtain ⟨j2, hj2, h⟩ := bindS h
 refine sem_regionC ⟨[(1, (vI from1)), (2, (vI to2)), (3, (.ptr 500000 0)), (33, (vB j2))], [(500000, .box [(.sl (List.map c_Spot l))])]⟩ (by kernel_rfl) ?_ (fun τ hτ => ?_)
 ·replace h := hj2
  refine evs_run 1 (by kernel_rfl) ?_
  refine evs_op (st_len (c := c_Spot) (l := l) (x := (.sl (List.map c_Spot l))) (by kernel_rfl) (by kernel_rfl)) ?_
  refine evs_run 2 (by kernel_rfl) ?_
  refine evs_split ((l.length : Int) == 0) (fun b0 => ⟨[(1, (vI from1)), (2, (vI to2)), (3, (.ptr 3 0)), (16, (vB b0))], [(3, .box [(.sl (List.map c_Spot l))])]⟩) (by kernel_rfl) (fun hb => ?_) (fun hb => ?_)
  ·replace h := iteT hb h
   refine z6 17 (by kernel_rfl) (fun τ hτ => ?_)
   obtain rfl := Option.some.inj h
   exact leafC hτ (subR_prep [] [(3, 500000)] (by kernel_rfl) rfl rfl (by kernel_rfl))
  ·replace h := iteF hb h
   refine evs_run 1 (by kernel_rfl) ?_
   refine evs_op (st_len (c := c_Spot) (l := l) (x := (.sl (List.map c_Spot l))) (by kernel_rfl) (by kernel_rfl)) ?_
   refine evs_run 3 (by kernel_rfl) ?_
   refine evs_split (decide ((l.length : Int) > 12)) (fun b0 => ⟨[(1, (vI from1)), (2, (vI to2)), (3, (.ptr 3 0)), (21, (vB b0))], [(3, .box [(.sl (List.map c_Spot l))])]⟩) (by kernel_rfl) (fun hb => ?_) (fun hb => ?_)
   ·replace h := iteT hb h
    refine z6 12 (by kernel_rfl) (fun τ hτ => ?_)
    obtain rfl := Option.some.inj h
    exact leafC hτ (subR_prep [] [(3, 500000)] (by kernel_rfl) rfl rfl (by kernel_rfl))
   ·replace h := iteF hb h
    refine evs_run 4 (by kernel_rfl) ?_
    refine evs_split (decide (from1 < 0)) (fun b0 => ⟨[(1, (vI from1)), (2, (vI to2)), (3, (.ptr 3 0)), (25, (vB b0))], [(3, .box [(.sl (List.map c_Spot l))])]⟩) (by kernel_rfl) (fun hb => ?_) (fun hb => ?_)
    ·replace h := iteT hb h
     refine z6 8 (by kernel_rfl) (fun τ hτ => ?_)
     obtain rfl := Option.some.inj h
     exact leafC hτ (subR_prep [] [(3, 500000)] (by kernel_rfl) rfl rfl (by kernel_rfl))
    ·replace h := iteF hb h
     refine evs_run 4 (by kernel_rfl) ?_
     refine evs_split (decide (to2 > 6)) (fun b0 => ⟨[(1, (vI from1)), (2, (vI to2)), (3, (.ptr 3 0)), (29, (vB b0))], [(3, .box [(.sl (List.map c_Spot l))])]⟩) (by kernel_rfl) (fun hb => ?_) (fun hb => ?_)
     ·replace h := iteT hb h
      refine z6 4 (by kernel_rfl) (fun τ hτ => ?_)
      obtain rfl := Option.some.inj h
      exact leafC hτ (subR_prep [] [(3, 500000)] (by kernel_rfl) rfl rfl (by kernel_rfl))
     ·replace h := iteF hb h
      refine z6 4 (by kernel_rfl) (fun τ hτ => ?_)
      obtain rfl := Option.some.inj h
      exact leafC hτ (subR_prep [] [(3, 500000)] (by kernel_rfl) rfl rfl (by kernel_rfl))
 refine th_normalS hτ ⟨[(1, (vI from1)), (2, (vI to2)), (3, (.ptr 500000 0)), (33, (vB j2))], [(500000, .box [(.sl (List.map c_Spot l))])]⟩ (here (by kernel_rfl)) ?_
 refine sem_cond j2 (by kernel_rfl) (by kernel_rfl) (fun hb => ?_) (fun hb => ?_)
 ·replace h := iteT hb h
  refine z8 2 ⟨[(6, (.row (.top 6) 47)), (7, (vI 1))], [(6, .row 47 [] (List.map (cS c_Point) []))]⟩ (by kernel_rfl) (fun τ hτ => ?_)
  refine th_ret ?_
  obtain rfl := Option.some.inj h
  exact rk_ret hτ [(6, (.sl (List.map (cS c_Point) []))), (7, (vI 1))] (subR_prep [.frz 6] [] (by kernel_rfl) rfl rfl (by kernel_rfl)) (by kernel_rfl)
 ·replace h := iteF hb h
  refine z4 ⟨[(1, (vI from1)), (2, (vI to2)), (3, (.ptr 500000 0))], [(500000, .box [(.sl (List.map c_Spot l))])]⟩ (by kernel_rfl) ?_
  refine sem_seq (by kernel_rfl) ?_
  refine z7 (by kernel_rfl) ?_
  refine evs_run 1 (by kernel_rfl) ?_
  refine evs_op (st_len (c := c_Spot) (l := l) (x := (.sl (List.map c_Spot l))) (by kernel_rfl) (by kernel_rfl)) ?_
  refine z1 1 ⟨[(1, (vI from1)), (2, (vI to2)), (3, (.ptr 500000 0)), (34, (.sl (List.map c_Spot l))), (35, (vI (l.length : Int))), (36, (vI 0))], [(500000, .box [(.sl (List.map c_Spot l))])]⟩ (by kernel_rfl) ?_
  refine sem_block (by kernel_rfl) ?_
  obtain ⟨x58, hx58, h⟩ := bindS h
  refine sem_loopS (fun (s41 : Int) => ⟨[(1, (vI from1)), (2, (vI to2)), (3, (.ptr 500000 0)), (34, (.sl (List.map c_Spot l))), (35, (vI (l.length : Int))), (36, (vI s41))], [(500000, .box [(.sl (List.map c_Spot l))])]⟩) (fun (x58 : Unit ⊕ Unit) => match x58 with | .inl j59 => (.ret, ⟨[(6, (.row (.top 500000) 47)), (7, (vI 1))], [(500000, .row 47 [] (List.map (cS c_Point) []))]⟩) | .inr j60 => (.exit 0, ⟨[(1, (vI from1)), (2, (vI to2)), (3, (.ptr 500000 0))], [(500000, .box [(.sl (List.map c_Spot l))])]⟩)) (geom_Sweep_l1 l) 0 x58 (by kernel_rfl) (here (by kernel_rfl)) hx58 ?_ ?_ ?_
  ·intro s41 r h
   refine z3 1 ⟨[(1, (vI from1)), (2, (vI to2)), (3, (.ptr 500000 0)), (34, (.sl (List.map c_Spot l))), (35, (vI (l.length : Int))), (36, (vI s41)), (37, (vB (decide (s41 < (l.length : Int)))))], [(500000, .box [(.sl (List.map c_Spot l))])]⟩ (by kernel_rfl) ?_
   refine sem_seq (by kernel_rfl) ?_
   refine sem_cond (decide (s41 < (l.length : Int))) (by kernel_rfl) (by kernel_rfl) (fun hb => ?_) (fun hb => ?_)
   ·replace h := iteT hb h
    refine z4 ⟨[(1, (vI from1)), (2, (vI to2)), (3, (.ptr 500000 0)), (34, (.sl (List.map c_Spot l))), (35, (vI (l.length : Int))), (36, (vI s41))], [(500000, .box [(.sl (List.map c_Spot l))])]⟩ (by kernel_rfl) ?_
    refine sem_seq (by kernel_rfl) ?_
    refine sem_block (by kernel_rfl) ?_
    refine z7 (by kernel_rfl) ?_
    obtain ⟨x55, hx55, h⟩ := bindS h
    refine evs_op (st_idx (c := c_Spot) (l := l) (i := s41) (kd := .i64) (sz := 2) (by kernel_rfl) hx55 rfl) ?_
    refine z1 3 ⟨[(1, (vI from1)), (2, (vI to2)), (3, (.ptr 500000 0)), (9, (.ptr 9 0)), (34, (.sl (List.map c_Spot l))), (35, (vI (l.length : Int))), (36, (vI s41))], [(9, .box [(vI x55.X), (vI x55.Y)]), (500000, .box [(.sl (List.map c_Spot l))])]⟩ (by kernel_rfl) ?_
    refine z7 (by kernel_rfl) ?_
    refine evs_run 1 (by kernel_rfl) ?_
    obtain ⟨r57, hr57, h⟩ := bindS h
    refine evs_callP [] (by kernel_rfl) (W.geom_near_ok hr57) (by kernel_rfl) (.inl rfl) (by kernel_rfl) ?_
    refine z1 1 ⟨[(1, (vI from1)), (2, (vI to2)), (3, (.ptr 500000 0)), (34, (.sl (List.map c_Spot l))), (35, (vI (l.length : Int))), (36, (vI s41)), (42, (vB (!r57)))], [(500000, .box [(.sl (List.map c_Spot l))])]⟩ (by kernel_rfl) ?_
    refine sem_cond (!r57) (by kernel_rfl) (by kernel_rfl) (fun hb => ?_) (fun hb => ?_)
    ·replace h := iteT hb h
     refine z8 2 ⟨[(6, (.row (.top 6) 47)), (7, (vI 1))], [(6, .row 47 [] (List.map (cS c_Point) []))]⟩ (by kernel_rfl) (fun τ hτ => ?_)
     refine bl_ret ?_
     refine th_ret ?_
     obtain rfl := Option.some.inj h
     exact lk_outS hτ rfl (subR_prep [] [(6, 500000)] (by kernel_rfl) rfl rfl (by kernel_rfl))
    ·replace h := iteF hb h
     refine sem_skipS (by kernel_rfl) (fun τ hτ => ?_)
     refine bl_normal ?_
     refine th_normalS hτ ⟨[(1, (vI from1)), (2, (vI to2)), (3, (.ptr 500000 0)), (34, (.sl (List.map c_Spot l))), (35, (vI (l.length : Int))), (36, (vI s41))], [(500000, .box [(.sl (List.map c_Spot l))])]⟩ (here (by kernel_rfl)) ?_
     refine sem_region (by kernel_rfl) ?_
     refine z6 2 (by kernel_rfl) (fun τ hτ => ?_)
     obtain rfl := Option.some.inj h
     exact lk_nextS hτ (here (by kernel_rfl))
   ·replace h := iteF hb h
    refine sem_exitS 0 (by kernel_rfl) rfl (fun τ hτ => ?_)
    refine th_exit ?_
    obtain rfl := Option.some.inj h
    exact lk_outS hτ rfl (here (by kernel_rfl))
  ·intro x
   rcases x with _ | _ <;> rfl
  ·intro τ hτ
   rcases x58 with j59 | j60
   ·refine bl_ret ?_
    refine th_ret ?_
    obtain rfl := Option.some.inj h
    exact rk_ret hτ [(6, (.sl (List.map (cS c_Point) []))), (7, (vI 1))] (subR_prep [.frz 500000] [] (by kernel_rfl) rfl rfl (by kernel_rfl)) (by kernel_rfl)
   ·refine bl_hit (by kernel_rfl) ?_
    refine th_normalS hτ ⟨[(1, (vI from1)), (2, (vI to2)), (3, (.ptr 500000 0))], [(500000, .box [(.sl (List.map c_Spot l))])]⟩ (here (by kernel_rfl)) ?_
    refine z3 2 ⟨[(1, (vI from1)), (2, (vI to2)), (10, (.fn 82 [(.ptr 500000 0)]))], [(500000, .box [(.sl (List.map c_Spot l))])]⟩ (by kernel_rfl) ?_
    refine sem_seq (by kernel_rfl) ?_
    refine z3 3 ⟨[(1, (vI from1)), (2, (vI to2)), (10, (.fn 82 [(.ptr 500000 0)])), (47, (vB (from1 == to2)))], [(500000, .box [(.sl (List.map c_Spot l))])]⟩ (by kernel_rfl) ?_
    refine sem_cond (from1 == to2) (by kernel_rfl) (by kernel_rfl) (fun hb => ?_) (fun hb => ?_)
    ·replace h := iteT hb h
     refine z7 (by kernel_rfl) ?_
     refine evs_run 2 (by kernel_rfl) ?_
     obtain ⟨r67, hr67, h⟩ := bindS h
     refine evs_callS [] [(0, 700100)] [500000] (by kernel_rfl) (W.geom_Sweep_1_ok hr67) (by kernel_rfl) (by kernel_rfl) (.inr ⟨rfl, fun _ _ => ind_cons (ind_row fun _ => rfl) (fun _ _ => ind_nil)⟩) ?_
     obtain ⟨r68, hr68, h⟩ := bindS h
     refine evs_callS [] [(0, 700150)] [700100] (by kernel_rfl) (W.geom_hull_ok hr68) (by kernel_rfl) (by kernel_rfl) (.inr ⟨rfl, fun _ _ => ind_cons (ind_row fun _ => rfl) (fun _ _ => ind_nil)⟩) ?_
     refine evs_prep [.frz 700150] (by kernel_rfl) ?_
     refine z1 3 ⟨[(6, (.sl (List.map (cS c_Point) [r68]))), (7, (vI 0))], []⟩ (by kernel_rfl) ?_
     refine sem_retS (by kernel_rfl) (fun τ hτ => ?_)
     refine th_ret ?_
     obtain rfl := Option.some.inj h
     exact rk_ret hτ [(6, (.sl (List.map (cS c_Point) [r68]))), (7, (vI 0))] (here (by kernel_rfl)) (by kernel_rfl)
    ·replace h := iteF hb h
     refine z4 ⟨[(1, (vI from1)), (2, (vI to2)), (10, (.fn 82 [(.ptr 500000 0)]))], [(500000, .box [(.sl (List.map c_Spot l))])]⟩ (by kernel_rfl) ?_
     refine z3 1 ⟨[(1, (vI from1)), (2, (vI to2)), (10, (.fn 82 [(.ptr 500000 0)])), (11, (.row (.top 11) 47))], [(11, .row 47 [] (List.map (cS c_Point) [])), (500000, .box [(.sl (List.map c_Spot l))])]⟩ (by kernel_rfl) ?_
     refine sem_seq (by kernel_rfl) ?_
     refine z3 2 ⟨[(2, (vI to2)), (10, (.fn 82 [(.ptr 500000 0)])), (11, (.row (.top 11) 47)), (12, (vI from1))], [(11, .row 47 [] (List.map (cS c_Point) [])), (500000, .box [(.sl (List.map c_Spot l))])]⟩ (by kernel_rfl) ?_
     refine sem_block (by kernel_rfl) ?_
     obtain ⟨x194, hx194, h⟩ := bindS h
     refine sem_loopS (fun (s153 : Int × (List (List Point))) => ⟨[(2, (vI to2)), (10, (.fn 82 [(.ptr 500000 0)])), (11, (.row (.top 500001) 47)), (12, (vI s153.1))], [(500000, .box [(.sl (List.map c_Spot l))]), (500001, .row 47 [] (List.map (cS c_Point) s153.2))]⟩) (fun (x194 : (List (List Point))) => (.exit 2, ⟨[(11, (.row (.top 500000) 47))], [(500000, .row 47 [] (List.map (cS c_Point) x194))]⟩)) (geom_Sweep_l2 l to2) (from1, []) x194 (by kernel_rfl) (subR_prep [] [(11, 500001), (500000, 500000)] (by kernel_rfl) rfl rfl (by kernel_rfl)) hx194 ?_ ?_ ?_
     ·intro s153 r h
      refine sem_seq (by kernel_rfl) ?_
      refine z3 3 ⟨[(2, (vI to2)), (10, (.fn 82 [(.ptr 500000 0)])), (11, (.row (.top 500001) 47)), (12, (vI s153.1)), (56, (vB (decide (s153.1 < to2))))], [(500000, .box [(.sl (List.map c_Spot l))]), (500001, .row 47 [] (List.map (cS c_Point) s153.2))]⟩ (by kernel_rfl) ?_
      refine sem_cond (decide (s153.1 < to2)) (by kernel_rfl) (by kernel_rfl) (fun hb => ?_) (fun hb => ?_)
      ·replace h := iteT hb h
       refine z4 ⟨[(2, (vI to2)), (10, (.fn 82 [(.ptr 500000 0)])), (11, (.row (.top 500001) 47)), (12, (vI s153.1))], [(500000, .box [(.sl (List.map c_Spot l))]), (500001, .row 47 [] (List.map (cS c_Point) s153.2))]⟩ (by kernel_rfl) ?_
       refine sem_seq (by kernel_rfl) ?_
       refine sem_block (by kernel_rfl) ?_
       refine sem_region (by kernel_rfl) ?_
       refine evs_run 3 (by kernel_rfl) ?_
       obtain ⟨r189, hr189, h⟩ := bindS h
       refine evs_callS [] [(0, 700150)] [500000] (by kernel_rfl) (W.geom_Sweep_1_ok hr189) (by kernel_rfl) (by kernel_rfl) (.inr ⟨rfl, fun _ _ => ind_cons (ind_row fun _ => rfl) (fun _ _ => ind_nil)⟩) ?_
       refine evs_run 3 (by kernel_rfl) ?_
       obtain ⟨r190, hr190, h⟩ := bindS h
       refine evs_callS [] [(0, 700350)] [500000] (by kernel_rfl) (W.geom_Sweep_1_ok hr190) (by kernel_rfl) (by kernel_rfl) (.inr ⟨rfl, fun _ _ => ind_cons (ind_row fun _ => rfl) (fun _ _ => ind_nil)⟩) ?_
       obtain ⟨l191, hl191, h⟩ := bindS h
       refine evs_op (st_app (c := c_Point) (l := r189) (l2 := r190) (x := (.row (.top 700350) 36)) (g := 700150) (e := 36) (sz := 4) (d := 67) (by kernel_rfl) (by kernel_rfl) (by kernel_rfl) (by kernel_rfl) (fun _ => rfl) rfl hl191) ?_
       obtain ⟨r192, hr192, h⟩ := bindS h
       refine evs_callS [] [(0, 700450)] [700150] (by kernel_rfl) (W.geom_hull_ok hr192) (by kernel_rfl) (by kernel_rfl) (.inr ⟨rfl, fun _ _ => ind_cons (ind_row fun _ => rfl) (fun _ _ => ind_nil)⟩) ?_
       refine evs_prep [.frz 700450] (by kernel_rfl) ?_
       refine evs_run 1 (by kernel_rfl) ?_
       obtain ⟨l193, hl193, h⟩ := bindS h
       refine evs_op (st_app (c := (cS c_Point)) (l := s153.2) (l2 := [r192]) (x := (.sl (List.map (cS c_Point) [r192]))) (g := 500001) (e := 47) (sz := 1) (d := 70) (by kernel_rfl) (by kernel_rfl) (by kernel_rfl) (by kernel_rfl) (fun _ => rfl) rfl hl193) ?_
       refine z6 1 (by kernel_rfl) (fun τ hτ => ?_)
       refine bl_normal ?_
       refine th_normalS hτ ⟨[(2, (vI to2)), (10, (.fn 82 [(.ptr 500000 0)])), (11, (.row (.top 500001) 47)), (12, (vI s153.1))], [(500000, .box [(.sl (List.map c_Spot l))]), (500001, .row 47 [] (List.map (cS c_Point) l193))]⟩ (here (by kernel_rfl)) ?_
       refine sem_region (by kernel_rfl) ?_
       refine z6 3 (by kernel_rfl) (fun τ hτ => ?_)
       obtain rfl := Option.some.inj h
       exact lk_nextS hτ (here (by kernel_rfl))
      ·replace h := iteF hb h
       refine sem_exitS 2 (by kernel_rfl) rfl (fun τ hτ => ?_)
       refine th_exit ?_
       obtain rfl := Option.some.inj h
       exact lk_outS hτ rfl (subR_prep [] [(500001, 500000)] (by kernel_rfl) rfl rfl (by kernel_rfl))
     ·intro x
      rfl
     ·intro τ hτ
      refine bl_hit (by kernel_rfl) ?_
      refine th_normalS hτ ⟨[(11, (.row (.top 500000) 47))], [(500000, .row 47 [] (List.map (cS c_Point) x194))]⟩ (here (by kernel_rfl)) ?_
      refine z8 3 ⟨[(6, (.row (.top 500000) 47)), (7, (vI 0))], [(500000, .row 47 [] (List.map (cS c_Point) x194))]⟩ (by kernel_rfl) (fun τ hτ => ?_)
      obtain rfl := Option.some.inj h
      exact rk_ret hτ [(6, (.sl (List.map (cS c_Point) x194))), (7, (vI 0))] (subR_prep [.frz 500000] [] (by kernel_rfl) rfl rfl (by kernel_rfl)) (by kernel_rfl)
theorem W.sheetmetallaw01_inside_ok {h0 : (List Point)} {p : Point} {r : Bool} (h : sheetmetallaw01_inside h0 p = some r) : PC G.P 50 [(.sl (List.map c_Point h0)), (.agg [(vI p.X.A), (vI p.X.B), (vI p.Y.A), (vI p.Y.B)])] [] (vB r) [] := by
 refine pc_of G (fn := Try.f50) Try.func50 (by kernel_rfl) (by kernel_rfl) (by kernel_rfl) (by kernel_rfl) (by kernel_rfl) ?_
 refine sem_set ⟨[(0, (.sl (List.map c_Point h0))), (1, (.agg [(vI p.X.A), (vI p.X.B), (vI p.Y.A), (vI p.Y.B)]))], []⟩ (by kernel_rfl) ?_
 refine z3 2 ⟨[(0, (.sl (List.map c_Point h0))), (3, (.ptr 3 0))], [(3, .box [(vI p.X.A), (vI p.X.B), (vI p.Y.A), (vI p.Y.B)])]⟩ (by kernel_rfl) ?_
 refine sem_seq (by kernel_rfl) ?_
 refine z3 1 ⟨[(0, (.sl (List.map c_Point h0))), (3, (.ptr 3 0)), (5, (vI 0))], [(3, .box [(vI p.X.A), (vI p.X.B), (vI p.Y.A), (vI p.Y.B)])]⟩ (by kernel_rfl) ?_
 refine sem_block (by kernel_rfl) ?_
 obtain ⟨x128, hx128, h⟩ := bindS h
 refine sem_loopS (fun (s87 : Int) => ⟨[(0, (.sl (List.map c_Point h0))), (3, (.ptr 500000 0)), (5, (vI s87))], [(500000, .box [(vI p.X.A), (vI p.X.B), (vI p.Y.A), (vI p.Y.B)])]⟩) (fun (x128 : Unit ⊕ Unit) => match x128 with | .inl j129 => (.ret, ⟨[(4, (vB false))], []⟩) | .inr j130 => (.exit 0, ⟨[(0, (.sl (List.map c_Point h0))), (3, (.ptr 500000 0))], [(500000, .box [(vI p.X.A), (vI p.X.B), (vI p.Y.A), (vI p.Y.B)])]⟩)) (sheetmetallaw01_inside_l1 h0 p) 0 x128 (by kernel_rfl) (subR_prep [] [(3, 500000)] (by kernel_rfl) rfl rfl (by kernel_rfl)) hx128 ?_ ?_ ?_
 ·intro s87 r h
  refine sem_seq (by kernel_rfl) ?_
  refine z7 (by kernel_rfl) ?_
  refine evs_run 2 (by kernel_rfl) ?_
  refine evs_op (st_len (c := c_Point) (l := h0) (x := (.sl (List.map c_Point h0))) (by kernel_rfl) (by kernel_rfl)) ?_
  refine z1 1 ⟨[(0, (.sl (List.map c_Point h0))), (3, (.ptr 500000 0)), (5, (vI s87)), (11, (vB (decide (s87 < (h0.length : Int)))))], [(500000, .box [(vI p.X.A), (vI p.X.B), (vI p.Y.A), (vI p.Y.B)])]⟩ (by kernel_rfl) ?_
  refine sem_cond (decide (s87 < (h0.length : Int))) (by kernel_rfl) (by kernel_rfl) (fun hb => ?_) (fun hb => ?_)
  ·replace h := iteT hb h
   refine z4 ⟨[(0, (.sl (List.map c_Point h0))), (3, (.ptr 500000 0)), (5, (vI s87))], [(500000, .box [(vI p.X.A), (vI p.X.B), (vI p.Y.A), (vI p.Y.B)])]⟩ (by kernel_rfl) ?_
   refine sem_seq (by kernel_rfl) ?_
   refine sem_block (by kernel_rfl) ?_
   refine sem_seq (by kernel_rfl) ?_
   refine sem_drawN [] [] [] [] [] 18 (by kernel_rfl) (by kernel_rfl) (by kernel_rfl) ?_
   refine evd_run 2 (by kernel_rfl) ?_
   obtain ⟨x124, hx124, h⟩ := bindS h
   refine evd_val (by kernel_rfl) (st_idx (c := c_Point) (l := h0) (i := s87) (kd := .i64) (sz := 4) (by kernel_rfl) hx124 rfl) (by kernel_rfl) (by kernel_rfl) ?_
   refine evd_run 5 (by kernel_rfl) ?_
   refine evd_val (by kernel_rfl) (st_len (c := c_Point) (l := h0) (x := (.sl (List.map c_Point h0))) (by kernel_rfl) (by kernel_rfl)) (by kernel_rfl) (by kernel_rfl) ?_
   obtain ⟨hb, h⟩ := iteN h
   refine evd_val (by kernel_rfl) (st_rem (a := (iadd s87 1)) (b := (h0.length : Int)) (kd := .i64) (by kernel_rfl) (bne_iff_ne.1 hb)) (by kernel_rfl) (by kernel_rfl) ?_
   obtain ⟨x125, hx125, h⟩ := bindS h
   refine evd_val (by kernel_rfl) (st_idx (c := c_Point) (l := h0) (i := (Int.tmod (iadd s87 1) (h0.length : Int))) (kd := .i64) (sz := 4) (by kernel_rfl) hx125 rfl) (by kernel_rfl) (by kernel_rfl) ?_
   refine evd_run 2 (by kernel_rfl) ?_
   obtain ⟨r126, hr126, h⟩ := bindS h
   refine evd_callS [] [] (by kernel_rfl) (by kernel_rfl) (W.geom_Orient_ok hr126) (by kernel_rfl) (.inl rfl) (by kernel_rfl) (by kernel_rfl) ?_
   refine evd_run 4 (by kernel_rfl) ?_
   refine evd_end (by kernel_rfl) ?_
   refine evo_run 1 (by kernel_rfl) ?_
   refine evo_endS (by kernel_rfl) (fun τ hτ => ?_)
   refine th_normalS hτ ⟨[(0, (.sl (List.map c_Point h0))), (3, (.ptr 500000 0)), (5, (vI s87)), (6, (vI r126.1)), (7, (vI r126.2))], [(500000, .box [(vI p.X.A), (vI p.X.B), (vI p.Y.A), (vI p.Y.B)])]⟩ (here (by kernel_rfl)) ?_
   refine sem_seq (by kernel_rfl) ?_
   obtain ⟨j127, hj127, h⟩ := bindS h
   refine sem_regionC ⟨[(0, (.sl (List.map c_Point h0))), (3, (.ptr 500000 0)), (5, (vI s87)), (36, (vB j127))], [(500000, .box [(vI p.X.A), (vI p.X.B), (vI p.Y.A), (vI p.Y.B)])]⟩ (by kernel_rfl) ?_ (fun τ hτ => ?_)
   ·replace h := hj127
    refine evs_run 3 (by kernel_rfl) ?_
    refine evs_split (r126.2 != 0) (fun b0 => ⟨[(0, (.sl (List.map c_Point h0))), (3, (.ptr 500000 0)), (5, (vI s87)), (6, (vI r126.1)), (33, (vB b0))], [(500000, .box [(vI p.X.A), (vI p.X.B), (vI p.Y.A), (vI p.Y.B)])]⟩) (by kernel_rfl) (fun hb => ?_) (fun hb => ?_)
    ·replace h := iteT hb h
     refine z6 3 (by kernel_rfl) (fun τ hτ => ?_)
     obtain rfl := Option.some.inj h
     exact leafC hτ (here (by kernel_rfl))
    ·replace h := iteF hb h
     refine z6 3 (by kernel_rfl) (fun τ hτ => ?_)
     obtain rfl := Option.some.inj h
     exact leafC hτ (here (by kernel_rfl))
   refine th_normalS hτ ⟨[(0, (.sl (List.map c_Point h0))), (3, (.ptr 500000 0)), (5, (vI s87)), (36, (vB j127))], [(500000, .box [(vI p.X.A), (vI p.X.B), (vI p.Y.A), (vI p.Y.B)])]⟩ (here (by kernel_rfl)) ?_
   refine sem_cond j127 (by kernel_rfl) (by kernel_rfl) (fun hb => ?_) (fun hb => ?_)
   ·replace h := iteT hb h
    refine z8 1 ⟨[(4, (vB false))], []⟩ (by kernel_rfl) (fun τ hτ => ?_)
    refine bl_ret ?_
    refine th_ret ?_
    obtain rfl := Option.some.inj h
    exact lk_outS hτ rfl (here (by kernel_rfl))
   ·replace h := iteF hb h
    refine sem_skipS (by kernel_rfl) (fun τ hτ => ?_)
    refine bl_normal ?_
    refine th_normalS hτ ⟨[(0, (.sl (List.map c_Point h0))), (3, (.ptr 500000 0)), (5, (vI s87))], [(500000, .box [(vI p.X.A), (vI p.X.B), (vI p.Y.A), (vI p.Y.B)])]⟩ (here (by kernel_rfl)) ?_
    refine sem_region (by kernel_rfl) ?_
    refine z6 3 (by kernel_rfl) (fun τ hτ => ?_)
    obtain rfl := Option.some.inj h
    exact lk_nextS hτ (here (by kernel_rfl))
  ·replace h := iteF hb h
   refine sem_exitS 0 (by kernel_rfl) rfl (fun τ hτ => ?_)
   refine th_exit ?_
   obtain rfl := Option.some.inj h
   exact lk_outS hτ rfl (here (by kernel_rfl))
 ·intro x
  rcases x with _ | _ <;> rfl
 ·intro τ hτ
  rcases x128 with j129 | j130
  ·refine bl_ret ?_
   refine th_ret ?_
   obtain rfl := Option.some.inj h
   exact rk_ret hτ [(4, (vB false))] (here (by kernel_rfl)) (by kernel_rfl)
  ·refine bl_hit (by kernel_rfl) ?_
   refine th_normalS hτ ⟨[(0, (.sl (List.map c_Point h0))), (3, (.ptr 500000 0))], [(500000, .box [(vI p.X.A), (vI p.X.B), (vI p.Y.A), (vI p.Y.B)])]⟩ (here (by kernel_rfl)) ?_
   refine sem_seq (by kernel_rfl) ?_
   obtain ⟨j135, hj135, h⟩ := bindS h
   refine sem_drawP ⟨[(4, (vB j135))], []⟩ [] [] [] [] [] 21 (by kernel_rfl) (by kernel_rfl) (by kernel_rfl) ?_ (fun τ hτ => ?_)
   ·replace h := hj135
    refine evd_run 1 (by kernel_rfl) ?_
    refine evd_val (by kernel_rfl) (st_len (c := c_Point) (l := h0) (x := (.sl (List.map c_Point h0))) (by kernel_rfl) (by kernel_rfl)) (by kernel_rfl) (by kernel_rfl) ?_
    refine evd_run 2 (by kernel_rfl) ?_
    refine evd_split (decide ((h0.length : Int) > 2)) (fun b0 => ⟨[(40, (vB b0)), (39, (vB b0)), (38, (vI (h0.length : Int))), (37, (.sl (List.map c_Point h0))), (0, (.sl (List.map c_Point h0))), (3, (.ptr 500000 0))], [(500000, .box [(vI p.X.A), (vI p.X.B), (vI p.Y.A), (vI p.Y.B)])]⟩) (by kernel_rfl) (fun hb => ?_) (fun hb => ?_)
    ·replace h := iteT hb h
     refine evd_run 17 (by kernel_rfl) ?_
     refine evd_end (by kernel_rfl) ?_
     refine evo_run 5 (by kernel_rfl) ?_
     refine evo_endS (by kernel_rfl) (fun τ hτ => ?_)
     obtain rfl := Option.some.inj h
     exact leafC hτ (here (by kernel_rfl))
    ·replace h := iteF hb h
     refine evd_run 1 (by kernel_rfl) ?_
     refine evd_val (by kernel_rfl) (st_len (c := c_Point) (l := h0) (x := (.sl (List.map c_Point h0))) (by kernel_rfl) (by kernel_rfl)) (by kernel_rfl) (by kernel_rfl) ?_
     refine evd_run 2 (by kernel_rfl) ?_
     refine evd_split (decide ((h0.length : Int) > 0)) (fun b0 => ⟨[(44, (vB b0)), (43, (vB b0)), (42, (vI (h0.length : Int))), (41, (.sl (List.map c_Point h0))), (40, (vB false)), (39, (vB false)), (38, (vI (h0.length : Int))), (37, (.sl (List.map c_Point h0))), (0, (.sl (List.map c_Point h0))), (3, (.ptr 500000 0))], [(500000, .box [(vI p.X.A), (vI p.X.B), (vI p.Y.A), (vI p.Y.B)])]⟩) (by kernel_rfl) (fun hb => ?_) (fun hb => ?_)
     ·replace h := iteT hb h
      refine evd_run 1 (by kernel_rfl) ?_
      obtain ⟨x136, hx136, h⟩ := bindS h
      refine evd_val (by kernel_rfl) (st_idx (c := c_Point) (l := h0) (i := 0) (kd := .i64) (sz := 4) (by kernel_rfl) hx136 rfl) (by kernel_rfl) (by kernel_rfl) ?_
      refine evd_run 4 (by kernel_rfl) ?_
      refine evd_split ((x136.X.A == p.X.A) && ((x136.X.B == p.X.B) && ((x136.Y.A == p.Y.A) && ((x136.Y.B == p.Y.B) && true)))) (fun b0 => ⟨[(50, (vB b0)), (49, (vB b0)), (48, (.agg [(vI p.X.A), (vI p.X.B), (vI p.Y.A), (vI p.Y.B)])), (47, (.agg [(vI x136.X.A), (vI x136.X.B), (vI x136.Y.A), (vI x136.Y.B)])), (46, (.vptr [(vI x136.X.A), (vI x136.X.B), (vI x136.Y.A), (vI x136.Y.B)] 0)), (45, (.sl (List.map c_Point h0))), (44, (vB true)), (43, (vB true)), (42, (vI (h0.length : Int))), (41, (.sl (List.map c_Point h0))), (40, (vB false)), (39, (vB false)), (38, (vI (h0.length : Int))), (37, (.sl (List.map c_Point h0))), (0, (.sl (List.map c_Point h0))), (3, (.ptr 500000 0))], [(500000, .box [(vI p.X.A), (vI p.X.B), (vI p.Y.A), (vI p.Y.B)])]⟩) (by kernel_rfl) (fun hb => ?_) (fun hb => ?_)
      ·replace h := iteT hb h
       refine evd_run 7 (by kernel_rfl) ?_
       refine evd_end (by kernel_rfl) ?_
       refine evo_run 5 (by kernel_rfl) ?_
       refine evo_endS (by kernel_rfl) (fun τ hτ => ?_)
       obtain rfl := Option.some.inj h
       exact leafC hτ (here (by kernel_rfl))
      ·replace h := iteF hb h
       refine evd_run 2 (by kernel_rfl) ?_
       refine evd_val (by kernel_rfl) (st_len (c := c_Point) (l := h0) (x := (.sl (List.map c_Point h0))) (by kernel_rfl) (by kernel_rfl)) (by kernel_rfl) (by kernel_rfl) ?_
       refine evd_run 1 (by kernel_rfl) ?_
       obtain ⟨x137, hx137, h⟩ := bindS h
       refine evd_val (by kernel_rfl) (st_idx (c := c_Point) (l := h0) (i := (isub (h0.length : Int) 1)) (kd := .i64) (sz := 4) (by kernel_rfl) hx137 rfl) (by kernel_rfl) (by kernel_rfl) ?_
       refine evd_run 2 (by kernel_rfl) ?_
       refine evd_end (by kernel_rfl) ?_
       refine evo_run 5 (by kernel_rfl) ?_
       refine evo_endS (by kernel_rfl) (fun τ hτ => ?_)
       obtain rfl := Option.some.inj h
       exact leafC hτ (here (by kernel_rfl))
     ·replace h := iteF hb h
      refine evd_run 13 (by kernel_rfl) ?_
      refine evd_end (by kernel_rfl) ?_
      refine evo_run 5 (by kernel_rfl) ?_
      refine evo_endS (by kernel_rfl) (fun τ hτ => ?_)
      obtain rfl := Option.some.inj h
      exact leafC hτ (here (by kernel_rfl))
   refine th_normalS hτ ⟨[(4, (vB j135))], []⟩ (here (by kernel_rfl)) ?_
   refine sem_retS (by kernel_rfl) (fun τ hτ => ?_)
   obtain rfl := Option.some.inj h
   exact rk_ret hτ [(4, (vB j135))] (here (by kernel_rfl)) (by kernel_rfl)
theorem W.sheetmetallaw01_GeomSweepHolds_ok {l : (List Spot)} {from1 : Int} {to2 : Int} {r : Bool} (h : sheetmetallaw01_GeomSweepHolds l from1 to2 = some r) : PC G.P 12 [(.sl (List.map c_Spot l)), (vI from1), (vI to2)] [] (vB r) [] := by
 refine pc_of G (fn := Try.f12) Try.func12 (by kernel_rfl) (by kernel_rfl) (by kernel_rfl) (by kernel_rfl) (by kernel_rfl) ?_
 refine sem_set ⟨[(0, (.sl (List.map c_Spot l))), (1, (vI from1)), (2, (vI to2))], []⟩ (by kernel_rfl) ?_
 refine z3 1 ⟨[(0, (.sl (List.map c_Spot l))), (1, (vI from1)), (2, (vI to2))], []⟩ (by kernel_rfl) ?_
 refine sem_seq (by kernel_rfl) ?_
 refine z7 (by kernel_rfl) ?_
 refine evs_run 1 (by kernel_rfl) ?_
 refine evs_op (st_len (c := c_Spot) (l := l) (x := (.sl (List.map c_Spot l))) (by kernel_rfl) (by kernel_rfl)) ?_
 refine z1 1 ⟨[(0, (.sl (List.map c_Spot l))), (1, (vI from1)), (2, (vI to2)), (17, (vB (decide ((l.length : Int) > 12))))], []⟩ (by kernel_rfl) ?_
 refine sem_cond (decide ((l.length : Int) > 12)) (by kernel_rfl) (by kernel_rfl) (fun hb => ?_) (fun hb => ?_)
 ·replace h := iteT hb h
  refine z7 (by kernel_rfl) ?_
  obtain ⟨r4, hr4, h⟩ := bindS h
  refine evs_callP [] (by kernel_rfl) (W.sheetmetallaw01_known_ok hr4) (by kernel_rfl) (.inl rfl) (by kernel_rfl) ?_
  refine z1 1 ⟨[(6, (vB r4))], []⟩ (by kernel_rfl) ?_
  refine sem_retS (by kernel_rfl) (fun τ hτ => ?_)
  refine th_ret ?_
  obtain rfl := Option.some.inj h
  exact rk_ret hτ [(6, (vB r4))] (here (by kernel_rfl)) (by kernel_rfl)
 ·replace h := iteF hb h
  refine z4 ⟨[(0, (.sl (List.map c_Spot l))), (1, (vI from1)), (2, (vI to2))], []⟩ (by kernel_rfl) ?_
  refine z7 (by kernel_rfl) ?_
  refine evs_run 3 (by kernel_rfl) ?_
  obtain ⟨r6, hr6, h⟩ := bindS h
  refine evs_callP [] (by kernel_rfl) (W.geom_Sweep_ok hr6) (by kernel_rfl) (.inl rfl) (by kernel_rfl) ?_
  refine z1 5 ⟨[(0, (.sl (List.map c_Spot l))), (1, (vI from1)), (2, (vI to2)), (7, (.sl (List.map (cS c_Point) r6.1))), (8, (vI r6.2))], []⟩ (by kernel_rfl) ?_
  refine sem_seq (by kernel_rfl) ?_
  refine z3 2 ⟨[(0, (.sl (List.map c_Spot l))), (1, (vI from1)), (2, (vI to2)), (7, (.sl (List.map (cS c_Point) r6.1))), (27, (vB (r6.2 != 0)))], []⟩ (by kernel_rfl) ?_
  refine sem_cond (r6.2 != 0) (by kernel_rfl) (by kernel_rfl) (fun hb => ?_) (fun hb => ?_)
  ·replace h := iteT hb h
   refine sem_seq (by kernel_rfl) ?_
   obtain ⟨j11, hj11, h⟩ := bindS h
   refine sem_regionC ⟨[(6, (vB j11))], []⟩ (by kernel_rfl) ?_ (fun τ hτ => ?_)
   ·replace h := hj11
    refine evs_run 1 (by kernel_rfl) ?_
    refine evs_op (st_len (c := (cS c_Point)) (l := r6.1) (x := (.sl (List.map (cS c_Point) r6.1))) (by kernel_rfl) (by kernel_rfl)) ?_
    refine evs_run 2 (by kernel_rfl) ?_
    refine evs_split ((r6.1.length : Int) == 0) (fun b0 => ⟨[(31, (vB b0))], []⟩) (by kernel_rfl) (fun hb => ?_) (fun hb => ?_)
    ·replace h := iteT hb h
     obtain ⟨r12, hr12, h⟩ := bindS h
     refine evs_callP [] (by kernel_rfl) (W.sheetmetallaw01_known_ok hr12) (by kernel_rfl) (.inl rfl) (by kernel_rfl) ?_
     refine z6 2 (by kernel_rfl) (fun τ hτ => ?_)
     obtain rfl := Option.some.inj h
     exact leafC hτ (here (by kernel_rfl))
    ·replace h := iteF hb h
     refine z6 3 (by kernel_rfl) (fun τ hτ => ?_)
     obtain rfl := Option.some.inj h
     exact leafC hτ (here (by kernel_rfl))
   refine th_normalS hτ ⟨[(6, (vB j11))], []⟩ (here (by kernel_rfl)) ?_
   refine sem_retS (by kernel_rfl) (fun τ hτ => ?_)
   refine th_ret ?_
   obtain rfl := Option.some.inj h
   exact rk_ret hτ [(6, (vB j11))] (here (by kernel_rfl)) (by kernel_rfl)
  ·replace h := iteF hb h
   refine z4 ⟨[(0, (.sl (List.map c_Spot l))), (1, (vI from1)), (2, (vI to2)), (7, (.sl (List.map (cS c_Point) r6.1)))], []⟩ (by kernel_rfl) ?_
   refine sem_seq (by kernel_rfl) ?_
   refine z3 2 ⟨[(0, (.sl (List.map c_Spot l))), (2, (vI to2)), (7, (.sl (List.map (cS c_Point) r6.1))), (9, (vI from1))], []⟩ (by kernel_rfl) ?_
   refine sem_block (by kernel_rfl) ?_
   obtain ⟨x9512, hx9512, h⟩ := bindS h
   refine sem_loopS (fun (s6347 : Int) => ⟨[(0, (.sl (List.map c_Spot l))), (2, (vI to2)), (7, (.sl (List.map (cS c_Point) r6.1))), (9, (vI s6347))], []⟩) (fun (x9512 : Unit ⊕ Unit) => match x9512 with | .inl j9513 => (.ret, ⟨[(6, (vB false))], []⟩) | .inr j9514 => (.exit 0, ⟨[], []⟩)) (sheetmetallaw01_GeomSweepHolds_l3 l to2 r6) from1 x9512 (by kernel_rfl) (here (by kernel_rfl)) hx9512 ?_ ?_ ?_
   ·intro s6347 r h
    refine sem_seq (by kernel_rfl) ?_
    refine z3 3 ⟨[(0, (.sl (List.map c_Spot l))), (2, (vI to2)), (7, (.sl (List.map (cS c_Point) r6.1))), (9, (vI s6347)), (37, (vB (decide (s6347 ≤ to2))))], []⟩ (by kernel_rfl) ?_
    refine sem_cond (decide (s6347 ≤ to2)) (by kernel_rfl) (by kernel_rfl) (fun hb => ?_) (fun hb => ?_)
    ·replace h := iteT hb h
     refine z4 ⟨[(0, (.sl (List.map c_Spot l))), (2, (vI to2)), (7, (.sl (List.map (cS c_Point) r6.1))), (9, (vI s6347))], []⟩ (by kernel_rfl) ?_
     refine sem_seq (by kernel_rfl) ?_
     refine sem_block (by kernel_rfl) ?_
     refine z3 1 ⟨[(0, (.sl (List.map c_Spot l))), (2, (vI to2)), (7, (.sl (List.map (cS c_Point) r6.1))), (9, (vI s6347)), (10, (vI 0))], []⟩ (by kernel_rfl) ?_
     refine sem_block (by kernel_rfl) ?_
     obtain ⟨x9509, hx9509, h⟩ := bindS h
     refine sem_loopS (fun (s8984 : Int) => ⟨[(0, (.sl (List.map c_Spot l))), (2, (vI to2)), (7, (.sl (List.map (cS c_Point) r6.1))), (9, (vI s6347)), (10, (vI s8984))], []⟩) (fun (x9509 : Unit ⊕ Unit) => match x9509 with | .inl j9510 => (.ret, ⟨[(6, (vB false))], []⟩) | .inr j9511 => (.exit 2, ⟨[(0, (.sl (List.map c_Spot l))), (2, (vI to2)), (7, (.sl (List.map (cS c_Point) r6.1))), (9, (vI s6347))], []⟩)) (sheetmetallaw01_GeomSweepHolds_l2 l r6 s6347) 0 x9509 (by kernel_rfl) (here (by kernel_rfl)) hx9509 ?_ ?_ ?_
     ·intro s8984 r h
      refine sem_seq (by kernel_rfl) ?_
      refine z7 (by kernel_rfl) ?_
      refine evs_run 2 (by kernel_rfl) ?_
      refine evs_op (st_len (c := c_Spot) (l := l) (x := (.sl (List.map c_Spot l))) (by kernel_rfl) (by kernel_rfl)) ?_
      refine z1 1 ⟨[(0, (.sl (List.map c_Spot l))), (2, (vI to2)), (7, (.sl (List.map (cS c_Point) r6.1))), (9, (vI s6347)), (10, (vI s8984)), (43, (vB (decide (s8984 < (l.length : Int)))))], []⟩ (by kernel_rfl) ?_
      refine sem_cond (decide (s8984 < (l.length : Int))) (by kernel_rfl) (by kernel_rfl) (fun hb => ?_) (fun hb => ?_)
      ·replace h := iteT hb h
       refine z4 ⟨[(0, (.sl (List.map c_Spot l))), (2, (vI to2)), (7, (.sl (List.map (cS c_Point) r6.1))), (9, (vI s6347)), (10, (vI s8984))], []⟩ (by kernel_rfl) ?_
       refine sem_seq (by kernel_rfl) ?_
       refine sem_block (by kernel_rfl) ?_
       refine z7 (by kernel_rfl) ?_
       refine evs_run 2 (by kernel_rfl) ?_
       obtain ⟨x9380, hx9380, h⟩ := bindS h
       refine evs_op (st_idx (c := c_Spot) (l := l) (i := s8984) (kd := .i64) (sz := 2) (by kernel_rfl) hx9380 rfl) ?_
       refine evs_run 2 (by kernel_rfl) ?_
       obtain ⟨r9381, hr9381, h⟩ := bindS h
       refine evs_callS [] [(0, 700250)] [] (by kernel_rfl) (W.geom_Turn_ok hr9381) (by kernel_rfl) (by kernel_rfl) (.inl rfl) ?_
       refine z1 6 ⟨[(0, (.sl (List.map c_Spot l))), (2, (vI to2)), (7, (.sl (List.map (cS c_Point) r6.1))), (9, (vI s6347)), (10, (vI s8984)), (11, (.ptr 11 0)), (12, (vI r9381.2.1))], [(11, .box [(vI r9381.1.X.A), (vI r9381.1.X.B), (vI r9381.1.Y.A), (vI r9381.1.Y.B)])]⟩ (by kernel_rfl) ?_
       refine z3 1 ⟨[(0, (.sl (List.map c_Spot l))), (2, (vI to2)), (7, (.sl (List.map (cS c_Point) r6.1))), (9, (vI s6347)), (10, (vI s8984)), (11, (.ptr 11 0)), (12, (vI r9381.2.1)), (13, (vB false))], [(11, .box [(vI r9381.1.X.A), (vI r9381.1.X.B), (vI r9381.1.Y.A), (vI r9381.1.Y.B)])]⟩ (by kernel_rfl) ?_
       refine sem_seq (by kernel_rfl) ?_
       refine z3 1 ⟨[(0, (.sl (List.map c_Spot l))), (2, (vI to2)), (7, (.sl (List.map (cS c_Point) r6.1))), (9, (vI s6347)), (10, (vI s8984)), (11, (.ptr 11 0)), (12, (vI r9381.2.1)), (13, (vB false)), (14, (vI 0))], [(11, .box [(vI r9381.1.X.A), (vI r9381.1.X.B), (vI r9381.1.Y.A), (vI r9381.1.Y.B)])]⟩ (by kernel_rfl) ?_
       refine sem_block (by kernel_rfl) ?_
       obtain ⟨x9507, hx9507, h⟩ := bindS h
       refine sem_loopS (fun (s9466 : Bool × Int) => ⟨[(0, (.sl (List.map c_Spot l))), (2, (vI to2)), (7, (.sl (List.map (cS c_Point) r6.1))), (9, (vI s6347)), (10, (vI s8984)), (11, (.ptr 500000 0)), (12, (vI r9381.2.1)), (13, (vB s9466.1)), (14, (vI s9466.2))], [(500000, .box [(vI r9381.1.X.A), (vI r9381.1.X.B), (vI r9381.1.Y.A), (vI r9381.1.Y.B)])]⟩) (fun (x9507 : Bool) => (.exit 4, ⟨[(0, (.sl (List.map c_Spot l))), (2, (vI to2)), (7, (.sl (List.map (cS c_Point) r6.1))), (9, (vI s6347)), (10, (vI s8984)), (12, (vI r9381.2.1)), (13, (vB x9507))], []⟩)) (sheetmetallaw01_GeomSweepHolds_l1 r6 r9381) (false, 0) x9507 (by kernel_rfl) (subR_prep [] [(11, 500000)] (by kernel_rfl) rfl rfl (by kernel_rfl)) hx9507 ?_ ?_ ?_
       ·intro s9466 r h
        refine sem_seq (by kernel_rfl) ?_
        refine z7 (by kernel_rfl) ?_
        refine evs_run 2 (by kernel_rfl) ?_
        refine evs_op (st_len (c := (cS c_Point)) (l := r6.1) (x := (.sl (List.map (cS c_Point) r6.1))) (by kernel_rfl) (by kernel_rfl)) ?_
        refine z1 1 ⟨[(0, (.sl (List.map c_Spot l))), (2, (vI to2)), (7, (.sl (List.map (cS c_Point) r6.1))), (9, (vI s6347)), (10, (vI s8984)), (11, (.ptr 500000 0)), (12, (vI r9381.2.1)), (13, (vB s9466.1)), (14, (vI s9466.2)), (58, (vB (decide (s9466.2 < (r6.1.length : Int)))))], [(500000, .box [(vI r9381.1.X.A), (vI r9381.1.X.B), (vI r9381.1.Y.A), (vI r9381.1.Y.B)])]⟩ (by kernel_rfl) ?_
        refine sem_cond (decide (s9466.2 < (r6.1.length : Int))) (by kernel_rfl) (by kernel_rfl) (fun hb => ?_) (fun hb => ?_)
        ·replace h := iteT hb h
         refine z4 ⟨[(0, (.sl (List.map c_Spot l))), (2, (vI to2)), (7, (.sl (List.map (cS c_Point) r6.1))), (9, (vI s6347)), (10, (vI s8984)), (11, (.ptr 500000 0)), (12, (vI r9381.2.1)), (13, (vB s9466.1)), (14, (vI s9466.2))], [(500000, .box [(vI r9381.1.X.A), (vI r9381.1.X.B), (vI r9381.1.Y.A), (vI r9381.1.Y.B)])]⟩ (by kernel_rfl) ?_
         refine sem_seq (by kernel_rfl) ?_
         refine sem_block (by kernel_rfl) ?_
         obtain ⟨j9503, hj9503, h⟩ := bindS h
         refine sem_drawP ⟨[(0, (.sl (List.map c_Spot l))), (2, (vI to2)), (7, (.sl (List.map (cS c_Point) r6.1))), (9, (vI s6347)), (10, (vI s8984)), (11, (.ptr 500000 0)), (12, (vI r9381.2.1)), (13, (vB j9503)), (14, (vI s9466.2))], [(500000, .box [(vI r9381.1.X.A), (vI r9381.1.X.B), (vI r9381.1.Y.A), (vI r9381.1.Y.B)])]⟩ [] [] [] [] [] 15 (by kernel_rfl) (by kernel_rfl) (by kernel_rfl) ?_ (fun τ hτ => ?_)
         ·replace h := hj9503
          refine evd_run 2 (by kernel_rfl) ?_
          refine evd_split s9466.1 (fun b0 => ⟨[(62, (vB b0)), (61, (vB b0)), (0, (.sl (List.map c_Spot l))), (2, (vI to2)), (7, (.sl (List.map (cS c_Point) r6.1))), (9, (vI s6347)), (10, (vI s8984)), (11, (.ptr 500000 0)), (12, (vI r9381.2.1)), (13, (vB b0)), (14, (vI s9466.2))], [(500000, .box [(vI r9381.1.X.A), (vI r9381.1.X.B), (vI r9381.1.Y.A), (vI r9381.1.Y.B)])]⟩) (by kernel_rfl) (fun hb => ?_) (fun hb => ?_)
          ·replace h := iteT hb h
           refine evd_run 13 (by kernel_rfl) ?_
           refine evd_end (by kernel_rfl) ?_
           refine evo_run 3 (by kernel_rfl) ?_
           refine evo_endS (by kernel_rfl) (fun τ hτ => ?_)
           obtain rfl := Option.some.inj h
           exact leafC hτ (here (by kernel_rfl))
          ·replace h := iteF hb h
           refine evd_run 2 (by kernel_rfl) ?_
           obtain ⟨x9504, hx9504, h⟩ := bindS h
           refine evd_val (by kernel_rfl) (st_idx (c := (cS c_Point)) (l := r6.1) (i := s9466.2) (kd := .i64) (sz := 1) (by kernel_rfl) hx9504 rfl) (by kernel_rfl) (by kernel_rfl) ?_
           refine evd_run 1 (by kernel_rfl) ?_
           refine evd_val (by kernel_rfl) (st_len (c := c_Point) (l := x9504) (x := (.sl (List.map c_Point x9504))) (by kernel_rfl) (by kernel_rfl)) (by kernel_rfl) (by kernel_rfl) ?_
           refine evd_run 3 (by kernel_rfl) ?_
           refine evd_split (decide ((x9504.length : Int) < 3)) (fun b0 => ⟨[(70, (vB b0)), (69, (vB b0)), (68, (vB b0)), (67, (vI (x9504.length : Int))), (66, (.sl (List.map c_Point x9504))), (65, (.vptr [(.sl (List.map c_Point x9504))] 0)), (64, (vI s9466.2)), (63, (.sl (List.map (cS c_Point) r6.1))), (62, (vB false)), (61, (vB false)), (0, (.sl (List.map c_Spot l))), (2, (vI to2)), (7, (.sl (List.map (cS c_Point) r6.1))), (9, (vI s6347)), (10, (vI s8984)), (11, (.ptr 500000 0)), (12, (vI r9381.2.1)), (13, (vB false)), (14, (vI s9466.2))], [(500000, .box [(vI r9381.1.X.A), (vI r9381.1.X.B), (vI r9381.1.Y.A), (vI r9381.1.Y.B)])]⟩) (by kernel_rfl) (fun hb => ?_) (fun hb => ?_)
           ·replace h := iteT hb h
            refine evd_run 5 (by kernel_rfl) ?_
            refine evd_end (by kernel_rfl) ?_
            refine evo_run 3 (by kernel_rfl) ?_
            refine evo_endS (by kernel_rfl) (fun τ hτ => ?_)
            obtain rfl := Option.some.inj h
            exact leafC hτ (here (by kernel_rfl))
           ·replace h := iteF hb h
            refine evd_run 2 (by kernel_rfl) ?_
            obtain ⟨x9505, hx9505, h⟩ := bindS h
            refine evd_val (by kernel_rfl) (st_idx (c := (cS c_Point)) (l := r6.1) (i := s9466.2) (kd := .i64) (sz := 1) (by kernel_rfl) hx9505 rfl) (by kernel_rfl) (by kernel_rfl) ?_
            refine evd_run 2 (by kernel_rfl) ?_
            refine evd_end (by kernel_rfl) ?_
            obtain ⟨r9506, hr9506, h⟩ := bindS h
            refine evo_callP [] (by kernel_rfl) (W.sheetmetallaw01_inside_ok hr9506) (by kernel_rfl) (.inl rfl) (by kernel_rfl) ?_
            refine evo_run 2 (by kernel_rfl) ?_
            refine evo_endS (by kernel_rfl) (fun τ hτ => ?_)
            obtain rfl := Option.some.inj h
            exact leafC hτ (here (by kernel_rfl))
         refine bl_normal ?_
         refine th_normalS hτ ⟨[(0, (.sl (List.map c_Spot l))), (2, (vI to2)), (7, (.sl (List.map (cS c_Point) r6.1))), (9, (vI s6347)), (10, (vI s8984)), (11, (.ptr 500000 0)), (12, (vI r9381.2.1)), (13, (vB j9503)), (14, (vI s9466.2))], [(500000, .box [(vI r9381.1.X.A), (vI r9381.1.X.B), (vI r9381.1.Y.A), (vI r9381.1.Y.B)])]⟩ (here (by kernel_rfl)) ?_
         refine sem_region (by kernel_rfl) ?_
         refine z6 3 (by kernel_rfl) (fun τ hτ => ?_)
         obtain rfl := Option.some.inj h
         exact lk_nextS hτ (here (by kernel_rfl))
        ·replace h := iteF hb h
         refine sem_exitS 4 (by kernel_rfl) rfl (fun τ hτ => ?_)
         refine th_exit ?_
         obtain rfl := Option.some.inj h
         exact lk_outS hτ rfl (here (by kernel_rfl))
       ·intro x
        rfl
       ·intro τ hτ
        refine bl_hit (by kernel_rfl) ?_
        refine th_normalS hτ ⟨[(0, (.sl (List.map c_Spot l))), (2, (vI to2)), (7, (.sl (List.map (cS c_Point) r6.1))), (9, (vI s6347)), (10, (vI s8984)), (12, (vI r9381.2.1)), (13, (vB x9507))], []⟩ (here (by kernel_rfl)) ?_
        refine sem_seq (by kernel_rfl) ?_
        obtain ⟨j9508, hj9508, h⟩ := bindS h
        refine sem_regionC ⟨[(0, (.sl (List.map c_Spot l))), (2, (vI to2)), (7, (.sl (List.map (cS c_Point) r6.1))), (9, (vI s6347)), (10, (vI s8984)), (83, (vB j9508))], []⟩ (by kernel_rfl) ?_ (fun τ hτ => ?_)
        ·replace h := hj9508
         refine evs_run 3 (by kernel_rfl) ?_
         refine evs_split (r9381.2.1 != 0) (fun b0 => ⟨[(0, (.sl (List.map c_Spot l))), (2, (vI to2)), (7, (.sl (List.map (cS c_Point) r6.1))), (9, (vI s6347)), (10, (vI s8984)), (13, (vB x9507)), (80, (vB b0))], []⟩) (by kernel_rfl) (fun hb => ?_) (fun hb => ?_)
         ·replace h := iteT hb h
          refine z6 3 (by kernel_rfl) (fun τ hτ => ?_)
          obtain rfl := Option.some.inj h
          exact leafC hτ (here (by kernel_rfl))
         ·replace h := iteF hb h
          refine z6 3 (by kernel_rfl) (fun τ hτ => ?_)
          obtain rfl := Option.some.inj h
          exact leafC hτ (here (by kernel_rfl))
        refine th_normalS hτ ⟨[(0, (.sl (List.map c_Spot l))), (2, (vI to2)), (7, (.sl (List.map (cS c_Point) r6.1))), (9, (vI s6347)), (10, (vI s8984)), (83, (vB j9508))], []⟩ (here (by kernel_rfl)) ?_
        refine sem_cond j9508 (by kernel_rfl) (by kernel_rfl) (fun hb => ?_) (fun hb => ?_)
        ·replace h := iteT hb h
         refine z8 1 ⟨[(6, (vB false))], []⟩ (by kernel_rfl) (fun τ hτ => ?_)
         refine bl_ret ?_
         refine th_ret ?_
         obtain rfl := Option.some.inj h
         exact lk_outS hτ rfl (here (by kernel_rfl))
        ·replace h := iteF hb h
         refine sem_skipS (by kernel_rfl) (fun τ hτ => ?_)
         refine bl_normal ?_
         refine th_normalS hτ ⟨[(0, (.sl (List.map c_Spot l))), (2, (vI to2)), (7, (.sl (List.map (cS c_Point) r6.1))), (9, (vI s6347)), (10, (vI s8984))], []⟩ (here (by kernel_rfl)) ?_
         refine sem_region (by kernel_rfl) ?_
         refine z6 3 (by kernel_rfl) (fun τ hτ => ?_)
         obtain rfl := Option.some.inj h
         exact lk_nextS hτ (here (by kernel_rfl))
      ·replace h := iteF hb h
       refine sem_exitS 2 (by kernel_rfl) rfl (fun τ hτ => ?_)
       refine th_exit ?_
       obtain rfl := Option.some.inj h
       exact lk_outS hτ rfl (here (by kernel_rfl))
     ·intro x
      rcases x with _ | _ <;> rfl
     ·intro τ hτ
      rcases x9509 with j9510 | j9511
      ·refine bl_ret ?_
       refine bl_ret ?_
       refine th_ret ?_
       obtain rfl := Option.some.inj h
       exact lk_outS hτ rfl (here (by kernel_rfl))
      ·refine bl_hit (by kernel_rfl) ?_
       refine bl_normal ?_
       refine th_normalS hτ ⟨[(0, (.sl (List.map c_Spot l))), (2, (vI to2)), (7, (.sl (List.map (cS c_Point) r6.1))), (9, (vI s6347))], []⟩ (here (by kernel_rfl)) ?_
       refine sem_region (by kernel_rfl) ?_
       refine z6 3 (by kernel_rfl) (fun τ hτ => ?_)
       obtain rfl := Option.some.inj h
       exact lk_nextS hτ (here (by kernel_rfl))
    ·replace h := iteF hb h
     refine sem_exitS 0 (by kernel_rfl) rfl (fun τ hτ => ?_)
     refine th_exit ?_
     obtain rfl := Option.some.inj h
     exact lk_outS hτ rfl (here (by kernel_rfl))
   ·intro x
    rcases x with _ | _ <;> rfl
   ·intro τ hτ
    rcases x9512 with j9513 | j9514
    ·refine bl_ret ?_
     refine th_ret ?_
     obtain rfl := Option.some.inj h
     exact rk_ret hτ [(6, (vB false))] (here (by kernel_rfl)) (by kernel_rfl)
    ·refine bl_hit (by kernel_rfl) ?_
     refine th_normalS hτ ⟨[], []⟩ (here (by kernel_rfl)) ?_
     refine z7 (by kernel_rfl) ?_
     obtain ⟨r9516, hr9516, h⟩ := bindS h
     refine evs_callP [] (by kernel_rfl) (W.sheetmetallaw01_known_ok hr9516) (by kernel_rfl) (.inl rfl) (by kernel_rfl) ?_
     refine z1 1 ⟨[(6, (vB r9516))], []⟩ (by kernel_rfl) ?_
     refine sem_retS (by kernel_rfl) (fun τ hτ => ?_)
     obtain rfl := Option.some.inj h
     exact rk_ret hτ [(6, (vB r9516))] (here (by kernel_rfl)) (by kernel_rfl)
end Go.Proofs.Ytiodkdpfkchkjaa
