/- Each Go function does what its model says; written by a program out of the translation. -/
import Derived.Test.YtiodkdpfkchkjaaWN1
import Derived.Test.YtiodkdpfkchkjaaGeMN
set_option linter.unusedVariables false
set_option linter.unusedSimpArgs false
set_option linter.unusedSectionVars false
namespace Go.Proofs.Ytiodkdpfkchkjaa
open Go Go.VI Go.SM Go.Proofs
set_option maxRecDepth 100000
set_option maxHeartbeats 4000000
theorem W.geom_half_ok {l : (List Point)} {r : (List Point)} (h : geom_half l = some r) : PC G.P 107 [(.sl (List.map c_Point l))] [] (.row (.top 0) 36) [(0, .row 36 [] (List.map c_Point r))] := by
 refine pc_of G (fn := Try.f107) Try.func107 (by kernel_rfl) (by kernel_rfl) (by kernel_rfl) (by kernel_rfl) (by kernel_rfl) ?_
 refine sem_set ⟨[(0, (.sl (List.map c_Point l)))], []⟩ (by kernel_rfl) ?_
 refine z3 1 ⟨[(0, (.sl (List.map c_Point l)))], []⟩ (by kernel_rfl) ?_
 refine z3 1 ⟨[(0, (.sl (List.map c_Point l))), (3, (.row (.top 3) 36))], [(3, .row 36 [] (List.map c_Point []))]⟩ (by kernel_rfl) ?_
 refine sem_seq (by kernel_rfl) ?_
 refine z7 (by kernel_rfl) ?_
 refine evs_run 1 (by kernel_rfl) ?_
 refine evs_op (st_len (c := c_Point) (l := l) (x := (.sl (List.map c_Point l))) (by kernel_rfl) (by kernel_rfl)) ?_
 refine z1 1 ⟨[(3, (.row (.top 3) 36)), (6, (.sl (List.map c_Point l))), (7, (vI (l.length : Int))), (8, (vI 0))], [(3, .row 36 [] (List.map c_Point []))]⟩ (by kernel_rfl) ?_
 refine sem_block (by kernel_rfl) ?_
 obtain ⟨x1710, hx1710, h⟩ := bindS h
 refine sem_loopS (fun (s1141 : Int × (List Point)) => ⟨[(3, (.row (.top 500000) 36)), (6, (.sl (List.map c_Point l))), (7, (vI (l.length : Int))), (8, (vI s1141.1))], [(500000, .row 36 [] (List.map c_Point s1141.2))]⟩) (fun (x1710 : (List Point)) => (.exit 0, ⟨[(3, (.row (.top 500000) 36))], [(500000, .row 36 [] (List.map c_Point x1710))]⟩)) (geom_half_l2 l) (0, []) x1710 (by kernel_rfl) (subR_prep [] [(3, 500000)] (by kernel_rfl) rfl rfl (by kernel_rfl)) hx1710 ?_ ?_ ?_
 ·intro s1141 r h
  refine z3 1 ⟨[(3, (.row (.top 500000) 36)), (6, (.sl (List.map c_Point l))), (7, (vI (l.length : Int))), (8, (vI s1141.1)), (9, (vB (decide (s1141.1 < (l.length : Int)))))], [(500000, .row 36 [] (List.map c_Point s1141.2))]⟩ (by kernel_rfl) ?_
  refine sem_seq (by kernel_rfl) ?_
  refine sem_cond (decide (s1141.1 < (l.length : Int))) (by kernel_rfl) (by kernel_rfl) (fun hb => ?_) (fun hb => ?_)
  ·replace h := iteT hb h
   refine z4 ⟨[(3, (.row (.top 500000) 36)), (6, (.sl (List.map c_Point l))), (7, (vI (l.length : Int))), (8, (vI s1141.1))], [(500000, .row 36 [] (List.map c_Point s1141.2))]⟩ (by kernel_rfl) ?_
   refine sem_seq (by kernel_rfl) ?_
   refine sem_block (by kernel_rfl) ?_
   refine z7 (by kernel_rfl) ?_
   obtain ⟨x1569, hx1569, h⟩ := bindS h
   refine evs_op (st_idx (c := c_Point) (l := l) (i := s1141.1) (kd := .i64) (sz := 4) (by kernel_rfl) hx1569 rfl) ?_
   refine z1 3 ⟨[(3, (.row (.top 500000) 36)), (5, (.ptr 5 0)), (6, (.sl (List.map c_Point l))), (7, (vI (l.length : Int))), (8, (vI s1141.1))], [(5, .box [(vI x1569.X.A), (vI x1569.X.B), (vI x1569.Y.A), (vI x1569.Y.B)]), (500000, .row 36 [] (List.map c_Point s1141.2))]⟩ (by kernel_rfl) ?_
   refine sem_seq (by kernel_rfl) ?_
   refine sem_block (by kernel_rfl) ?_
   obtain ⟨x1707, hx1707, h⟩ := bindS h
   refine sem_loopS (fun (s1662 : (List Point)) => ⟨[(3, (.row (.top 500000) 36)), (5, (.ptr 500001 0)), (6, (.sl (List.map c_Point l))), (7, (vI (l.length : Int))), (8, (vI s1141.1))], [(500000, .row 36 [] (List.map c_Point s1662)), (500001, .box [(vI x1569.X.A), (vI x1569.X.B), (vI x1569.Y.A), (vI x1569.Y.B)])]⟩) (fun (x1707 : (List Point)) => (.exit 2, ⟨[(3, (.row (.top 500000) 36)), (5, (.ptr 500001 0)), (6, (.sl (List.map c_Point l))), (7, (vI (l.length : Int))), (8, (vI s1141.1))], [(500000, .row 36 [] (List.map c_Point x1707)), (500001, .box [(vI x1569.X.A), (vI x1569.X.B), (vI x1569.Y.A), (vI x1569.Y.B)])]⟩)) (geom_half_l1 x1569) s1141.2 x1707 (by kernel_rfl) (subR_prep [] [(5, 500001), (500000, 500000)] (by kernel_rfl) rfl rfl (by kernel_rfl)) hx1707 ?_ ?_ ?_
   ·intro s1662 r h
    refine sem_seq (by kernel_rfl) ?_
    refine sem_seq (by kernel_rfl) ?_
    obtain ⟨j1701, hj1701, h⟩ := bindS h
    refine sem_drawP ⟨[(3, (.row (.top 500000) 36)), (5, (.ptr 500001 0)), (6, (.sl (List.map c_Point l))), (7, (vI (l.length : Int))), (8, (vI s1141.1)), (31, (vB j1701))], [(500000, .row 36 [] (List.map c_Point s1662)), (500001, .box [(vI x1569.X.A), (vI x1569.X.B), (vI x1569.Y.A), (vI x1569.Y.B)])]⟩ [] [] [] [] [] 17 (by kernel_rfl) (by kernel_rfl) (by kernel_rfl) ?_ (fun τ hτ => ?_)
    ·replace h := hj1701
     refine evd_run 1 (by kernel_rfl) ?_
     refine evd_val (by kernel_rfl) (st_len (c := c_Point) (l := s1662) (x := (.row (.top 500000) 36)) (by kernel_rfl) (by kernel_rfl)) (by kernel_rfl) (by kernel_rfl) ?_
     refine evd_run 2 (by kernel_rfl) ?_
     refine evd_split (decide ((s1662.length : Int) > 1)) (fun b0 => ⟨[(15, (vB b0)), (14, (vB b0)), (13, (vI (s1662.length : Int))), (12, (.row (.top 500000) 36)), (3, (.row (.top 500000) 36)), (5, (.ptr 500001 0)), (6, (.sl (List.map c_Point l))), (7, (vI (l.length : Int))), (8, (vI s1141.1))], [(500000, .row 36 [] (List.map c_Point s1662)), (500001, .box [(vI x1569.X.A), (vI x1569.X.B), (vI x1569.Y.A), (vI x1569.Y.B)])]⟩) (by kernel_rfl) (fun hb => ?_) (fun hb => ?_)
     ·replace h := iteT hb h
      refine evd_run 2 (by kernel_rfl) ?_
      refine evd_val (by kernel_rfl) (st_len (c := c_Point) (l := s1662) (x := (.row (.top 500000) 36)) (by kernel_rfl) (by kernel_rfl)) (by kernel_rfl) (by kernel_rfl) ?_
      refine evd_run 1 (by kernel_rfl) ?_
      obtain ⟨x1702, hx1702, h⟩ := bindS h
      refine evd_val (by kernel_rfl) (st_idxO (c := c_Point) (l := s1662) (i := (isub (s1662.length : Int) 2)) (kd := .i64) (kk := (.top 500000)) (e := 36) (sz := 4) (by kernel_rfl) (by kernel_rfl) hx1702 rfl) (by kernel_rfl) (by kernel_rfl) ?_
      refine evd_val (by kernel_rfl) (st_ldO (c := c_Point) (l := s1662) (i := (Int.toNat (isub (s1662.length : Int) 2))) (v := (.agg [(vI x1702.X.A), (vI x1702.X.B), (vI x1702.Y.A), (vI x1702.Y.B)])) (agg := true) (sz := 4) (kk := (.top 500000)) (e := 36) (off := 0) (J := []) (by kernel_rfl) (by kernel_rfl) (by kernel_rfl) ((idxS hx1702).2) (by kernel_rfl)) (by kernel_rfl) (by kernel_rfl) ?_
      refine evd_run 2 (by kernel_rfl) ?_
      refine evd_val (by kernel_rfl) (st_len (c := c_Point) (l := s1662) (x := (.row (.top 500000) 36)) (by kernel_rfl) (by kernel_rfl)) (by kernel_rfl) (by kernel_rfl) ?_
      refine evd_run 1 (by kernel_rfl) ?_
      obtain ⟨x1703, hx1703, h⟩ := bindS h
      refine evd_val (by kernel_rfl) (st_idxO (c := c_Point) (l := s1662) (i := (isub (s1662.length : Int) 1)) (kd := .i64) (kk := (.top 500000)) (e := 36) (sz := 4) (by kernel_rfl) (by kernel_rfl) hx1703 rfl) (by kernel_rfl) (by kernel_rfl) ?_
      refine evd_val (by kernel_rfl) (st_ldO (c := c_Point) (l := s1662) (i := (Int.toNat (isub (s1662.length : Int) 1))) (v := (.agg [(vI x1703.X.A), (vI x1703.X.B), (vI x1703.Y.A), (vI x1703.Y.B)])) (agg := true) (sz := 4) (kk := (.top 500000)) (e := 36) (off := 0) (J := []) (by kernel_rfl) (by kernel_rfl) (by kernel_rfl) ((idxS hx1703).2) (by kernel_rfl)) (by kernel_rfl) (by kernel_rfl) ?_
      refine evd_run 1 (by kernel_rfl) ?_
      refine evd_end (by kernel_rfl) ?_
      obtain ⟨r1704, hr1704, h⟩ := bindS h
      refine evo_callP [] (by kernel_rfl) (W.geom_orient_ok hr1704) (by kernel_rfl) (.inl rfl) (by kernel_rfl) ?_
      refine evo_run 2 (by kernel_rfl) ?_
      refine evo_endS (by kernel_rfl) (fun τ hτ => ?_)
      obtain rfl := Option.some.inj h
      exact leafC hτ (here (by kernel_rfl))
     ·replace h := iteF hb h
      refine evd_run 13 (by kernel_rfl) ?_
      refine evd_end (by kernel_rfl) ?_
      refine evo_run 3 (by kernel_rfl) ?_
      refine evo_endS (by kernel_rfl) (fun τ hτ => ?_)
      obtain rfl := Option.some.inj h
      exact leafC hτ (here (by kernel_rfl))
    refine th_normalS hτ ⟨[(3, (.row (.top 500000) 36)), (5, (.ptr 500001 0)), (6, (.sl (List.map c_Point l))), (7, (vI (l.length : Int))), (8, (vI s1141.1)), (31, (vB j1701))], [(500000, .row 36 [] (List.map c_Point s1662)), (500001, .box [(vI x1569.X.A), (vI x1569.X.B), (vI x1569.Y.A), (vI x1569.Y.B)])]⟩ (here (by kernel_rfl)) ?_
    refine sem_cond j1701 (by kernel_rfl) (by kernel_rfl) (fun hb => ?_) (fun hb => ?_)
    ·replace h := iteT hb h
     refine z4 ⟨[(3, (.row (.top 500000) 36)), (5, (.ptr 500001 0)), (6, (.sl (List.map c_Point l))), (7, (vI (l.length : Int))), (8, (vI s1141.1))], [(500000, .row 36 [] (List.map c_Point s1662)), (500001, .box [(vI x1569.X.A), (vI x1569.X.B), (vI x1569.Y.A), (vI x1569.Y.B)])]⟩ (by kernel_rfl) ?_
     refine sem_block (by kernel_rfl) ?_
     refine sem_region (by kernel_rfl) ?_
     refine evs_run 2 (by kernel_rfl) ?_
     refine evs_op (st_len (c := c_Point) (l := s1662) (x := (.row (.top 500000) 36)) (by kernel_rfl) (by kernel_rfl)) ?_
     refine evs_run 1 (by kernel_rfl) ?_
     obtain ⟨l1706, hl1706, h⟩ := bindS h
     refine evs_at (at_cut (J := []) (c := c_Point) (l := s1662) (e := 36) (g := 500000) (hi := (isub (s1662.length : Int) 1)) (k2 := .i64) (by kernel_rfl) (by kernel_rfl) rfl hl1706) ?_
     refine z6 1 (by kernel_rfl) (fun τ hτ => ?_)
     refine bl_normal ?_
     obtain rfl := Option.some.inj h
     exact lk_nextS hτ (here (by kernel_rfl))
    ·replace h := iteF hb h
     refine sem_exitS 2 (by kernel_rfl) rfl (fun τ hτ => ?_)
     refine th_exit ?_
     obtain rfl := Option.some.inj h
     exact lk_outS hτ rfl (here (by kernel_rfl))
   ·intro x
    rfl
   ·intro τ hτ
    refine bl_hit (by kernel_rfl) ?_
    refine th_normalS hτ ⟨[(3, (.row (.top 500000) 36)), (5, (.ptr 500001 0)), (6, (.sl (List.map c_Point l))), (7, (vI (l.length : Int))), (8, (vI s1141.1))], [(500000, .row 36 [] (List.map c_Point x1707)), (500001, .box [(vI x1569.X.A), (vI x1569.X.B), (vI x1569.Y.A), (vI x1569.Y.B)])]⟩ (here (by kernel_rfl)) ?_
    refine sem_region (by kernel_rfl) ?_
    refine evs_run 3 (by kernel_rfl) ?_
    obtain ⟨l1709, hl1709, h⟩ := bindS h
    refine evs_op (st_app (c := c_Point) (l := x1707) (l2 := [x1569]) (x := (.sl (List.map c_Point [x1569]))) (g := 500000) (e := 36) (sz := 4) (d := 40) (by kernel_rfl) (by kernel_rfl) (by kernel_rfl) (by kernel_rfl) (fun _ => rfl) rfl hl1709) ?_
    refine z6 1 (by kernel_rfl) (fun τ hτ => ?_)
    refine bl_normal ?_
    refine th_normalS hτ ⟨[(3, (.row (.top 500000) 36)), (6, (.sl (List.map c_Point l))), (7, (vI (l.length : Int))), (8, (vI s1141.1))], [(500000, .row 36 [] (List.map c_Point l1709))]⟩ (here (by kernel_rfl)) ?_
    refine sem_region (by kernel_rfl) ?_
    refine z6 2 (by kernel_rfl) (fun τ hτ => ?_)
    obtain rfl := Option.some.inj h
    exact lk_nextS hτ (here (by kernel_rfl))
  ·replace h := iteF hb h
   refine sem_exitS 0 (by kernel_rfl) rfl (fun τ hτ => ?_)
   refine th_exit ?_
   obtain rfl := Option.some.inj h
   exact lk_outS hτ rfl (here (by kernel_rfl))
 ·intro x
  rfl
 ·intro τ hτ
  refine bl_hit (by kernel_rfl) ?_
  refine th_normalS hτ ⟨[(3, (.row (.top 500000) 36))], [(500000, .row 36 [] (List.map c_Point x1710))]⟩ (here (by kernel_rfl)) ?_
  refine z8 2 ⟨[(2, (.row (.top 500000) 36))], [(500000, .row 36 [] (List.map c_Point x1710))]⟩ (by kernel_rfl) (fun τ hτ => ?_)
  obtain rfl := Option.some.inj h
  exact rk_ret hτ [(2, (.row (.top 0) 36))] (subR_prep [] [(500000, 0)] (by kernel_rfl) rfl rfl (by kernel_rfl)) (by kernel_rfl)
theorem W.slices_Reverse_Lapi_Point_api_Point_ok {h0 : (List Point)} {r : (List Point)} (h : slices_Reverse_Lapi_Point_api_Point h0 = some r) : PC G.P 108 [(.row (.top 1000000) 36)] [(1000000, .row 36 [] (List.map c_Point h0))] (.tup []) [(1000000, .row 36 [] (List.map c_Point r))] := by
 refine pc_of G (fn := Try.f108) Try.func108 (by kernel_rfl) (by kernel_rfl) (by kernel_rfl) (by kernel_rfl) (by kernel_rfl) ?_
 refine sem_set ⟨[(0, (.row (.top 1000000) 36))], [(1000000, .row 36 [] (List.map c_Point h0))]⟩ (by kernel_rfl) ?_
 refine z7 (by kernel_rfl) ?_
 refine evs_run 1 (by kernel_rfl) ?_
 refine evs_op (st_len (c := c_Point) (l := h0) (x := (.row (.top 1000000) 36)) (by kernel_rfl) (by kernel_rfl)) ?_
 refine z1 3 ⟨[(0, (.row (.top 1000000) 36)), (2, (vI 0)), (3, (vI (isub (h0.length : Int) 1)))], [(1000000, .row 36 [] (List.map c_Point h0))]⟩ (by kernel_rfl) ?_
 refine sem_block (by kernel_rfl) ?_
 obtain ⟨x75, hx75, h⟩ := bindS h
 refine sem_loopS (fun (s26 : Int × Int × (List Point)) => ⟨[(0, (.row (.top 1000000) 36)), (2, (vI s26.1)), (3, (vI s26.2.1))], [(1000000, .row 36 [] (List.map c_Point s26.2.2))]⟩) (fun (x75 : (List Point)) => (.exit 0, ⟨[], [(1000000, .row 36 [] (List.map c_Point x75))]⟩)) (slices_Reverse_Lapi_Point_api_Point_l1) (0, (isub (h0.length : Int) 1), h0) x75 (by kernel_rfl) (here (by kernel_rfl)) hx75 ?_ ?_ ?_
 ·intro s26 r h
  refine sem_seq (by kernel_rfl) ?_
  refine z3 3 ⟨[(0, (.row (.top 1000000) 36)), (2, (vI s26.1)), (3, (vI s26.2.1)), (9, (vB (decide (s26.1 < s26.2.1))))], [(1000000, .row 36 [] (List.map c_Point s26.2.2))]⟩ (by kernel_rfl) ?_
  refine sem_cond (decide (s26.1 < s26.2.1)) (by kernel_rfl) (by kernel_rfl) (fun hb => ?_) (fun hb => ?_)
  ·replace h := iteT hb h
   refine z4 ⟨[(0, (.row (.top 1000000) 36)), (2, (vI s26.1)), (3, (vI s26.2.1))], [(1000000, .row 36 [] (List.map c_Point s26.2.2))]⟩ (by kernel_rfl) ?_
   refine sem_seq (by kernel_rfl) ?_
   refine sem_block (by kernel_rfl) ?_
   refine sem_drawN [(13, [1000000])] [] [] [(2, [1000000]), (3, [1000000])] [] 14 (by kernel_rfl) (by kernel_rfl) (by kernel_rfl) ?_
   refine evd_run 6 (by kernel_rfl) ?_
   obtain ⟨x71, hx71, h⟩ := bindS h
   refine evd_val (by kernel_rfl) (st_idxO (c := c_Point) (l := s26.2.2) (i := s26.2.1) (kd := .i64) (kk := (.top 1000000)) (e := 36) (sz := 4) (by kernel_rfl) (by kernel_rfl) hx71 rfl) (by kernel_rfl) (by kernel_rfl) ?_
   refine evd_val (by kernel_rfl) (st_ldO (c := c_Point) (l := s26.2.2) (i := (Int.toNat s26.2.1)) (v := (.agg [(vI x71.X.A), (vI x71.X.B), (vI x71.Y.A), (vI x71.Y.B)])) (agg := true) (sz := 4) (kk := (.top 1000000)) (e := 36) (off := 0) (J := []) (by kernel_rfl) (by kernel_rfl) (by kernel_rfl) ((idxS hx71).2) (by kernel_rfl)) (by kernel_rfl) (by kernel_rfl) ?_
   refine evd_run 2 (by kernel_rfl) ?_
   obtain ⟨x72, hx72, h⟩ := bindS h
   refine evd_val (by kernel_rfl) (st_idxO (c := c_Point) (l := s26.2.2) (i := s26.1) (kd := .i64) (kk := (.top 1000000)) (e := 36) (sz := 4) (by kernel_rfl) (by kernel_rfl) hx72 rfl) (by kernel_rfl) (by kernel_rfl) ?_
   refine evd_val (by kernel_rfl) (st_ldO (c := c_Point) (l := s26.2.2) (i := (Int.toNat s26.1)) (v := (.agg [(vI x72.X.A), (vI x72.X.B), (vI x72.Y.A), (vI x72.Y.B)])) (agg := true) (sz := 4) (kk := (.top 1000000)) (e := 36) (off := 0) (J := []) (by kernel_rfl) (by kernel_rfl) (by kernel_rfl) ((idxS hx72).2) (by kernel_rfl)) (by kernel_rfl) (by kernel_rfl) ?_
   obtain ⟨x73, hx73, h⟩ := bindS h
   refine evd_val (by kernel_rfl) (st_idxO (c := c_Point) (l := s26.2.2) (i := s26.1) (kd := .i64) (kk := (.top 1000000)) (e := 36) (sz := 4) (by kernel_rfl) (by kernel_rfl) hx73 rfl) (by kernel_rfl) (by kernel_rfl) ?_
   refine evd_set (by kernel_rfl) (st_stO (c := c_Point) (l := s26.2.2) (i := (Int.toNat s26.1)) (x := x73) (x' := x71) (v := (.agg [(vI x71.X.A), (vI x71.X.B), (vI x71.Y.A), (vI x71.Y.B)])) (agg := true) (sz := 4) (kk := (.top 1000000)) (e := 36) (off := 0) (J := []) (o := .row 36 [] (List.map c_Point (List.set s26.2.2 (Int.toNat s26.1) x71))) (by kernel_rfl) (by kernel_rfl) (by kernel_rfl) ((idxS hx73).2) (by kernel_rfl) (by kernel_rfl) (by kernel_rfl)) (by kernel_rfl) (by kernel_rfl) (by kernel_rfl) ?_
   refine evd_end (by kernel_rfl) ?_
   obtain ⟨x74, hx74, h⟩ := bindS h
   refine evo_op (st_idxO (c := c_Point) (l := (List.set s26.2.2 (Int.toNat s26.1) x71)) (i := s26.2.1) (kd := .i64) (kk := (.top 1000000)) (e := 36) (sz := 4) (by kernel_rfl) (by kernel_rfl) hx74 rfl) ?_
   refine evo_op (st_stO (c := c_Point) (l := (List.set s26.2.2 (Int.toNat s26.1) x71)) (i := (Int.toNat s26.2.1)) (x := x74) (x' := x72) (v := (.agg [(vI x72.X.A), (vI x72.X.B), (vI x72.Y.A), (vI x72.Y.B)])) (agg := true) (sz := 4) (kk := (.top 1000000)) (e := 36) (off := 0) (J := []) (o := .row 36 [] (List.map c_Point (List.set (List.set s26.2.2 (Int.toNat s26.1) x71) (Int.toNat s26.2.1) x72))) (by kernel_rfl) (by kernel_rfl) (by kernel_rfl) ((idxS hx74).2) (by kernel_rfl) (by kernel_rfl) (by kernel_rfl)) ?_
   refine evo_endS (by kernel_rfl) (fun τ hτ => ?_)
   refine bl_normal ?_
   refine th_normalS hτ ⟨[(0, (.row (.top 1000000) 36)), (2, (vI s26.1)), (3, (vI s26.2.1))], [(1000000, .row 36 [] (List.map c_Point (List.set (List.set s26.2.2 (Int.toNat s26.1) x71) (Int.toNat s26.2.1) x72)))]⟩ (here (by kernel_rfl)) ?_
   refine sem_region (by kernel_rfl) ?_
   refine z6 6 (by kernel_rfl) (fun τ hτ => ?_)
   obtain rfl := Option.some.inj h
   exact lk_nextS hτ (here (by kernel_rfl))
  ·replace h := iteF hb h
   refine sem_exitS 0 (by kernel_rfl) rfl (fun τ hτ => ?_)
   refine th_exit ?_
   obtain rfl := Option.some.inj h
   exact lk_outS hτ rfl (here (by kernel_rfl))
 ·intro x
  rfl
 ·intro τ hτ
  refine bl_hit (by kernel_rfl) ?_
  obtain rfl := Option.some.inj h
  exact rk_normal hτ [] (here (by kernel_rfl)) (by kernel_rfl)
theorem W.geom_hull_ok {l : (List Point)} {r : (List Point)} (h : geom_hull l = some r) : PC G.P 78 [(.sl (List.map c_Point l))] [] (.row (.top 0) 36) [(0, .row 36 [] (List.map c_Point r))] := by
 refine pc_of G (fn := Try.f78) Try.func78 (by kernel_rfl) (by kernel_rfl) (by kernel_rfl) (by kernel_rfl) (by kernel_rfl) ?_
 refine sem_set ⟨[(0, (.sl (List.map c_Point l)))], []⟩ (by kernel_rfl) ?_
 refine z3 1 ⟨[(0, (.sl (List.map c_Point l)))], []⟩ (by kernel_rfl) ?_
 refine z7 (by kernel_rfl) ?_
 refine evs_run 1 (by kernel_rfl) ?_
 obtain ⟨r2, hr2, h⟩ := bindS h
 refine evs_callS [] [(0, 700050)] [] (by kernel_rfl) (W.geom_sorted_api_Point__geom_comparePoints_ok hr2) (by kernel_rfl) (by kernel_rfl) (.inl rfl) ?_
 refine z1 1 ⟨[(0, (.row (.top 700050) 36))], [(700050, .row 36 [] (List.map c_Point r2))]⟩ (by kernel_rfl) ?_
 refine sem_seq (by kernel_rfl) ?_
 refine z7 (by kernel_rfl) ?_
 refine evs_run 1 (by kernel_rfl) ?_
 refine evs_op (st_len (c := c_Point) (l := r2) (x := (.row (.top 700050) 36)) (by kernel_rfl) (by kernel_rfl)) ?_
 refine z1 1 ⟨[(0, (.row (.top 700050) 36)), (9, (vB (decide ((r2.length : Int) < 3))))], [(700050, .row 36 [] (List.map c_Point r2))]⟩ (by kernel_rfl) ?_
 refine sem_cond (decide ((r2.length : Int) < 3)) (by kernel_rfl) (by kernel_rfl) (fun hb => ?_) (fun hb => ?_)
 ·replace h := iteT hb h
  refine z8 2 ⟨[(2, (.row (.top 700050) 36))], [(700050, .row 36 [] (List.map c_Point r2))]⟩ (by kernel_rfl) (fun τ hτ => ?_)
  refine th_ret ?_
  obtain rfl := Option.some.inj h
  exact rk_ret hτ [(2, (.row (.top 0) 36))] (subR_prep [] [(700050, 0)] (by kernel_rfl) rfl rfl (by kernel_rfl)) (by kernel_rfl)
 ·replace h := iteF hb h
  refine z4 ⟨[(0, (.row (.top 700050) 36))], [(700050, .row 36 [] (List.map c_Point r2))]⟩ (by kernel_rfl) ?_
  refine z7 (by kernel_rfl) ?_
  refine evs_run 1 (by kernel_rfl) ?_
  obtain ⟨r4, hr4, h⟩ := bindS h
  refine evs_callS [] [(0, 700051)] [700050] (by kernel_rfl) (W.geom_half_ok hr4) (by kernel_rfl) (by kernel_rfl) (.inr ⟨rfl, fun _ _ => ind_cons (ind_row fun _ => rfl) (fun _ _ => ind_nil)⟩) ?_
  refine z1 1 ⟨[(0, (.row (.top 700050) 36)), (3, (.row (.top 700051) 36))], [(700050, .row 36 [] (List.map c_Point r2)), (700051, .row 36 [] (List.map c_Point r4))]⟩ (by kernel_rfl) ?_
  refine z7 (by kernel_rfl) ?_
  refine evs_run 1 (by kernel_rfl) ?_
  obtain ⟨r6, hr6, h⟩ := bindS h
  refine evs_callS [(1000000, 700050)] [] [] (by kernel_rfl) (W.slices_Reverse_Lapi_Point_api_Point_ok hr6) (by kernel_rfl) (by kernel_rfl) (.inl rfl) ?_
  refine evs_endS (by kernel_rfl) (fun τ hτ => ?_)
  refine th_normalS hτ ⟨[(0, (.row (.top 700050) 36)), (3, (.row (.top 700051) 36))], [(700050, .row 36 [] (List.map c_Point r6)), (700051, .row 36 [] (List.map c_Point r4))]⟩ (here (by kernel_rfl)) ?_
  refine z7 (by kernel_rfl) ?_
  refine evs_run 1 (by kernel_rfl) ?_
  obtain ⟨r8, hr8, h⟩ := bindS h
  refine evs_callS [] [(0, 700052)] [700050] (by kernel_rfl) (W.geom_half_ok hr8) (by kernel_rfl) (by kernel_rfl) (.inr ⟨rfl, fun _ _ => ind_cons (ind_row fun _ => rfl) (fun _ _ => ind_nil)⟩) ?_
  refine z1 1 ⟨[(3, (.row (.top 700051) 36)), (4, (.row (.top 700052) 36))], [(700051, .row 36 [] (List.map c_Point r4)), (700052, .row 36 [] (List.map c_Point r8))]⟩ (by kernel_rfl) ?_
  refine sem_seq (by kernel_rfl) ?_
  refine sem_prep [.frz 700052] (by kernel_rfl) ?_
  refine sem_draw [(4, [700051, 600004])] [(4, [600004])] [] [(5, [700051, 600004]), (6, [700051, 600004]), (7, [700051, 600004]), (8, [700051, 600004]), (9, [700051, 600004])] [(0, [600004]), (1, [600004]), (2, [600004]), (3, [600004]), (5, [600004]), (6, [600004]), (7, [600004]), (8, [600004]), (9, [600004])] 10 (by kernel_rfl) (by kernel_rfl) [600004] (by kernel_rfl) (by kernel_rfl) ?_
  refine evd_run 2 (by kernel_rfl) ?_
  refine evd_val (by kernel_rfl) (st_len (c := c_Point) (l := r4) (x := (.row (.top 700051) 36)) (by kernel_rfl) (by kernel_rfl)) (by kernel_rfl) (by kernel_rfl) ?_
  refine evd_run 1 (by kernel_rfl) ?_
  obtain ⟨l16, hl16, h⟩ := bindS h
  refine evd_cut (J := []) (c := c_Point) (l := r4) (e := 36) (g := 700051) (g2 := 600004) (hi := (isub (r4.length : Int) 1)) (k2 := .i64) (by kernel_rfl) (by kernel_rfl) (by kernel_rfl) hl16 (by kernel_rfl) (by kernel_rfl) (by kernel_rfl) (by kernel_rfl) (by kernel_rfl) ?_
  refine evd_run 2 (by kernel_rfl) ?_
  refine evd_val (by kernel_rfl) (st_len (c := c_Point) (l := r8) (x := (.sl (List.map c_Point r8))) (by kernel_rfl) (by kernel_rfl)) (by kernel_rfl) (by kernel_rfl) ?_
  refine evd_run 1 (by kernel_rfl) ?_
  obtain ⟨l17, hl17, h⟩ := bindS h
  refine evd_val (by kernel_rfl) (st_slH (c := c_Point) (l := r8) (sz := 4) (hi := (isub (r8.length : Int) 1)) (k2 := .i64) (by kernel_rfl) hl17) (by kernel_rfl) (by kernel_rfl) ?_
  refine evd_end (by kernel_rfl) ?_
  obtain ⟨l18, hl18, h⟩ := bindS h
  refine evo_op (st_app (c := c_Point) (l := l16) (l2 := l17) (x := (.sl (List.map c_Point l17))) (g := 600004) (e := 36) (sz := 4) (d := 27) (by kernel_rfl) (by kernel_rfl) (by kernel_rfl) (by kernel_rfl) (fun _ => rfl) rfl hl18) ?_
  refine evo_run 1 (by kernel_rfl) ?_
  refine evo_endS (by kernel_rfl) (fun τ hτ => ?_)
  refine th_normalS hτ ⟨[(2, (.row (.top 600004) 36))], [(600004, .row 36 [] (List.map c_Point l18))]⟩ (here (by kernel_rfl)) ?_
  refine sem_retS (by kernel_rfl) (fun τ hτ => ?_)
  obtain rfl := Option.some.inj h
  exact rk_ret hτ [(2, (.row (.top 0) 36))] (subR_prep [] [(600004, 0)] (by kernel_rfl) rfl rfl (by kernel_rfl)) (by kernel_rfl)
theorem W.geom_Hull_ok {l : (List Point)} {r : (List Point) × Int} (h : geom_Hull l = some r) : PC G.P 38 [(.sl (List.map c_Point l))] [] (.tup [(.row (.top 0) 36), (vI r.2)]) [(0, .row 36 [] (List.map c_Point r.1))] := by
 refine pc_of G (fn := Try.f38) Try.func38 (by kernel_rfl) (by kernel_rfl) (by kernel_rfl) (by kernel_rfl) (by kernel_rfl) ?_
 refine sem_set ⟨[(0, (.sl (List.map c_Point l)))], []⟩ (by kernel_rfl) ?_
 refine z3 2 ⟨[(0, (.sl (List.map c_Point l)))], []⟩ (by kernel_rfl) ?_
 refine sem_seq (by kernel_rfl) ?_
 refine z7 (by kernel_rfl) ?_
 refine evs_run 1 (by kernel_rfl) ?_
 obtain ⟨r4, hr4, h⟩ := bindS h
 refine evs_callP [] (by kernel_rfl) (W.geom_points_ok hr4) (by kernel_rfl) (.inl rfl) (by kernel_rfl) ?_
 refine z1 1 ⟨[(0, (.sl (List.map c_Point l))), (4, (vI r4))], []⟩ (by kernel_rfl) ?_
 refine z3 2 ⟨[(0, (.sl (List.map c_Point l))), (4, (vI r4)), (8, (vB (r4 != 0)))], []⟩ (by kernel_rfl) ?_
 refine sem_cond (r4 != 0) (by kernel_rfl) (by kernel_rfl) (fun hb => ?_) (fun hb => ?_)
 ·replace h := iteT hb h
  refine z8 3 ⟨[(2, (.row (.top 2) 36)), (3, (vI r4))], [(2, .row 36 [] (List.map c_Point []))]⟩ (by kernel_rfl) (fun τ hτ => ?_)
  refine th_ret ?_
  obtain rfl := Option.some.inj h
  exact rk_ret hτ [(2, (.row (.top 0) 36)), (3, (vI r4))] (subR_prep [] [(2, 0)] (by kernel_rfl) rfl rfl (by kernel_rfl)) (by kernel_rfl)
 ·replace h := iteF hb h
  refine z4 ⟨[(0, (.sl (List.map c_Point l)))], []⟩ (by kernel_rfl) ?_
  refine z7 (by kernel_rfl) ?_
  refine evs_run 1 (by kernel_rfl) ?_
  obtain ⟨r6, hr6, h⟩ := bindS h
  refine evs_callS [] [(0, 700050)] [] (by kernel_rfl) (W.geom_hull_ok hr6) (by kernel_rfl) (by kernel_rfl) (.inl rfl) ?_
  refine z1 2 ⟨[(2, (.row (.top 700050) 36)), (3, (vI 0))], [(700050, .row 36 [] (List.map c_Point r6))]⟩ (by kernel_rfl) ?_
  refine sem_retS (by kernel_rfl) (fun τ hτ => ?_)
  obtain rfl := Option.some.inj h
  exact rk_ret hτ [(2, (.row (.top 0) 36)), (3, (vI 0))] (subR_prep [] [(700050, 0)] (by kernel_rfl) rfl rfl (by kernel_rfl)) (by kernel_rfl)
theorem W.geom_outside_ok {a : Point} {b : Point} {l : (List Point)} {r : Bool} (h : geom_outside a b l = some r) : PC G.P 113 [(.agg [(vI a.X.A), (vI a.X.B), (vI a.Y.A), (vI a.Y.B)]), (.agg [(vI b.X.A), (vI b.X.B), (vI b.Y.A), (vI b.Y.B)]), (.sl (List.map c_Point l))] [] (vB r) [] := by
 refine pc_of G (fn := Try.f113) Try.func113 (by kernel_rfl) (by kernel_rfl) (by kernel_rfl) (by kernel_rfl) (by kernel_rfl) ?_
 refine sem_set ⟨[(0, (.agg [(vI a.X.A), (vI a.X.B), (vI a.Y.A), (vI a.Y.B)])), (1, (.agg [(vI b.X.A), (vI b.X.B), (vI b.Y.A), (vI b.Y.B)])), (2, (.sl (List.map c_Point l)))], []⟩ (by kernel_rfl) ?_
 refine z3 3 ⟨[(2, (.sl (List.map c_Point l))), (3, (.ptr 3 0)), (4, (.ptr 4 0))], [(3, .box [(vI a.X.A), (vI a.X.B), (vI a.Y.A), (vI a.Y.B)]), (4, .box [(vI b.X.A), (vI b.X.B), (vI b.Y.A), (vI b.Y.B)])]⟩ (by kernel_rfl) ?_
 refine sem_seq (by kernel_rfl) ?_
 refine z7 (by kernel_rfl) ?_
 refine evs_run 1 (by kernel_rfl) ?_
 refine evs_op (st_len (c := c_Point) (l := l) (x := (.sl (List.map c_Point l))) (by kernel_rfl) (by kernel_rfl)) ?_
 refine z1 1 ⟨[(3, (.ptr 3 0)), (4, (.ptr 4 0)), (9, (.sl (List.map c_Point l))), (10, (vI (l.length : Int))), (11, (vI 0))], [(3, .box [(vI a.X.A), (vI a.X.B), (vI a.Y.A), (vI a.Y.B)]), (4, .box [(vI b.X.A), (vI b.X.B), (vI b.Y.A), (vI b.Y.B)])]⟩ (by kernel_rfl) ?_
 refine sem_block (by kernel_rfl) ?_
 obtain ⟨x56, hx56, h⟩ := bindS h
 refine sem_loopS (fun (s39 : Int) => ⟨[(3, (.ptr 500000 0)), (4, (.ptr 500001 0)), (9, (.sl (List.map c_Point l))), (10, (vI (l.length : Int))), (11, (vI s39))], [(500000, .box [(vI a.X.A), (vI a.X.B), (vI a.Y.A), (vI a.Y.B)]), (500001, .box [(vI b.X.A), (vI b.X.B), (vI b.Y.A), (vI b.Y.B)])]⟩) (fun (x56 : Unit ⊕ Unit) => match x56 with | .inl j57 => (.ret, ⟨[(6, (vB false))], []⟩) | .inr j58 => (.exit 0, ⟨[], []⟩)) (geom_outside_l1 a b l) 0 x56 (by kernel_rfl) (subR_prep [] [(3, 500000), (4, 500001)] (by kernel_rfl) rfl rfl (by kernel_rfl)) hx56 ?_ ?_ ?_
 ·intro s39 r h
  refine z3 1 ⟨[(3, (.ptr 500000 0)), (4, (.ptr 500001 0)), (9, (.sl (List.map c_Point l))), (10, (vI (l.length : Int))), (11, (vI s39)), (12, (vB (decide (s39 < (l.length : Int)))))], [(500000, .box [(vI a.X.A), (vI a.X.B), (vI a.Y.A), (vI a.Y.B)]), (500001, .box [(vI b.X.A), (vI b.X.B), (vI b.Y.A), (vI b.Y.B)])]⟩ (by kernel_rfl) ?_
  refine sem_seq (by kernel_rfl) ?_
  refine sem_cond (decide (s39 < (l.length : Int))) (by kernel_rfl) (by kernel_rfl) (fun hb => ?_) (fun hb => ?_)
  ·replace h := iteT hb h
   refine z4 ⟨[(3, (.ptr 500000 0)), (4, (.ptr 500001 0)), (9, (.sl (List.map c_Point l))), (10, (vI (l.length : Int))), (11, (vI s39))], [(500000, .box [(vI a.X.A), (vI a.X.B), (vI a.Y.A), (vI a.Y.B)]), (500001, .box [(vI b.X.A), (vI b.X.B), (vI b.Y.A), (vI b.Y.B)])]⟩ (by kernel_rfl) ?_
   refine sem_seq (by kernel_rfl) ?_
   refine sem_block (by kernel_rfl) ?_
   refine z7 (by kernel_rfl) ?_
   obtain ⟨x53, hx53, h⟩ := bindS h
   refine evs_op (st_idx (c := c_Point) (l := l) (i := s39) (kd := .i64) (sz := 4) (by kernel_rfl) hx53 rfl) ?_
   refine z1 3 ⟨[(3, (.ptr 500000 0)), (4, (.ptr 500001 0)), (8, (.ptr 8 0)), (9, (.sl (List.map c_Point l))), (10, (vI (l.length : Int))), (11, (vI s39))], [(8, .box [(vI x53.X.A), (vI x53.X.B), (vI x53.Y.A), (vI x53.Y.B)]), (500000, .box [(vI a.X.A), (vI a.X.B), (vI a.Y.A), (vI a.Y.B)]), (500001, .box [(vI b.X.A), (vI b.X.B), (vI b.Y.A), (vI b.Y.B)])]⟩ (by kernel_rfl) ?_
   refine z7 (by kernel_rfl) ?_
   refine evs_run 3 (by kernel_rfl) ?_
   obtain ⟨r55, hr55, h⟩ := bindS h
   refine evs_callP [] (by kernel_rfl) (W.geom_orient_ok hr55) (by kernel_rfl) (.inl rfl) (by kernel_rfl) ?_
   refine z1 1 ⟨[(3, (.ptr 500000 0)), (4, (.ptr 500001 0)), (9, (.sl (List.map c_Point l))), (10, (vI (l.length : Int))), (11, (vI s39)), (19, (vB (decide (r55 > 0))))], [(500000, .box [(vI a.X.A), (vI a.X.B), (vI a.Y.A), (vI a.Y.B)]), (500001, .box [(vI b.X.A), (vI b.X.B), (vI b.Y.A), (vI b.Y.B)])]⟩ (by kernel_rfl) ?_
   refine sem_cond (decide (r55 > 0)) (by kernel_rfl) (by kernel_rfl) (fun hb => ?_) (fun hb => ?_)
   ·replace h := iteT hb h
    refine z8 1 ⟨[(6, (vB false))], []⟩ (by kernel_rfl) (fun τ hτ => ?_)
    refine bl_ret ?_
    refine th_ret ?_
    obtain rfl := Option.some.inj h
    exact lk_outS hτ rfl (here (by kernel_rfl))
   ·replace h := iteF hb h
    refine sem_skipS (by kernel_rfl) (fun τ hτ => ?_)
    refine bl_normal ?_
    refine th_normalS hτ ⟨[(3, (.ptr 500000 0)), (4, (.ptr 500001 0)), (9, (.sl (List.map c_Point l))), (10, (vI (l.length : Int))), (11, (vI s39))], [(500000, .box [(vI a.X.A), (vI a.X.B), (vI a.Y.A), (vI a.Y.B)]), (500001, .box [(vI b.X.A), (vI b.X.B), (vI b.Y.A), (vI b.Y.B)])]⟩ (here (by kernel_rfl)) ?_
    refine sem_region (by kernel_rfl) ?_
    refine z6 2 (by kernel_rfl) (fun τ hτ => ?_)
    obtain rfl := Option.some.inj h
    exact lk_nextS hτ (here (by kernel_rfl))
  ·replace h := iteF hb h
   refine sem_exitS 0 (by kernel_rfl) rfl (fun τ hτ => ?_)
   refine th_exit ?_
   obtain rfl := Option.some.inj h
   exact lk_outS hτ rfl (here (by kernel_rfl))
 ·intro x
  rcases x with _ | _ <;> rfl
 ·intro τ hτ
  rcases x56 with j57 | j58
  ·refine bl_ret ?_
   refine th_ret ?_
   obtain rfl := Option.some.inj h
   exact rk_ret hτ [(6, (vB false))] (here (by kernel_rfl)) (by kernel_rfl)
  ·refine bl_hit (by kernel_rfl) ?_
   refine th_normalS hτ ⟨[], []⟩ (here (by kernel_rfl)) ?_
   refine z8 1 ⟨[(6, (vB true))], []⟩ (by kernel_rfl) (fun τ hτ => ?_)
   obtain rfl := Option.some.inj h
   exact rk_ret hτ [(6, (vB true))] (here (by kernel_rfl)) (by kernel_rfl)
theorem W.geom_apart_ok {a : (List Point)} {b : (List Point)} {r : Bool} (h : geom_apart a b = some r) : PC G.P 93 [(.sl (List.map c_Point a)), (.sl (List.map c_Point b))] [] (vB r) [] := by
 refine pc_of G (fn := Try.f93) Try.func93 (by kernel_rfl) (by kernel_rfl) (by kernel_rfl) (by kernel_rfl) (by kernel_rfl) ?_
 refine sem_set ⟨[(0, (.sl (List.map c_Point a))), (1, (.sl (List.map c_Point b)))], []⟩ (by kernel_rfl) ?_
 refine z3 1 ⟨[(0, (.sl (List.map c_Point a))), (1, (.sl (List.map c_Point b)))], []⟩ (by kernel_rfl) ?_
 refine sem_seq (by kernel_rfl) ?_
 refine z7 (by kernel_rfl) ?_
 refine evs_run 1 (by kernel_rfl) ?_
 refine evs_op (st_len (c := c_Point) (l := a) (x := (.sl (List.map c_Point a))) (by kernel_rfl) (by kernel_rfl)) ?_
 refine z1 1 ⟨[(0, (.sl (List.map c_Point a))), (1, (.sl (List.map c_Point b))), (8, (vI (a.length : Int))), (9, (vI 0))], []⟩ (by kernel_rfl) ?_
 refine sem_block (by kernel_rfl) ?_
 obtain ⟨x152, hx152, h⟩ := bindS h
 refine sem_loopS (fun (s103 : Int) => ⟨[(0, (.sl (List.map c_Point a))), (1, (.sl (List.map c_Point b))), (8, (vI (a.length : Int))), (9, (vI s103))], []⟩) (fun (x152 : Unit ⊕ Unit) => match x152 with | .inl j153 => (.ret, ⟨[(4, (vB true))], []⟩) | .inr j154 => (.exit 0, ⟨[], []⟩)) (geom_apart_l1 a b) 0 x152 (by kernel_rfl) (here (by kernel_rfl)) hx152 ?_ ?_ ?_
 ·intro s103 r h
  refine z3 1 ⟨[(0, (.sl (List.map c_Point a))), (1, (.sl (List.map c_Point b))), (8, (vI (a.length : Int))), (9, (vI s103)), (10, (vB (decide (s103 < (a.length : Int)))))], []⟩ (by kernel_rfl) ?_
  refine sem_seq (by kernel_rfl) ?_
  refine sem_cond (decide (s103 < (a.length : Int))) (by kernel_rfl) (by kernel_rfl) (fun hb => ?_) (fun hb => ?_)
  ·replace h := iteT hb h
   refine z4 ⟨[(0, (.sl (List.map c_Point a))), (1, (.sl (List.map c_Point b))), (8, (vI (a.length : Int))), (9, (vI s103))], []⟩ (by kernel_rfl) ?_
   refine sem_seq (by kernel_rfl) ?_
   refine sem_block (by kernel_rfl) ?_
   refine z3 2 ⟨[(0, (.sl (List.map c_Point a))), (1, (.sl (List.map c_Point b))), (5, (vI s103)), (8, (vI (a.length : Int))), (9, (vI s103))], []⟩ (by kernel_rfl) ?_
   refine z7 (by kernel_rfl) ?_
   refine evs_run 4 (by kernel_rfl) ?_
   refine evs_op (st_len (c := c_Point) (l := a) (x := (.sl (List.map c_Point a))) (by kernel_rfl) (by kernel_rfl)) ?_
   obtain ⟨hb, h⟩ := iteN h
   refine evs_op (st_rem (a := (iadd s103 1)) (b := (a.length : Int)) (kd := .i64) (by kernel_rfl) (bne_iff_ne.1 hb)) ?_
   obtain ⟨x141, hx141, h⟩ := bindS h
   refine evs_op (st_idx (c := c_Point) (l := a) (i := (Int.tmod (iadd s103 1) (a.length : Int))) (kd := .i64) (sz := 4) (by kernel_rfl) hx141 rfl) ?_
   refine z1 3 ⟨[(0, (.sl (List.map c_Point a))), (1, (.sl (List.map c_Point b))), (5, (vI s103)), (6, (.ptr 6 0)), (8, (vI (a.length : Int))), (9, (vI s103))], [(6, .box [(vI x141.X.A), (vI x141.X.B), (vI x141.Y.A), (vI x141.Y.B)])]⟩ (by kernel_rfl) ?_
   refine sem_seq (by kernel_rfl) ?_
   obtain ⟨j148, hj148, h⟩ := bindS h
   refine sem_drawP ⟨[(0, (.sl (List.map c_Point a))), (1, (.sl (List.map c_Point b))), (8, (vI (a.length : Int))), (9, (vI s103)), (34, (vB j148))], []⟩ [] [] [] [] [] 13 (by kernel_rfl) (by kernel_rfl) (by kernel_rfl) ?_ (fun τ hτ => ?_)
   ·replace h := hj148
    refine evd_run 3 (by kernel_rfl) ?_
    obtain ⟨x149, hx149, h⟩ := bindS h
    refine evd_val (by kernel_rfl) (st_idx (c := c_Point) (l := a) (i := s103) (kd := .i64) (sz := 4) (by kernel_rfl) hx149 rfl) (by kernel_rfl) (by kernel_rfl) ?_
    refine evd_run 3 (by kernel_rfl) ?_
    refine evd_split ((x141.X.A == x149.X.A) && ((x141.X.B == x149.X.B) && ((x141.Y.A == x149.Y.A) && ((x141.Y.B == x149.Y.B) && true)))) (fun b0 => ⟨[(26, (vB (!b0))), (25, (vB (!b0))), (24, (.agg [(vI x149.X.A), (vI x149.X.B), (vI x149.Y.A), (vI x149.Y.B)])), (23, (.vptr [(vI x149.X.A), (vI x149.X.B), (vI x149.Y.A), (vI x149.Y.B)] 0)), (22, (vI s103)), (21, (.sl (List.map c_Point a))), (20, (.agg [(vI x141.X.A), (vI x141.X.B), (vI x141.Y.A), (vI x141.Y.B)])), (0, (.sl (List.map c_Point a))), (1, (.sl (List.map c_Point b))), (5, (vI s103)), (6, (.ptr 6 0)), (8, (vI (a.length : Int))), (9, (vI s103))], [(6, .box [(vI x141.X.A), (vI x141.X.B), (vI x141.Y.A), (vI x141.Y.B)])]⟩) (by kernel_rfl) (fun hb => ?_) (fun hb => ?_)
    ·replace h := iteT hb h
     refine evd_run 6 (by kernel_rfl) ?_
     refine evd_end (by kernel_rfl) ?_
     refine evo_run 2 (by kernel_rfl) ?_
     refine evo_endS (by kernel_rfl) (fun τ hτ => ?_)
     obtain rfl := Option.some.inj h
     exact leafC hτ (here (by kernel_rfl))
    ·replace h := iteF hb h
     refine evd_run 2 (by kernel_rfl) ?_
     obtain ⟨x150, hx150, h⟩ := bindS h
     refine evd_val (by kernel_rfl) (st_idx (c := c_Point) (l := a) (i := s103) (kd := .i64) (sz := 4) (by kernel_rfl) hx150 rfl) (by kernel_rfl) (by kernel_rfl) ?_
     refine evd_run 3 (by kernel_rfl) ?_
     refine evd_end (by kernel_rfl) ?_
     obtain ⟨r151, hr151, h⟩ := bindS h
     refine evo_callP [] (by kernel_rfl) (W.geom_outside_ok hr151) (by kernel_rfl) (.inl rfl) (by kernel_rfl) ?_
     refine evo_run 1 (by kernel_rfl) ?_
     refine evo_endS (by kernel_rfl) (fun τ hτ => ?_)
     obtain rfl := Option.some.inj h
     exact leafC hτ (here (by kernel_rfl))
   refine th_normalS hτ ⟨[(0, (.sl (List.map c_Point a))), (1, (.sl (List.map c_Point b))), (8, (vI (a.length : Int))), (9, (vI s103)), (34, (vB j148))], []⟩ (here (by kernel_rfl)) ?_
   refine sem_cond j148 (by kernel_rfl) (by kernel_rfl) (fun hb => ?_) (fun hb => ?_)
   ·replace h := iteT hb h
    refine z8 1 ⟨[(4, (vB true))], []⟩ (by kernel_rfl) (fun τ hτ => ?_)
    refine bl_ret ?_
    refine th_ret ?_
    obtain rfl := Option.some.inj h
    exact lk_outS hτ rfl (here (by kernel_rfl))
   ·replace h := iteF hb h
    refine sem_skipS (by kernel_rfl) (fun τ hτ => ?_)
    refine bl_normal ?_
    refine th_normalS hτ ⟨[(0, (.sl (List.map c_Point a))), (1, (.sl (List.map c_Point b))), (8, (vI (a.length : Int))), (9, (vI s103))], []⟩ (here (by kernel_rfl)) ?_
    refine sem_region (by kernel_rfl) ?_
    refine z6 2 (by kernel_rfl) (fun τ hτ => ?_)
    obtain rfl := Option.some.inj h
    exact lk_nextS hτ (here (by kernel_rfl))
  ·replace h := iteF hb h
   refine sem_exitS 0 (by kernel_rfl) rfl (fun τ hτ => ?_)
   refine th_exit ?_
   obtain rfl := Option.some.inj h
   exact lk_outS hτ rfl (here (by kernel_rfl))
 ·intro x
  rcases x with _ | _ <;> rfl
 ·intro τ hτ
  rcases x152 with j153 | j154
  ·refine bl_ret ?_
   refine th_ret ?_
   obtain rfl := Option.some.inj h
   exact rk_ret hτ [(4, (vB true))] (here (by kernel_rfl)) (by kernel_rfl)
  ·refine bl_hit (by kernel_rfl) ?_
   refine th_normalS hτ ⟨[], []⟩ (here (by kernel_rfl)) ?_
   refine z8 1 ⟨[(4, (vB false))], []⟩ (by kernel_rfl) (fun τ hτ => ?_)
   obtain rfl := Option.some.inj h
   exact rk_ret hτ [(4, (vB false))] (here (by kernel_rfl)) (by kernel_rfl)
theorem W.geom_Meets_ok {a : (List Point)} {b : (List Point)} {r : Bool × Int} (h : geom_Meets a b = some r) : PC G.P 51 [(.sl (List.map c_Point a)), (.sl (List.map c_Point b))] [] (.tup [(vB r.1), (vI r.2)]) [] := by
 refine pc_of G (fn := Try.f51) Try.func51 (by kernel_rfl) (by kernel_rfl) (by kernel_rfl) (by kernel_rfl) (by kernel_rfl) ?_
 refine sem_set ⟨[(0, (.sl (List.map c_Point a))), (1, (.sl (List.map c_Point b)))], []⟩ (by kernel_rfl) ?_
 refine z3 2 ⟨[(0, (.sl (List.map c_Point a))), (1, (.sl (List.map c_Point b)))], []⟩ (by kernel_rfl) ?_
 refine z7 (by kernel_rfl) ?_
 refine evs_run 1 (by kernel_rfl) ?_
 obtain ⟨r3, hr3, h⟩ := bindS h
 refine evs_callP [] (by kernel_rfl) (W.geom_points_ok hr3) (by kernel_rfl) (.inl rfl) (by kernel_rfl) ?_
 refine evs_run 1 (by kernel_rfl) ?_
 obtain ⟨r4, hr4, h⟩ := bindS h
 refine evs_callP [] (by kernel_rfl) (W.geom_points_ok hr4) (by kernel_rfl) (.inl rfl) (by kernel_rfl) ?_
 refine z1 2 ⟨[(0, (.sl (List.map c_Point a))), (1, (.sl (List.map c_Point b))), (6, (vI r3)), (7, (vI r4))], []⟩ (by kernel_rfl) ?_
 refine sem_seq (by kernel_rfl) ?_
 refine sem_block (by kernel_rfl) ?_
 refine sem_seq (by kernel_rfl) ?_
 obtain ⟨j7, hj7, h⟩ := bindS h
 refine sem_regionC ⟨[(0, (.sl (List.map c_Point a))), (1, (.sl (List.map c_Point b))), (6, (vI r3)), (7, (vI r4)), (14, (vB j7))], []⟩ (by kernel_rfl) ?_ (fun τ hτ => ?_)
 ·replace h := hj7
  refine evs_run 3 (by kernel_rfl) ?_
  refine evs_split (r3 == 1) (fun b0 => ⟨[(0, (.sl (List.map c_Point a))), (1, (.sl (List.map c_Point b))), (6, (vI r3)), (7, (vI r4)), (17, (vB b0))], []⟩) (by kernel_rfl) (fun hb => ?_) (fun hb => ?_)
  ·replace h := iteT hb h
   refine z6 4 (by kernel_rfl) (fun τ hτ => ?_)
   obtain rfl := Option.some.inj h
   exact leafC hτ (here (by kernel_rfl))
  ·replace h := iteF hb h
   refine z6 4 (by kernel_rfl) (fun τ hτ => ?_)
   obtain rfl := Option.some.inj h
   exact leafC hτ (here (by kernel_rfl))
 refine th_normalS hτ ⟨[(0, (.sl (List.map c_Point a))), (1, (.sl (List.map c_Point b))), (6, (vI r3)), (7, (vI r4)), (14, (vB j7))], []⟩ (here (by kernel_rfl)) ?_
 refine sem_cond j7 (by kernel_rfl) (by kernel_rfl) (fun hb => ?_) (fun hb => ?_)
 ·replace h := iteT hb h
  refine z8 2 ⟨[(4, (vB false)), (5, (vI 1))], []⟩ (by kernel_rfl) (fun τ hτ => ?_)
  refine bl_ret ?_
  refine th_ret ?_
  obtain rfl := Option.some.inj h
  exact rk_ret hτ [(4, (vB false)), (5, (vI 1))] (here (by kernel_rfl)) (by kernel_rfl)
 ·replace h := iteF hb h
  refine sem_seq (by kernel_rfl) ?_
  obtain ⟨j8, hj8, h⟩ := bindS h
  refine sem_regionC ⟨[(0, (.sl (List.map c_Point a))), (1, (.sl (List.map c_Point b))), (21, (vB j8))], []⟩ (by kernel_rfl) ?_ (fun τ hτ => ?_)
  ·replace h := hj8
   refine evs_run 3 (by kernel_rfl) ?_
   refine evs_split (r3 != 0) (fun b0 => ⟨[(0, (.sl (List.map c_Point a))), (1, (.sl (List.map c_Point b))), (7, (vI r4)), (24, (vB b0))], []⟩) (by kernel_rfl) (fun hb => ?_) (fun hb => ?_)
   ·replace h := iteT hb h
    refine z6 4 (by kernel_rfl) (fun τ hτ => ?_)
    obtain rfl := Option.some.inj h
    exact leafC hτ (here (by kernel_rfl))
   ·replace h := iteF hb h
    refine z6 4 (by kernel_rfl) (fun τ hτ => ?_)
    obtain rfl := Option.some.inj h
    exact leafC hτ (here (by kernel_rfl))
  refine th_normalS hτ ⟨[(0, (.sl (List.map c_Point a))), (1, (.sl (List.map c_Point b))), (21, (vB j8))], []⟩ (here (by kernel_rfl)) ?_
  refine sem_cond j8 (by kernel_rfl) (by kernel_rfl) (fun hb => ?_) (fun hb => ?_)
  ·replace h := iteT hb h
   refine z8 2 ⟨[(4, (vB false)), (5, (vI 4))], []⟩ (by kernel_rfl) (fun τ hτ => ?_)
   refine bl_ret ?_
   refine th_ret ?_
   obtain rfl := Option.some.inj h
   exact rk_ret hτ [(4, (vB false)), (5, (vI 4))] (here (by kernel_rfl)) (by kernel_rfl)
  ·replace h := iteF hb h
   refine sem_skipS (by kernel_rfl) (fun τ hτ => ?_)
   refine bl_normal ?_
   refine th_normalS hτ ⟨[(0, (.sl (List.map c_Point a))), (1, (.sl (List.map c_Point b)))], []⟩ (here (by kernel_rfl)) ?_
   refine z7 (by kernel_rfl) ?_
   refine evs_run 1 (by kernel_rfl) ?_
   obtain ⟨r11, hr11, h⟩ := bindS h
   refine evs_callS [] [(0, 700050)] [] (by kernel_rfl) (W.geom_hull_ok hr11) (by kernel_rfl) (by kernel_rfl) (.inl rfl) ?_
   refine evs_run 1 (by kernel_rfl) ?_
   obtain ⟨r12, hr12, h⟩ := bindS h
   refine evs_callS [] [(0, 700150)] [] (by kernel_rfl) (W.geom_hull_ok hr12) (by kernel_rfl) (by kernel_rfl) (.inl rfl) ?_
   refine z1 2 ⟨[(8, (.row (.top 700050) 36)), (9, (.row (.top 700150) 36))], [(700050, .row 36 [] (List.map c_Point r11)), (700150, .row 36 [] (List.map c_Point r12))]⟩ (by kernel_rfl) ?_
   refine sem_seq (by kernel_rfl) ?_
   refine z7 (by kernel_rfl) ?_
   refine evs_run 1 (by kernel_rfl) ?_
   refine evs_op (st_len (c := c_Point) (l := r12) (x := (.row (.top 700150) 36)) (by kernel_rfl) (by kernel_rfl)) ?_
   refine z1 1 ⟨[(8, (.row (.top 700050) 36)), (9, (.row (.top 700150) 36)), (34, (vB (decide ((r12.length : Int) < 3))))], [(700050, .row 36 [] (List.map c_Point r11)), (700150, .row 36 [] (List.map c_Point r12))]⟩ (by kernel_rfl) ?_
   refine sem_cond (decide ((r12.length : Int) < 3)) (by kernel_rfl) (by kernel_rfl) (fun hb => ?_) (fun hb => ?_)
   ·replace h := iteT hb h
    refine z8 2 ⟨[(4, (vB false)), (5, (vI 6))], []⟩ (by kernel_rfl) (fun τ hτ => ?_)
    refine th_ret ?_
    obtain rfl := Option.some.inj h
    exact rk_ret hτ [(4, (vB false)), (5, (vI 6))] (here (by kernel_rfl)) (by kernel_rfl)
   ·replace h := iteF hb h
    refine z4 ⟨[(8, (.row (.top 700050) 36)), (9, (.row (.top 700150) 36))], [(700050, .row 36 [] (List.map c_Point r11)), (700150, .row 36 [] (List.map c_Point r12))]⟩ (by kernel_rfl) ?_
    refine sem_seq (by kernel_rfl) ?_
    obtain ⟨j15, hj15, h⟩ := bindS h
    refine sem_regionC ⟨[(4, (vB j15)), (5, (vI 0))], []⟩ (by kernel_rfl) ?_ (fun τ hτ => ?_)
    ·replace h := hj15
     refine evs_run 2 (by kernel_rfl) ?_
     obtain ⟨r16, hr16, h⟩ := bindS h
     refine evs_callP [700150, 700050] (by kernel_rfl) (W.geom_apart_ok hr16) (by kernel_rfl) (.inr rfl) (by kernel_rfl) ?_
     refine evs_run 2 (by kernel_rfl) ?_
     refine evs_split r16 (fun b0 => ⟨[(8, (.row (.top 700050) 36)), (9, (.row (.top 700150) 36)), (39, (vB (!b0)))], [(700050, .row 36 [] (List.map c_Point r11)), (700150, .row 36 [] (List.map c_Point r12))]⟩) (by kernel_rfl) (fun hb => ?_) (fun hb => ?_)
     ·replace h := iteT hb h
      refine z6 7 (by kernel_rfl) (fun τ hτ => ?_)
      obtain rfl := Option.some.inj h
      exact leafC hτ (here (by kernel_rfl))
     ·replace h := iteF hb h
      refine evs_run 2 (by kernel_rfl) ?_
      obtain ⟨r17, hr17, h⟩ := bindS h
      refine evs_callP [700050, 700150] (by kernel_rfl) (W.geom_apart_ok hr17) (by kernel_rfl) (.inr rfl) (by kernel_rfl) ?_
      refine z6 4 (by kernel_rfl) (fun τ hτ => ?_)
      obtain rfl := Option.some.inj h
      exact leafC hτ (here (by kernel_rfl))
    refine th_normalS hτ ⟨[(4, (vB j15)), (5, (vI 0))], []⟩ (here (by kernel_rfl)) ?_
    refine sem_retS (by kernel_rfl) (fun τ hτ => ?_)
    obtain rfl := Option.some.inj h
    exact rk_ret hτ [(4, (vB j15)), (5, (vI 0))] (here (by kernel_rfl)) (by kernel_rfl)
theorem W.sheetmetallaw01_GeomMeetsMore_ok {a : (List Point)} {b : (List Point)} {p : Point} {r : Bool} (h : sheetmetallaw01_GeomMeetsMore a b p = some r) : PC G.P 14 [(.sl (List.map c_Point a)), (.sl (List.map c_Point b)), (.agg [(vI p.X.A), (vI p.X.B), (vI p.Y.A), (vI p.Y.B)])] [] (vB r) [] := by
 refine pc_of G (fn := Try.f14) Try.func14 (by kernel_rfl) (by kernel_rfl) (by kernel_rfl) (by kernel_rfl) (by kernel_rfl) ?_
 refine sem_set ⟨[(0, (.sl (List.map c_Point a))), (1, (.sl (List.map c_Point b))), (2, (.agg [(vI p.X.A), (vI p.X.B), (vI p.Y.A), (vI p.Y.B)]))], []⟩ (by kernel_rfl) ?_
 refine z3 2 ⟨[(0, (.sl (List.map c_Point a))), (1, (.sl (List.map c_Point b))), (5, (.ptr 5 0))], [(5, .box [(vI p.X.A), (vI p.X.B), (vI p.Y.A), (vI p.Y.B)])]⟩ (by kernel_rfl) ?_
 refine sem_seq (by kernel_rfl) ?_
 refine sem_seq (by kernel_rfl) ?_
 obtain ⟨j10, hj10, h⟩ := bindS h
 refine sem_regionC ⟨[(0, (.sl (List.map c_Point a))), (1, (.sl (List.map c_Point b))), (5, (.ptr 500000 0)), (23, (vB j10))], [(500000, .box [(vI p.X.A), (vI p.X.B), (vI p.Y.A), (vI p.Y.B)])]⟩ (by kernel_rfl) ?_ (fun τ hτ => ?_)
 ·replace h := hj10
  refine evs_run 1 (by kernel_rfl) ?_
  obtain ⟨r11, hr11, h⟩ := bindS h
  refine evs_callP [] (by kernel_rfl) (W.sheetmetallaw01_long_ok hr11) (by kernel_rfl) (.inl rfl) (by kernel_rfl) ?_
  refine evs_run 1 (by kernel_rfl) ?_
  refine evs_split r11 (fun b0 => ⟨[(0, (.sl (List.map c_Point a))), (1, (.sl (List.map c_Point b))), (5, (.ptr 5 0)), (20, (vB b0))], [(5, .box [(vI p.X.A), (vI p.X.B), (vI p.Y.A), (vI p.Y.B)])]⟩) (by kernel_rfl) (fun hb => ?_) (fun hb => ?_)
  ·replace h := iteT hb h
   refine z6 3 (by kernel_rfl) (fun τ hτ => ?_)
   obtain rfl := Option.some.inj h
   exact leafC hτ (subR_prep [] [(5, 500000)] (by kernel_rfl) rfl rfl (by kernel_rfl))
  ·replace h := iteF hb h
   refine evs_run 1 (by kernel_rfl) ?_
   obtain ⟨r12, hr12, h⟩ := bindS h
   refine evs_callP [] (by kernel_rfl) (W.sheetmetallaw01_long_ok hr12) (by kernel_rfl) (.inl rfl) (by kernel_rfl) ?_
   refine z6 1 (by kernel_rfl) (fun τ hτ => ?_)
   obtain rfl := Option.some.inj h
   exact leafC hτ (subR_prep [] [(5, 500000)] (by kernel_rfl) rfl rfl (by kernel_rfl))
 refine th_normalS hτ ⟨[(0, (.sl (List.map c_Point a))), (1, (.sl (List.map c_Point b))), (5, (.ptr 500000 0)), (23, (vB j10))], [(500000, .box [(vI p.X.A), (vI p.X.B), (vI p.Y.A), (vI p.Y.B)])]⟩ (here (by kernel_rfl)) ?_
 refine sem_cond j10 (by kernel_rfl) (by kernel_rfl) (fun hb => ?_) (fun hb => ?_)
 ·replace h := iteT hb h
  refine z7 (by kernel_rfl) ?_
  obtain ⟨r14, hr14, h⟩ := bindS h
  refine evs_callP [] (by kernel_rfl) (W.sheetmetallaw01_known_ok hr14) (by kernel_rfl) (.inl rfl) (by kernel_rfl) ?_
  refine z1 1 ⟨[(6, (vB r14))], []⟩ (by kernel_rfl) ?_
  refine sem_retS (by kernel_rfl) (fun τ hτ => ?_)
  refine th_ret ?_
  obtain rfl := Option.some.inj h
  exact rk_ret hτ [(6, (vB r14))] (here (by kernel_rfl)) (by kernel_rfl)
 ·replace h := iteF hb h
  refine z4 ⟨[(0, (.sl (List.map c_Point a))), (1, (.sl (List.map c_Point b))), (5, (.ptr 500000 0))], [(500000, .box [(vI p.X.A), (vI p.X.B), (vI p.Y.A), (vI p.Y.B)])]⟩ (by kernel_rfl) ?_
  refine z7 (by kernel_rfl) ?_
  refine evs_run 2 (by kernel_rfl) ?_
  obtain ⟨r16, hr16, h⟩ := bindS h
  refine evs_callP [] (by kernel_rfl) (W.geom_Meets_ok hr16) (by kernel_rfl) (.inl rfl) (by kernel_rfl) ?_
  refine z1 5 ⟨[(0, (.sl (List.map c_Point a))), (1, (.sl (List.map c_Point b))), (5, (.ptr 500000 0)), (7, (vB r16.1)), (8, (vI r16.2))], [(500000, .box [(vI p.X.A), (vI p.X.B), (vI p.Y.A), (vI p.Y.B)])]⟩ (by kernel_rfl) ?_
  refine sem_seq (by kernel_rfl) ?_
  refine z3 2 ⟨[(0, (.sl (List.map c_Point a))), (1, (.sl (List.map c_Point b))), (5, (.ptr 500000 0)), (7, (vB r16.1)), (32, (vB (r16.2 != 0)))], [(500000, .box [(vI p.X.A), (vI p.X.B), (vI p.Y.A), (vI p.Y.B)])]⟩ (by kernel_rfl) ?_
  refine sem_cond (r16.2 != 0) (by kernel_rfl) (by kernel_rfl) (fun hb => ?_) (fun hb => ?_)
  ·replace h := iteT hb h
   refine sem_seq (by kernel_rfl) ?_
   obtain ⟨j21, hj21, h⟩ := bindS h
   refine sem_regionC ⟨[(6, (vB j21))], []⟩ (by kernel_rfl) ?_ (fun τ hτ => ?_)
   ·replace h := hj21
    refine evs_run 3 (by kernel_rfl) ?_
    refine evs_split r16.1 (fun b0 => ⟨[(35, (vB (!b0)))], []⟩) (by kernel_rfl) (fun hb => ?_) (fun hb => ?_)
    ·replace h := iteT hb h
     refine z6 3 (by kernel_rfl) (fun τ hτ => ?_)
     obtain rfl := Option.some.inj h
     exact leafC hτ (here (by kernel_rfl))
    ·replace h := iteF hb h
     obtain ⟨r22, hr22, h⟩ := bindS h
     refine evs_callP [] (by kernel_rfl) (W.sheetmetallaw01_known_ok hr22) (by kernel_rfl) (.inl rfl) (by kernel_rfl) ?_
     refine z6 2 (by kernel_rfl) (fun τ hτ => ?_)
     obtain rfl := Option.some.inj h
     exact leafC hτ (here (by kernel_rfl))
   refine th_normalS hτ ⟨[(6, (vB j21))], []⟩ (here (by kernel_rfl)) ?_
   refine sem_retS (by kernel_rfl) (fun τ hτ => ?_)
   refine th_ret ?_
   obtain rfl := Option.some.inj h
   exact rk_ret hτ [(6, (vB j21))] (here (by kernel_rfl)) (by kernel_rfl)
  ·replace h := iteF hb h
   refine z4 ⟨[(0, (.sl (List.map c_Point a))), (1, (.sl (List.map c_Point b))), (5, (.ptr 500000 0)), (7, (vB r16.1))], [(500000, .box [(vI p.X.A), (vI p.X.B), (vI p.Y.A), (vI p.Y.B)])]⟩ (by kernel_rfl) ?_
   refine z7 (by kernel_rfl) ?_
   refine evs_run 1 (by kernel_rfl) ?_
   obtain ⟨r24, hr24, h⟩ := bindS h
   refine evs_callS [] [(0, 700050)] [] (by kernel_rfl) (W.geom_Hull_ok hr24) (by kernel_rfl) (by kernel_rfl) (.inl rfl) ?_
   refine z1 5 ⟨[(0, (.sl (List.map c_Point a))), (1, (.sl (List.map c_Point b))), (5, (.ptr 500000 0)), (7, (vB r16.1)), (9, (.row (.top 700050) 36)), (10, (vI r24.2))], [(500000, .box [(vI p.X.A), (vI p.X.B), (vI p.Y.A), (vI p.Y.B)]), (700050, .row 36 [] (List.map c_Point r24.1))]⟩ (by kernel_rfl) ?_
   refine z7 (by kernel_rfl) ?_
   refine evs_run 2 (by kernel_rfl) ?_
   obtain ⟨r26, hr26, h⟩ := bindS h
   refine evs_callP [700050] (by kernel_rfl) (W.geom_Meets_ok hr26) (by kernel_rfl) (.inr rfl) (by kernel_rfl) ?_
   refine z1 5 ⟨[(0, (.sl (List.map c_Point a))), (1, (.sl (List.map c_Point b))), (5, (.ptr 500000 0)), (7, (vB r16.1)), (10, (vI r24.2)), (11, (vB r26.1)), (12, (vI r26.2))], [(500000, .box [(vI p.X.A), (vI p.X.B), (vI p.Y.A), (vI p.Y.B)])]⟩ (by kernel_rfl) ?_
   refine sem_seq (by kernel_rfl) ?_
   refine sem_seq (by kernel_rfl) ?_
   obtain ⟨j28, hj28, h⟩ := bindS h
   refine sem_regionC ⟨[(0, (.sl (List.map c_Point a))), (1, (.sl (List.map c_Point b))), (5, (.ptr 500000 0)), (7, (vB r16.1)), (59, (vB j28))], [(500000, .box [(vI p.X.A), (vI p.X.B), (vI p.Y.A), (vI p.Y.B)])]⟩ (by kernel_rfl) ?_ (fun τ hτ => ?_)
   ·replace h := hj28
    refine evs_run 3 (by kernel_rfl) ?_
    refine evs_split (r24.2 != 0) (fun b0 => ⟨[(0, (.sl (List.map c_Point a))), (1, (.sl (List.map c_Point b))), (5, (.ptr 500000 0)), (7, (vB r16.1)), (11, (vB r26.1)), (12, (vI r26.2)), (51, (vB b0))], [(500000, .box [(vI p.X.A), (vI p.X.B), (vI p.Y.A), (vI p.Y.B)])]⟩) (by kernel_rfl) (fun hb => ?_) (fun hb => ?_)
    ·replace h := iteT hb h
     refine z6 8 (by kernel_rfl) (fun τ hτ => ?_)
     obtain rfl := Option.some.inj h
     exact leafC hτ (here (by kernel_rfl))
    ·replace h := iteF hb h
     refine evs_run 4 (by kernel_rfl) ?_
     refine evs_split (r26.2 != 0) (fun b0 => ⟨[(0, (.sl (List.map c_Point a))), (1, (.sl (List.map c_Point b))), (5, (.ptr 500000 0)), (7, (vB r16.1)), (11, (vB r26.1)), (55, (vB b0))], [(500000, .box [(vI p.X.A), (vI p.X.B), (vI p.Y.A), (vI p.Y.B)])]⟩) (by kernel_rfl) (fun hb => ?_) (fun hb => ?_)
     ·replace h := iteT hb h
      refine z6 4 (by kernel_rfl) (fun τ hτ => ?_)
      obtain rfl := Option.some.inj h
      exact leafC hτ (here (by kernel_rfl))
     ·replace h := iteF hb h
      refine z6 4 (by kernel_rfl) (fun τ hτ => ?_)
      obtain rfl := Option.some.inj h
      exact leafC hτ (here (by kernel_rfl))
   refine th_normalS hτ ⟨[(0, (.sl (List.map c_Point a))), (1, (.sl (List.map c_Point b))), (5, (.ptr 500000 0)), (7, (vB r16.1)), (59, (vB j28))], [(500000, .box [(vI p.X.A), (vI p.X.B), (vI p.Y.A), (vI p.Y.B)])]⟩ (here (by kernel_rfl)) ?_
   refine sem_cond j28 (by kernel_rfl) (by kernel_rfl) (fun hb => ?_) (fun hb => ?_)
   ·replace h := iteT hb h
    refine z8 1 ⟨[(6, (vB false))], []⟩ (by kernel_rfl) (fun τ hτ => ?_)
    refine th_ret ?_
    obtain rfl := Option.some.inj h
    exact rk_ret hτ [(6, (vB false))] (here (by kernel_rfl)) (by kernel_rfl)
   ·replace h := iteF hb h
    refine z4 ⟨[(0, (.sl (List.map c_Point a))), (1, (.sl (List.map c_Point b))), (5, (.ptr 500000 0)), (7, (vB r16.1))], [(500000, .box [(vI p.X.A), (vI p.X.B), (vI p.Y.A), (vI p.Y.B)])]⟩ (by kernel_rfl) ?_
    refine sem_seq (by kernel_rfl) ?_
    refine z7 (by kernel_rfl) ?_
    refine evs_run 2 (by kernel_rfl) ?_
    obtain ⟨r33, hr33, h⟩ := bindS h
    refine evs_callP [] (by kernel_rfl) (W.geom_Meets_ok hr33) (by kernel_rfl) (.inl rfl) (by kernel_rfl) ?_
    refine z1 5 ⟨[(0, (.sl (List.map c_Point a))), (1, (.sl (List.map c_Point b))), (5, (.ptr 500000 0)), (7, (vB r16.1)), (13, (vB r33.1)), (14, (vI r33.2))], [(500000, .box [(vI p.X.A), (vI p.X.B), (vI p.Y.A), (vI p.Y.B)])]⟩ (by kernel_rfl) ?_
    refine sem_seq (by kernel_rfl) ?_
    obtain ⟨j34, hj34, h⟩ := bindS h
    refine sem_regionC ⟨[(0, (.sl (List.map c_Point a))), (1, (.sl (List.map c_Point b))), (5, (.ptr 500000 0)), (7, (vB r16.1)), (72, (vB j34))], [(500000, .box [(vI p.X.A), (vI p.X.B), (vI p.Y.A), (vI p.Y.B)])]⟩ (by kernel_rfl) ?_ (fun τ hτ => ?_)
    ·replace h := hj34
     refine evs_run 3 (by kernel_rfl) ?_
     refine evs_split (r33.2 == 0) (fun b0 => ⟨[(0, (.sl (List.map c_Point a))), (1, (.sl (List.map c_Point b))), (5, (.ptr 500000 0)), (7, (vB r16.1)), (13, (vB r33.1)), (68, (vB b0))], [(500000, .box [(vI p.X.A), (vI p.X.B), (vI p.Y.A), (vI p.Y.B)])]⟩) (by kernel_rfl) (fun hb => ?_) (fun hb => ?_)
     ·replace h := iteT hb h
      refine z6 4 (by kernel_rfl) (fun τ hτ => ?_)
      obtain rfl := Option.some.inj h
      exact leafC hτ (here (by kernel_rfl))
     ·replace h := iteF hb h
      refine z6 4 (by kernel_rfl) (fun τ hτ => ?_)
      obtain rfl := Option.some.inj h
      exact leafC hτ (here (by kernel_rfl))
    refine th_normalS hτ ⟨[(0, (.sl (List.map c_Point a))), (1, (.sl (List.map c_Point b))), (5, (.ptr 500000 0)), (7, (vB r16.1)), (72, (vB j34))], [(500000, .box [(vI p.X.A), (vI p.X.B), (vI p.Y.A), (vI p.Y.B)])]⟩ (here (by kernel_rfl)) ?_
    refine sem_cond j34 (by kernel_rfl) (by kernel_rfl) (fun hb => ?_) (fun hb => ?_)
    ·replace h := iteT hb h
     refine z8 1 ⟨[(6, (vB false))], []⟩ (by kernel_rfl) (fun τ hτ => ?_)
     refine th_ret ?_
     obtain rfl := Option.some.inj h
     exact rk_ret hτ [(6, (vB false))] (here (by kernel_rfl)) (by kernel_rfl)
    ·replace h := iteF hb h
     refine z4 ⟨[(0, (.sl (List.map c_Point a))), (1, (.sl (List.map c_Point b))), (5, (.ptr 500000 0)), (7, (vB r16.1))], [(500000, .box [(vI p.X.A), (vI p.X.B), (vI p.Y.A), (vI p.Y.B)])]⟩ (by kernel_rfl) ?_
     refine sem_seq (by kernel_rfl) ?_
     refine sem_draw [(1, [700050]), (4, [700050, 600004])] [(1, [700050]), (4, [600004])] [(6, [600004])] [(2, [700050]), (3, [700050]), (5, [700050, 600004])] [(0, [700050, 600004]), (1, [600004]), (2, [700050, 600004]), (3, [700050, 600004]), (5, [700050, 600004])] 11 (by kernel_rfl) (by kernel_rfl) [700050, 600004] (by kernel_rfl) (by kernel_rfl) ?_
     refine evd_run 1 (by kernel_rfl) ?_
     obtain ⟨r41, hr41, h⟩ := bindS h
     refine evd_callS [(0, 700050)] [] (by kernel_rfl) (by kernel_rfl) (W.sheetmetalref01_CopyPoints_ok hr41) (by kernel_rfl) (.inl rfl) (by kernel_rfl) (by kernel_rfl) ?_
     refine evd_run 2 (by kernel_rfl) ?_
     obtain ⟨l42, hl42, h⟩ := bindS h
     refine evd_app (c := c_Point) (l := r41) (l2 := [p]) (x := (.sl (List.map c_Point [p]))) (g := 700050) (g2 := 600004) (e := 36) (sz := 4) (d := 78) (by kernel_rfl) (by kernel_rfl) (by kernel_rfl) (by kernel_rfl) (by kernel_rfl) (fun _ => rfl) hl42 (by kernel_rfl) (by kernel_rfl) (by kernel_rfl) (by kernel_rfl) (by kernel_rfl) ?_
     refine evd_run 1 (by kernel_rfl) ?_
     obtain ⟨r43, hr43, h⟩ := bindS h
     refine evd_callS [] [600004] (by kernel_rfl) (by kernel_rfl) (W.geom_Meets_ok hr43) (by kernel_rfl) (.inr ⟨rfl, fun _ _ => ind_nil⟩) (by kernel_rfl) (by kernel_rfl) ?_
     refine evd_run 4 (by kernel_rfl) ?_
     refine evd_end (by kernel_rfl) ?_
     refine evo_run 1 (by kernel_rfl) ?_
     refine evo_endS (by kernel_rfl) (fun τ hτ => ?_)
     refine th_normalS hτ ⟨[(0, (.sl (List.map c_Point a))), (1, (.sl (List.map c_Point b))), (5, (.ptr 500000 0)), (7, (vB r16.1)), (15, (vB r43.1)), (16, (vI r43.2))], [(500000, .box [(vI p.X.A), (vI p.X.B), (vI p.Y.A), (vI p.Y.B)])]⟩ (here (by kernel_rfl)) ?_
     refine sem_seq (by kernel_rfl) ?_
     refine sem_seq (by kernel_rfl) ?_
     obtain ⟨j45, hj45, h⟩ := bindS h
     refine sem_regionC ⟨[(0, (.sl (List.map c_Point a))), (1, (.sl (List.map c_Point b))), (5, (.ptr 500000 0)), (15, (vB r43.1)), (91, (vB j45))], [(500000, .box [(vI p.X.A), (vI p.X.B), (vI p.Y.A), (vI p.Y.B)])]⟩ (by kernel_rfl) ?_ (fun τ hτ => ?_)
     ·replace h := hj45
      refine evs_run 3 (by kernel_rfl) ?_
      refine evs_split (r43.2 == 0) (fun b0 => ⟨[(0, (.sl (List.map c_Point a))), (1, (.sl (List.map c_Point b))), (5, (.ptr 500000 0)), (7, (vB r16.1)), (15, (vB r43.1)), (85, (vB b0))], [(500000, .box [(vI p.X.A), (vI p.X.B), (vI p.Y.A), (vI p.Y.B)])]⟩) (by kernel_rfl) (fun hb => ?_) (fun hb => ?_)
      ·replace h := iteT hb h
       refine evs_run 3 (by kernel_rfl) ?_
       refine evs_split r16.1 (fun b0 => ⟨[(0, (.sl (List.map c_Point a))), (1, (.sl (List.map c_Point b))), (5, (.ptr 500000 0)), (15, (vB r43.1)), (88, (vB b0))], [(500000, .box [(vI p.X.A), (vI p.X.B), (vI p.Y.A), (vI p.Y.B)])]⟩) (by kernel_rfl) (fun hb => ?_) (fun hb => ?_)
       ·replace h := iteT hb h
        refine z6 3 (by kernel_rfl) (fun τ hτ => ?_)
        obtain rfl := Option.some.inj h
        exact leafC hτ (here (by kernel_rfl))
       ·replace h := iteF hb h
        refine z6 3 (by kernel_rfl) (fun τ hτ => ?_)
        obtain rfl := Option.some.inj h
        exact leafC hτ (here (by kernel_rfl))
      ·replace h := iteF hb h
       refine z6 6 (by kernel_rfl) (fun τ hτ => ?_)
       obtain rfl := Option.some.inj h
       exact leafC hτ (here (by kernel_rfl))
     refine th_normalS hτ ⟨[(0, (.sl (List.map c_Point a))), (1, (.sl (List.map c_Point b))), (5, (.ptr 500000 0)), (15, (vB r43.1)), (91, (vB j45))], [(500000, .box [(vI p.X.A), (vI p.X.B), (vI p.Y.A), (vI p.Y.B)])]⟩ (here (by kernel_rfl)) ?_
     refine sem_cond j45 (by kernel_rfl) (by kernel_rfl) (fun hb => ?_) (fun hb => ?_)
     ·replace h := iteT hb h
      refine z8 1 ⟨[(6, (vB false))], []⟩ (by kernel_rfl) (fun τ hτ => ?_)
      refine th_ret ?_
      obtain rfl := Option.some.inj h
      exact rk_ret hτ [(6, (vB false))] (here (by kernel_rfl)) (by kernel_rfl)
     ·replace h := iteF hb h
      refine z4 ⟨[(0, (.sl (List.map c_Point a))), (1, (.sl (List.map c_Point b))), (5, (.ptr 500000 0)), (15, (vB r43.1))], [(500000, .box [(vI p.X.A), (vI p.X.B), (vI p.Y.A), (vI p.Y.B)])]⟩ (by kernel_rfl) ?_
      refine z7 (by kernel_rfl) ?_
      refine evs_run 3 (by kernel_rfl) ?_
      obtain ⟨r47, hr47, h⟩ := bindS h
      refine evs_callP [] (by kernel_rfl) (W.geom_Meets_ok hr47) (by kernel_rfl) (.inl rfl) (by kernel_rfl) ?_
      refine z1 5 ⟨[(0, (.sl (List.map c_Point a))), (15, (vB r43.1)), (16, (vI r47.2)), (17, (vB r47.1))], []⟩ (by kernel_rfl) ?_
      refine sem_seq (by kernel_rfl) ?_
      obtain ⟨j52, hj52, h⟩ := bindS h
      refine sem_regionC ⟨[(6, (vB j52))], []⟩ (by kernel_rfl) ?_ (fun τ hτ => ?_)
      ·replace h := hj52
       refine evs_run 3 (by kernel_rfl) ?_
       refine evs_split (r47.2 != 0) (fun b0 => ⟨[(0, (.sl (List.map c_Point a))), (15, (vB r43.1)), (17, (vB r47.1)), (101, (vB b0))], []⟩) (by kernel_rfl) (fun hb => ?_) (fun hb => ?_)
       ·replace h := iteT hb h
        refine evs_run 12 (by kernel_rfl) ?_
        obtain ⟨r53, hr53, h⟩ := bindS h
        refine evs_callP [] (by kernel_rfl) (W.sheetmetallaw01_known_ok hr53) (by kernel_rfl) (.inl rfl) (by kernel_rfl) ?_
        refine z6 2 (by kernel_rfl) (fun τ hτ => ?_)
        obtain rfl := Option.some.inj h
        exact leafC hτ (here (by kernel_rfl))
       ·replace h := iteF hb h
        refine evs_run 4 (by kernel_rfl) ?_
        refine evs_split r47.1 (fun b0 => ⟨[(0, (.sl (List.map c_Point a))), (15, (vB r43.1)), (105, (vB (!b0)))], []⟩) (by kernel_rfl) (fun hb => ?_) (fun hb => ?_)
        ·replace h := iteT hb h
         refine evs_run 3 (by kernel_rfl) ?_
         refine evs_split r43.1 (fun b0 => ⟨[(0, (.sl (List.map c_Point a))), (108, (vB b0))], []⟩) (by kernel_rfl) (fun hb => ?_) (fun hb => ?_)
         ·replace h := iteT hb h
          refine evs_run 5 (by kernel_rfl) ?_
          obtain ⟨r54, hr54, h⟩ := bindS h
          refine evs_callP [] (by kernel_rfl) (W.sheetmetallaw01_known_ok hr54) (by kernel_rfl) (.inl rfl) (by kernel_rfl) ?_
          refine z6 2 (by kernel_rfl) (fun τ hτ => ?_)
          obtain rfl := Option.some.inj h
          exact leafC hτ (here (by kernel_rfl))
         ·replace h := iteF hb h
          refine evs_run 1 (by kernel_rfl) ?_
          refine evs_op (st_len (c := c_Point) (l := a) (x := (.sl (List.map c_Point a))) (by kernel_rfl) (by kernel_rfl)) ?_
          refine evs_run 3 (by kernel_rfl) ?_
          refine evs_split (decide ((a.length : Int) ≥ 24)) (fun b0 => ⟨[(113, (vB b0))], []⟩) (by kernel_rfl) (fun hb => ?_) (fun hb => ?_)
          ·replace h := iteT hb h
           obtain ⟨r55, hr55, h⟩ := bindS h
           refine evs_callP [] (by kernel_rfl) (W.sheetmetallaw01_known_ok hr55) (by kernel_rfl) (.inl rfl) (by kernel_rfl) ?_
           refine z6 2 (by kernel_rfl) (fun τ hτ => ?_)
           obtain rfl := Option.some.inj h
           exact leafC hτ (here (by kernel_rfl))
          ·replace h := iteF hb h
           refine z6 3 (by kernel_rfl) (fun τ hτ => ?_)
           obtain rfl := Option.some.inj h
           exact leafC hτ (here (by kernel_rfl))
        ·replace h := iteF hb h
         refine evs_run 8 (by kernel_rfl) ?_
         obtain ⟨r56, hr56, h⟩ := bindS h
         refine evs_callP [] (by kernel_rfl) (W.sheetmetallaw01_known_ok hr56) (by kernel_rfl) (.inl rfl) (by kernel_rfl) ?_
         refine z6 2 (by kernel_rfl) (fun τ hτ => ?_)
         obtain rfl := Option.some.inj h
         exact leafC hτ (here (by kernel_rfl))
      refine th_normalS hτ ⟨[(6, (vB j52))], []⟩ (here (by kernel_rfl)) ?_
      refine sem_retS (by kernel_rfl) (fun τ hτ => ?_)
      obtain rfl := Option.some.inj h
      exact rk_ret hτ [(6, (vB j52))] (here (by kernel_rfl)) (by kernel_rfl)
end Go.Proofs.Ytiodkdpfkchkjaa
