/- Each Go function does what its model says; written by a program out of the translation. -/
import Derived.Test.YtiodkdpfkchkjaaWO1
import Derived.Test.YtiodkdpfkchkjaaGeMO
set_option linter.unusedVariables false
set_option linter.unusedSimpArgs false
set_option linter.unusedSectionVars false
namespace Go.Proofs.Ytiodkdpfkchkjaa
open Go Go.VI Go.SM Go.Proofs
set_option maxRecDepth 100000
set_option maxHeartbeats 4000000
theorem W.geom_newGrid_ok {lists : (List (List Rect))} {r : geom_grid} (h : geom_newGrid lists = some r) : PC G.P 84 [(.sl (List.map (cS c_Rect) lists))] [] (.agg [(.row (.top 1) 3), (.row (.top 2) 3)]) [(0, .box [(.row (.top 1) 3), (.row (.top 2) 3)]), (1, .row 3 [] (List.map cI r.x)), (2, .row 3 [] (List.map cI r.y))] := by
 refine pc_of G (fn := Try.f84) Try.func84 (by kernel_rfl) (by kernel_rfl) (by kernel_rfl) (by kernel_rfl) (by kernel_rfl) ?_
 refine sem_set ⟨[(0, (.sl (List.map (cS c_Rect) lists)))], []⟩ (by kernel_rfl) ?_
 refine z3 1 ⟨[(0, (.sl (List.map (cS c_Rect) lists))), (2, (.ptr 2 0))], [(2, .box [.nl, .nl])]⟩ (by kernel_rfl) ?_
 refine z3 1 ⟨[(0, (.sl (List.map (cS c_Rect) lists))), (2, (.ptr 2 0)), (3, (.ptr 3 0))], [(2, .box [.nl, .nl]), (3, .box [.nl, .nl])]⟩ (by kernel_rfl) ?_
 refine sem_seq (by kernel_rfl) ?_
 refine z7 (by kernel_rfl) ?_
 refine evs_run 1 (by kernel_rfl) ?_
 refine evs_op (st_len (c := (cS c_Rect)) (l := lists) (x := (.sl (List.map (cS c_Rect) lists))) (by kernel_rfl) (by kernel_rfl)) ?_
 refine z1 1 ⟨[(2, (.ptr 2 0)), (3, (.ptr 3 0)), (8, (.sl (List.map (cS c_Rect) lists))), (9, (vI (lists.length : Int))), (10, (vI 0))], [(2, .box [.nl, .nl]), (3, .box [.nl, .nl])]⟩ (by kernel_rfl) ?_
 refine sem_block (by kernel_rfl) ?_
 obtain ⟨x498, hx498, h⟩ := bindS h
 refine sem_loopS (fun (s333 : Int × (List Int) × (List Int)) => ⟨[(2, (.ptr 500000 0)), (3, (.ptr 500001 0)), (8, (.sl (List.map (cS c_Rect) lists))), (9, (vI (lists.length : Int))), (10, (vI s333.1))], [(500000, .box [.nl, .nl]), (500001, .box [(.row (.top 500002) 3), (.row (.top 500003) 3)]), (500002, .row 3 [] (List.map cI s333.2.1)), (500003, .row 3 [] (List.map cI s333.2.2))]⟩) (fun (x498 : (List Int) × (List Int)) => (.exit 0, ⟨[(2, (.ptr 500000 0)), (3, (.ptr 500001 0))], [(500000, .box [.nl, .nl]), (500001, .box [(.row (.top 500002) 3), (.row (.top 500003) 3)]), (500002, .row 3 [] (List.map cI x498.1)), (500003, .row 3 [] (List.map cI x498.2))]⟩)) (geom_newGrid_l2 lists) (0, [], []) x498 (by kernel_rfl) (subR_prep [.row (.box 3 0) 800000 3 [], .row (.box 3 1) 800001 3 []] [(2, 500000), (3, 500001), (800000, 500002), (800001, 500003)] (by kernel_rfl) rfl rfl (by kernel_rfl)) hx498 ?_ ?_ ?_
 ·intro s333 r h
  refine z3 1 ⟨[(2, (.ptr 500000 0)), (3, (.ptr 500001 0)), (8, (.sl (List.map (cS c_Rect) lists))), (9, (vI (lists.length : Int))), (10, (vI s333.1)), (11, (vB (decide (s333.1 < (lists.length : Int)))))], [(500000, .box [.nl, .nl]), (500001, .box [(.row (.top 500002) 3), (.row (.top 500003) 3)]), (500002, .row 3 [] (List.map cI s333.2.1)), (500003, .row 3 [] (List.map cI s333.2.2))]⟩ (by kernel_rfl) ?_
  refine sem_seq (by kernel_rfl) ?_
  refine sem_cond (decide (s333.1 < (lists.length : Int))) (by kernel_rfl) (by kernel_rfl) (fun hb => ?_) (fun hb => ?_)
  ·replace h := iteT hb h
   refine z4 ⟨[(2, (.ptr 500000 0)), (3, (.ptr 500001 0)), (8, (.sl (List.map (cS c_Rect) lists))), (9, (vI (lists.length : Int))), (10, (vI s333.1))], [(500000, .box [.nl, .nl]), (500001, .box [(.row (.top 500002) 3), (.row (.top 500003) 3)]), (500002, .row 3 [] (List.map cI s333.2.1)), (500003, .row 3 [] (List.map cI s333.2.2))]⟩ (by kernel_rfl) ?_
   refine sem_seq (by kernel_rfl) ?_
   refine sem_block (by kernel_rfl) ?_
   refine z7 (by kernel_rfl) ?_
   obtain ⟨x458, hx458, h⟩ := bindS h
   refine evs_op (st_idx (c := (cS c_Rect)) (l := lists) (i := s333.1) (kd := .i64) (sz := 1) (by kernel_rfl) hx458 rfl) ?_
   refine z1 2 ⟨[(2, (.ptr 500000 0)), (3, (.ptr 500001 0)), (5, (.sl (List.map c_Rect x458))), (8, (.sl (List.map (cS c_Rect) lists))), (9, (vI (lists.length : Int))), (10, (vI s333.1))], [(500000, .box [.nl, .nl]), (500001, .box [(.row (.top 500002) 3), (.row (.top 500003) 3)]), (500002, .row 3 [] (List.map cI s333.2.1)), (500003, .row 3 [] (List.map cI s333.2.2))]⟩ (by kernel_rfl) ?_
   refine z7 (by kernel_rfl) ?_
   refine evs_run 1 (by kernel_rfl) ?_
   refine evs_op (st_len (c := c_Rect) (l := x458) (x := (.sl (List.map c_Rect x458))) (by kernel_rfl) (by kernel_rfl)) ?_
   refine z1 1 ⟨[(2, (.ptr 500000 0)), (3, (.ptr 500001 0)), (8, (.sl (List.map (cS c_Rect) lists))), (9, (vI (lists.length : Int))), (10, (vI s333.1)), (14, (.sl (List.map c_Rect x458))), (15, (vI (x458.length : Int))), (16, (vI 0))], [(500000, .box [.nl, .nl]), (500001, .box [(.row (.top 500002) 3), (.row (.top 500003) 3)]), (500002, .row 3 [] (List.map cI s333.2.1)), (500003, .row 3 [] (List.map cI s333.2.2))]⟩ (by kernel_rfl) ?_
   refine sem_block (by kernel_rfl) ?_
   obtain ⟨x497, hx497, h⟩ := bindS h
   refine sem_loopS (fun (s472 : Int × (List Int) × (List Int)) => ⟨[(2, (.ptr 500000 0)), (3, (.ptr 500001 0)), (8, (.sl (List.map (cS c_Rect) lists))), (9, (vI (lists.length : Int))), (10, (vI s333.1)), (14, (.sl (List.map c_Rect x458))), (15, (vI (x458.length : Int))), (16, (vI s472.1))], [(500000, .box [.nl, .nl]), (500001, .box [(.row (.top 500002) 3), (.row (.top 500003) 3)]), (500002, .row 3 [] (List.map cI s472.2.1)), (500003, .row 3 [] (List.map cI s472.2.2))]⟩) (fun (x497 : (List Int) × (List Int)) => (.exit 2, ⟨[(2, (.ptr 500000 0)), (3, (.ptr 500001 0)), (8, (.sl (List.map (cS c_Rect) lists))), (9, (vI (lists.length : Int))), (10, (vI s333.1))], [(500000, .box [.nl, .nl]), (500001, .box [(.row (.top 500002) 3), (.row (.top 500003) 3)]), (500002, .row 3 [] (List.map cI x497.1)), (500003, .row 3 [] (List.map cI x497.2))]⟩)) (geom_newGrid_l1 x458) (0, s333.2.1, s333.2.2) x497 (by kernel_rfl) (here (by kernel_rfl)) hx497 ?_ ?_ ?_
   ·intro s472 r h
    refine z3 1 ⟨[(2, (.ptr 500000 0)), (3, (.ptr 500001 0)), (8, (.sl (List.map (cS c_Rect) lists))), (9, (vI (lists.length : Int))), (10, (vI s333.1)), (14, (.sl (List.map c_Rect x458))), (15, (vI (x458.length : Int))), (16, (vI s472.1)), (17, (vB (decide (s472.1 < (x458.length : Int)))))], [(500000, .box [.nl, .nl]), (500001, .box [(.row (.top 500002) 3), (.row (.top 500003) 3)]), (500002, .row 3 [] (List.map cI s472.2.1)), (500003, .row 3 [] (List.map cI s472.2.2))]⟩ (by kernel_rfl) ?_
    refine sem_seq (by kernel_rfl) ?_
    refine sem_cond (decide (s472.1 < (x458.length : Int))) (by kernel_rfl) (by kernel_rfl) (fun hb => ?_) (fun hb => ?_)
    ·replace h := iteT hb h
     refine z4 ⟨[(2, (.ptr 500000 0)), (3, (.ptr 500001 0)), (8, (.sl (List.map (cS c_Rect) lists))), (9, (vI (lists.length : Int))), (10, (vI s333.1)), (14, (.sl (List.map c_Rect x458))), (15, (vI (x458.length : Int))), (16, (vI s472.1))], [(500000, .box [.nl, .nl]), (500001, .box [(.row (.top 500002) 3), (.row (.top 500003) 3)]), (500002, .row 3 [] (List.map cI s472.2.1)), (500003, .row 3 [] (List.map cI s472.2.2))]⟩ (by kernel_rfl) ?_
     refine sem_seq (by kernel_rfl) ?_
     refine sem_block (by kernel_rfl) ?_
     refine z7 (by kernel_rfl) ?_
     obtain ⟨x492, hx492, h⟩ := bindS h
     refine evs_op (st_idx (c := c_Rect) (l := x458) (i := s472.1) (kd := .i64) (sz := 4) (by kernel_rfl) hx492 rfl) ?_
     refine z1 3 ⟨[(2, (.ptr 500000 0)), (3, (.ptr 500001 0)), (7, (.ptr 7 0)), (8, (.sl (List.map (cS c_Rect) lists))), (9, (vI (lists.length : Int))), (10, (vI s333.1)), (14, (.sl (List.map c_Rect x458))), (15, (vI (x458.length : Int))), (16, (vI s472.1))], [(7, .box [(vI x492.X), (vI x492.Y), (vI x492.W), (vI x492.H)]), (500000, .box [.nl, .nl]), (500001, .box [(.row (.top 500002) 3), (.row (.top 500003) 3)]), (500002, .row 3 [] (List.map cI s472.2.1)), (500003, .row 3 [] (List.map cI s472.2.2))]⟩ (by kernel_rfl) ?_
     refine z7 (by kernel_rfl) ?_
     refine evs_run 10 (by kernel_rfl) ?_
     obtain ⟨l494, hl494, h⟩ := bindS h
     refine evs_op (st_app (c := cI) (l := s472.2.1) (l2 := [x492.X, (iadd x492.X x492.W)]) (x := (.sl (List.map cI [x492.X, (iadd x492.X x492.W)]))) (g := 500002) (e := 3) (sz := 1) (d := 30) (by kernel_rfl) (by kernel_rfl) (by kernel_rfl) (by kernel_rfl) (fun _ => rfl) rfl hl494) ?_
     refine z1 2 ⟨[(2, (.ptr 500000 0)), (3, (.ptr 500001 0)), (7, (.ptr 7 0)), (8, (.sl (List.map (cS c_Rect) lists))), (9, (vI (lists.length : Int))), (10, (vI s333.1)), (14, (.sl (List.map c_Rect x458))), (15, (vI (x458.length : Int))), (16, (vI s472.1))], [(7, .box [(vI x492.X), (vI x492.Y), (vI x492.W), (vI x492.H)]), (500000, .box [.nl, .nl]), (500001, .box [(.row (.top 500002) 3), (.row (.top 500003) 3)]), (500002, .row 3 [] (List.map cI l494)), (500003, .row 3 [] (List.map cI s472.2.2))]⟩ (by kernel_rfl) ?_
     refine sem_region (by kernel_rfl) ?_
     refine evs_run 10 (by kernel_rfl) ?_
     obtain ⟨l496, hl496, h⟩ := bindS h
     refine evs_op (st_app (c := cI) (l := s472.2.2) (l2 := [x492.Y, (iadd x492.Y x492.H)]) (x := (.sl (List.map cI [x492.Y, (iadd x492.Y x492.H)]))) (g := 500003) (e := 3) (sz := 1) (d := 42) (by kernel_rfl) (by kernel_rfl) (by kernel_rfl) (by kernel_rfl) (fun _ => rfl) rfl hl496) ?_
     refine z6 2 (by kernel_rfl) (fun τ hτ => ?_)
     refine bl_normal ?_
     refine th_normalS hτ ⟨[(2, (.ptr 500000 0)), (3, (.ptr 500001 0)), (8, (.sl (List.map (cS c_Rect) lists))), (9, (vI (lists.length : Int))), (10, (vI s333.1)), (14, (.sl (List.map c_Rect x458))), (15, (vI (x458.length : Int))), (16, (vI s472.1))], [(500000, .box [.nl, .nl]), (500001, .box [(.row (.top 500002) 3), (.row (.top 500003) 3)]), (500002, .row 3 [] (List.map cI l494)), (500003, .row 3 [] (List.map cI l496))]⟩ (here (by kernel_rfl)) ?_
     refine sem_region (by kernel_rfl) ?_
     refine z6 2 (by kernel_rfl) (fun τ hτ => ?_)
     obtain rfl := Option.some.inj h
     exact lk_nextS hτ (here (by kernel_rfl))
    ·replace h := iteF hb h
     refine sem_exitS 2 (by kernel_rfl) rfl (fun τ hτ => ?_)
     refine th_exit ?_
     obtain rfl := Option.some.inj h
     exact lk_outS hτ rfl (here (by kernel_rfl))
   ·intro x
    rfl
   ·intro τ hτ
    refine bl_hit (by kernel_rfl) ?_
    refine bl_normal ?_
    refine th_normalS hτ ⟨[(2, (.ptr 500000 0)), (3, (.ptr 500001 0)), (8, (.sl (List.map (cS c_Rect) lists))), (9, (vI (lists.length : Int))), (10, (vI s333.1))], [(500000, .box [.nl, .nl]), (500001, .box [(.row (.top 500002) 3), (.row (.top 500003) 3)]), (500002, .row 3 [] (List.map cI x497.1)), (500003, .row 3 [] (List.map cI x497.2))]⟩ (here (by kernel_rfl)) ?_
    refine sem_region (by kernel_rfl) ?_
    refine z6 2 (by kernel_rfl) (fun τ hτ => ?_)
    obtain rfl := Option.some.inj h
    exact lk_nextS hτ (here (by kernel_rfl))
  ·replace h := iteF hb h
   refine sem_exitS 0 (by kernel_rfl) rfl (fun τ hτ => ?_)
   refine th_exit ?_
   obtain rfl := Option.some.inj h
   exact lk_outS hτ rfl (here (by kernel_rfl))
 ·intro x
  rfl
 ·intro τ hτ
  refine bl_hit (by kernel_rfl) ?_
  refine th_normalS hτ ⟨[(2, (.ptr 500000 0)), (3, (.ptr 500001 0))], [(500000, .box [.nl, .nl]), (500001, .box [(.row (.top 500002) 3), (.row (.top 500003) 3)]), (500002, .row 3 [] (List.map cI x498.1)), (500003, .row 3 [] (List.map cI x498.2))]⟩ (here (by kernel_rfl)) ?_
  refine z7 (by kernel_rfl) ?_
  refine evs_run 2 (by kernel_rfl) ?_
  obtain ⟨r500, hr500, h⟩ := bindS h
  refine evs_callS [] [(0, 700100)] [500002] (by kernel_rfl) (W.geom_sorted_int__cmp_Compare_int_ok hr500) (by kernel_rfl) (by kernel_rfl) (.inr ⟨rfl, fun _ _ => ind_cons (ind_row fun _ => rfl) (fun _ _ => ind_nil)⟩) ?_
  refine z1 2 ⟨[(2, (.ptr 500000 0)), (3, (.ptr 500001 0))], [(500000, .box [.nl, .nl]), (500001, .box [(.row (.top 700100) 3), (.row (.top 500003) 3)]), (500003, .row 3 [] (List.map cI x498.2)), (700100, .row 3 [] (List.map cI r500))]⟩ (by kernel_rfl) ?_
  refine z7 (by kernel_rfl) ?_
  refine evs_run 2 (by kernel_rfl) ?_
  obtain ⟨r502, hr502, h⟩ := bindS h
  refine evs_callS [] [(0, 700101)] [500003] (by kernel_rfl) (W.geom_sorted_int__cmp_Compare_int_ok hr502) (by kernel_rfl) (by kernel_rfl) (.inr ⟨rfl, fun _ _ => ind_cons (ind_row fun _ => rfl) (fun _ _ => ind_nil)⟩) ?_
  refine z1 2 ⟨[(2, (.ptr 500000 0)), (3, (.ptr 500001 0))], [(500000, .box [.nl, .nl]), (500001, .box [(.row (.top 700100) 3), (.row (.top 700101) 3)]), (700100, .row 3 [] (List.map cI r500)), (700101, .row 3 [] (List.map cI r502))]⟩ (by kernel_rfl) ?_
  refine z8 2 ⟨[(2, (.ptr 500000 0))], [(500000, .box [(.row (.top 700100) 3), (.row (.top 700101) 3)]), (700100, .row 3 [] (List.map cI r500)), (700101, .row 3 [] (List.map cI r502))]⟩ (by kernel_rfl) (fun τ hτ => ?_)
  obtain rfl := Option.some.inj h
  exact rk_ret hτ [(2, (.ptr 0 0))] (subR_prep [] [(500000, 0), (700100, 1), (700101, 2)] (by kernel_rfl) rfl rfl (by kernel_rfl)) (by kernel_rfl)
theorem W.geom_grid_covered_ok {g : geom_grid} {l : (List Rect)} {r : (List (List Bool))} (h : geom_grid_covered g l = some r) : PC G.P 85 [(.agg [(.sl (List.map cI g.x)), (.sl (List.map cI g.y))]), (.sl (List.map c_Rect l))] [] (.row (.top 0) 94) [(0, .row 94 [(0, 4)] (List.map (cS cB) r))] := by
 refine pc_of G (fn := Try.f85) Try.func85 (by kernel_rfl) (by kernel_rfl) (by kernel_rfl) (by kernel_rfl) (by kernel_rfl) ?_
 refine sem_set ⟨[(0, (.agg [(.sl (List.map cI g.x)), (.sl (List.map cI g.y))])), (1, (.sl (List.map c_Rect l)))], []⟩ (by kernel_rfl) ?_
 refine z3 2 ⟨[(1, (.sl (List.map c_Rect l))), (2, (.ptr 2 0))], [(2, .box [(.sl (List.map cI g.x)), (.sl (List.map cI g.y))])]⟩ (by kernel_rfl) ?_
 refine z7 (by kernel_rfl) ?_
 refine evs_run 2 (by kernel_rfl) ?_
 refine evs_op (st_len (c := cI) (l := g.x) (x := (.sl (List.map cI g.x))) (by kernel_rfl) (by kernel_rfl)) ?_
 refine evs_run 2 (by kernel_rfl) ?_
 obtain ⟨l2, hl2, h⟩ := bindS h
 refine evs_at (at_mkJ (c := (cS cB)) (z := []) (n := (imax 0 (isub (g.x.length : Int) 1))) (e := 94) (e2 := 4) (d := 15) (k1 := .i64) (k2 := .i64) (by kernel_rfl) rfl (by kernel_rfl) hl2) ?_
 refine z1 1 ⟨[(1, (.sl (List.map c_Rect l))), (2, (.ptr 2 0)), (5, (.row (.top 15) 94))], [(2, .box [(.sl (List.map cI g.x)), (.sl (List.map cI g.y))]), (15, .row 94 [(0, 4)] (List.map (cS cB) l2))]⟩ (by kernel_rfl) ?_
 refine sem_seq (by kernel_rfl) ?_
 refine z7 (by kernel_rfl) ?_
 refine evs_run 1 (by kernel_rfl) ?_
 refine evs_op (st_len (c := (cS cB)) (l := l2) (x := (.row (.top 15) 94)) (by kernel_rfl) (by kernel_rfl)) ?_
 refine z1 1 ⟨[(1, (.sl (List.map c_Rect l))), (2, (.ptr 2 0)), (5, (.row (.top 15) 94)), (17, (vI (l2.length : Int))), (18, (vI 0))], [(2, .box [(.sl (List.map cI g.x)), (.sl (List.map cI g.y))]), (15, .row 94 [(0, 4)] (List.map (cS cB) l2))]⟩ (by kernel_rfl) ?_
 refine sem_block (by kernel_rfl) ?_
 obtain ⟨x8756, hx8756, h⟩ := bindS h
 refine sem_loopS (fun (s5839 : Int × (List (List Bool))) => ⟨[(1, (.sl (List.map c_Rect l))), (2, (.ptr 500000 0)), (5, (.row (.top 500001) 94)), (17, (vI (l2.length : Int))), (18, (vI s5839.1))], [(500000, .box [(.sl (List.map cI g.x)), (.sl (List.map cI g.y))]), (500001, .row 94 [(0, 4)] (List.map (cS cB) s5839.2))]⟩) (fun (x8756 : (List (List Bool))) => (.exit 0, ⟨[(5, (.row (.top 500000) 94))], [(500000, .row 94 [(0, 4)] (List.map (cS cB) x8756))]⟩)) (geom_grid_covered_l4 g l l2) (0, l2) x8756 (by kernel_rfl) (subR_prep [] [(2, 500000), (15, 500001)] (by kernel_rfl) rfl rfl (by kernel_rfl)) hx8756 ?_ ?_ ?_
 ·intro s5839 r h
  refine z3 1 ⟨[(1, (.sl (List.map c_Rect l))), (2, (.ptr 500000 0)), (5, (.row (.top 500001) 94)), (17, (vI (l2.length : Int))), (18, (vI s5839.1)), (19, (vB (decide (s5839.1 < (l2.length : Int)))))], [(500000, .box [(.sl (List.map cI g.x)), (.sl (List.map cI g.y))]), (500001, .row 94 [(0, 4)] (List.map (cS cB) s5839.2))]⟩ (by kernel_rfl) ?_
  refine sem_seq (by kernel_rfl) ?_
  refine sem_cond (decide (s5839.1 < (l2.length : Int))) (by kernel_rfl) (by kernel_rfl) (fun hb => ?_) (fun hb => ?_)
  ·replace h := iteT hb h
   refine z4 ⟨[(1, (.sl (List.map c_Rect l))), (2, (.ptr 500000 0)), (5, (.row (.top 500001) 94)), (17, (vI (l2.length : Int))), (18, (vI s5839.1))], [(500000, .box [(.sl (List.map cI g.x)), (.sl (List.map cI g.y))]), (500001, .row 94 [(0, 4)] (List.map (cS cB) s5839.2))]⟩ (by kernel_rfl) ?_
   refine sem_seq (by kernel_rfl) ?_
   refine sem_block (by kernel_rfl) ?_
   refine z3 2 ⟨[(1, (.sl (List.map c_Rect l))), (2, (.ptr 500000 0)), (5, (.row (.top 500001) 94)), (6, (vI s5839.1)), (17, (vI (l2.length : Int))), (18, (vI s5839.1))], [(500000, .box [(.sl (List.map cI g.x)), (.sl (List.map cI g.y))]), (500001, .row 94 [(0, 4)] (List.map (cS cB) s5839.2))]⟩ (by kernel_rfl) ?_
   refine z7 (by kernel_rfl) ?_
   refine evs_run 4 (by kernel_rfl) ?_
   refine evs_op (st_len (c := cI) (l := g.y) (x := (.sl (List.map cI g.y))) (by kernel_rfl) (by kernel_rfl)) ?_
   refine evs_run 1 (by kernel_rfl) ?_
   obtain ⟨l8029, hl8029, h⟩ := bindS h
   refine evs_op (st_mk (c := cB) (z := false) (n := (isub (g.y.length : Int) 1)) (e := 4) (d := 27) (zs := [(vB false)]) (k1 := .i64) (k2 := .i64) (by kernel_rfl) rfl hl8029) ?_
   obtain ⟨x8030, hx8030, h⟩ := bindS h
   refine evs_op (st_idxO (c := (cS cB)) (l := s5839.2) (i := s5839.1) (kd := .i64) (kk := (.top 500001)) (e := 94) (sz := 1) (by kernel_rfl) (by kernel_rfl) hx8030 rfl) ?_
   refine evs_at (at_moveJ (c := (cS cB)) (c2 := cB) (l := s5839.2) (x := x8030) (x' := l8029) (l2 := l8029) (g := 500001) (d := 27) (e := 94) (e' := 4) (i := (Int.toNat s5839.1)) (off := 0) (J := [(0, 4)]) (by kernel_rfl) (by kernel_rfl) (by kernel_rfl) (by kernel_rfl) rfl ((idxS hx8030).2) rfl) ?_
   refine evs_endS (by kernel_rfl) (fun τ hτ => ?_)
   refine th_normalS hτ ⟨[(1, (.sl (List.map c_Rect l))), (2, (.ptr 500000 0)), (5, (.row (.top 500001) 94)), (6, (vI s5839.1)), (17, (vI (l2.length : Int))), (18, (vI s5839.1))], [(500000, .box [(.sl (List.map cI g.x)), (.sl (List.map cI g.y))]), (500001, .row 94 [(0, 4)] (List.map (cS cB) (List.set s5839.2 (Int.toNat s5839.1) l8029)))]⟩ (here (by kernel_rfl)) ?_
   refine z7 (by kernel_rfl) ?_
   refine evs_run 2 (by kernel_rfl) ?_
   obtain ⟨x8032, hx8032, h⟩ := bindS h
   refine evs_op (st_idxO (c := (cS cB)) (l := (List.set s5839.2 (Int.toNat s5839.1) l8029)) (i := s5839.1) (kd := .i64) (kk := (.top 500001)) (e := 94) (sz := 1) (by kernel_rfl) (by kernel_rfl) hx8032 rfl) ?_
   refine evs_op (st_ldO (c := (cS cB)) (l := (List.set s5839.2 (Int.toNat s5839.1) l8029)) (i := (Int.toNat s5839.1)) (v := (.row (.sub 500001 (Int.toNat s5839.1) 0) 4)) (agg := false) (sz := 1) (kk := (.top 500001)) (e := 94) (off := 0) (J := [(0, 4)]) (by kernel_rfl) (by kernel_rfl) (by kernel_rfl) ((idxS hx8032).2) (by kernel_rfl)) ?_
   refine evs_op (st_len (c := cB) (l := x8032) (x := (.row (.sub 500001 (Int.toNat s5839.1) 0) 4)) (by kernel_rfl) (elems_sub (g := 500001) (i := (Int.toNat s5839.1)) (j := 0) (c := (cS cB)) (c2 := cB) (e := 94) (J := [(0, 4)]) (l := (List.set s5839.2 (Int.toNat s5839.1) l8029)) (x := x8032) (l2 := x8032) (by kernel_rfl) rfl ((idxS hx8032).2) rfl)) ?_
   refine z1 1 ⟨[(1, (.sl (List.map c_Rect l))), (2, (.ptr 500000 0)), (5, (.row (.top 500001) 94)), (6, (vI s5839.1)), (17, (vI (l2.length : Int))), (18, (vI s5839.1)), (33, (vI (x8032.length : Int))), (34, (vI 0))], [(500000, .box [(.sl (List.map cI g.x)), (.sl (List.map cI g.y))]), (500001, .row 94 [(0, 4)] (List.map (cS cB) (List.set s5839.2 (Int.toNat s5839.1) l8029)))]⟩ (by kernel_rfl) ?_
   refine sem_block (by kernel_rfl) ?_
   obtain ⟨x8755, hx8755, h⟩ := bindS h
   refine sem_loopS (fun (s8274 : Int × (List (List Bool))) => ⟨[(1, (.sl (List.map c_Rect l))), (2, (.ptr 500000 0)), (5, (.row (.top 500001) 94)), (6, (vI s5839.1)), (17, (vI (l2.length : Int))), (18, (vI s5839.1)), (33, (vI (x8032.length : Int))), (34, (vI s8274.1))], [(500000, .box [(.sl (List.map cI g.x)), (.sl (List.map cI g.y))]), (500001, .row 94 [(0, 4)] (List.map (cS cB) s8274.2))]⟩) (fun (x8755 : (List (List Bool))) => (.exit 2, ⟨[(1, (.sl (List.map c_Rect l))), (2, (.ptr 500000 0)), (5, (.row (.top 500001) 94)), (17, (vI (l2.length : Int))), (18, (vI s5839.1))], [(500000, .box [(.sl (List.map cI g.x)), (.sl (List.map cI g.y))]), (500001, .row 94 [(0, 4)] (List.map (cS cB) x8755))]⟩)) (geom_grid_covered_l3 g l s5839 x8032) (0, (List.set s5839.2 (Int.toNat s5839.1) l8029)) x8755 (by kernel_rfl) (here (by kernel_rfl)) hx8755 ?_ ?_ ?_
   ·intro s8274 r h
    refine z3 1 ⟨[(1, (.sl (List.map c_Rect l))), (2, (.ptr 500000 0)), (5, (.row (.top 500001) 94)), (6, (vI s5839.1)), (17, (vI (l2.length : Int))), (18, (vI s5839.1)), (33, (vI (x8032.length : Int))), (34, (vI s8274.1)), (35, (vB (decide (s8274.1 < (x8032.length : Int)))))], [(500000, .box [(.sl (List.map cI g.x)), (.sl (List.map cI g.y))]), (500001, .row 94 [(0, 4)] (List.map (cS cB) s8274.2))]⟩ (by kernel_rfl) ?_
    refine sem_seq (by kernel_rfl) ?_
    refine sem_cond (decide (s8274.1 < (x8032.length : Int))) (by kernel_rfl) (by kernel_rfl) (fun hb => ?_) (fun hb => ?_)
    ·replace h := iteT hb h
     refine z4 ⟨[(1, (.sl (List.map c_Rect l))), (2, (.ptr 500000 0)), (5, (.row (.top 500001) 94)), (6, (vI s5839.1)), (17, (vI (l2.length : Int))), (18, (vI s5839.1)), (33, (vI (x8032.length : Int))), (34, (vI s8274.1))], [(500000, .box [(.sl (List.map cI g.x)), (.sl (List.map cI g.y))]), (500001, .row 94 [(0, 4)] (List.map (cS cB) s8274.2))]⟩ (by kernel_rfl) ?_
     refine sem_seq (by kernel_rfl) ?_
     refine sem_block (by kernel_rfl) ?_
     refine z3 2 ⟨[(1, (.sl (List.map c_Rect l))), (2, (.ptr 500000 0)), (5, (.row (.top 500001) 94)), (6, (vI s5839.1)), (7, (vI s8274.1)), (17, (vI (l2.length : Int))), (18, (vI s5839.1)), (33, (vI (x8032.length : Int))), (34, (vI s8274.1))], [(500000, .box [(.sl (List.map cI g.x)), (.sl (List.map cI g.y))]), (500001, .row 94 [(0, 4)] (List.map (cS cB) s8274.2))]⟩ (by kernel_rfl) ?_
     refine z7 (by kernel_rfl) ?_
     refine evs_run 1 (by kernel_rfl) ?_
     refine evs_op (st_len (c := c_Rect) (l := l) (x := (.sl (List.map c_Rect l))) (by kernel_rfl) (by kernel_rfl)) ?_
     refine z1 1 ⟨[(1, (.sl (List.map c_Rect l))), (2, (.ptr 500000 0)), (5, (.row (.top 500001) 94)), (6, (vI s5839.1)), (7, (vI s8274.1)), (17, (vI (l2.length : Int))), (18, (vI s5839.1)), (33, (vI (x8032.length : Int))), (34, (vI s8274.1)), (37, (.sl (List.map c_Rect l))), (38, (vI (l.length : Int))), (39, (vI 0))], [(500000, .box [(.sl (List.map cI g.x)), (.sl (List.map cI g.y))]), (500001, .row 94 [(0, 4)] (List.map (cS cB) s8274.2))]⟩ (by kernel_rfl) ?_
     refine sem_block (by kernel_rfl) ?_
     obtain ⟨x8754, hx8754, h⟩ := bindS h
     refine sem_loopS (fun (s8675 : Int × (List (List Bool))) => ⟨[(1, (.sl (List.map c_Rect l))), (2, (.ptr 500000 0)), (5, (.row (.top 500001) 94)), (6, (vI s5839.1)), (7, (vI s8274.1)), (17, (vI (l2.length : Int))), (18, (vI s5839.1)), (33, (vI (x8032.length : Int))), (34, (vI s8274.1)), (37, (.sl (List.map c_Rect l))), (38, (vI (l.length : Int))), (39, (vI s8675.1))], [(500000, .box [(.sl (List.map cI g.x)), (.sl (List.map cI g.y))]), (500001, .row 94 [(0, 4)] (List.map (cS cB) s8675.2))]⟩) (fun (x8754 : (List (List Bool))) => (.exit 4, ⟨[(1, (.sl (List.map c_Rect l))), (2, (.ptr 500000 0)), (5, (.row (.top 500001) 94)), (6, (vI s5839.1)), (17, (vI (l2.length : Int))), (18, (vI s5839.1)), (33, (vI (x8032.length : Int))), (34, (vI s8274.1))], [(500000, .box [(.sl (List.map cI g.x)), (.sl (List.map cI g.y))]), (500001, .row 94 [(0, 4)] (List.map (cS cB) x8754))]⟩)) (geom_grid_covered_l2 g l s5839 s8274) (0, s8274.2) x8754 (by kernel_rfl) (here (by kernel_rfl)) hx8754 ?_ ?_ ?_
     ·intro s8675 r h
      refine z3 1 ⟨[(1, (.sl (List.map c_Rect l))), (2, (.ptr 500000 0)), (5, (.row (.top 500001) 94)), (6, (vI s5839.1)), (7, (vI s8274.1)), (17, (vI (l2.length : Int))), (18, (vI s5839.1)), (33, (vI (x8032.length : Int))), (34, (vI s8274.1)), (37, (.sl (List.map c_Rect l))), (38, (vI (l.length : Int))), (39, (vI s8675.1)), (40, (vB (decide (s8675.1 < (l.length : Int)))))], [(500000, .box [(.sl (List.map cI g.x)), (.sl (List.map cI g.y))]), (500001, .row 94 [(0, 4)] (List.map (cS cB) s8675.2))]⟩ (by kernel_rfl) ?_
      refine sem_seq (by kernel_rfl) ?_
      refine sem_cond (decide (s8675.1 < (l.length : Int))) (by kernel_rfl) (by kernel_rfl) (fun hb => ?_) (fun hb => ?_)
      ·replace h := iteT hb h
       refine z4 ⟨[(1, (.sl (List.map c_Rect l))), (2, (.ptr 500000 0)), (5, (.row (.top 500001) 94)), (6, (vI s5839.1)), (7, (vI s8274.1)), (17, (vI (l2.length : Int))), (18, (vI s5839.1)), (33, (vI (x8032.length : Int))), (34, (vI s8274.1)), (37, (.sl (List.map c_Rect l))), (38, (vI (l.length : Int))), (39, (vI s8675.1))], [(500000, .box [(.sl (List.map cI g.x)), (.sl (List.map cI g.y))]), (500001, .row 94 [(0, 4)] (List.map (cS cB) s8675.2))]⟩ (by kernel_rfl) ?_
       refine sem_seqJ (fun (j8734 : (List (List Bool))) => ⟨[(1, (.sl (List.map c_Rect l))), (2, (.ptr 500000 0)), (5, (.row (.top 500001) 94)), (6, (vI s5839.1)), (7, (vI s8274.1)), (17, (vI (l2.length : Int))), (18, (vI s5839.1)), (33, (vI (x8032.length : Int))), (34, (vI s8274.1)), (37, (.sl (List.map c_Rect l))), (38, (vI (l.length : Int))), (39, (vI s8675.1))], [(500000, .box [(.sl (List.map cI g.x)), (.sl (List.map cI g.y))]), (500001, .row 94 [(0, 4)] (List.map (cS cB) j8734))]⟩) (geom_grid_covered_k1 s8675) r (by kernel_rfl) (fun j8734 h => ?_) ?_
       ·refine sem_region (by kernel_rfl) ?_
        refine z6 2 (by kernel_rfl) (fun τ hτ => ?_)
        obtain rfl := Option.some.inj h
        exact lk_nextS hτ (here (by kernel_rfl))
       refine sem_block (by kernel_rfl) ?_
       refine z7 (by kernel_rfl) ?_
       obtain ⟨x8736, hx8736, h⟩ := bindS h
       refine evs_op (st_idx (c := c_Rect) (l := l) (i := s8675.1) (kd := .i64) (sz := 4) (by kernel_rfl) hx8736 rfl) ?_
       refine z1 3 ⟨[(1, (.sl (List.map c_Rect l))), (2, (.ptr 500000 0)), (5, (.row (.top 500001) 94)), (6, (vI s5839.1)), (7, (vI s8274.1)), (9, (.ptr 9 0)), (17, (vI (l2.length : Int))), (18, (vI s5839.1)), (33, (vI (x8032.length : Int))), (34, (vI s8274.1)), (37, (.sl (List.map c_Rect l))), (38, (vI (l.length : Int))), (39, (vI s8675.1))], [(9, .box [(vI x8736.X), (vI x8736.Y), (vI x8736.W), (vI x8736.H)]), (500000, .box [(.sl (List.map cI g.x)), (.sl (List.map cI g.y))]), (500001, .row 94 [(0, 4)] (List.map (cS cB) s8675.2))]⟩ (by kernel_rfl) ?_
       refine sem_seq (by kernel_rfl) ?_
       obtain ⟨j8745, hj8745, h⟩ := bindS h
       refine sem_drawP ⟨[(1, (.sl (List.map c_Rect l))), (2, (.ptr 500000 0)), (5, (.row (.top 500001) 94)), (6, (vI s5839.1)), (7, (vI s8274.1)), (17, (vI (l2.length : Int))), (18, (vI s5839.1)), (33, (vI (x8032.length : Int))), (34, (vI s8274.1)), (37, (.sl (List.map c_Rect l))), (38, (vI (l.length : Int))), (39, (vI s8675.1)), (86, (vB j8745))], [(500000, .box [(.sl (List.map cI g.x)), (.sl (List.map cI g.y))]), (500001, .row 94 [(0, 4)] (List.map (cS cB) s8675.2))]⟩ [] [] [] [] [] 42 (by kernel_rfl) (by kernel_rfl) (by kernel_rfl) ?_ (fun τ hτ => ?_)
       ·replace h := hj8745
        refine evd_run 5 (by kernel_rfl) ?_
        obtain ⟨x8746, hx8746, h⟩ := bindS h
        refine evd_val (by kernel_rfl) (st_idx (c := cI) (l := g.x) (i := s5839.1) (kd := .i64) (sz := 1) (by kernel_rfl) hx8746 rfl) (by kernel_rfl) (by kernel_rfl) ?_
        refine evd_run 3 (by kernel_rfl) ?_
        refine evd_split (decide (x8736.X ≤ x8746)) (fun b0 => ⟨[(51, (vB b0)), (50, (vB b0)), (49, (vI x8746)), (48, (.vptr [(vI x8746)] 0)), (47, (vI s5839.1)), (46, (.sl (List.map cI g.x))), (45, (.ptr 500000 0)), (44, (vI x8736.X)), (43, (.ptr 9 0)), (1, (.sl (List.map c_Rect l))), (2, (.ptr 500000 0)), (5, (.row (.top 500001) 94)), (6, (vI s5839.1)), (7, (vI s8274.1)), (9, (.ptr 9 0)), (17, (vI (l2.length : Int))), (18, (vI s5839.1)), (33, (vI (x8032.length : Int))), (34, (vI s8274.1)), (37, (.sl (List.map c_Rect l))), (38, (vI (l.length : Int))), (39, (vI s8675.1))], [(9, .box [(vI x8736.X), (vI x8736.Y), (vI x8736.W), (vI x8736.H)]), (500000, .box [(.sl (List.map cI g.x)), (.sl (List.map cI g.y))]), (500001, .row 94 [(0, 4)] (List.map (cS cB) s8675.2))]⟩) (by kernel_rfl) (fun hb => ?_) (fun hb => ?_)
        ·replace h := iteT hb h
         refine evd_run 3 (by kernel_rfl) ?_
         obtain ⟨x8747, hx8747, h⟩ := bindS h
         refine evd_val (by kernel_rfl) (st_idx (c := cI) (l := g.x) (i := s5839.1) (kd := .i64) (sz := 1) (by kernel_rfl) hx8747 rfl) (by kernel_rfl) (by kernel_rfl) ?_
         refine evd_run 9 (by kernel_rfl) ?_
         refine evd_split (decide (x8747 < (iadd x8736.X x8736.W))) (fun b0 => ⟨[(64, (vB b0)), (63, (vB b0)), (62, (vB b0)), (61, (vI (iadd x8736.X x8736.W))), (60, (vI x8736.W)), (59, (.ptr 9 2)), (58, (vI x8736.X)), (57, (.ptr 9 0)), (56, (vI x8747)), (55, (.vptr [(vI x8747)] 0)), (54, (vI s5839.1)), (53, (.sl (List.map cI g.x))), (52, (.ptr 500000 0)), (51, (vB true)), (50, (vB true)), (49, (vI x8746)), (48, (.vptr [(vI x8746)] 0)), (47, (vI s5839.1)), (46, (.sl (List.map cI g.x))), (45, (.ptr 500000 0)), (44, (vI x8736.X)), (43, (.ptr 9 0)), (1, (.sl (List.map c_Rect l))), (2, (.ptr 500000 0)), (5, (.row (.top 500001) 94)), (6, (vI s5839.1)), (7, (vI s8274.1)), (9, (.ptr 9 0)), (17, (vI (l2.length : Int))), (18, (vI s5839.1)), (33, (vI (x8032.length : Int))), (34, (vI s8274.1)), (37, (.sl (List.map c_Rect l))), (38, (vI (l.length : Int))), (39, (vI s8675.1))], [(9, .box [(vI x8736.X), (vI x8736.Y), (vI x8736.W), (vI x8736.H)]), (500000, .box [(.sl (List.map cI g.x)), (.sl (List.map cI g.y))]), (500001, .row 94 [(0, 4)] (List.map (cS cB) s8675.2))]⟩) (by kernel_rfl) (fun hb => ?_) (fun hb => ?_)
         ·replace h := iteT hb h
          refine evd_run 5 (by kernel_rfl) ?_
          obtain ⟨x8748, hx8748, h⟩ := bindS h
          refine evd_val (by kernel_rfl) (st_idx (c := cI) (l := g.y) (i := s8274.1) (kd := .i64) (sz := 1) (by kernel_rfl) hx8748 rfl) (by kernel_rfl) (by kernel_rfl) ?_
          refine evd_run 4 (by kernel_rfl) ?_
          refine evd_split (decide (x8736.Y ≤ x8748)) (fun b0 => ⟨[(74, (vB b0)), (73, (vB b0)), (72, (vB b0)), (71, (vI x8748)), (70, (.vptr [(vI x8748)] 0)), (69, (vI s8274.1)), (68, (.sl (List.map cI g.y))), (67, (.ptr 500000 1)), (66, (vI x8736.Y)), (65, (.ptr 9 1)), (64, (vB true)), (63, (vB true)), (62, (vB true)), (61, (vI (iadd x8736.X x8736.W))), (60, (vI x8736.W)), (59, (.ptr 9 2)), (58, (vI x8736.X)), (57, (.ptr 9 0)), (56, (vI x8747)), (55, (.vptr [(vI x8747)] 0)), (54, (vI s5839.1)), (53, (.sl (List.map cI g.x))), (52, (.ptr 500000 0)), (51, (vB true)), (50, (vB true)), (49, (vI x8746)), (48, (.vptr [(vI x8746)] 0)), (47, (vI s5839.1)), (46, (.sl (List.map cI g.x))), (45, (.ptr 500000 0)), (44, (vI x8736.X)), (43, (.ptr 9 0)), (1, (.sl (List.map c_Rect l))), (2, (.ptr 500000 0)), (5, (.row (.top 500001) 94)), (6, (vI s5839.1)), (7, (vI s8274.1)), (9, (.ptr 9 0)), (17, (vI (l2.length : Int))), (18, (vI s5839.1)), (33, (vI (x8032.length : Int))), (34, (vI s8274.1)), (37, (.sl (List.map c_Rect l))), (38, (vI (l.length : Int))), (39, (vI s8675.1))], [(9, .box [(vI x8736.X), (vI x8736.Y), (vI x8736.W), (vI x8736.H)]), (500000, .box [(.sl (List.map cI g.x)), (.sl (List.map cI g.y))]), (500001, .row 94 [(0, 4)] (List.map (cS cB) s8675.2))]⟩) (by kernel_rfl) (fun hb => ?_) (fun hb => ?_)
          ·replace h := iteT hb h
           refine evd_run 3 (by kernel_rfl) ?_
           obtain ⟨x8749, hx8749, h⟩ := bindS h
           refine evd_val (by kernel_rfl) (st_idx (c := cI) (l := g.y) (i := s8274.1) (kd := .i64) (sz := 1) (by kernel_rfl) hx8749 rfl) (by kernel_rfl) (by kernel_rfl) ?_
           refine evd_run 6 (by kernel_rfl) ?_
           refine evd_end (by kernel_rfl) ?_
           refine evo_run 2 (by kernel_rfl) ?_
           refine evo_endS (by kernel_rfl) (fun τ hτ => ?_)
           obtain rfl := Option.some.inj h
           exact leafC hτ (here (by kernel_rfl))
          ·replace h := iteF hb h
           refine evd_run 10 (by kernel_rfl) ?_
           refine evd_end (by kernel_rfl) ?_
           refine evo_run 2 (by kernel_rfl) ?_
           refine evo_endS (by kernel_rfl) (fun τ hτ => ?_)
           obtain rfl := Option.some.inj h
           exact leafC hτ (here (by kernel_rfl))
         ·replace h := iteF hb h
          refine evd_run 20 (by kernel_rfl) ?_
          refine evd_end (by kernel_rfl) ?_
          refine evo_run 2 (by kernel_rfl) ?_
          refine evo_endS (by kernel_rfl) (fun τ hτ => ?_)
          obtain rfl := Option.some.inj h
          exact leafC hτ (here (by kernel_rfl))
        ·replace h := iteF hb h
         refine evd_run 33 (by kernel_rfl) ?_
         refine evd_end (by kernel_rfl) ?_
         refine evo_run 2 (by kernel_rfl) ?_
         refine evo_endS (by kernel_rfl) (fun τ hτ => ?_)
         obtain rfl := Option.some.inj h
         exact leafC hτ (here (by kernel_rfl))
       refine th_normalS hτ ⟨[(1, (.sl (List.map c_Rect l))), (2, (.ptr 500000 0)), (5, (.row (.top 500001) 94)), (6, (vI s5839.1)), (7, (vI s8274.1)), (17, (vI (l2.length : Int))), (18, (vI s5839.1)), (33, (vI (x8032.length : Int))), (34, (vI s8274.1)), (37, (.sl (List.map c_Rect l))), (38, (vI (l.length : Int))), (39, (vI s8675.1)), (86, (vB j8745))], [(500000, .box [(.sl (List.map cI g.x)), (.sl (List.map cI g.y))]), (500001, .row 94 [(0, 4)] (List.map (cS cB) s8675.2))]⟩ (here (by kernel_rfl)) ?_
       refine sem_cond j8745 (by kernel_rfl) (by kernel_rfl) (fun hb => ?_) (fun hb => ?_)
       ·replace h := iteT hb h
        refine sem_region (by kernel_rfl) ?_
        refine evs_run 2 (by kernel_rfl) ?_
        obtain ⟨x8752, hx8752, h⟩ := bindS h
        refine evs_op (st_idxO (c := (cS cB)) (l := s8675.2) (i := s5839.1) (kd := .i64) (kk := (.top 500001)) (e := 94) (sz := 1) (by kernel_rfl) (by kernel_rfl) hx8752 rfl) ?_
        refine evs_op (st_ldO (c := (cS cB)) (l := s8675.2) (i := (Int.toNat s5839.1)) (v := (.row (.sub 500001 (Int.toNat s5839.1) 0) 4)) (agg := false) (sz := 1) (kk := (.top 500001)) (e := 94) (off := 0) (J := [(0, 4)]) (by kernel_rfl) (by kernel_rfl) (by kernel_rfl) ((idxS hx8752).2) (by kernel_rfl)) ?_
        refine evs_run 1 (by kernel_rfl) ?_
        obtain ⟨x8753, hx8753, h⟩ := bindS h
        refine evs_op (st_idxO (c := cB) (l := x8752) (i := s8274.1) (kd := .i64) (kk := (.sub 500001 (Int.toNat s5839.1) 0)) (e := 4) (sz := 1) (by kernel_rfl) (rowAt_sub (g := 500001) (i := (Int.toNat s5839.1)) (j := 0) (c := (cS cB)) (c2 := cB) (e := 94) (J := [(0, 4)]) (l := s8675.2) (x := x8752) (l2 := x8752) (by kernel_rfl) rfl ((idxS hx8752).2) rfl) hx8753 rfl) ?_
        refine evs_op (st_stO (c := cB) (l := x8752) (i := (Int.toNat s8274.1)) (x := x8753) (x' := true) (v := (vB true)) (agg := false) (sz := 1) (kk := (.sub 500001 (Int.toNat s5839.1) 0)) (e := 4) (off := 0) (J := []) (o := .row 94 [(0, 4)] (List.map (cS cB) (List.set s8675.2 (Int.toNat s5839.1) (List.set x8752 (Int.toNat s8274.1) true)))) (by kernel_rfl) (rowAt_sub (g := 500001) (i := (Int.toNat s5839.1)) (j := 0) (c := (cS cB)) (c2 := cB) (e := 94) (J := [(0, 4)]) (l := s8675.2) (x := x8752) (l2 := x8752) (by kernel_rfl) rfl ((idxS hx8752).2) rfl) (by kernel_rfl) ((idxS hx8753).2) (by kernel_rfl) (by kernel_rfl) (rowSet_sub (g := 500001) (i := (Int.toNat s5839.1)) (j := 0) (c := (cS cB)) (e := 94) (J := [(0, 4)]) (l := s8675.2) (x := x8752) (x' := (List.set x8752 (Int.toNat s8274.1) true)) (by kernel_rfl) ((idxS hx8752).2) rfl)) ?_
        refine evs_endS (by kernel_rfl) (fun τ hτ => ?_)
        refine bl_normal ?_
        exact jk_normal (List.set s8675.2 (Int.toNat s5839.1) (List.set x8752 (Int.toNat s8274.1) true)) h hτ (here (by kernel_rfl))
       ·replace h := iteF hb h
        refine sem_skipS (by kernel_rfl) (fun τ hτ => ?_)
        refine bl_normal ?_
        exact jk_normal s8675.2 h hτ (here (by kernel_rfl))
      ·replace h := iteF hb h
       refine sem_exitS 4 (by kernel_rfl) rfl (fun τ hτ => ?_)
       refine th_exit ?_
       obtain rfl := Option.some.inj h
       exact lk_outS hτ rfl (here (by kernel_rfl))
     ·intro x
      rfl
     ·intro τ hτ
      refine bl_hit (by kernel_rfl) ?_
      refine bl_normal ?_
      refine th_normalS hτ ⟨[(1, (.sl (List.map c_Rect l))), (2, (.ptr 500000 0)), (5, (.row (.top 500001) 94)), (6, (vI s5839.1)), (17, (vI (l2.length : Int))), (18, (vI s5839.1)), (33, (vI (x8032.length : Int))), (34, (vI s8274.1))], [(500000, .box [(.sl (List.map cI g.x)), (.sl (List.map cI g.y))]), (500001, .row 94 [(0, 4)] (List.map (cS cB) x8754))]⟩ (here (by kernel_rfl)) ?_
      refine sem_region (by kernel_rfl) ?_
      refine z6 2 (by kernel_rfl) (fun τ hτ => ?_)
      obtain rfl := Option.some.inj h
      exact lk_nextS hτ (here (by kernel_rfl))
    ·replace h := iteF hb h
     refine sem_exitS 2 (by kernel_rfl) rfl (fun τ hτ => ?_)
     refine th_exit ?_
     obtain rfl := Option.some.inj h
     exact lk_outS hτ rfl (here (by kernel_rfl))
   ·intro x
    rfl
   ·intro τ hτ
    refine bl_hit (by kernel_rfl) ?_
    refine bl_normal ?_
    refine th_normalS hτ ⟨[(1, (.sl (List.map c_Rect l))), (2, (.ptr 500000 0)), (5, (.row (.top 500001) 94)), (17, (vI (l2.length : Int))), (18, (vI s5839.1))], [(500000, .box [(.sl (List.map cI g.x)), (.sl (List.map cI g.y))]), (500001, .row 94 [(0, 4)] (List.map (cS cB) x8755))]⟩ (here (by kernel_rfl)) ?_
    refine sem_region (by kernel_rfl) ?_
    refine z6 2 (by kernel_rfl) (fun τ hτ => ?_)
    obtain rfl := Option.some.inj h
    exact lk_nextS hτ (here (by kernel_rfl))
  ·replace h := iteF hb h
   refine sem_exitS 0 (by kernel_rfl) rfl (fun τ hτ => ?_)
   refine th_exit ?_
   obtain rfl := Option.some.inj h
   exact lk_outS hτ rfl (subR_prep [] [(500001, 500000)] (by kernel_rfl) rfl rfl (by kernel_rfl))
 ·intro x
  rfl
 ·intro τ hτ
  refine bl_hit (by kernel_rfl) ?_
  refine th_normalS hτ ⟨[(5, (.row (.top 500000) 94))], [(500000, .row 94 [(0, 4)] (List.map (cS cB) x8756))]⟩ (here (by kernel_rfl)) ?_
  refine z8 2 ⟨[(4, (.row (.top 500000) 94))], [(500000, .row 94 [(0, 4)] (List.map (cS cB) x8756))]⟩ (by kernel_rfl) (fun τ hτ => ?_)
  obtain rfl := Option.some.inj h
  exact rk_ret hτ [(4, (.row (.top 0) 94))] (subR_prep [] [(500000, 0)] (by kernel_rfl) rfl rfl (by kernel_rfl)) (by kernel_rfl)
theorem W.sheetmetalref01_CheckRects_ok {l : (List Rect)} {r : Int} (h : sheetmetalref01_CheckRects l = some r) : PC G.P 95 [(.sl (List.map c_Rect l))] [] (vI r) [] := by
 refine pc_of G (fn := Try.f95) Try.func95 (by kernel_rfl) (by kernel_rfl) (by kernel_rfl) (by kernel_rfl) (by kernel_rfl) ?_
 refine sem_set ⟨[(0, (.sl (List.map c_Rect l)))], []⟩ (by kernel_rfl) ?_
 refine z3 1 ⟨[(0, (.sl (List.map c_Rect l)))], []⟩ (by kernel_rfl) ?_
 refine sem_seq (by kernel_rfl) ?_
 refine z7 (by kernel_rfl) ?_
 refine evs_run 1 (by kernel_rfl) ?_
 refine evs_op (st_len (c := c_Rect) (l := l) (x := (.sl (List.map c_Rect l))) (by kernel_rfl) (by kernel_rfl)) ?_
 refine z1 1 ⟨[(0, (.sl (List.map c_Rect l))), (6, (vB (decide ((l.length : Int) > 48))))], []⟩ (by kernel_rfl) ?_
 refine sem_cond (decide ((l.length : Int) > 48)) (by kernel_rfl) (by kernel_rfl) (fun hb => ?_) (fun hb => ?_)
 ·replace h := iteT hb h
  refine z8 1 ⟨[(2, (vI 4))], []⟩ (by kernel_rfl) (fun τ hτ => ?_)
  refine th_ret ?_
  obtain rfl := Option.some.inj h
  exact rk_ret hτ [(2, (vI 4))] (here (by kernel_rfl)) (by kernel_rfl)
 ·replace h := iteF hb h
  refine z4 ⟨[(0, (.sl (List.map c_Rect l)))], []⟩ (by kernel_rfl) ?_
  refine sem_seq (by kernel_rfl) ?_
  refine z3 1 ⟨[(0, (.sl (List.map c_Rect l))), (3, (vI 0))], []⟩ (by kernel_rfl) ?_
  refine sem_block (by kernel_rfl) ?_
  obtain ⟨x56, hx56, h⟩ := bindS h
  refine sem_loopS (fun (s39 : Int) => ⟨[(0, (.sl (List.map c_Rect l))), (3, (vI s39))], []⟩) (fun (x56 : Unit ⊕ Unit) => match x56 with | .inl j57 => (.ret, ⟨[(2, (vI 1))], []⟩) | .inr j58 => (.exit 0, ⟨[], []⟩)) (sheetmetalref01_CheckRects_l1 l) 0 x56 (by kernel_rfl) (here (by kernel_rfl)) hx56 ?_ ?_ ?_
  ·intro s39 r h
   refine sem_seq (by kernel_rfl) ?_
   refine z7 (by kernel_rfl) ?_
   refine evs_run 2 (by kernel_rfl) ?_
   refine evs_op (st_len (c := c_Rect) (l := l) (x := (.sl (List.map c_Rect l))) (by kernel_rfl) (by kernel_rfl)) ?_
   refine z1 1 ⟨[(0, (.sl (List.map c_Rect l))), (3, (vI s39)), (10, (vB (decide (s39 < (l.length : Int)))))], []⟩ (by kernel_rfl) ?_
   refine sem_cond (decide (s39 < (l.length : Int))) (by kernel_rfl) (by kernel_rfl) (fun hb => ?_) (fun hb => ?_)
   ·replace h := iteT hb h
    refine z4 ⟨[(0, (.sl (List.map c_Rect l))), (3, (vI s39))], []⟩ (by kernel_rfl) ?_
    refine sem_seq (by kernel_rfl) ?_
    refine sem_block (by kernel_rfl) ?_
    refine z7 (by kernel_rfl) ?_
    refine evs_run 2 (by kernel_rfl) ?_
    obtain ⟨x54, hx54, h⟩ := bindS h
    refine evs_op (st_idx (c := c_Rect) (l := l) (i := s39) (kd := .i64) (sz := 4) (by kernel_rfl) hx54 rfl) ?_
    refine evs_run 1 (by kernel_rfl) ?_
    obtain ⟨r55, hr55, h⟩ := bindS h
    refine evs_callP [] (by kernel_rfl) (W.sheetmetalref01_ValidRect_ok hr55) (by kernel_rfl) (.inl rfl) (by kernel_rfl) ?_
    refine z1 1 ⟨[(0, (.sl (List.map c_Rect l))), (3, (vI s39)), (18, (vB (!r55)))], []⟩ (by kernel_rfl) ?_
    refine sem_cond (!r55) (by kernel_rfl) (by kernel_rfl) (fun hb => ?_) (fun hb => ?_)
    ·replace h := iteT hb h
     refine z8 1 ⟨[(2, (vI 1))], []⟩ (by kernel_rfl) (fun τ hτ => ?_)
     refine bl_ret ?_
     refine th_ret ?_
     obtain rfl := Option.some.inj h
     exact lk_outS hτ rfl (here (by kernel_rfl))
    ·replace h := iteF hb h
     refine sem_skipS (by kernel_rfl) (fun τ hτ => ?_)
     refine bl_normal ?_
     refine th_normalS hτ ⟨[(0, (.sl (List.map c_Rect l))), (3, (vI s39))], []⟩ (here (by kernel_rfl)) ?_
     refine sem_region (by kernel_rfl) ?_
     refine z6 3 (by kernel_rfl) (fun τ hτ => ?_)
     obtain rfl := Option.some.inj h
     exact lk_nextS hτ (here (by kernel_rfl))
   ·replace h := iteF hb h
    refine sem_exitS 0 (by kernel_rfl) rfl (fun τ hτ => ?_)
    refine th_exit ?_
    obtain rfl := Option.some.inj h
    exact lk_outS hτ rfl (here (by kernel_rfl))
  ·intro x
   rcases x with _ | _ <;> rfl
  ·intro τ hτ
   rcases x56 with j57 | j58
   ·refine bl_ret ?_
    refine th_ret ?_
    obtain rfl := Option.some.inj h
    exact rk_ret hτ [(2, (vI 1))] (here (by kernel_rfl)) (by kernel_rfl)
   ·refine bl_hit (by kernel_rfl) ?_
    refine th_normalS hτ ⟨[], []⟩ (here (by kernel_rfl)) ?_
    refine z8 1 ⟨[(2, (vI 0))], []⟩ (by kernel_rfl) (fun τ hτ => ?_)
    obtain rfl := Option.some.inj h
    exact rk_ret hτ [(2, (vI 0))] (here (by kernel_rfl)) (by kernel_rfl)
theorem W.sheetmetalref01_insert_ok {l : (List Int)} {n : Int} {r : (List Int)} (h : sheetmetalref01_insert l n = some r) : PC G.P 114 [(.sl (List.map cI l)), (vI n)] [] (.sl (List.map cI r)) [] := by
 refine pc_of G (fn := Try.f114) Try.func114 (by kernel_rfl) (by kernel_rfl) (by kernel_rfl) (by kernel_rfl) (by kernel_rfl) ?_
 refine sem_set ⟨[(0, (.sl (List.map cI l))), (1, (vI n))], []⟩ (by kernel_rfl) ?_
 refine z3 1 ⟨[(0, (.sl (List.map cI l))), (1, (vI n))], []⟩ (by kernel_rfl) ?_
 refine z3 1 ⟨[(0, (.sl (List.map cI l))), (1, (vI n)), (5, (.row (.top 5) 3))], [(5, .row 3 [] (List.map cI []))]⟩ (by kernel_rfl) ?_
 refine z3 1 ⟨[(0, (.sl (List.map cI l))), (1, (vI n)), (5, (.row (.top 5) 3)), (6, (vB false))], [(5, .row 3 [] (List.map cI []))]⟩ (by kernel_rfl) ?_
 refine sem_seq (by kernel_rfl) ?_
 refine z3 1 ⟨[(0, (.sl (List.map cI l))), (1, (vI n)), (5, (.row (.top 5) 3)), (6, (vB false)), (7, (vI 0))], [(5, .row 3 [] (List.map cI []))]⟩ (by kernel_rfl) ?_
 refine sem_block (by kernel_rfl) ?_
 obtain ⟨x236, hx236, h⟩ := bindS h
 refine sem_loopS (fun (s159 : Bool × Int × (List Int)) => ⟨[(0, (.sl (List.map cI l))), (1, (vI n)), (5, (.row (.top 500000) 3)), (6, (vB s159.1)), (7, (vI s159.2.1))], [(500000, .row 3 [] (List.map cI s159.2.2))]⟩) (fun (x236 : Unit ⊕ Bool × (List Int)) => match x236 with | .inl j237 => (.ret, ⟨[(4, (.sl (List.map cI l)))], []⟩) | .inr j238 => (.exit 0, ⟨[(1, (vI n)), (5, (.row (.top 500000) 3)), (6, (vB j238.1))], [(500000, .row 3 [] (List.map cI j238.2))]⟩)) (sheetmetalref01_insert_l2 l n) (false, 0, []) x236 (by kernel_rfl) (subR_prep [] [(5, 500000)] (by kernel_rfl) rfl rfl (by kernel_rfl)) hx236 ?_ ?_ ?_
 ·intro s159 r h
  refine sem_seq (by kernel_rfl) ?_
  refine z7 (by kernel_rfl) ?_
  refine evs_run 2 (by kernel_rfl) ?_
  refine evs_op (st_len (c := cI) (l := l) (x := (.sl (List.map cI l))) (by kernel_rfl) (by kernel_rfl)) ?_
  refine z1 1 ⟨[(0, (.sl (List.map cI l))), (1, (vI n)), (5, (.row (.top 500000) 3)), (6, (vB s159.1)), (7, (vI s159.2.1)), (11, (vB (decide (s159.2.1 < (l.length : Int)))))], [(500000, .row 3 [] (List.map cI s159.2.2))]⟩ (by kernel_rfl) ?_
  refine sem_cond (decide (s159.2.1 < (l.length : Int))) (by kernel_rfl) (by kernel_rfl) (fun hb => ?_) (fun hb => ?_)
  ·replace h := iteT hb h
   refine z4 ⟨[(0, (.sl (List.map cI l))), (1, (vI n)), (5, (.row (.top 500000) 3)), (6, (vB s159.1)), (7, (vI s159.2.1))], [(500000, .row 3 [] (List.map cI s159.2.2))]⟩ (by kernel_rfl) ?_
   refine sem_seq (by kernel_rfl) ?_
   refine sem_block (by kernel_rfl) ?_
   refine sem_seq (by kernel_rfl) ?_
   refine z7 (by kernel_rfl) ?_
   refine evs_run 2 (by kernel_rfl) ?_
   obtain ⟨x220, hx220, h⟩ := bindS h
   refine evs_op (st_idx (c := cI) (l := l) (i := s159.2.1) (kd := .i64) (sz := 1) (by kernel_rfl) hx220 rfl) ?_
   refine z1 3 ⟨[(0, (.sl (List.map cI l))), (1, (vI n)), (5, (.row (.top 500000) 3)), (6, (vB s159.1)), (7, (vI s159.2.1)), (19, (vB (x220 == n)))], [(500000, .row 3 [] (List.map cI s159.2.2))]⟩ (by kernel_rfl) ?_
   refine sem_cond (x220 == n) (by kernel_rfl) (by kernel_rfl) (fun hb => ?_) (fun hb => ?_)
   ·replace h := iteT hb h
    refine z8 2 ⟨[(4, (.sl (List.map cI l)))], []⟩ (by kernel_rfl) (fun τ hτ => ?_)
    refine th_ret ?_
    refine bl_ret ?_
    refine th_ret ?_
    obtain rfl := Option.some.inj h
    exact lk_outS hτ rfl (here (by kernel_rfl))
   ·replace h := iteF hb h
    refine z4 ⟨[(0, (.sl (List.map cI l))), (1, (vI n)), (5, (.row (.top 500000) 3)), (6, (vB s159.1)), (7, (vI s159.2.1))], [(500000, .row 3 [] (List.map cI s159.2.2))]⟩ (by kernel_rfl) ?_
    refine sem_seqJ (fun (j226 : Bool × (List Int)) => ⟨[(0, (.sl (List.map cI l))), (1, (vI n)), (5, (.row (.top 500000) 3)), (6, (vB j226.1)), (7, (vI s159.2.1))], [(500000, .row 3 [] (List.map cI j226.2))]⟩) (sheetmetalref01_insert_k1 l s159) r (by kernel_rfl) (fun j226 h => ?_) ?_
    ·refine sem_region (by kernel_rfl) ?_
     refine evs_run 3 (by kernel_rfl) ?_
     obtain ⟨x229, hx229, h⟩ := bindS h
     refine evs_op (st_idx (c := cI) (l := l) (i := s159.2.1) (kd := .i64) (sz := 1) (by kernel_rfl) hx229 rfl) ?_
     refine evs_run 2 (by kernel_rfl) ?_
     obtain ⟨l230, hl230, h⟩ := bindS h
     refine evs_op (st_app (c := cI) (l := j226.2) (l2 := [x229]) (x := (.sl (List.map cI [x229]))) (g := 500000) (e := 3) (sz := 1) (d := 41) (by kernel_rfl) (by kernel_rfl) (by kernel_rfl) (by kernel_rfl) (fun _ => rfl) rfl hl230) ?_
     refine z6 1 (by kernel_rfl) (fun τ hτ => ?_)
     refine bl_normal ?_
     refine th_normalS hτ ⟨[(0, (.sl (List.map cI l))), (1, (vI n)), (5, (.row (.top 500000) 3)), (6, (vB j226.1)), (7, (vI s159.2.1))], [(500000, .row 3 [] (List.map cI l230))]⟩ (here (by kernel_rfl)) ?_
     refine sem_region (by kernel_rfl) ?_
     refine z6 3 (by kernel_rfl) (fun τ hτ => ?_)
     obtain rfl := Option.some.inj h
     exact lk_nextS hτ (here (by kernel_rfl))
    refine sem_seq (by kernel_rfl) ?_
    obtain ⟨j232, hj232, h⟩ := bindS h
    refine sem_regionC ⟨[(0, (.sl (List.map cI l))), (1, (vI n)), (5, (.row (.top 500000) 3)), (6, (vB j232.1)), (7, (vI s159.2.1)), (30, (vB j232.2))], [(500000, .row 3 [] (List.map cI s159.2.2))]⟩ (by kernel_rfl) ?_ (fun τ hτ => ?_)
    ·replace h := hj232
     refine evs_run 3 (by kernel_rfl) ?_
     refine evs_split s159.1 (fun b0 => ⟨[(0, (.sl (List.map cI l))), (1, (vI n)), (5, (.row (.top 500000) 3)), (6, (vB b0)), (7, (vI s159.2.1)), (23, (vB (!b0)))], [(500000, .row 3 [] (List.map cI s159.2.2))]⟩) (by kernel_rfl) (fun hb => ?_) (fun hb => ?_)
     ·replace h := iteT hb h
      refine z6 7 (by kernel_rfl) (fun τ hτ => ?_)
      obtain rfl := Option.some.inj h
      exact leafC hτ (here (by kernel_rfl))
     ·replace h := iteF hb h
      refine evs_run 2 (by kernel_rfl) ?_
      obtain ⟨x233, hx233, h⟩ := bindS h
      refine evs_op (st_idx (c := cI) (l := l) (i := s159.2.1) (kd := .i64) (sz := 1) (by kernel_rfl) hx233 rfl) ?_
      refine z6 4 (by kernel_rfl) (fun τ hτ => ?_)
      obtain rfl := Option.some.inj h
      exact leafC hτ (here (by kernel_rfl))
    refine th_normalS hτ ⟨[(0, (.sl (List.map cI l))), (1, (vI n)), (5, (.row (.top 500000) 3)), (6, (vB j232.1)), (7, (vI s159.2.1)), (30, (vB j232.2))], [(500000, .row 3 [] (List.map cI s159.2.2))]⟩ (here (by kernel_rfl)) ?_
    refine sem_cond j232.2 (by kernel_rfl) (by kernel_rfl) (fun hb => ?_) (fun hb => ?_)
    ·replace h := iteT hb h
     refine z7 (by kernel_rfl) ?_
     refine evs_run 3 (by kernel_rfl) ?_
     obtain ⟨l235, hl235, h⟩ := bindS h
     refine evs_op (st_app (c := cI) (l := s159.2.2) (l2 := [n]) (x := (.sl (List.map cI [n]))) (g := 500000) (e := 3) (sz := 1) (d := 34) (by kernel_rfl) (by kernel_rfl) (by kernel_rfl) (by kernel_rfl) (fun _ => rfl) rfl hl235) ?_
     refine z1 1 ⟨[(0, (.sl (List.map cI l))), (1, (vI n)), (5, (.row (.top 500000) 3)), (7, (vI s159.2.1))], [(500000, .row 3 [] (List.map cI l235))]⟩ (by kernel_rfl) ?_
     refine sem_region (by kernel_rfl) ?_
     refine z6 1 (by kernel_rfl) (fun τ hτ => ?_)
     exact jk_normal (true, l235) h hτ (here (by kernel_rfl))
    ·replace h := iteF hb h
     refine sem_skipS (by kernel_rfl) (fun τ hτ => ?_)
     exact jk_normal (j232.1, s159.2.2) h hτ (here (by kernel_rfl))
  ·replace h := iteF hb h
   refine sem_exitS 0 (by kernel_rfl) rfl (fun τ hτ => ?_)
   refine th_exit ?_
   obtain rfl := Option.some.inj h
   exact lk_outS hτ rfl (here (by kernel_rfl))
 ·intro x
  rcases x with _ | _ <;> rfl
 ·intro τ hτ
  rcases x236 with j237 | j238
  ·refine bl_ret ?_
   refine th_ret ?_
   obtain rfl := Option.some.inj h
   exact rk_ret hτ [(4, (.sl (List.map cI l)))] (here (by kernel_rfl)) (by kernel_rfl)
  ·refine bl_hit (by kernel_rfl) ?_
   refine th_normalS hτ ⟨[(1, (vI n)), (5, (.row (.top 500000) 3)), (6, (vB j238.1))], [(500000, .row 3 [] (List.map cI j238.2))]⟩ (here (by kernel_rfl)) ?_
   refine sem_seqJ (fun (j241 : (List Int)) => ⟨[(5, (.row (.top 500000) 3))], [(500000, .row 3 [] (List.map cI j241))]⟩) (sheetmetalref01_insert_k3) r (by kernel_rfl) (fun j241 h => ?_) ?_
   ·refine z8 2 ⟨[(4, (.row (.top 500000) 3))], [(500000, .row 3 [] (List.map cI j241))]⟩ (by kernel_rfl) (fun τ hτ => ?_)
    obtain rfl := Option.some.inj h
    exact rk_ret hτ [(4, (.sl (List.map cI j241)))] (subR_prep [.frz 500000] [] (by kernel_rfl) rfl rfl (by kernel_rfl)) (by kernel_rfl)
   refine z3 2 ⟨[(1, (vI n)), (5, (.row (.top 500000) 3)), (43, (vB (!j238.1)))], [(500000, .row 3 [] (List.map cI j238.2))]⟩ (by kernel_rfl) ?_
   refine sem_cond (!j238.1) (by kernel_rfl) (by kernel_rfl) (fun hb => ?_) (fun hb => ?_)
   ·replace h := iteT hb h
    refine sem_region (by kernel_rfl) ?_
    refine evs_run 3 (by kernel_rfl) ?_
    obtain ⟨l243, hl243, h⟩ := bindS h
    refine evs_op (st_app (c := cI) (l := j238.2) (l2 := [n]) (x := (.sl (List.map cI [n]))) (g := 500000) (e := 3) (sz := 1) (d := 47) (by kernel_rfl) (by kernel_rfl) (by kernel_rfl) (by kernel_rfl) (fun _ => rfl) rfl hl243) ?_
    refine z6 1 (by kernel_rfl) (fun τ hτ => ?_)
    exact jk_normal l243 h hτ (here (by kernel_rfl))
   ·replace h := iteF hb h
    refine sem_skipS (by kernel_rfl) (fun τ hτ => ?_)
    exact jk_normal j238.2 h hτ (here (by kernel_rfl))
theorem W.sheetmetalref01_covers_ok {l : (List Rect)} {x1 : Int} {y : Int} {r : Bool} (h : sheetmetalref01_covers l x1 y = some r) : PC G.P 115 [(.sl (List.map c_Rect l)), (vI x1), (vI y)] [] (vB r) [] := by
 refine pc_of G (fn := Try.f115) Try.func115 (by kernel_rfl) (by kernel_rfl) (by kernel_rfl) (by kernel_rfl) (by kernel_rfl) ?_
 refine sem_set ⟨[(0, (.sl (List.map c_Rect l))), (1, (vI x1)), (2, (vI y))], []⟩ (by kernel_rfl) ?_
 refine z3 1 ⟨[(0, (.sl (List.map c_Rect l))), (1, (vI x1)), (2, (vI y))], []⟩ (by kernel_rfl) ?_
 refine sem_seq (by kernel_rfl) ?_
 refine z3 1 ⟨[(0, (.sl (List.map c_Rect l))), (1, (vI x1)), (2, (vI y)), (7, (vI 0))], []⟩ (by kernel_rfl) ?_
 refine sem_block (by kernel_rfl) ?_
 obtain ⟨x236, hx236, h⟩ := bindS h
 refine sem_loopS (fun (s159 : Int) => ⟨[(0, (.sl (List.map c_Rect l))), (1, (vI x1)), (2, (vI y)), (7, (vI s159))], []⟩) (fun (x236 : Unit ⊕ Unit) => match x236 with | .inl j237 => (.ret, ⟨[(6, (vB true))], []⟩) | .inr j238 => (.exit 0, ⟨[], []⟩)) (sheetmetalref01_covers_l1 l x1 y) 0 x236 (by kernel_rfl) (here (by kernel_rfl)) hx236 ?_ ?_ ?_
 ·intro s159 r h
  refine sem_seq (by kernel_rfl) ?_
  refine z7 (by kernel_rfl) ?_
  refine evs_run 2 (by kernel_rfl) ?_
  refine evs_op (st_len (c := c_Rect) (l := l) (x := (.sl (List.map c_Rect l))) (by kernel_rfl) (by kernel_rfl)) ?_
  refine z1 1 ⟨[(0, (.sl (List.map c_Rect l))), (1, (vI x1)), (2, (vI y)), (7, (vI s159)), (11, (vB (decide (s159 < (l.length : Int)))))], []⟩ (by kernel_rfl) ?_
  refine sem_cond (decide (s159 < (l.length : Int))) (by kernel_rfl) (by kernel_rfl) (fun hb => ?_) (fun hb => ?_)
  ·replace h := iteT hb h
   refine z4 ⟨[(0, (.sl (List.map c_Rect l))), (1, (vI x1)), (2, (vI y)), (7, (vI s159))], []⟩ (by kernel_rfl) ?_
   refine sem_seq (by kernel_rfl) ?_
   refine sem_block (by kernel_rfl) ?_
   refine sem_seq (by kernel_rfl) ?_
   obtain ⟨j229, hj229, h⟩ := bindS h
   refine sem_drawP ⟨[(0, (.sl (List.map c_Rect l))), (1, (vI x1)), (2, (vI y)), (7, (vI s159)), (59, (vB j229))], []⟩ [] [] [] [] [] 44 (by kernel_rfl) (by kernel_rfl) (by kernel_rfl) ?_ (fun τ hτ => ?_)
   ·replace h := hj229
    refine evd_run 2 (by kernel_rfl) ?_
    obtain ⟨x230, hx230, h⟩ := bindS h
    refine evd_val (by kernel_rfl) (st_idx (c := c_Rect) (l := l) (i := s159) (kd := .i64) (sz := 4) (by kernel_rfl) hx230 rfl) (by kernel_rfl) (by kernel_rfl) ?_
    refine evd_run 5 (by kernel_rfl) ?_
    refine evd_split (decide (x230.X ≤ x1)) (fun b0 => ⟨[(21, (vB b0)), (20, (vB b0)), (19, (vI x1)), (18, (vI x230.X)), (17, (.vptr [(vI x230.X), (vI x230.Y), (vI x230.W), (vI x230.H)] 0)), (16, (.vptr [(vI x230.X), (vI x230.Y), (vI x230.W), (vI x230.H)] 0)), (15, (vI s159)), (14, (.sl (List.map c_Rect l))), (0, (.sl (List.map c_Rect l))), (1, (vI x1)), (2, (vI y)), (7, (vI s159))], []⟩) (by kernel_rfl) (fun hb => ?_) (fun hb => ?_)
    ·replace h := iteT hb h
     refine evd_run 3 (by kernel_rfl) ?_
     obtain ⟨x231, hx231, h⟩ := bindS h
     refine evd_val (by kernel_rfl) (st_idx (c := c_Rect) (l := l) (i := s159) (kd := .i64) (sz := 4) (by kernel_rfl) hx231 rfl) (by kernel_rfl) (by kernel_rfl) ?_
     refine evd_run 4 (by kernel_rfl) ?_
     obtain ⟨x232, hx232, h⟩ := bindS h
     refine evd_val (by kernel_rfl) (st_idx (c := c_Rect) (l := l) (i := s159) (kd := .i64) (sz := 4) (by kernel_rfl) hx232 rfl) (by kernel_rfl) (by kernel_rfl) ?_
     refine evd_run 6 (by kernel_rfl) ?_
     refine evd_split (decide (x1 < (iadd x231.X x232.W))) (fun b0 => ⟨[(36, (vB b0)), (35, (vB b0)), (34, (vB b0)), (33, (vI (iadd x231.X x232.W))), (32, (vI x232.W)), (31, (.vptr [(vI x232.X), (vI x232.Y), (vI x232.W), (vI x232.H)] 2)), (30, (.vptr [(vI x232.X), (vI x232.Y), (vI x232.W), (vI x232.H)] 0)), (29, (vI s159)), (28, (.sl (List.map c_Rect l))), (27, (vI x231.X)), (26, (.vptr [(vI x231.X), (vI x231.Y), (vI x231.W), (vI x231.H)] 0)), (25, (.vptr [(vI x231.X), (vI x231.Y), (vI x231.W), (vI x231.H)] 0)), (24, (vI s159)), (23, (.sl (List.map c_Rect l))), (22, (vI x1)), (21, (vB true)), (20, (vB true)), (19, (vI x1)), (18, (vI x230.X)), (17, (.vptr [(vI x230.X), (vI x230.Y), (vI x230.W), (vI x230.H)] 0)), (16, (.vptr [(vI x230.X), (vI x230.Y), (vI x230.W), (vI x230.H)] 0)), (15, (vI s159)), (14, (.sl (List.map c_Rect l))), (0, (.sl (List.map c_Rect l))), (1, (vI x1)), (2, (vI y)), (7, (vI s159))], []⟩) (by kernel_rfl) (fun hb => ?_) (fun hb => ?_)
     ·replace h := iteT hb h
      refine evd_run 2 (by kernel_rfl) ?_
      obtain ⟨x233, hx233, h⟩ := bindS h
      refine evd_val (by kernel_rfl) (st_idx (c := c_Rect) (l := l) (i := s159) (kd := .i64) (sz := 4) (by kernel_rfl) hx233 rfl) (by kernel_rfl) (by kernel_rfl) ?_
      refine evd_run 6 (by kernel_rfl) ?_
      refine evd_split (decide (x233.Y ≤ y)) (fun b0 => ⟨[(45, (vB b0)), (44, (vB b0)), (43, (vB b0)), (42, (vI y)), (41, (vI x233.Y)), (40, (.vptr [(vI x233.X), (vI x233.Y), (vI x233.W), (vI x233.H)] 1)), (39, (.vptr [(vI x233.X), (vI x233.Y), (vI x233.W), (vI x233.H)] 0)), (38, (vI s159)), (37, (.sl (List.map c_Rect l))), (36, (vB true)), (35, (vB true)), (34, (vB true)), (33, (vI (iadd x231.X x232.W))), (32, (vI x232.W)), (31, (.vptr [(vI x232.X), (vI x232.Y), (vI x232.W), (vI x232.H)] 2)), (30, (.vptr [(vI x232.X), (vI x232.Y), (vI x232.W), (vI x232.H)] 0)), (29, (vI s159)), (28, (.sl (List.map c_Rect l))), (27, (vI x231.X)), (26, (.vptr [(vI x231.X), (vI x231.Y), (vI x231.W), (vI x231.H)] 0)), (25, (.vptr [(vI x231.X), (vI x231.Y), (vI x231.W), (vI x231.H)] 0)), (24, (vI s159)), (23, (.sl (List.map c_Rect l))), (22, (vI x1)), (21, (vB true)), (20, (vB true)), (19, (vI x1)), (18, (vI x230.X)), (17, (.vptr [(vI x230.X), (vI x230.Y), (vI x230.W), (vI x230.H)] 0)), (16, (.vptr [(vI x230.X), (vI x230.Y), (vI x230.W), (vI x230.H)] 0)), (15, (vI s159)), (14, (.sl (List.map c_Rect l))), (0, (.sl (List.map c_Rect l))), (1, (vI x1)), (2, (vI y)), (7, (vI s159))], []⟩) (by kernel_rfl) (fun hb => ?_) (fun hb => ?_)
      ·replace h := iteT hb h
       refine evd_run 3 (by kernel_rfl) ?_
       obtain ⟨x234, hx234, h⟩ := bindS h
       refine evd_val (by kernel_rfl) (st_idx (c := c_Rect) (l := l) (i := s159) (kd := .i64) (sz := 4) (by kernel_rfl) hx234 rfl) (by kernel_rfl) (by kernel_rfl) ?_
       refine evd_run 4 (by kernel_rfl) ?_
       obtain ⟨x235, hx235, h⟩ := bindS h
       refine evd_val (by kernel_rfl) (st_idx (c := c_Rect) (l := l) (i := s159) (kd := .i64) (sz := 4) (by kernel_rfl) hx235 rfl) (by kernel_rfl) (by kernel_rfl) ?_
       refine evd_run 3 (by kernel_rfl) ?_
       refine evd_end (by kernel_rfl) ?_
       refine evo_run 2 (by kernel_rfl) ?_
       refine evo_endS (by kernel_rfl) (fun τ hτ => ?_)
       obtain rfl := Option.some.inj h
       exact leafC hτ (here (by kernel_rfl))
      ·replace h := iteF hb h
       refine evd_run 12 (by kernel_rfl) ?_
       refine evd_end (by kernel_rfl) ?_
       refine evo_run 2 (by kernel_rfl) ?_
       refine evo_endS (by kernel_rfl) (fun τ hτ => ?_)
       obtain rfl := Option.some.inj h
       exact leafC hτ (here (by kernel_rfl))
     ·replace h := iteF hb h
      refine evd_run 21 (by kernel_rfl) ?_
      refine evd_end (by kernel_rfl) ?_
      refine evo_run 2 (by kernel_rfl) ?_
      refine evo_endS (by kernel_rfl) (fun τ hτ => ?_)
      obtain rfl := Option.some.inj h
      exact leafC hτ (here (by kernel_rfl))
    ·replace h := iteF hb h
     refine evd_run 36 (by kernel_rfl) ?_
     refine evd_end (by kernel_rfl) ?_
     refine evo_run 2 (by kernel_rfl) ?_
     refine evo_endS (by kernel_rfl) (fun τ hτ => ?_)
     obtain rfl := Option.some.inj h
     exact leafC hτ (here (by kernel_rfl))
   refine th_normalS hτ ⟨[(0, (.sl (List.map c_Rect l))), (1, (vI x1)), (2, (vI y)), (7, (vI s159)), (59, (vB j229))], []⟩ (here (by kernel_rfl)) ?_
   refine sem_cond j229 (by kernel_rfl) (by kernel_rfl) (fun hb => ?_) (fun hb => ?_)
   ·replace h := iteT hb h
    refine z8 1 ⟨[(6, (vB true))], []⟩ (by kernel_rfl) (fun τ hτ => ?_)
    refine bl_ret ?_
    refine th_ret ?_
    obtain rfl := Option.some.inj h
    exact lk_outS hτ rfl (here (by kernel_rfl))
   ·replace h := iteF hb h
    refine sem_skipS (by kernel_rfl) (fun τ hτ => ?_)
    refine bl_normal ?_
    refine th_normalS hτ ⟨[(0, (.sl (List.map c_Rect l))), (1, (vI x1)), (2, (vI y)), (7, (vI s159))], []⟩ (here (by kernel_rfl)) ?_
    refine sem_region (by kernel_rfl) ?_
    refine z6 3 (by kernel_rfl) (fun τ hτ => ?_)
    obtain rfl := Option.some.inj h
    exact lk_nextS hτ (here (by kernel_rfl))
  ·replace h := iteF hb h
   refine sem_exitS 0 (by kernel_rfl) rfl (fun τ hτ => ?_)
   refine th_exit ?_
   obtain rfl := Option.some.inj h
   exact lk_outS hτ rfl (here (by kernel_rfl))
 ·intro x
  rcases x with _ | _ <;> rfl
 ·intro τ hτ
  rcases x236 with j237 | j238
  ·refine bl_ret ?_
   refine th_ret ?_
   obtain rfl := Option.some.inj h
   exact rk_ret hτ [(6, (vB true))] (here (by kernel_rfl)) (by kernel_rfl)
  ·refine bl_hit (by kernel_rfl) ?_
   refine th_normalS hτ ⟨[], []⟩ (here (by kernel_rfl)) ?_
   refine z8 1 ⟨[(6, (vB false))], []⟩ (by kernel_rfl) (fun τ hτ => ?_)
   obtain rfl := Option.some.inj h
   exact rk_ret hτ [(6, (vB false))] (here (by kernel_rfl)) (by kernel_rfl)
theorem W.sheetmetalref01_MakeGrid_ok {lines : (List Rect)} {l : (List Rect)} {r : sheetmetalref01_Grid × (List Int) × (List Int)} (h : sheetmetalref01_MakeGrid lines l = some r) : PC G.P 96 [(.sl (List.map c_Rect lines)), (.sl (List.map c_Rect l))] [] (.agg [(.sl (List.map cI r.1.X)), (.sl (List.map cI r.1.Y)), (.row (.top 1) 94)]) [(0, .box [(.sl (List.map cI r.2.1)), (.sl (List.map cI r.2.2)), (.row (.top 1) 94)]), (1, .row 94 [] (List.map (cS cB) r.1.On))] := by
 refine pc_of G (fn := Try.f96) Try.func96 (by kernel_rfl) (by kernel_rfl) (by kernel_rfl) (by kernel_rfl) (by kernel_rfl) ?_
 refine sem_set ⟨[(0, (.sl (List.map c_Rect lines))), (1, (.sl (List.map c_Rect l)))], []⟩ (by kernel_rfl) ?_
 refine z3 1 ⟨[(0, (.sl (List.map c_Rect lines))), (1, (.sl (List.map c_Rect l))), (4, (.ptr 4 0))], [(4, .box [.nl, .nl, .nl])]⟩ (by kernel_rfl) ?_
 refine z3 1 ⟨[(0, (.sl (List.map c_Rect lines))), (1, (.sl (List.map c_Rect l))), (4, (.ptr 4 0)), (5, (.ptr 5 0))], [(4, .box [.nl, .nl, .nl]), (5, .box [.nl, .nl, .nl])]⟩ (by kernel_rfl) ?_
 refine sem_seq (by kernel_rfl) ?_
 refine z3 1 ⟨[(0, (.sl (List.map c_Rect lines))), (1, (.sl (List.map c_Rect l))), (4, (.ptr 4 0)), (5, (.ptr 5 0)), (6, (vI 0))], [(4, .box [.nl, .nl, .nl]), (5, .box [.nl, .nl, .nl])]⟩ (by kernel_rfl) ?_
 refine sem_block (by kernel_rfl) ?_
 obtain ⟨x366, hx366, h⟩ := bindS h
 refine sem_loopS (fun (s245 : Int × (List Int) × (List Int)) => ⟨[(0, (.sl (List.map c_Rect lines))), (1, (.sl (List.map c_Rect l))), (4, (.ptr 500000 0)), (5, (.ptr 500001 0)), (6, (vI s245.1))], [(500000, .box [.nl, .nl, .nl]), (500001, .box [(.sl (List.map cI s245.2.1)), (.sl (List.map cI s245.2.2)), .nl])]⟩) (fun (x366 : (List Int) × (List Int)) => (.exit 0, ⟨[(1, (.sl (List.map c_Rect l))), (4, (.ptr 500000 0)), (5, (.ptr 500001 0))], [(500000, .box [.nl, .nl, .nl]), (500001, .box [(.sl (List.map cI x366.1)), (.sl (List.map cI x366.2)), .nl])]⟩)) (sheetmetalref01_MakeGrid_l1 lines) (0, [], []) x366 (by kernel_rfl) (subR_prep [.soft (.box 5 0), .soft (.box 5 1)] [(4, 500000), (5, 500001)] (by kernel_rfl) rfl rfl (by kernel_rfl)) hx366 ?_ ?_ ?_
 ·intro s245 r h
  refine sem_seq (by kernel_rfl) ?_
  refine z7 (by kernel_rfl) ?_
  refine evs_run 2 (by kernel_rfl) ?_
  refine evs_op (st_len (c := c_Rect) (l := lines) (x := (.sl (List.map c_Rect lines))) (by kernel_rfl) (by kernel_rfl)) ?_
  refine z1 1 ⟨[(0, (.sl (List.map c_Rect lines))), (1, (.sl (List.map c_Rect l))), (4, (.ptr 500000 0)), (5, (.ptr 500001 0)), (6, (vI s245.1)), (13, (vB (decide (s245.1 < (lines.length : Int)))))], [(500000, .box [.nl, .nl, .nl]), (500001, .box [(.sl (List.map cI s245.2.1)), (.sl (List.map cI s245.2.2)), .nl])]⟩ (by kernel_rfl) ?_
  refine sem_cond (decide (s245.1 < (lines.length : Int))) (by kernel_rfl) (by kernel_rfl) (fun hb => ?_) (fun hb => ?_)
  ·replace h := iteT hb h
   refine z4 ⟨[(0, (.sl (List.map c_Rect lines))), (1, (.sl (List.map c_Rect l))), (4, (.ptr 500000 0)), (5, (.ptr 500001 0)), (6, (vI s245.1))], [(500000, .box [.nl, .nl, .nl]), (500001, .box [(.sl (List.map cI s245.2.1)), (.sl (List.map cI s245.2.2)), .nl])]⟩ (by kernel_rfl) ?_
   refine sem_seq (by kernel_rfl) ?_
   refine sem_block (by kernel_rfl) ?_
   refine sem_seq (by kernel_rfl) ?_
   refine sem_drawN [] [] [] [] [] 19 (by kernel_rfl) (by kernel_rfl) (by kernel_rfl) ?_
   refine evd_run 4 (by kernel_rfl) ?_
   obtain ⟨x346, hx346, h⟩ := bindS h
   refine evd_val (by kernel_rfl) (st_idx (c := c_Rect) (l := lines) (i := s245.1) (kd := .i64) (sz := 4) (by kernel_rfl) hx346 rfl) (by kernel_rfl) (by kernel_rfl) ?_
   refine evd_run 2 (by kernel_rfl) ?_
   obtain ⟨r347, hr347, h⟩ := bindS h
   refine evd_callS [] [] (by kernel_rfl) (by kernel_rfl) (W.sheetmetalref01_insert_ok hr347) (by kernel_rfl) (.inl rfl) (by kernel_rfl) (by kernel_rfl) ?_
   refine evd_run 2 (by kernel_rfl) ?_
   obtain ⟨x348, hx348, h⟩ := bindS h
   refine evd_val (by kernel_rfl) (st_idx (c := c_Rect) (l := lines) (i := s245.1) (kd := .i64) (sz := 4) (by kernel_rfl) hx348 rfl) (by kernel_rfl) (by kernel_rfl) ?_
   refine evd_run 4 (by kernel_rfl) ?_
   obtain ⟨x349, hx349, h⟩ := bindS h
   refine evd_val (by kernel_rfl) (st_idx (c := c_Rect) (l := lines) (i := s245.1) (kd := .i64) (sz := 4) (by kernel_rfl) hx349 rfl) (by kernel_rfl) (by kernel_rfl) ?_
   refine evd_run 3 (by kernel_rfl) ?_
   refine evd_end (by kernel_rfl) ?_
   obtain ⟨r350, hr350, h⟩ := bindS h
   refine evo_callP [] (by kernel_rfl) (W.sheetmetalref01_insert_ok hr350) (by kernel_rfl) (.inl rfl) (by kernel_rfl) ?_
   refine evo_run 2 (by kernel_rfl) ?_
   refine evo_endS (by kernel_rfl) (fun τ hτ => ?_)
   refine th_normalS hτ ⟨[(0, (.sl (List.map c_Rect lines))), (1, (.sl (List.map c_Rect l))), (4, (.ptr 500000 0)), (5, (.ptr 500001 0)), (6, (vI s245.1))], [(500000, .box [.nl, .nl, .nl]), (500001, .box [(.sl (List.map cI r350)), (.sl (List.map cI s245.2.2)), .nl])]⟩ (here (by kernel_rfl)) ?_
   refine sem_drawN [] [] [] [] [] 19 (by kernel_rfl) (by kernel_rfl) (by kernel_rfl) ?_
   refine evd_run 4 (by kernel_rfl) ?_
   obtain ⟨x361, hx361, h⟩ := bindS h
   refine evd_val (by kernel_rfl) (st_idx (c := c_Rect) (l := lines) (i := s245.1) (kd := .i64) (sz := 4) (by kernel_rfl) hx361 rfl) (by kernel_rfl) (by kernel_rfl) ?_
   refine evd_run 2 (by kernel_rfl) ?_
   obtain ⟨r362, hr362, h⟩ := bindS h
   refine evd_callS [] [] (by kernel_rfl) (by kernel_rfl) (W.sheetmetalref01_insert_ok hr362) (by kernel_rfl) (.inl rfl) (by kernel_rfl) (by kernel_rfl) ?_
   refine evd_run 2 (by kernel_rfl) ?_
   obtain ⟨x363, hx363, h⟩ := bindS h
   refine evd_val (by kernel_rfl) (st_idx (c := c_Rect) (l := lines) (i := s245.1) (kd := .i64) (sz := 4) (by kernel_rfl) hx363 rfl) (by kernel_rfl) (by kernel_rfl) ?_
   refine evd_run 4 (by kernel_rfl) ?_
   obtain ⟨x364, hx364, h⟩ := bindS h
   refine evd_val (by kernel_rfl) (st_idx (c := c_Rect) (l := lines) (i := s245.1) (kd := .i64) (sz := 4) (by kernel_rfl) hx364 rfl) (by kernel_rfl) (by kernel_rfl) ?_
   refine evd_run 3 (by kernel_rfl) ?_
   refine evd_end (by kernel_rfl) ?_
   obtain ⟨r365, hr365, h⟩ := bindS h
   refine evo_callP [] (by kernel_rfl) (W.sheetmetalref01_insert_ok hr365) (by kernel_rfl) (.inl rfl) (by kernel_rfl) ?_
   refine evo_run 2 (by kernel_rfl) ?_
   refine evo_endS (by kernel_rfl) (fun τ hτ => ?_)
   refine bl_normal ?_
   refine th_normalS hτ ⟨[(0, (.sl (List.map c_Rect lines))), (1, (.sl (List.map c_Rect l))), (4, (.ptr 500000 0)), (5, (.ptr 500001 0)), (6, (vI s245.1))], [(500000, .box [.nl, .nl, .nl]), (500001, .box [(.sl (List.map cI r350)), (.sl (List.map cI r365)), .nl])]⟩ (here (by kernel_rfl)) ?_
   refine sem_region (by kernel_rfl) ?_
   refine z6 3 (by kernel_rfl) (fun τ hτ => ?_)
   obtain rfl := Option.some.inj h
   exact lk_nextS hτ (here (by kernel_rfl))
  ·replace h := iteF hb h
   refine sem_exitS 0 (by kernel_rfl) rfl (fun τ hτ => ?_)
   refine th_exit ?_
   obtain rfl := Option.some.inj h
   exact lk_outS hτ rfl (here (by kernel_rfl))
 ·intro x
  rfl
 ·intro τ hτ
  refine bl_hit (by kernel_rfl) ?_
  refine th_normalS hτ ⟨[(1, (.sl (List.map c_Rect l))), (4, (.ptr 500000 0)), (5, (.ptr 500001 0))], [(500000, .box [.nl, .nl, .nl]), (500001, .box [(.sl (List.map cI x366.1)), (.sl (List.map cI x366.2)), .nl])]⟩ (here (by kernel_rfl)) ?_
  refine sem_seq (by kernel_rfl) ?_
  refine z3 1 ⟨[(1, (.sl (List.map c_Rect l))), (4, (.ptr 500000 0)), (5, (.ptr 500001 0)), (7, (vI 0))], [(500000, .box [.nl, .nl, .nl]), (500001, .box [(.sl (List.map cI x366.1)), (.sl (List.map cI x366.2)), .nl])]⟩ (by kernel_rfl) ?_
  refine sem_block (by kernel_rfl) ?_
  obtain ⟨x2196, hx2196, h⟩ := bindS h
  refine sem_loopS (fun (s1587 : Int × (List (List Bool))) => ⟨[(1, (.sl (List.map c_Rect l))), (4, (.ptr 500000 0)), (5, (.ptr 500001 0)), (7, (vI s1587.1))], [(500000, .box [.nl, .nl, .nl]), (500001, .box [(.sl (List.map cI x366.1)), (.sl (List.map cI x366.2)), (.row (.top 500002) 94)]), (500002, .row 94 [] (List.map (cS cB) s1587.2))]⟩) (fun (x2196 : (List (List Bool))) => (.exit 2, ⟨[(4, (.ptr 500000 0)), (5, (.ptr 500001 0))], [(500000, .box [.nl, .nl, .nl]), (500001, .box [(.sl (List.map cI x366.1)), (.sl (List.map cI x366.2)), (.row (.top 500002) 94)]), (500002, .row 94 [] (List.map (cS cB) x2196))]⟩)) (sheetmetalref01_MakeGrid_l3 l x366) (0, []) x2196 (by kernel_rfl) (subR_prep [.row (.box 500001 2) 800000 94 []] [(500000, 500000), (500001, 500001), (800000, 500002)] (by kernel_rfl) rfl rfl (by kernel_rfl)) hx2196 ?_ ?_ ?_
  ·intro s1587 r h
   refine sem_seq (by kernel_rfl) ?_
   refine z7 (by kernel_rfl) ?_
   refine evs_run 4 (by kernel_rfl) ?_
   refine evs_op (st_len (c := cI) (l := x366.1) (x := (.sl (List.map cI x366.1))) (by kernel_rfl) (by kernel_rfl)) ?_
   refine z1 1 ⟨[(1, (.sl (List.map c_Rect l))), (4, (.ptr 500000 0)), (5, (.ptr 500001 0)), (7, (vI s1587.1)), (63, (vB (decide ((iadd s1587.1 1) < (x366.1.length : Int)))))], [(500000, .box [.nl, .nl, .nl]), (500001, .box [(.sl (List.map cI x366.1)), (.sl (List.map cI x366.2)), (.row (.top 500002) 94)]), (500002, .row 94 [] (List.map (cS cB) s1587.2))]⟩ (by kernel_rfl) ?_
   refine sem_cond (decide ((iadd s1587.1 1) < (x366.1.length : Int))) (by kernel_rfl) (by kernel_rfl) (fun hb => ?_) (fun hb => ?_)
   ·replace h := iteT hb h
    refine z4 ⟨[(1, (.sl (List.map c_Rect l))), (4, (.ptr 500000 0)), (5, (.ptr 500001 0)), (7, (vI s1587.1))], [(500000, .box [.nl, .nl, .nl]), (500001, .box [(.sl (List.map cI x366.1)), (.sl (List.map cI x366.2)), (.row (.top 500002) 94)]), (500002, .row 94 [] (List.map (cS cB) s1587.2))]⟩ (by kernel_rfl) ?_
    refine sem_seq (by kernel_rfl) ?_
    refine sem_block (by kernel_rfl) ?_
    refine z3 1 ⟨[(1, (.sl (List.map c_Rect l))), (4, (.ptr 500000 0)), (5, (.ptr 500001 0)), (7, (vI s1587.1)), (8, (.row (.top 8) 4))], [(8, .row 4 [] (List.map cB [])), (500000, .box [.nl, .nl, .nl]), (500001, .box [(.sl (List.map cI x366.1)), (.sl (List.map cI x366.2)), (.row (.top 500002) 94)]), (500002, .row 94 [] (List.map (cS cB) s1587.2))]⟩ (by kernel_rfl) ?_
    refine sem_seq (by kernel_rfl) ?_
    refine z3 1 ⟨[(1, (.sl (List.map c_Rect l))), (4, (.ptr 500000 0)), (5, (.ptr 500001 0)), (7, (vI s1587.1)), (8, (.row (.top 8) 4)), (9, (vI 0))], [(8, .row 4 [] (List.map cB [])), (500000, .box [.nl, .nl, .nl]), (500001, .box [(.sl (List.map cI x366.1)), (.sl (List.map cI x366.2)), (.row (.top 500002) 94)]), (500002, .row 94 [] (List.map (cS cB) s1587.2))]⟩ (by kernel_rfl) ?_
    refine sem_block (by kernel_rfl) ?_
    obtain ⟨x2193, hx2193, h⟩ := bindS h
    refine sem_loopS (fun (s2144 : Int × (List Bool)) => ⟨[(1, (.sl (List.map c_Rect l))), (4, (.ptr 500000 0)), (5, (.ptr 500001 0)), (7, (vI s1587.1)), (8, (.row (.top 500003) 4)), (9, (vI s2144.1))], [(500000, .box [.nl, .nl, .nl]), (500001, .box [(.sl (List.map cI x366.1)), (.sl (List.map cI x366.2)), (.row (.top 500002) 94)]), (500002, .row 94 [] (List.map (cS cB) s1587.2)), (500003, .row 4 [] (List.map cB s2144.2))]⟩) (fun (x2193 : (List Bool)) => (.exit 4, ⟨[(1, (.sl (List.map c_Rect l))), (4, (.ptr 500000 0)), (5, (.ptr 500001 0)), (7, (vI s1587.1)), (8, (.row (.top 500003) 4))], [(500000, .box [.nl, .nl, .nl]), (500001, .box [(.sl (List.map cI x366.1)), (.sl (List.map cI x366.2)), (.row (.top 500002) 94)]), (500002, .row 94 [] (List.map (cS cB) s1587.2)), (500003, .row 4 [] (List.map cB x2193))]⟩)) (sheetmetalref01_MakeGrid_l2 l x366 s1587) (0, []) x2193 (by kernel_rfl) (subR_prep [] [(8, 500003), (500000, 500000), (500001, 500001), (500002, 500002)] (by kernel_rfl) rfl rfl (by kernel_rfl)) hx2193 ?_ ?_ ?_
    ·intro s2144 r h
     refine sem_seq (by kernel_rfl) ?_
     refine z7 (by kernel_rfl) ?_
     refine evs_run 4 (by kernel_rfl) ?_
     refine evs_op (st_len (c := cI) (l := x366.2) (x := (.sl (List.map cI x366.2))) (by kernel_rfl) (by kernel_rfl)) ?_
     refine z1 1 ⟨[(1, (.sl (List.map c_Rect l))), (4, (.ptr 500000 0)), (5, (.ptr 500001 0)), (7, (vI s1587.1)), (8, (.row (.top 500003) 4)), (9, (vI s2144.1)), (71, (vB (decide ((iadd s2144.1 1) < (x366.2.length : Int)))))], [(500000, .box [.nl, .nl, .nl]), (500001, .box [(.sl (List.map cI x366.1)), (.sl (List.map cI x366.2)), (.row (.top 500002) 94)]), (500002, .row 94 [] (List.map (cS cB) s1587.2)), (500003, .row 4 [] (List.map cB s2144.2))]⟩ (by kernel_rfl) ?_
     refine sem_cond (decide ((iadd s2144.1 1) < (x366.2.length : Int))) (by kernel_rfl) (by kernel_rfl) (fun hb => ?_) (fun hb => ?_)
     ·replace h := iteT hb h
      refine z4 ⟨[(1, (.sl (List.map c_Rect l))), (4, (.ptr 500000 0)), (5, (.ptr 500001 0)), (7, (vI s1587.1)), (8, (.row (.top 500003) 4)), (9, (vI s2144.1))], [(500000, .box [.nl, .nl, .nl]), (500001, .box [(.sl (List.map cI x366.1)), (.sl (List.map cI x366.2)), (.row (.top 500002) 94)]), (500002, .row 94 [] (List.map (cS cB) s1587.2)), (500003, .row 4 [] (List.map cB s2144.2))]⟩ (by kernel_rfl) ?_
      refine sem_seq (by kernel_rfl) ?_
      refine sem_block (by kernel_rfl) ?_
      refine sem_drawN [] [] [] [] [] 14 (by kernel_rfl) (by kernel_rfl) (by kernel_rfl) ?_
      refine evd_run 5 (by kernel_rfl) ?_
      obtain ⟨x2189, hx2189, h⟩ := bindS h
      refine evd_val (by kernel_rfl) (st_idx (c := cI) (l := x366.1) (i := s1587.1) (kd := .i64) (sz := 1) (by kernel_rfl) hx2189 rfl) (by kernel_rfl) (by kernel_rfl) ?_
      refine evd_run 4 (by kernel_rfl) ?_
      obtain ⟨x2190, hx2190, h⟩ := bindS h
      refine evd_val (by kernel_rfl) (st_idx (c := cI) (l := x366.2) (i := s2144.1) (kd := .i64) (sz := 1) (by kernel_rfl) hx2190 rfl) (by kernel_rfl) (by kernel_rfl) ?_
      refine evd_run 1 (by kernel_rfl) ?_
      obtain ⟨r2191, hr2191, h⟩ := bindS h
      refine evd_callS [] [] (by kernel_rfl) (by kernel_rfl) (W.sheetmetalref01_covers_ok hr2191) (by kernel_rfl) (.inl rfl) (by kernel_rfl) (by kernel_rfl) ?_
      refine evd_run 1 (by kernel_rfl) ?_
      refine evd_end (by kernel_rfl) ?_
      obtain ⟨l2192, hl2192, h⟩ := bindS h
      refine evo_op (st_app (c := cB) (l := s2144.2) (l2 := [r2191]) (x := (.sl (List.map cB [r2191]))) (g := 500003) (e := 4) (sz := 1) (d := 88) (by kernel_rfl) (by kernel_rfl) (by kernel_rfl) (by kernel_rfl) (fun _ => rfl) rfl hl2192) ?_
      refine evo_run 1 (by kernel_rfl) ?_
      refine evo_endS (by kernel_rfl) (fun τ hτ => ?_)
      refine bl_normal ?_
      refine th_normalS hτ ⟨[(1, (.sl (List.map c_Rect l))), (4, (.ptr 500000 0)), (5, (.ptr 500001 0)), (7, (vI s1587.1)), (8, (.row (.top 500003) 4)), (9, (vI s2144.1))], [(500000, .box [.nl, .nl, .nl]), (500001, .box [(.sl (List.map cI x366.1)), (.sl (List.map cI x366.2)), (.row (.top 500002) 94)]), (500002, .row 94 [] (List.map (cS cB) s1587.2)), (500003, .row 4 [] (List.map cB l2192))]⟩ (here (by kernel_rfl)) ?_
      refine sem_region (by kernel_rfl) ?_
      refine z6 3 (by kernel_rfl) (fun τ hτ => ?_)
      obtain rfl := Option.some.inj h
      exact lk_nextS hτ (here (by kernel_rfl))
     ·replace h := iteF hb h
      refine sem_exitS 4 (by kernel_rfl) rfl (fun τ hτ => ?_)
      refine th_exit ?_
      obtain rfl := Option.some.inj h
      exact lk_outS hτ rfl (here (by kernel_rfl))
    ·intro x
     rfl
    ·intro τ hτ
     refine bl_hit (by kernel_rfl) ?_
     refine th_normalS hτ ⟨[(1, (.sl (List.map c_Rect l))), (4, (.ptr 500000 0)), (5, (.ptr 500001 0)), (7, (vI s1587.1)), (8, (.row (.top 500003) 4))], [(500000, .box [.nl, .nl, .nl]), (500001, .box [(.sl (List.map cI x366.1)), (.sl (List.map cI x366.2)), (.row (.top 500002) 94)]), (500002, .row 94 [] (List.map (cS cB) s1587.2)), (500003, .row 4 [] (List.map cB x2193))]⟩ (here (by kernel_rfl)) ?_
     refine sem_region (by kernel_rfl) ?_
     refine evs_run 3 (by kernel_rfl) ?_
     refine evs_prep [.frz 500003] (by kernel_rfl) ?_
     refine evs_run 1 (by kernel_rfl) ?_
     obtain ⟨l2195, hl2195, h⟩ := bindS h
     refine evs_op (st_app (c := (cS cB)) (l := s1587.2) (l2 := [x2193]) (x := (.sl (List.map (cS cB) [x2193]))) (g := 500002) (e := 94) (sz := 1) (d := 93) (by kernel_rfl) (by kernel_rfl) (by kernel_rfl) (by kernel_rfl) (fun _ => rfl) rfl hl2195) ?_
     refine z6 2 (by kernel_rfl) (fun τ hτ => ?_)
     refine bl_normal ?_
     refine th_normalS hτ ⟨[(1, (.sl (List.map c_Rect l))), (4, (.ptr 500000 0)), (5, (.ptr 500001 0)), (7, (vI s1587.1))], [(500000, .box [.nl, .nl, .nl]), (500001, .box [(.sl (List.map cI x366.1)), (.sl (List.map cI x366.2)), (.row (.top 500002) 94)]), (500002, .row 94 [] (List.map (cS cB) l2195))]⟩ (here (by kernel_rfl)) ?_
     refine sem_region (by kernel_rfl) ?_
     refine z6 3 (by kernel_rfl) (fun τ hτ => ?_)
     obtain rfl := Option.some.inj h
     exact lk_nextS hτ (here (by kernel_rfl))
   ·replace h := iteF hb h
    refine sem_exitS 2 (by kernel_rfl) rfl (fun τ hτ => ?_)
    refine th_exit ?_
    obtain rfl := Option.some.inj h
    exact lk_outS hτ rfl (here (by kernel_rfl))
  ·intro x
   rfl
  ·intro τ hτ
   refine bl_hit (by kernel_rfl) ?_
   refine th_normalS hτ ⟨[(4, (.ptr 500000 0)), (5, (.ptr 500001 0))], [(500000, .box [.nl, .nl, .nl]), (500001, .box [(.sl (List.map cI x366.1)), (.sl (List.map cI x366.2)), (.row (.top 500002) 94)]), (500002, .row 94 [] (List.map (cS cB) x2196))]⟩ (here (by kernel_rfl)) ?_
   refine z8 2 ⟨[(4, (.ptr 500000 0))], [(500000, .box [(.sl (List.map cI x366.1)), (.sl (List.map cI x366.2)), (.row (.top 500002) 94)]), (500002, .row 94 [] (List.map (cS cB) x2196))]⟩ (by kernel_rfl) (fun τ hτ => ?_)
   obtain rfl := Option.some.inj h
   exact rk_ret hτ [(4, (.ptr 0 0))] (subR_prep [] [(500000, 0), (500002, 1)] (by kernel_rfl) rfl rfl (by kernel_rfl)) (by kernel_rfl)
theorem W.sheetmetalref01_CopyRects_ok {l : (List Rect)} {r : (List Rect)} (h : sheetmetalref01_CopyRects l = some r) : PC G.P 55 [(.sl (List.map c_Rect l))] [] (.row (.top 0) 41) [(0, .row 41 [] (List.map c_Rect r))] := by
 refine pc_of G (fn := Try.f55) Try.func55 (by kernel_rfl) (by kernel_rfl) (by kernel_rfl) (by kernel_rfl) (by kernel_rfl) ?_
 refine sem_set ⟨[(0, (.sl (List.map c_Rect l)))], []⟩ (by kernel_rfl) ?_
 refine z3 1 ⟨[(0, (.sl (List.map c_Rect l)))], []⟩ (by kernel_rfl) ?_
 refine z3 1 ⟨[(0, (.sl (List.map c_Rect l))), (3, (.row (.top 3) 41))], [(3, .row 41 [] (List.map c_Rect []))]⟩ (by kernel_rfl) ?_
 refine sem_seq (by kernel_rfl) ?_
 refine z3 1 ⟨[(0, (.sl (List.map c_Rect l))), (3, (.row (.top 3) 41)), (4, (vI 0))], [(3, .row 41 [] (List.map c_Rect []))]⟩ (by kernel_rfl) ?_
 refine sem_block (by kernel_rfl) ?_
 obtain ⟨x54, hx54, h⟩ := bindS h
 refine sem_loopS (fun (s37 : Int × (List Rect)) => ⟨[(0, (.sl (List.map c_Rect l))), (3, (.row (.top 500000) 41)), (4, (vI s37.1))], [(500000, .row 41 [] (List.map c_Rect s37.2))]⟩) (fun (x54 : (List Rect)) => (.exit 0, ⟨[(3, (.row (.top 500000) 41))], [(500000, .row 41 [] (List.map c_Rect x54))]⟩)) (sheetmetalref01_CopyRects_l1 l) (0, []) x54 (by kernel_rfl) (subR_prep [] [(3, 500000)] (by kernel_rfl) rfl rfl (by kernel_rfl)) hx54 ?_ ?_ ?_
 ·intro s37 r h
  refine sem_seq (by kernel_rfl) ?_
  refine z7 (by kernel_rfl) ?_
  refine evs_run 2 (by kernel_rfl) ?_
  refine evs_op (st_len (c := c_Rect) (l := l) (x := (.sl (List.map c_Rect l))) (by kernel_rfl) (by kernel_rfl)) ?_
  refine z1 1 ⟨[(0, (.sl (List.map c_Rect l))), (3, (.row (.top 500000) 41)), (4, (vI s37.1)), (8, (vB (decide (s37.1 < (l.length : Int)))))], [(500000, .row 41 [] (List.map c_Rect s37.2))]⟩ (by kernel_rfl) ?_
  refine sem_cond (decide (s37.1 < (l.length : Int))) (by kernel_rfl) (by kernel_rfl) (fun hb => ?_) (fun hb => ?_)
  ·replace h := iteT hb h
   refine z4 ⟨[(0, (.sl (List.map c_Rect l))), (3, (.row (.top 500000) 41)), (4, (vI s37.1))], [(500000, .row 41 [] (List.map c_Rect s37.2))]⟩ (by kernel_rfl) ?_
   refine sem_seq (by kernel_rfl) ?_
   refine sem_block (by kernel_rfl) ?_
   refine sem_region (by kernel_rfl) ?_
   refine evs_run 3 (by kernel_rfl) ?_
   obtain ⟨x52, hx52, h⟩ := bindS h
   refine evs_op (st_idx (c := c_Rect) (l := l) (i := s37.1) (kd := .i64) (sz := 4) (by kernel_rfl) hx52 rfl) ?_
   refine evs_run 2 (by kernel_rfl) ?_
   obtain ⟨l53, hl53, h⟩ := bindS h
   refine evs_op (st_app (c := c_Rect) (l := s37.2) (l2 := [x52]) (x := (.sl (List.map c_Rect [x52]))) (g := 500000) (e := 41) (sz := 4) (d := 17) (by kernel_rfl) (by kernel_rfl) (by kernel_rfl) (by kernel_rfl) (fun _ => rfl) rfl hl53) ?_
   refine z6 1 (by kernel_rfl) (fun τ hτ => ?_)
   refine bl_normal ?_
   refine th_normalS hτ ⟨[(0, (.sl (List.map c_Rect l))), (3, (.row (.top 500000) 41)), (4, (vI s37.1))], [(500000, .row 41 [] (List.map c_Rect l53))]⟩ (here (by kernel_rfl)) ?_
   refine sem_region (by kernel_rfl) ?_
   refine z6 3 (by kernel_rfl) (fun τ hτ => ?_)
   obtain rfl := Option.some.inj h
   exact lk_nextS hτ (here (by kernel_rfl))
  ·replace h := iteF hb h
   refine sem_exitS 0 (by kernel_rfl) rfl (fun τ hτ => ?_)
   refine th_exit ?_
   obtain rfl := Option.some.inj h
   exact lk_outS hτ rfl (here (by kernel_rfl))
 ·intro x
  rfl
 ·intro τ hτ
  refine bl_hit (by kernel_rfl) ?_
  refine th_normalS hτ ⟨[(3, (.row (.top 500000) 41))], [(500000, .row 41 [] (List.map c_Rect x54))]⟩ (here (by kernel_rfl)) ?_
  refine z8 2 ⟨[(2, (.row (.top 500000) 41))], [(500000, .row 41 [] (List.map c_Rect x54))]⟩ (by kernel_rfl) (fun τ hτ => ?_)
  obtain rfl := Option.some.inj h
  exact rk_ret hτ [(2, (.row (.top 0) 41))] (subR_prep [] [(500000, 0)] (by kernel_rfl) rfl rfl (by kernel_rfl)) (by kernel_rfl)
theorem W.geom_Outline_1_ok {i : Int} {j1 : Int} {a_0 : (List (List Bool))} {r : Int} (h : geom_Outline_1 i j1 a_0 = some r) : PC G.P 87 [(vI i), (vI j1), (.vptr [(.sl (List.map (cS cB) a_0))] 0)] [] (vI r) [] := by
 refine pc_of G (fn := Try.f87) Try.func87 (by kernel_rfl) (by kernel_rfl) (by kernel_rfl) (by kernel_rfl) (by kernel_rfl) ?_
 refine sem_set ⟨[(0, (vI i)), (1, (vI j1)), (2, (.vptr [(.sl (List.map (cS cB) a_0))] 0))], []⟩ (by kernel_rfl) ?_
 refine z3 1 ⟨[(0, (vI i)), (1, (vI j1)), (2, (.vptr [(.sl (List.map (cS cB) a_0))] 0))], []⟩ (by kernel_rfl) ?_
 refine sem_seq (by kernel_rfl) ?_
 refine sem_seq (by kernel_rfl) ?_
 obtain ⟨j11, hj11, h⟩ := bindS h
 refine sem_regionC ⟨[(36, (vB j11))], []⟩ (by kernel_rfl) ?_ (fun τ hτ => ?_)
 ·replace h := hj11
  refine evs_run 3 (by kernel_rfl) ?_
  refine evs_split (decide (i < 0)) (fun b0 => ⟨[(0, (vI i)), (1, (vI j1)), (2, (.vptr [(.sl (List.map (cS cB) a_0))] 0)), (8, (vB b0))], []⟩) (by kernel_rfl) (fun hb => ?_) (fun hb => ?_)
  ·replace h := iteT hb h
   refine z6 28 (by kernel_rfl) (fun τ hτ => ?_)
   obtain rfl := Option.some.inj h
   exact leafC hτ (here (by kernel_rfl))
  ·replace h := iteF hb h
   refine evs_run 4 (by kernel_rfl) ?_
   refine evs_split (decide (j1 < 0)) (fun b0 => ⟨[(0, (vI i)), (1, (vI j1)), (2, (.vptr [(.sl (List.map (cS cB) a_0))] 0)), (12, (vB b0))], []⟩) (by kernel_rfl) (fun hb => ?_) (fun hb => ?_)
   ·replace h := iteT hb h
    refine z6 24 (by kernel_rfl) (fun τ hτ => ?_)
    obtain rfl := Option.some.inj h
    exact leafC hτ (here (by kernel_rfl))
   ·replace h := iteF hb h
    refine evs_run 2 (by kernel_rfl) ?_
    refine evs_op (st_len (c := (cS cB)) (l := a_0) (x := (.sl (List.map (cS cB) a_0))) (by kernel_rfl) (by kernel_rfl)) ?_
    refine evs_run 3 (by kernel_rfl) ?_
    refine evs_split (decide (i ≥ (a_0.length : Int))) (fun b0 => ⟨[(0, (vI i)), (1, (vI j1)), (2, (.vptr [(.sl (List.map (cS cB) a_0))] 0)), (18, (vB b0))], []⟩) (by kernel_rfl) (fun hb => ?_) (fun hb => ?_)
    ·replace h := iteT hb h
     refine z6 18 (by kernel_rfl) (fun τ hτ => ?_)
     obtain rfl := Option.some.inj h
     exact leafC hτ (here (by kernel_rfl))
    ·replace h := iteF hb h
     refine evs_run 3 (by kernel_rfl) ?_
     obtain ⟨x12, hx12, h⟩ := bindS h
     refine evs_op (st_idx (c := (cS cB)) (l := a_0) (i := i) (kd := .i64) (sz := 1) (by kernel_rfl) hx12 rfl) ?_
     refine evs_run 1 (by kernel_rfl) ?_
     refine evs_op (st_len (c := cB) (l := x12) (x := (.sl (List.map cB x12))) (by kernel_rfl) (by kernel_rfl)) ?_
     refine evs_run 3 (by kernel_rfl) ?_
     refine evs_split (decide (j1 ≥ (x12.length : Int))) (fun b0 => ⟨[(0, (vI i)), (1, (vI j1)), (2, (.vptr [(.sl (List.map (cS cB) a_0))] 0)), (27, (vB b0))], []⟩) (by kernel_rfl) (fun hb => ?_) (fun hb => ?_)
     ·replace h := iteT hb h
      refine z6 9 (by kernel_rfl) (fun τ hτ => ?_)
      obtain rfl := Option.some.inj h
      exact leafC hτ (here (by kernel_rfl))
     ·replace h := iteF hb h
      refine evs_run 2 (by kernel_rfl) ?_
      obtain ⟨x13, hx13, h⟩ := bindS h
      refine evs_op (st_idx (c := (cS cB)) (l := a_0) (i := i) (kd := .i64) (sz := 1) (by kernel_rfl) hx13 rfl) ?_
      refine evs_run 2 (by kernel_rfl) ?_
      obtain ⟨x14, hx14, h⟩ := bindS h
      refine evs_op (st_idx (c := cB) (l := x13) (i := j1) (kd := .i64) (sz := 1) (by kernel_rfl) hx14 rfl) ?_
      refine z6 3 (by kernel_rfl) (fun τ hτ => ?_)
      obtain rfl := Option.some.inj h
      exact leafC hτ (here (by kernel_rfl))
 refine th_normalS hτ ⟨[(36, (vB j11))], []⟩ (here (by kernel_rfl)) ?_
 refine sem_cond j11 (by kernel_rfl) (by kernel_rfl) (fun hb => ?_) (fun hb => ?_)
 ·replace h := iteT hb h
  refine z8 1 ⟨[(5, (vI 0))], []⟩ (by kernel_rfl) (fun τ hτ => ?_)
  refine th_ret ?_
  obtain rfl := Option.some.inj h
  exact rk_ret hτ [(5, (vI 0))] (here (by kernel_rfl)) (by kernel_rfl)
 ·replace h := iteF hb h
  refine z4 ⟨[], []⟩ (by kernel_rfl) ?_
  refine z8 1 ⟨[(5, (vI 1))], []⟩ (by kernel_rfl) (fun τ hτ => ?_)
  obtain rfl := Option.some.inj h
  exact rk_ret hτ [(5, (vI 1))] (here (by kernel_rfl)) (by kernel_rfl)
theorem W.geom_Outline_2_ok {i : Int} {a_0_0_0 : (List (List Bool))} {a2_0 : Int} {r : Int} (h : geom_Outline_2 i a_0_0_0 a2_0 = some r) : PC G.P 89 [(vI i), (.vptr [(.fn 87 [(.vptr [(.sl (List.map (cS cB) a_0_0_0))] 0)])] 0), (.vptr [(vI a2_0)] 0)] [] (vI r) [] := by
 refine pc_of G (fn := Try.f89) Try.func89 (by kernel_rfl) (by kernel_rfl) (by kernel_rfl) (by kernel_rfl) (by kernel_rfl) ?_
 refine sem_set ⟨[(0, (vI i)), (1, (.vptr [(.fn 87 [(.vptr [(.sl (List.map (cS cB) a_0_0_0))] 0)])] 0)), (2, (.vptr [(vI a2_0)] 0))], []⟩ (by kernel_rfl) ?_
 refine z3 1 ⟨[(0, (vI i)), (1, (.vptr [(.fn 87 [(.vptr [(.sl (List.map (cS cB) a_0_0_0))] 0)])] 0)), (2, (.vptr [(vI a2_0)] 0))], []⟩ (by kernel_rfl) ?_
 refine sem_seq (by kernel_rfl) ?_
 refine sem_drawN [] [] [] [] [] 8 (by kernel_rfl) (by kernel_rfl) (by kernel_rfl) ?_
 refine evd_run 3 (by kernel_rfl) ?_
 obtain ⟨r5, hr5, h⟩ := bindS h
 refine evd_callS [] [] (by kernel_rfl) (by kernel_rfl) (W.geom_Outline_1_ok hr5) (by kernel_rfl) (.inl rfl) (by kernel_rfl) (by kernel_rfl) ?_
 refine evd_run 4 (by kernel_rfl) ?_
 refine evd_end (by kernel_rfl) ?_
 obtain ⟨r6, hr6, h⟩ := bindS h
 refine evo_callP [] (by kernel_rfl) (W.geom_Outline_1_ok hr6) (by kernel_rfl) (.inl rfl) (by kernel_rfl) ?_
 refine evo_run 2 (by kernel_rfl) ?_
 refine evo_endS (by kernel_rfl) (fun τ hτ => ?_)
 refine th_normalS hτ ⟨[(4, (vI (isub r5 r6)))], []⟩ (here (by kernel_rfl)) ?_
 refine sem_retS (by kernel_rfl) (fun τ hτ => ?_)
 obtain rfl := Option.some.inj h
 exact rk_ret hτ [(4, (vI (isub r5 r6)))] (here (by kernel_rfl)) (by kernel_rfl)
theorem W.geom_Outline_3_ok {from0 : Int} {to1 : Int} {a_0 : Int} {h1 : (List Segment)} {r : (List Segment)} (h : geom_Outline_3 from0 to1 a_0 h1 = some r) : PC G.P 90 [(vI from0), (vI to1), (.ptr 1000000 0), (.vptr [(vI a_0)] 0)] [(1000000, .box [(.row (.top 300001) 100)]), (300001, .row 100 [] (List.map c_Segment h1))] (.tup []) [(0, .row 100 [] (List.map c_Segment r)), (1000000, .box [(.row (.top 0) 100)])] := by
 refine pc_of G (fn := Try.f90) Try.func90 (by kernel_rfl) (by kernel_rfl) (by kernel_rfl) (by kernel_rfl) (by kernel_rfl) ?_
 refine sem_set ⟨[(0, (vI from0)), (1, (vI to1)), (2, (.ptr 1000000 0)), (3, (.vptr [(vI a_0)] 0))], [(300001, .row 100 [] (List.map c_Segment h1)), (1000000, .box [(.row (.top 300001) 100)])]⟩ (by kernel_rfl) ?_
 refine sem_region (by kernel_rfl) ?_
 refine evs_run 7 (by kernel_rfl) ?_
 obtain ⟨l2, hl2, h⟩ := bindS h
 refine evs_op (st_app (c := c_Segment) (l := h1) (l2 := [(Segment.mk from0 a_0 to1 a_0)]) (x := (.sl (List.map c_Segment [(Segment.mk from0 a_0 to1 a_0)]))) (g := 300001) (e := 100) (sz := 4) (d := 13) (by kernel_rfl) (by kernel_rfl) (by kernel_rfl) (by kernel_rfl) (fun _ => rfl) rfl hl2) ?_
 refine z6 1 (by kernel_rfl) (fun τ hτ => ?_)
 obtain rfl := Option.some.inj h
 exact rk_normal hτ [] (subR_prep [] [(300001, 0), (1000000, 1000000)] (by kernel_rfl) rfl rfl (by kernel_rfl)) (by kernel_rfl)
theorem W.geom_runs__geom_Outline_2__geom_Outline_3_ok {ends : (List Int)} {side_0_0_0_0 : (List (List Bool))} {side_1_0 : Int} {found_1_0 : Int} {h1 : (List Segment)} {r : (List Segment)} (h : geom_runs__geom_Outline_2__geom_Outline_3 ends side_0_0_0_0 side_1_0 found_1_0 h1 = some r) : PC G.P 88 [(.sl (List.map cI ends)), (.fn 89 [(.vptr [(.fn 87 [(.vptr [(.sl (List.map (cS cB) side_0_0_0_0))] 0)])] 0), (.vptr [(vI side_1_0)] 0)]), (.fn 90 [(.ptr 1000000 0), (.vptr [(vI found_1_0)] 0)])] [(1000000, .box [(.row (.top 300001) 100)]), (300001, .row 100 [] (List.map c_Segment h1))] (.tup []) [(0, .row 100 [] (List.map c_Segment r)), (1000000, .box [(.row (.top 0) 100)])] := by
 refine pc_of G (fn := Try.f88) Try.func88 (by kernel_rfl) (by kernel_rfl) (by kernel_rfl) (by kernel_rfl) (by kernel_rfl) ?_
 refine sem_set ⟨[(0, (.sl (List.map cI ends))), (1, (.fn 89 [(.vptr [(.fn 87 [(.vptr [(.sl (List.map (cS cB) side_0_0_0_0))] 0)])] 0), (.vptr [(vI side_1_0)] 0)])), (2, (.fn 90 [(.ptr 1000000 0), (.vptr [(vI found_1_0)] 0)]))], [(300001, .row 100 [] (List.map c_Segment h1)), (1000000, .box [(.row (.top 300001) 100)])]⟩ (by kernel_rfl) ?_
 refine z3 1 ⟨[(0, (.sl (List.map cI ends))), (1, (.fn 89 [(.vptr [(.fn 87 [(.vptr [(.sl (List.map (cS cB) side_0_0_0_0))] 0)])] 0), (.vptr [(vI side_1_0)] 0)])), (2, (.fn 90 [(.ptr 1000000 0), (.vptr [(vI found_1_0)] 0)])), (6, (vI 0))], [(300001, .row 100 [] (List.map c_Segment h1)), (1000000, .box [(.row (.top 300001) 100)])]⟩ (by kernel_rfl) ?_
 refine z7 (by kernel_rfl) ?_
 refine evs_run 1 (by kernel_rfl) ?_
 refine evs_op (st_len (c := cI) (l := ends) (x := (.sl (List.map cI ends))) (by kernel_rfl) (by kernel_rfl)) ?_
 refine z1 1 ⟨[(0, (.sl (List.map cI ends))), (1, (.fn 89 [(.vptr [(.fn 87 [(.vptr [(.sl (List.map (cS cB) side_0_0_0_0))] 0)])] 0), (.vptr [(vI side_1_0)] 0)])), (2, (.fn 90 [(.ptr 1000000 0), (.vptr [(vI found_1_0)] 0)])), (6, (vI 0)), (11, (vI (ends.length : Int))), (12, (vI 0))], [(300001, .row 100 [] (List.map c_Segment h1)), (1000000, .box [(.row (.top 300001) 100)])]⟩ (by kernel_rfl) ?_
 refine sem_block (by kernel_rfl) ?_
 obtain ⟨x511, hx511, h⟩ := bindS h
 refine sem_loopS (fun (s70 : Int × Int × (List Segment)) => ⟨[(0, (.sl (List.map cI ends))), (1, (.fn 89 [(.vptr [(.fn 87 [(.vptr [(.sl (List.map (cS cB) side_0_0_0_0))] 0)])] 0), (.vptr [(vI side_1_0)] 0)])), (2, (.fn 90 [(.ptr 1000000 0), (.vptr [(vI found_1_0)] 0)])), (6, (vI s70.1)), (11, (vI (ends.length : Int))), (12, (vI s70.2.1))], [(500000, .row 100 [] (List.map c_Segment s70.2.2)), (1000000, .box [(.row (.top 500000) 100)])]⟩) (fun (x511 : (List Segment)) => (.exit 0, ⟨[], [(500000, .row 100 [] (List.map c_Segment x511)), (1000000, .box [(.row (.top 500000) 100)])]⟩)) (geom_runs__geom_Outline_2__geom_Outline_3_l4 ends side_0_0_0_0 side_1_0 found_1_0) (0, 0, h1) x511 (by kernel_rfl) (subR_prep [] [(300001, 500000), (1000000, 1000000)] (by kernel_rfl) rfl rfl (by kernel_rfl)) hx511 ?_ ?_ ?_
 ·intro s70 r h
  refine z3 1 ⟨[(0, (.sl (List.map cI ends))), (1, (.fn 89 [(.vptr [(.fn 87 [(.vptr [(.sl (List.map (cS cB) side_0_0_0_0))] 0)])] 0), (.vptr [(vI side_1_0)] 0)])), (2, (.fn 90 [(.ptr 1000000 0), (.vptr [(vI found_1_0)] 0)])), (6, (vI s70.1)), (11, (vI (ends.length : Int))), (12, (vI s70.2.1)), (13, (vB (decide (s70.2.1 < (ends.length : Int)))))], [(500000, .row 100 [] (List.map c_Segment s70.2.2)), (1000000, .box [(.row (.top 500000) 100)])]⟩ (by kernel_rfl) ?_
  refine sem_seq (by kernel_rfl) ?_
  refine sem_cond (decide (s70.2.1 < (ends.length : Int))) (by kernel_rfl) (by kernel_rfl) (fun hb => ?_) (fun hb => ?_)
  ·replace h := iteT hb h
   refine z4 ⟨[(0, (.sl (List.map cI ends))), (1, (.fn 89 [(.vptr [(.fn 87 [(.vptr [(.sl (List.map (cS cB) side_0_0_0_0))] 0)])] 0), (.vptr [(vI side_1_0)] 0)])), (2, (.fn 90 [(.ptr 1000000 0), (.vptr [(vI found_1_0)] 0)])), (6, (vI s70.1)), (11, (vI (ends.length : Int))), (12, (vI s70.2.1))], [(500000, .row 100 [] (List.map c_Segment s70.2.2)), (1000000, .box [(.row (.top 500000) 100)])]⟩ (by kernel_rfl) ?_
   refine sem_seq (by kernel_rfl) ?_
   refine sem_block (by kernel_rfl) ?_
   refine z3 2 ⟨[(0, (.sl (List.map cI ends))), (1, (.fn 89 [(.vptr [(.fn 87 [(.vptr [(.sl (List.map (cS cB) side_0_0_0_0))] 0)])] 0), (.vptr [(vI side_1_0)] 0)])), (2, (.fn 90 [(.ptr 1000000 0), (.vptr [(vI found_1_0)] 0)])), (6, (vI s70.1)), (7, (vI s70.2.1)), (11, (vI (ends.length : Int))), (12, (vI s70.2.1))], [(500000, .row 100 [] (List.map c_Segment s70.2.2)), (1000000, .box [(.row (.top 500000) 100)])]⟩ (by kernel_rfl) ?_
   refine z3 1 ⟨[(0, (.sl (List.map cI ends))), (1, (.fn 89 [(.vptr [(.fn 87 [(.vptr [(.sl (List.map (cS cB) side_0_0_0_0))] 0)])] 0), (.vptr [(vI side_1_0)] 0)])), (2, (.fn 90 [(.ptr 1000000 0), (.vptr [(vI found_1_0)] 0)])), (6, (vI s70.1)), (7, (vI s70.2.1)), (8, (vI 0)), (11, (vI (ends.length : Int))), (12, (vI s70.2.1))], [(500000, .row 100 [] (List.map c_Segment s70.2.2)), (1000000, .box [(.row (.top 500000) 100)])]⟩ (by kernel_rfl) ?_
   refine sem_seqJ (fun (j403 : Int) => ⟨[(0, (.sl (List.map cI ends))), (1, (.fn 89 [(.vptr [(.fn 87 [(.vptr [(.sl (List.map (cS cB) side_0_0_0_0))] 0)])] 0), (.vptr [(vI side_1_0)] 0)])), (2, (.fn 90 [(.ptr 1000000 0), (.vptr [(vI found_1_0)] 0)])), (6, (vI s70.1)), (7, (vI s70.2.1)), (8, (vI j403)), (11, (vI (ends.length : Int))), (12, (vI s70.2.1))], [(500000, .row 100 [] (List.map c_Segment s70.2.2)), (1000000, .box [(.row (.top 500000) 100)])]⟩) (geom_runs__geom_Outline_2__geom_Outline_3_k3 ends side_0_0_0_0 side_1_0 found_1_0 s70) r (by kernel_rfl) (fun j403 h => ?_) ?_
   ·refine sem_seqJ (fun (j456 : (List Segment)) => ⟨[(0, (.sl (List.map cI ends))), (1, (.fn 89 [(.vptr [(.fn 87 [(.vptr [(.sl (List.map (cS cB) side_0_0_0_0))] 0)])] 0), (.vptr [(vI side_1_0)] 0)])), (2, (.fn 90 [(.ptr 1000000 0), (.vptr [(vI found_1_0)] 0)])), (8, (vI j403)), (11, (vI (ends.length : Int))), (12, (vI s70.2.1))], [(500000, .row 100 [] (List.map c_Segment j456)), (1000000, .box [(.row (.top 500000) 100)])]⟩) (geom_runs__geom_Outline_2__geom_Outline_3_k1 s70 j403) r (by kernel_rfl) (fun j456 h => ?_) ?_
    ·refine sem_region (by kernel_rfl) ?_
     refine z6 2 (by kernel_rfl) (fun τ hτ => ?_)
     refine bl_normal ?_
     refine th_normalS hτ ⟨[(0, (.sl (List.map cI ends))), (1, (.fn 89 [(.vptr [(.fn 87 [(.vptr [(.sl (List.map (cS cB) side_0_0_0_0))] 0)])] 0), (.vptr [(vI side_1_0)] 0)])), (2, (.fn 90 [(.ptr 1000000 0), (.vptr [(vI found_1_0)] 0)])), (6, (vI j403)), (11, (vI (ends.length : Int))), (12, (vI s70.2.1))], [(500000, .row 100 [] (List.map c_Segment j456)), (1000000, .box [(.row (.top 500000) 100)])]⟩ (here (by kernel_rfl)) ?_
     refine sem_region (by kernel_rfl) ?_
     refine z6 2 (by kernel_rfl) (fun τ hτ => ?_)
     obtain rfl := Option.some.inj h
     exact lk_nextS hτ (here (by kernel_rfl))
    refine sem_seq (by kernel_rfl) ?_
    obtain ⟨j457, hj457, h⟩ := bindS h
    refine sem_regionC ⟨[(0, (.sl (List.map cI ends))), (1, (.fn 89 [(.vptr [(.fn 87 [(.vptr [(.sl (List.map (cS cB) side_0_0_0_0))] 0)])] 0), (.vptr [(vI side_1_0)] 0)])), (2, (.fn 90 [(.ptr 1000000 0), (.vptr [(vI found_1_0)] 0)])), (6, (vI s70.1)), (7, (vI s70.2.1)), (8, (vI j403)), (11, (vI (ends.length : Int))), (12, (vI s70.2.1)), (29, (vB j457))], [(500000, .row 100 [] (List.map c_Segment s70.2.2)), (1000000, .box [(.row (.top 500000) 100)])]⟩ (by kernel_rfl) ?_ (fun τ hτ => ?_)
    ·replace h := hj457
     refine evs_run 4 (by kernel_rfl) ?_
     refine evs_split (j403 != s70.1) (fun b0 => ⟨[(0, (.sl (List.map cI ends))), (1, (.fn 89 [(.vptr [(.fn 87 [(.vptr [(.sl (List.map (cS cB) side_0_0_0_0))] 0)])] 0), (.vptr [(vI side_1_0)] 0)])), (2, (.fn 90 [(.ptr 1000000 0), (.vptr [(vI found_1_0)] 0)])), (6, (vI s70.1)), (7, (vI s70.2.1)), (8, (vI j403)), (11, (vI (ends.length : Int))), (12, (vI s70.2.1)), (26, (vB b0))], [(500000, .row 100 [] (List.map c_Segment s70.2.2)), (1000000, .box [(.row (.top 500000) 100)])]⟩) (by kernel_rfl) (fun hb => ?_) (fun hb => ?_)
     ·replace h := iteT hb h
      refine z6 3 (by kernel_rfl) (fun τ hτ => ?_)
      obtain rfl := Option.some.inj h
      exact leafC hτ (here (by kernel_rfl))
     ·replace h := iteF hb h
      refine z6 3 (by kernel_rfl) (fun τ hτ => ?_)
      obtain rfl := Option.some.inj h
      exact leafC hτ (here (by kernel_rfl))
    refine th_normalS hτ ⟨[(0, (.sl (List.map cI ends))), (1, (.fn 89 [(.vptr [(.fn 87 [(.vptr [(.sl (List.map (cS cB) side_0_0_0_0))] 0)])] 0), (.vptr [(vI side_1_0)] 0)])), (2, (.fn 90 [(.ptr 1000000 0), (.vptr [(vI found_1_0)] 0)])), (6, (vI s70.1)), (7, (vI s70.2.1)), (8, (vI j403)), (11, (vI (ends.length : Int))), (12, (vI s70.2.1)), (29, (vB j457))], [(500000, .row 100 [] (List.map c_Segment s70.2.2)), (1000000, .box [(.row (.top 500000) 100)])]⟩ (here (by kernel_rfl)) ?_
    refine sem_cond j457 (by kernel_rfl) (by kernel_rfl) (fun hb => ?_) (fun hb => ?_)
    ·replace h := iteT hb h
     refine z3 3 ⟨[(0, (.sl (List.map cI ends))), (1, (.fn 89 [(.vptr [(.fn 87 [(.vptr [(.sl (List.map (cS cB) side_0_0_0_0))] 0)])] 0), (.vptr [(vI side_1_0)] 0)])), (2, (.fn 90 [(.ptr 1000000 0), (.vptr [(vI found_1_0)] 0)])), (6, (vI s70.1)), (7, (vI s70.2.1)), (8, (vI j403)), (9, (vI (isub s70.2.1 1))), (11, (vI (ends.length : Int))), (12, (vI s70.2.1))], [(500000, .row 100 [] (List.map c_Segment s70.2.2)), (1000000, .box [(.row (.top 500000) 100)])]⟩ (by kernel_rfl) ?_
     refine sem_seq (by kernel_rfl) ?_
     refine sem_block (by kernel_rfl) ?_
     obtain ⟨x499, hx499, h⟩ := bindS h
     refine sem_loopS (fun (s486 : Int) => ⟨[(0, (.sl (List.map cI ends))), (1, (.fn 89 [(.vptr [(.fn 87 [(.vptr [(.sl (List.map (cS cB) side_0_0_0_0))] 0)])] 0), (.vptr [(vI side_1_0)] 0)])), (2, (.fn 90 [(.ptr 1000000 0), (.vptr [(vI found_1_0)] 0)])), (6, (vI s70.1)), (7, (vI s70.2.1)), (8, (vI j403)), (9, (vI s486)), (11, (vI (ends.length : Int))), (12, (vI s70.2.1))], [(500000, .row 100 [] (List.map c_Segment s70.2.2)), (1000000, .box [(.row (.top 500000) 100)])]⟩) (fun (x499 : Int) => (.exit 2, ⟨[(0, (.sl (List.map cI ends))), (1, (.fn 89 [(.vptr [(.fn 87 [(.vptr [(.sl (List.map (cS cB) side_0_0_0_0))] 0)])] 0), (.vptr [(vI side_1_0)] 0)])), (2, (.fn 90 [(.ptr 1000000 0), (.vptr [(vI found_1_0)] 0)])), (7, (vI s70.2.1)), (8, (vI j403)), (9, (vI x499)), (11, (vI (ends.length : Int))), (12, (vI s70.2.1))], [(500000, .row 100 [] (List.map c_Segment s70.2.2)), (1000000, .box [(.row (.top 500000) 100)])]⟩)) (geom_runs__geom_Outline_2__geom_Outline_3_l2 side_0_0_0_0 side_1_0 s70) (isub s70.2.1 1) x499 (by kernel_rfl) (here (by kernel_rfl)) hx499 ?_ ?_ ?_
     ·intro s486 r h
      refine sem_seq (by kernel_rfl) ?_
      refine sem_seq (by kernel_rfl) ?_
      obtain ⟨j497, hj497, h⟩ := bindS h
      refine sem_regionC ⟨[(0, (.sl (List.map cI ends))), (1, (.fn 89 [(.vptr [(.fn 87 [(.vptr [(.sl (List.map (cS cB) side_0_0_0_0))] 0)])] 0), (.vptr [(vI side_1_0)] 0)])), (2, (.fn 90 [(.ptr 1000000 0), (.vptr [(vI found_1_0)] 0)])), (6, (vI s70.1)), (7, (vI s70.2.1)), (8, (vI j403)), (9, (vI s486)), (11, (vI (ends.length : Int))), (12, (vI s70.2.1)), (41, (vB j497))], [(500000, .row 100 [] (List.map c_Segment s70.2.2)), (1000000, .box [(.row (.top 500000) 100)])]⟩ (by kernel_rfl) ?_ (fun τ hτ => ?_)
      ·replace h := hj497
       refine evs_run 3 (by kernel_rfl) ?_
       refine evs_split (decide (s486 > 0)) (fun b0 => ⟨[(0, (.sl (List.map cI ends))), (1, (.fn 89 [(.vptr [(.fn 87 [(.vptr [(.sl (List.map (cS cB) side_0_0_0_0))] 0)])] 0), (.vptr [(vI side_1_0)] 0)])), (2, (.fn 90 [(.ptr 1000000 0), (.vptr [(vI found_1_0)] 0)])), (6, (vI s70.1)), (7, (vI s70.2.1)), (8, (vI j403)), (9, (vI s486)), (11, (vI (ends.length : Int))), (12, (vI s70.2.1)), (34, (vB b0))], [(500000, .row 100 [] (List.map c_Segment s70.2.2)), (1000000, .box [(.row (.top 500000) 100)])]⟩) (by kernel_rfl) (fun hb => ?_) (fun hb => ?_)
       ·replace h := iteT hb h
        refine evs_run 3 (by kernel_rfl) ?_
        obtain ⟨r498, hr498, h⟩ := bindS h
        refine evs_callP [] (by kernel_rfl) (W.geom_Outline_2_ok hr498) (by kernel_rfl) (.inl rfl) (by kernel_rfl) ?_
        refine z6 3 (by kernel_rfl) (fun τ hτ => ?_)
        obtain rfl := Option.some.inj h
        exact leafC hτ (here (by kernel_rfl))
       ·replace h := iteF hb h
        refine z6 7 (by kernel_rfl) (fun τ hτ => ?_)
        obtain rfl := Option.some.inj h
        exact leafC hτ (here (by kernel_rfl))
      refine th_normalS hτ ⟨[(0, (.sl (List.map cI ends))), (1, (.fn 89 [(.vptr [(.fn 87 [(.vptr [(.sl (List.map (cS cB) side_0_0_0_0))] 0)])] 0), (.vptr [(vI side_1_0)] 0)])), (2, (.fn 90 [(.ptr 1000000 0), (.vptr [(vI found_1_0)] 0)])), (6, (vI s70.1)), (7, (vI s70.2.1)), (8, (vI j403)), (9, (vI s486)), (11, (vI (ends.length : Int))), (12, (vI s70.2.1)), (41, (vB j497))], [(500000, .row 100 [] (List.map c_Segment s70.2.2)), (1000000, .box [(.row (.top 500000) 100)])]⟩ (here (by kernel_rfl)) ?_
      refine sem_cond j497 (by kernel_rfl) (by kernel_rfl) (fun hb => ?_) (fun hb => ?_)
      ·replace h := iteT hb h
       refine z4 ⟨[(0, (.sl (List.map cI ends))), (1, (.fn 89 [(.vptr [(.fn 87 [(.vptr [(.sl (List.map (cS cB) side_0_0_0_0))] 0)])] 0), (.vptr [(vI side_1_0)] 0)])), (2, (.fn 90 [(.ptr 1000000 0), (.vptr [(vI found_1_0)] 0)])), (6, (vI s70.1)), (7, (vI s70.2.1)), (8, (vI j403)), (9, (vI s486)), (11, (vI (ends.length : Int))), (12, (vI s70.2.1))], [(500000, .row 100 [] (List.map c_Segment s70.2.2)), (1000000, .box [(.row (.top 500000) 100)])]⟩ (by kernel_rfl) ?_
       refine sem_block (by kernel_rfl) ?_
       refine sem_region (by kernel_rfl) ?_
       refine z6 3 (by kernel_rfl) (fun τ hτ => ?_)
       refine bl_normal ?_
       obtain rfl := Option.some.inj h
       exact lk_nextS hτ (here (by kernel_rfl))
      ·replace h := iteF hb h
       refine sem_exitS 2 (by kernel_rfl) rfl (fun τ hτ => ?_)
       refine th_exit ?_
       obtain rfl := Option.some.inj h
       exact lk_outS hτ rfl (here (by kernel_rfl))
     ·intro x
      rfl
     ·intro τ hτ
      refine bl_hit (by kernel_rfl) ?_
      refine th_normalS hτ ⟨[(0, (.sl (List.map cI ends))), (1, (.fn 89 [(.vptr [(.fn 87 [(.vptr [(.sl (List.map (cS cB) side_0_0_0_0))] 0)])] 0), (.vptr [(vI side_1_0)] 0)])), (2, (.fn 90 [(.ptr 1000000 0), (.vptr [(vI found_1_0)] 0)])), (7, (vI s70.2.1)), (8, (vI j403)), (9, (vI x499)), (11, (vI (ends.length : Int))), (12, (vI s70.2.1))], [(500000, .row 100 [] (List.map c_Segment s70.2.2)), (1000000, .box [(.row (.top 500000) 100)])]⟩ (here (by kernel_rfl)) ?_
      refine sem_drawN [] [] [] [] [] 9 (by kernel_rfl) (by kernel_rfl) (by kernel_rfl) ?_
      refine evd_run 3 (by kernel_rfl) ?_
      obtain ⟨x506, hx506, h⟩ := bindS h
      refine evd_val (by kernel_rfl) (st_idx (c := cI) (l := ends) (i := x499) (kd := .i64) (sz := 1) (by kernel_rfl) hx506 rfl) (by kernel_rfl) (by kernel_rfl) ?_
      refine evd_run 3 (by kernel_rfl) ?_
      obtain ⟨x507, hx507, h⟩ := bindS h
      refine evd_val (by kernel_rfl) (st_idx (c := cI) (l := ends) (i := s70.2.1) (kd := .i64) (sz := 1) (by kernel_rfl) hx507 rfl) (by kernel_rfl) (by kernel_rfl) ?_
      refine evd_run 1 (by kernel_rfl) ?_
      refine evd_end (by kernel_rfl) ?_
      obtain ⟨r508, hr508, h⟩ := bindS h
      refine evo_callS [(1000000, 1000000), (300001, 500000)] [(0, 700450)] [] (by kernel_rfl) (W.geom_Outline_3_ok hr508) (by kernel_rfl) (by kernel_rfl) (.inl rfl) ?_
      refine evo_endS (by kernel_rfl) (fun τ hτ => ?_)
      exact jk_normal r508 h hτ (subR_prep [] [(700450, 500000), (1000000, 1000000)] (by kernel_rfl) rfl rfl (by kernel_rfl))
    ·replace h := iteF hb h
     refine sem_skipS (by kernel_rfl) (fun τ hτ => ?_)
     exact jk_normal s70.2.2 h hτ (here (by kernel_rfl))
   refine z7 (by kernel_rfl) ?_
   refine evs_run 2 (by kernel_rfl) ?_
   refine evs_op (st_len (c := cI) (l := ends) (x := (.sl (List.map cI ends))) (by kernel_rfl) (by kernel_rfl)) ?_
   refine z1 2 ⟨[(0, (.sl (List.map cI ends))), (1, (.fn 89 [(.vptr [(.fn 87 [(.vptr [(.sl (List.map (cS cB) side_0_0_0_0))] 0)])] 0), (.vptr [(vI side_1_0)] 0)])), (2, (.fn 90 [(.ptr 1000000 0), (.vptr [(vI found_1_0)] 0)])), (6, (vI s70.1)), (7, (vI s70.2.1)), (8, (vI 0)), (11, (vI (ends.length : Int))), (12, (vI s70.2.1)), (19, (vB (decide (s70.2.1 < (isub (ends.length : Int) 1)))))], [(500000, .row 100 [] (List.map c_Segment s70.2.2)), (1000000, .box [(.row (.top 500000) 100)])]⟩ (by kernel_rfl) ?_
   refine sem_cond (decide (s70.2.1 < (isub (ends.length : Int) 1))) (by kernel_rfl) (by kernel_rfl) (fun hb => ?_) (fun hb => ?_)
   ·replace h := iteT hb h
    refine sem_region (by kernel_rfl) ?_
    refine evs_run 2 (by kernel_rfl) ?_
    obtain ⟨r510, hr510, h⟩ := bindS h
    refine evs_callP [] (by kernel_rfl) (W.geom_Outline_2_ok hr510) (by kernel_rfl) (.inl rfl) (by kernel_rfl) ?_
    refine z6 1 (by kernel_rfl) (fun τ hτ => ?_)
    exact jk_normal r510 h hτ (here (by kernel_rfl))
   ·replace h := iteF hb h
    refine sem_skipS (by kernel_rfl) (fun τ hτ => ?_)
    exact jk_normal 0 h hτ (here (by kernel_rfl))
  ·replace h := iteF hb h
   refine sem_exitS 0 (by kernel_rfl) rfl (fun τ hτ => ?_)
   refine th_exit ?_
   obtain rfl := Option.some.inj h
   exact lk_outS hτ rfl (here (by kernel_rfl))
 ·intro x
  rfl
 ·intro τ hτ
  refine bl_hit (by kernel_rfl) ?_
  obtain rfl := Option.some.inj h
  exact rk_normal hτ [] (subR_prep [] [(500000, 0), (1000000, 1000000)] (by kernel_rfl) rfl rfl (by kernel_rfl)) (by kernel_rfl)
theorem W.geom_Outline_4_ok {j0 : Int} {a_0_0_0 : (List (List Bool))} {a2_0 : Int} {r : Int} (h : geom_Outline_4 j0 a_0_0_0 a2_0 = some r) : PC G.P 91 [(vI j0), (.vptr [(.fn 87 [(.vptr [(.sl (List.map (cS cB) a_0_0_0))] 0)])] 0), (.vptr [(vI a2_0)] 0)] [] (vI r) [] := by
 refine pc_of G (fn := Try.f91) Try.func91 (by kernel_rfl) (by kernel_rfl) (by kernel_rfl) (by kernel_rfl) (by kernel_rfl) ?_
 refine sem_set ⟨[(0, (vI j0)), (1, (.vptr [(.fn 87 [(.vptr [(.sl (List.map (cS cB) a_0_0_0))] 0)])] 0)), (2, (.vptr [(vI a2_0)] 0))], []⟩ (by kernel_rfl) ?_
 refine z3 1 ⟨[(0, (vI j0)), (1, (.vptr [(.fn 87 [(.vptr [(.sl (List.map (cS cB) a_0_0_0))] 0)])] 0)), (2, (.vptr [(vI a2_0)] 0))], []⟩ (by kernel_rfl) ?_
 refine sem_seq (by kernel_rfl) ?_
 refine sem_drawN [] [] [] [] [] 8 (by kernel_rfl) (by kernel_rfl) (by kernel_rfl) ?_
 refine evd_run 3 (by kernel_rfl) ?_
 obtain ⟨r5, hr5, h⟩ := bindS h
 refine evd_callS [] [] (by kernel_rfl) (by kernel_rfl) (W.geom_Outline_1_ok hr5) (by kernel_rfl) (.inl rfl) (by kernel_rfl) (by kernel_rfl) ?_
 refine evd_run 4 (by kernel_rfl) ?_
 refine evd_end (by kernel_rfl) ?_
 obtain ⟨r6, hr6, h⟩ := bindS h
 refine evo_callP [] (by kernel_rfl) (W.geom_Outline_1_ok hr6) (by kernel_rfl) (.inl rfl) (by kernel_rfl) ?_
 refine evo_run 2 (by kernel_rfl) ?_
 refine evo_endS (by kernel_rfl) (fun τ hτ => ?_)
 refine th_normalS hτ ⟨[(4, (vI (isub r5 r6)))], []⟩ (here (by kernel_rfl)) ?_
 refine sem_retS (by kernel_rfl) (fun τ hτ => ?_)
 obtain rfl := Option.some.inj h
 exact rk_ret hτ [(4, (vI (isub r5 r6)))] (here (by kernel_rfl)) (by kernel_rfl)
theorem W.geom_Outline_5_ok {from0 : Int} {to1 : Int} {a_0 : Int} {h1 : (List Segment)} {r : (List Segment)} (h : geom_Outline_5 from0 to1 a_0 h1 = some r) : PC G.P 92 [(vI from0), (vI to1), (.ptr 1000000 0), (.vptr [(vI a_0)] 0)] [(1000000, .box [(.row (.top 300001) 100)]), (300001, .row 100 [] (List.map c_Segment h1))] (.tup []) [(0, .row 100 [] (List.map c_Segment r)), (1000000, .box [(.row (.top 0) 100)])] := by
 refine pc_of G (fn := Try.f92) Try.func92 (by kernel_rfl) (by kernel_rfl) (by kernel_rfl) (by kernel_rfl) (by kernel_rfl) ?_
 refine sem_set ⟨[(0, (vI from0)), (1, (vI to1)), (2, (.ptr 1000000 0)), (3, (.vptr [(vI a_0)] 0))], [(300001, .row 100 [] (List.map c_Segment h1)), (1000000, .box [(.row (.top 300001) 100)])]⟩ (by kernel_rfl) ?_
 refine sem_region (by kernel_rfl) ?_
 refine evs_run 7 (by kernel_rfl) ?_
 obtain ⟨l2, hl2, h⟩ := bindS h
 refine evs_op (st_app (c := c_Segment) (l := h1) (l2 := [(Segment.mk a_0 from0 a_0 to1)]) (x := (.sl (List.map c_Segment [(Segment.mk a_0 from0 a_0 to1)]))) (g := 300001) (e := 100) (sz := 4) (d := 13) (by kernel_rfl) (by kernel_rfl) (by kernel_rfl) (by kernel_rfl) (fun _ => rfl) rfl hl2) ?_
 refine z6 1 (by kernel_rfl) (fun τ hτ => ?_)
 obtain rfl := Option.some.inj h
 exact rk_normal hτ [] (subR_prep [] [(300001, 0), (1000000, 1000000)] (by kernel_rfl) rfl rfl (by kernel_rfl)) (by kernel_rfl)
theorem W.geom_runs__geom_Outline_4__geom_Outline_5_ok {ends : (List Int)} {side_0_0_0_0 : (List (List Bool))} {side_1_0 : Int} {found_1_0 : Int} {h1 : (List Segment)} {r : (List Segment)} (h : geom_runs__geom_Outline_4__geom_Outline_5 ends side_0_0_0_0 side_1_0 found_1_0 h1 = some r) : PC G.P 88 [(.sl (List.map cI ends)), (.fn 91 [(.vptr [(.fn 87 [(.vptr [(.sl (List.map (cS cB) side_0_0_0_0))] 0)])] 0), (.vptr [(vI side_1_0)] 0)]), (.fn 92 [(.ptr 1000000 0), (.vptr [(vI found_1_0)] 0)])] [(1000000, .box [(.row (.top 300001) 100)]), (300001, .row 100 [] (List.map c_Segment h1))] (.tup []) [(0, .row 100 [] (List.map c_Segment r)), (1000000, .box [(.row (.top 0) 100)])] := by
 refine pc_of G (fn := Try.f88) Try.func88 (by kernel_rfl) (by kernel_rfl) (by kernel_rfl) (by kernel_rfl) (by kernel_rfl) ?_
 refine sem_set ⟨[(0, (.sl (List.map cI ends))), (1, (.fn 91 [(.vptr [(.fn 87 [(.vptr [(.sl (List.map (cS cB) side_0_0_0_0))] 0)])] 0), (.vptr [(vI side_1_0)] 0)])), (2, (.fn 92 [(.ptr 1000000 0), (.vptr [(vI found_1_0)] 0)]))], [(300001, .row 100 [] (List.map c_Segment h1)), (1000000, .box [(.row (.top 300001) 100)])]⟩ (by kernel_rfl) ?_
 refine z3 1 ⟨[(0, (.sl (List.map cI ends))), (1, (.fn 91 [(.vptr [(.fn 87 [(.vptr [(.sl (List.map (cS cB) side_0_0_0_0))] 0)])] 0), (.vptr [(vI side_1_0)] 0)])), (2, (.fn 92 [(.ptr 1000000 0), (.vptr [(vI found_1_0)] 0)])), (6, (vI 0))], [(300001, .row 100 [] (List.map c_Segment h1)), (1000000, .box [(.row (.top 300001) 100)])]⟩ (by kernel_rfl) ?_
 refine z7 (by kernel_rfl) ?_
 refine evs_run 1 (by kernel_rfl) ?_
 refine evs_op (st_len (c := cI) (l := ends) (x := (.sl (List.map cI ends))) (by kernel_rfl) (by kernel_rfl)) ?_
 refine z1 1 ⟨[(0, (.sl (List.map cI ends))), (1, (.fn 91 [(.vptr [(.fn 87 [(.vptr [(.sl (List.map (cS cB) side_0_0_0_0))] 0)])] 0), (.vptr [(vI side_1_0)] 0)])), (2, (.fn 92 [(.ptr 1000000 0), (.vptr [(vI found_1_0)] 0)])), (6, (vI 0)), (11, (vI (ends.length : Int))), (12, (vI 0))], [(300001, .row 100 [] (List.map c_Segment h1)), (1000000, .box [(.row (.top 300001) 100)])]⟩ (by kernel_rfl) ?_
 refine sem_block (by kernel_rfl) ?_
 obtain ⟨x511, hx511, h⟩ := bindS h
 refine sem_loopS (fun (s70 : Int × Int × (List Segment)) => ⟨[(0, (.sl (List.map cI ends))), (1, (.fn 91 [(.vptr [(.fn 87 [(.vptr [(.sl (List.map (cS cB) side_0_0_0_0))] 0)])] 0), (.vptr [(vI side_1_0)] 0)])), (2, (.fn 92 [(.ptr 1000000 0), (.vptr [(vI found_1_0)] 0)])), (6, (vI s70.1)), (11, (vI (ends.length : Int))), (12, (vI s70.2.1))], [(500000, .row 100 [] (List.map c_Segment s70.2.2)), (1000000, .box [(.row (.top 500000) 100)])]⟩) (fun (x511 : (List Segment)) => (.exit 0, ⟨[], [(500000, .row 100 [] (List.map c_Segment x511)), (1000000, .box [(.row (.top 500000) 100)])]⟩)) (geom_runs__geom_Outline_4__geom_Outline_5_l4 ends side_0_0_0_0 side_1_0 found_1_0) (0, 0, h1) x511 (by kernel_rfl) (subR_prep [] [(300001, 500000), (1000000, 1000000)] (by kernel_rfl) rfl rfl (by kernel_rfl)) hx511 ?_ ?_ ?_
 ·intro s70 r h
  refine z3 1 ⟨[(0, (.sl (List.map cI ends))), (1, (.fn 91 [(.vptr [(.fn 87 [(.vptr [(.sl (List.map (cS cB) side_0_0_0_0))] 0)])] 0), (.vptr [(vI side_1_0)] 0)])), (2, (.fn 92 [(.ptr 1000000 0), (.vptr [(vI found_1_0)] 0)])), (6, (vI s70.1)), (11, (vI (ends.length : Int))), (12, (vI s70.2.1)), (13, (vB (decide (s70.2.1 < (ends.length : Int)))))], [(500000, .row 100 [] (List.map c_Segment s70.2.2)), (1000000, .box [(.row (.top 500000) 100)])]⟩ (by kernel_rfl) ?_
  refine sem_seq (by kernel_rfl) ?_
  refine sem_cond (decide (s70.2.1 < (ends.length : Int))) (by kernel_rfl) (by kernel_rfl) (fun hb => ?_) (fun hb => ?_)
  ·replace h := iteT hb h
   refine z4 ⟨[(0, (.sl (List.map cI ends))), (1, (.fn 91 [(.vptr [(.fn 87 [(.vptr [(.sl (List.map (cS cB) side_0_0_0_0))] 0)])] 0), (.vptr [(vI side_1_0)] 0)])), (2, (.fn 92 [(.ptr 1000000 0), (.vptr [(vI found_1_0)] 0)])), (6, (vI s70.1)), (11, (vI (ends.length : Int))), (12, (vI s70.2.1))], [(500000, .row 100 [] (List.map c_Segment s70.2.2)), (1000000, .box [(.row (.top 500000) 100)])]⟩ (by kernel_rfl) ?_
   refine sem_seq (by kernel_rfl) ?_
   refine sem_block (by kernel_rfl) ?_
   refine z3 2 ⟨[(0, (.sl (List.map cI ends))), (1, (.fn 91 [(.vptr [(.fn 87 [(.vptr [(.sl (List.map (cS cB) side_0_0_0_0))] 0)])] 0), (.vptr [(vI side_1_0)] 0)])), (2, (.fn 92 [(.ptr 1000000 0), (.vptr [(vI found_1_0)] 0)])), (6, (vI s70.1)), (7, (vI s70.2.1)), (11, (vI (ends.length : Int))), (12, (vI s70.2.1))], [(500000, .row 100 [] (List.map c_Segment s70.2.2)), (1000000, .box [(.row (.top 500000) 100)])]⟩ (by kernel_rfl) ?_
   refine z3 1 ⟨[(0, (.sl (List.map cI ends))), (1, (.fn 91 [(.vptr [(.fn 87 [(.vptr [(.sl (List.map (cS cB) side_0_0_0_0))] 0)])] 0), (.vptr [(vI side_1_0)] 0)])), (2, (.fn 92 [(.ptr 1000000 0), (.vptr [(vI found_1_0)] 0)])), (6, (vI s70.1)), (7, (vI s70.2.1)), (8, (vI 0)), (11, (vI (ends.length : Int))), (12, (vI s70.2.1))], [(500000, .row 100 [] (List.map c_Segment s70.2.2)), (1000000, .box [(.row (.top 500000) 100)])]⟩ (by kernel_rfl) ?_
   refine sem_seqJ (fun (j403 : Int) => ⟨[(0, (.sl (List.map cI ends))), (1, (.fn 91 [(.vptr [(.fn 87 [(.vptr [(.sl (List.map (cS cB) side_0_0_0_0))] 0)])] 0), (.vptr [(vI side_1_0)] 0)])), (2, (.fn 92 [(.ptr 1000000 0), (.vptr [(vI found_1_0)] 0)])), (6, (vI s70.1)), (7, (vI s70.2.1)), (8, (vI j403)), (11, (vI (ends.length : Int))), (12, (vI s70.2.1))], [(500000, .row 100 [] (List.map c_Segment s70.2.2)), (1000000, .box [(.row (.top 500000) 100)])]⟩) (geom_runs__geom_Outline_4__geom_Outline_5_k3 ends side_0_0_0_0 side_1_0 found_1_0 s70) r (by kernel_rfl) (fun j403 h => ?_) ?_
   ·refine sem_seqJ (fun (j456 : (List Segment)) => ⟨[(0, (.sl (List.map cI ends))), (1, (.fn 91 [(.vptr [(.fn 87 [(.vptr [(.sl (List.map (cS cB) side_0_0_0_0))] 0)])] 0), (.vptr [(vI side_1_0)] 0)])), (2, (.fn 92 [(.ptr 1000000 0), (.vptr [(vI found_1_0)] 0)])), (8, (vI j403)), (11, (vI (ends.length : Int))), (12, (vI s70.2.1))], [(500000, .row 100 [] (List.map c_Segment j456)), (1000000, .box [(.row (.top 500000) 100)])]⟩) (geom_runs__geom_Outline_4__geom_Outline_5_k1 s70 j403) r (by kernel_rfl) (fun j456 h => ?_) ?_
    ·refine sem_region (by kernel_rfl) ?_
     refine z6 2 (by kernel_rfl) (fun τ hτ => ?_)
     refine bl_normal ?_
     refine th_normalS hτ ⟨[(0, (.sl (List.map cI ends))), (1, (.fn 91 [(.vptr [(.fn 87 [(.vptr [(.sl (List.map (cS cB) side_0_0_0_0))] 0)])] 0), (.vptr [(vI side_1_0)] 0)])), (2, (.fn 92 [(.ptr 1000000 0), (.vptr [(vI found_1_0)] 0)])), (6, (vI j403)), (11, (vI (ends.length : Int))), (12, (vI s70.2.1))], [(500000, .row 100 [] (List.map c_Segment j456)), (1000000, .box [(.row (.top 500000) 100)])]⟩ (here (by kernel_rfl)) ?_
     refine sem_region (by kernel_rfl) ?_
     refine z6 2 (by kernel_rfl) (fun τ hτ => ?_)
     obtain rfl := Option.some.inj h
     exact lk_nextS hτ (here (by kernel_rfl))
    refine sem_seq (by kernel_rfl) ?_
    obtain ⟨j457, hj457, h⟩ := bindS h
    refine sem_regionC ⟨[(0, (.sl (List.map cI ends))), (1, (.fn 91 [(.vptr [(.fn 87 [(.vptr [(.sl (List.map (cS cB) side_0_0_0_0))] 0)])] 0), (.vptr [(vI side_1_0)] 0)])), (2, (.fn 92 [(.ptr 1000000 0), (.vptr [(vI found_1_0)] 0)])), (6, (vI s70.1)), (7, (vI s70.2.1)), (8, (vI j403)), (11, (vI (ends.length : Int))), (12, (vI s70.2.1)), (29, (vB j457))], [(500000, .row 100 [] (List.map c_Segment s70.2.2)), (1000000, .box [(.row (.top 500000) 100)])]⟩ (by kernel_rfl) ?_ (fun τ hτ => ?_)
    ·replace h := hj457
     refine evs_run 4 (by kernel_rfl) ?_
     refine evs_split (j403 != s70.1) (fun b0 => ⟨[(0, (.sl (List.map cI ends))), (1, (.fn 91 [(.vptr [(.fn 87 [(.vptr [(.sl (List.map (cS cB) side_0_0_0_0))] 0)])] 0), (.vptr [(vI side_1_0)] 0)])), (2, (.fn 92 [(.ptr 1000000 0), (.vptr [(vI found_1_0)] 0)])), (6, (vI s70.1)), (7, (vI s70.2.1)), (8, (vI j403)), (11, (vI (ends.length : Int))), (12, (vI s70.2.1)), (26, (vB b0))], [(500000, .row 100 [] (List.map c_Segment s70.2.2)), (1000000, .box [(.row (.top 500000) 100)])]⟩) (by kernel_rfl) (fun hb => ?_) (fun hb => ?_)
     ·replace h := iteT hb h
      refine z6 3 (by kernel_rfl) (fun τ hτ => ?_)
      obtain rfl := Option.some.inj h
      exact leafC hτ (here (by kernel_rfl))
     ·replace h := iteF hb h
      refine z6 3 (by kernel_rfl) (fun τ hτ => ?_)
      obtain rfl := Option.some.inj h
      exact leafC hτ (here (by kernel_rfl))
    refine th_normalS hτ ⟨[(0, (.sl (List.map cI ends))), (1, (.fn 91 [(.vptr [(.fn 87 [(.vptr [(.sl (List.map (cS cB) side_0_0_0_0))] 0)])] 0), (.vptr [(vI side_1_0)] 0)])), (2, (.fn 92 [(.ptr 1000000 0), (.vptr [(vI found_1_0)] 0)])), (6, (vI s70.1)), (7, (vI s70.2.1)), (8, (vI j403)), (11, (vI (ends.length : Int))), (12, (vI s70.2.1)), (29, (vB j457))], [(500000, .row 100 [] (List.map c_Segment s70.2.2)), (1000000, .box [(.row (.top 500000) 100)])]⟩ (here (by kernel_rfl)) ?_
    refine sem_cond j457 (by kernel_rfl) (by kernel_rfl) (fun hb => ?_) (fun hb => ?_)
    ·replace h := iteT hb h
     refine z3 3 ⟨[(0, (.sl (List.map cI ends))), (1, (.fn 91 [(.vptr [(.fn 87 [(.vptr [(.sl (List.map (cS cB) side_0_0_0_0))] 0)])] 0), (.vptr [(vI side_1_0)] 0)])), (2, (.fn 92 [(.ptr 1000000 0), (.vptr [(vI found_1_0)] 0)])), (6, (vI s70.1)), (7, (vI s70.2.1)), (8, (vI j403)), (9, (vI (isub s70.2.1 1))), (11, (vI (ends.length : Int))), (12, (vI s70.2.1))], [(500000, .row 100 [] (List.map c_Segment s70.2.2)), (1000000, .box [(.row (.top 500000) 100)])]⟩ (by kernel_rfl) ?_
     refine sem_seq (by kernel_rfl) ?_
     refine sem_block (by kernel_rfl) ?_
     obtain ⟨x499, hx499, h⟩ := bindS h
     refine sem_loopS (fun (s486 : Int) => ⟨[(0, (.sl (List.map cI ends))), (1, (.fn 91 [(.vptr [(.fn 87 [(.vptr [(.sl (List.map (cS cB) side_0_0_0_0))] 0)])] 0), (.vptr [(vI side_1_0)] 0)])), (2, (.fn 92 [(.ptr 1000000 0), (.vptr [(vI found_1_0)] 0)])), (6, (vI s70.1)), (7, (vI s70.2.1)), (8, (vI j403)), (9, (vI s486)), (11, (vI (ends.length : Int))), (12, (vI s70.2.1))], [(500000, .row 100 [] (List.map c_Segment s70.2.2)), (1000000, .box [(.row (.top 500000) 100)])]⟩) (fun (x499 : Int) => (.exit 2, ⟨[(0, (.sl (List.map cI ends))), (1, (.fn 91 [(.vptr [(.fn 87 [(.vptr [(.sl (List.map (cS cB) side_0_0_0_0))] 0)])] 0), (.vptr [(vI side_1_0)] 0)])), (2, (.fn 92 [(.ptr 1000000 0), (.vptr [(vI found_1_0)] 0)])), (7, (vI s70.2.1)), (8, (vI j403)), (9, (vI x499)), (11, (vI (ends.length : Int))), (12, (vI s70.2.1))], [(500000, .row 100 [] (List.map c_Segment s70.2.2)), (1000000, .box [(.row (.top 500000) 100)])]⟩)) (geom_runs__geom_Outline_4__geom_Outline_5_l2 side_0_0_0_0 side_1_0 s70) (isub s70.2.1 1) x499 (by kernel_rfl) (here (by kernel_rfl)) hx499 ?_ ?_ ?_
     ·intro s486 r h
      refine sem_seq (by kernel_rfl) ?_
      refine sem_seq (by kernel_rfl) ?_
      obtain ⟨j497, hj497, h⟩ := bindS h
      refine sem_regionC ⟨[(0, (.sl (List.map cI ends))), (1, (.fn 91 [(.vptr [(.fn 87 [(.vptr [(.sl (List.map (cS cB) side_0_0_0_0))] 0)])] 0), (.vptr [(vI side_1_0)] 0)])), (2, (.fn 92 [(.ptr 1000000 0), (.vptr [(vI found_1_0)] 0)])), (6, (vI s70.1)), (7, (vI s70.2.1)), (8, (vI j403)), (9, (vI s486)), (11, (vI (ends.length : Int))), (12, (vI s70.2.1)), (41, (vB j497))], [(500000, .row 100 [] (List.map c_Segment s70.2.2)), (1000000, .box [(.row (.top 500000) 100)])]⟩ (by kernel_rfl) ?_ (fun τ hτ => ?_)
      ·replace h := hj497
       refine evs_run 3 (by kernel_rfl) ?_
       refine evs_split (decide (s486 > 0)) (fun b0 => ⟨[(0, (.sl (List.map cI ends))), (1, (.fn 91 [(.vptr [(.fn 87 [(.vptr [(.sl (List.map (cS cB) side_0_0_0_0))] 0)])] 0), (.vptr [(vI side_1_0)] 0)])), (2, (.fn 92 [(.ptr 1000000 0), (.vptr [(vI found_1_0)] 0)])), (6, (vI s70.1)), (7, (vI s70.2.1)), (8, (vI j403)), (9, (vI s486)), (11, (vI (ends.length : Int))), (12, (vI s70.2.1)), (34, (vB b0))], [(500000, .row 100 [] (List.map c_Segment s70.2.2)), (1000000, .box [(.row (.top 500000) 100)])]⟩) (by kernel_rfl) (fun hb => ?_) (fun hb => ?_)
       ·replace h := iteT hb h
        refine evs_run 3 (by kernel_rfl) ?_
        obtain ⟨r498, hr498, h⟩ := bindS h
        refine evs_callP [] (by kernel_rfl) (W.geom_Outline_4_ok hr498) (by kernel_rfl) (.inl rfl) (by kernel_rfl) ?_
        refine z6 3 (by kernel_rfl) (fun τ hτ => ?_)
        obtain rfl := Option.some.inj h
        exact leafC hτ (here (by kernel_rfl))
       ·replace h := iteF hb h
        refine z6 7 (by kernel_rfl) (fun τ hτ => ?_)
        obtain rfl := Option.some.inj h
        exact leafC hτ (here (by kernel_rfl))
      refine th_normalS hτ ⟨[(0, (.sl (List.map cI ends))), (1, (.fn 91 [(.vptr [(.fn 87 [(.vptr [(.sl (List.map (cS cB) side_0_0_0_0))] 0)])] 0), (.vptr [(vI side_1_0)] 0)])), (2, (.fn 92 [(.ptr 1000000 0), (.vptr [(vI found_1_0)] 0)])), (6, (vI s70.1)), (7, (vI s70.2.1)), (8, (vI j403)), (9, (vI s486)), (11, (vI (ends.length : Int))), (12, (vI s70.2.1)), (41, (vB j497))], [(500000, .row 100 [] (List.map c_Segment s70.2.2)), (1000000, .box [(.row (.top 500000) 100)])]⟩ (here (by kernel_rfl)) ?_
      refine sem_cond j497 (by kernel_rfl) (by kernel_rfl) (fun hb => ?_) (fun hb => ?_)
      ·replace h := iteT hb h
       refine z4 ⟨[(0, (.sl (List.map cI ends))), (1, (.fn 91 [(.vptr [(.fn 87 [(.vptr [(.sl (List.map (cS cB) side_0_0_0_0))] 0)])] 0), (.vptr [(vI side_1_0)] 0)])), (2, (.fn 92 [(.ptr 1000000 0), (.vptr [(vI found_1_0)] 0)])), (6, (vI s70.1)), (7, (vI s70.2.1)), (8, (vI j403)), (9, (vI s486)), (11, (vI (ends.length : Int))), (12, (vI s70.2.1))], [(500000, .row 100 [] (List.map c_Segment s70.2.2)), (1000000, .box [(.row (.top 500000) 100)])]⟩ (by kernel_rfl) ?_
       refine sem_block (by kernel_rfl) ?_
       refine sem_region (by kernel_rfl) ?_
       refine z6 3 (by kernel_rfl) (fun τ hτ => ?_)
       refine bl_normal ?_
       obtain rfl := Option.some.inj h
       exact lk_nextS hτ (here (by kernel_rfl))
      ·replace h := iteF hb h
       refine sem_exitS 2 (by kernel_rfl) rfl (fun τ hτ => ?_)
       refine th_exit ?_
       obtain rfl := Option.some.inj h
       exact lk_outS hτ rfl (here (by kernel_rfl))
     ·intro x
      rfl
     ·intro τ hτ
      refine bl_hit (by kernel_rfl) ?_
      refine th_normalS hτ ⟨[(0, (.sl (List.map cI ends))), (1, (.fn 91 [(.vptr [(.fn 87 [(.vptr [(.sl (List.map (cS cB) side_0_0_0_0))] 0)])] 0), (.vptr [(vI side_1_0)] 0)])), (2, (.fn 92 [(.ptr 1000000 0), (.vptr [(vI found_1_0)] 0)])), (7, (vI s70.2.1)), (8, (vI j403)), (9, (vI x499)), (11, (vI (ends.length : Int))), (12, (vI s70.2.1))], [(500000, .row 100 [] (List.map c_Segment s70.2.2)), (1000000, .box [(.row (.top 500000) 100)])]⟩ (here (by kernel_rfl)) ?_
      refine sem_drawN [] [] [] [] [] 9 (by kernel_rfl) (by kernel_rfl) (by kernel_rfl) ?_
      refine evd_run 3 (by kernel_rfl) ?_
      obtain ⟨x506, hx506, h⟩ := bindS h
      refine evd_val (by kernel_rfl) (st_idx (c := cI) (l := ends) (i := x499) (kd := .i64) (sz := 1) (by kernel_rfl) hx506 rfl) (by kernel_rfl) (by kernel_rfl) ?_
      refine evd_run 3 (by kernel_rfl) ?_
      obtain ⟨x507, hx507, h⟩ := bindS h
      refine evd_val (by kernel_rfl) (st_idx (c := cI) (l := ends) (i := s70.2.1) (kd := .i64) (sz := 1) (by kernel_rfl) hx507 rfl) (by kernel_rfl) (by kernel_rfl) ?_
      refine evd_run 1 (by kernel_rfl) ?_
      refine evd_end (by kernel_rfl) ?_
      obtain ⟨r508, hr508, h⟩ := bindS h
      refine evo_callS [(1000000, 1000000), (300001, 500000)] [(0, 700450)] [] (by kernel_rfl) (W.geom_Outline_5_ok hr508) (by kernel_rfl) (by kernel_rfl) (.inl rfl) ?_
      refine evo_endS (by kernel_rfl) (fun τ hτ => ?_)
      exact jk_normal r508 h hτ (subR_prep [] [(700450, 500000), (1000000, 1000000)] (by kernel_rfl) rfl rfl (by kernel_rfl))
    ·replace h := iteF hb h
     refine sem_skipS (by kernel_rfl) (fun τ hτ => ?_)
     exact jk_normal s70.2.2 h hτ (here (by kernel_rfl))
   refine z7 (by kernel_rfl) ?_
   refine evs_run 2 (by kernel_rfl) ?_
   refine evs_op (st_len (c := cI) (l := ends) (x := (.sl (List.map cI ends))) (by kernel_rfl) (by kernel_rfl)) ?_
   refine z1 2 ⟨[(0, (.sl (List.map cI ends))), (1, (.fn 91 [(.vptr [(.fn 87 [(.vptr [(.sl (List.map (cS cB) side_0_0_0_0))] 0)])] 0), (.vptr [(vI side_1_0)] 0)])), (2, (.fn 92 [(.ptr 1000000 0), (.vptr [(vI found_1_0)] 0)])), (6, (vI s70.1)), (7, (vI s70.2.1)), (8, (vI 0)), (11, (vI (ends.length : Int))), (12, (vI s70.2.1)), (19, (vB (decide (s70.2.1 < (isub (ends.length : Int) 1)))))], [(500000, .row 100 [] (List.map c_Segment s70.2.2)), (1000000, .box [(.row (.top 500000) 100)])]⟩ (by kernel_rfl) ?_
   refine sem_cond (decide (s70.2.1 < (isub (ends.length : Int) 1))) (by kernel_rfl) (by kernel_rfl) (fun hb => ?_) (fun hb => ?_)
   ·replace h := iteT hb h
    refine sem_region (by kernel_rfl) ?_
    refine evs_run 2 (by kernel_rfl) ?_
    obtain ⟨r510, hr510, h⟩ := bindS h
    refine evs_callP [] (by kernel_rfl) (W.geom_Outline_4_ok hr510) (by kernel_rfl) (.inl rfl) (by kernel_rfl) ?_
    refine z6 1 (by kernel_rfl) (fun τ hτ => ?_)
    exact jk_normal r510 h hτ (here (by kernel_rfl))
   ·replace h := iteF hb h
    refine sem_skipS (by kernel_rfl) (fun τ hτ => ?_)
    exact jk_normal 0 h hτ (here (by kernel_rfl))
  ·replace h := iteF hb h
   refine sem_exitS 0 (by kernel_rfl) rfl (fun τ hτ => ?_)
   refine th_exit ?_
   obtain rfl := Option.some.inj h
   exact lk_outS hτ rfl (here (by kernel_rfl))
 ·intro x
  rfl
 ·intro τ hτ
  refine bl_hit (by kernel_rfl) ?_
  obtain rfl := Option.some.inj h
  exact rk_normal hτ [] (subR_prep [] [(500000, 0), (1000000, 1000000)] (by kernel_rfl) rfl rfl (by kernel_rfl)) (by kernel_rfl)
theorem W.geom_Outline_ok {l : (List Rect)} {r : (List Segment) × Int} (h : geom_Outline l = some r) : PC G.P 47 [(.sl (List.map c_Rect l))] [] (.tup [(.row (.top 0) 100), (vI r.2)]) [(0, .row 100 [] (List.map c_Segment r.1))] := by
 refine pc_of G (fn := Try.f47) Try.func47 (by kernel_rfl) (by kernel_rfl) (by kernel_rfl) (by kernel_rfl) (by kernel_rfl) ?_
 refine sem_set ⟨[(0, (.sl (List.map c_Rect l)))], []⟩ (by kernel_rfl) ?_
 refine z3 2 ⟨[(0, (.sl (List.map c_Rect l)))], []⟩ (by kernel_rfl) ?_
 refine sem_seq (by kernel_rfl) ?_
 refine z7 (by kernel_rfl) ?_
 refine evs_run 2 (by kernel_rfl) ?_
 obtain ⟨r4, hr4, h⟩ := bindS h
 refine evs_callP [] (by kernel_rfl) (W.geom_rects_ok hr4) (by kernel_rfl) (.inl rfl) (by kernel_rfl) ?_
 refine z1 1 ⟨[(0, (.sl (List.map c_Rect l))), (4, (vI r4))], []⟩ (by kernel_rfl) ?_
 refine z3 2 ⟨[(0, (.sl (List.map c_Rect l))), (4, (vI r4)), (17, (vB (r4 != 0)))], []⟩ (by kernel_rfl) ?_
 refine sem_cond (r4 != 0) (by kernel_rfl) (by kernel_rfl) (fun hb => ?_) (fun hb => ?_)
 ·replace h := iteT hb h
  refine z8 3 ⟨[(2, (.row (.top 2) 100)), (3, (vI r4))], [(2, .row 100 [] (List.map c_Segment []))]⟩ (by kernel_rfl) (fun τ hτ => ?_)
  refine th_ret ?_
  obtain rfl := Option.some.inj h
  exact rk_ret hτ [(2, (.row (.top 0) 100)), (3, (vI r4))] (subR_prep [] [(2, 0)] (by kernel_rfl) rfl rfl (by kernel_rfl)) (by kernel_rfl)
 ·replace h := iteF hb h
  refine z4 ⟨[(0, (.sl (List.map c_Rect l)))], []⟩ (by kernel_rfl) ?_
  refine z7 (by kernel_rfl) ?_
  refine evs_run 2 (by kernel_rfl) ?_
  obtain ⟨r6, hr6, h⟩ := bindS h
  refine evs_callS [] [(0, 700100), (1, 700101), (2, 700102)] [] (by kernel_rfl) (W.geom_newGrid_ok hr6) (by kernel_rfl) (by kernel_rfl) (.inl rfl) ?_
  refine z1 2 ⟨[(0, (.sl (List.map c_Rect l))), (5, (.ptr 5 0))], [(5, .box [(.row (.top 700101) 3), (.row (.top 700102) 3)]), (700101, .row 3 [] (List.map cI r6.x)), (700102, .row 3 [] (List.map cI r6.y))]⟩ (by kernel_rfl) ?_
  refine z7 (by kernel_rfl) ?_
  refine evs_run 2 (by kernel_rfl) ?_
  refine evs_prep [.frz 700101, .frz 700102] (by kernel_rfl) ?_
  obtain ⟨r8, hr8, h⟩ := bindS h
  refine evs_callS [] [(0, 700100)] [] (by kernel_rfl) (W.geom_grid_covered_ok hr8) (by kernel_rfl) (by kernel_rfl) (.inl rfl) ?_
  refine evs_prep [.frz 700100] (by kernel_rfl) ?_
  refine evs_run 1 (by kernel_rfl) ?_
  refine evs_prep [.row (.box 6 0) 800006 94 []] (by kernel_rfl) ?_
  refine z1 1 ⟨[(5, (.ptr 5 0)), (6, (.ptr 6 0))], [(5, .box [(.sl (List.map cI r6.x)), (.sl (List.map cI r6.y))]), (6, .box [(.sl (List.map (cS cB) r8))])]⟩ (by kernel_rfl) ?_
  refine z3 3 ⟨[(5, (.ptr 5 0)), (7, (.ptr 7 0))], [(5, .box [(.sl (List.map cI r6.x)), (.sl (List.map cI r6.y))]), (6, .box [(.sl (List.map (cS cB) r8))]), (7, .box [(.fn 87 [(.ptr 6 0)])])]⟩ (by kernel_rfl) ?_
  refine z7 (by kernel_rfl) ?_
  refine evs_run 1 (by kernel_rfl) ?_
  refine evs_prep [.row (.box 8 0) 800008 100 []] (by kernel_rfl) ?_
  refine evs_endS (by kernel_rfl) (fun τ hτ => ?_)
  refine th_normalS hτ ⟨[(5, (.ptr 5 0)), (7, (.ptr 7 0)), (8, (.ptr 8 0))], [(5, .box [(.sl (List.map cI r6.x)), (.sl (List.map cI r6.y))]), (6, .box [(.sl (List.map (cS cB) r8))]), (7, .box [(.fn 87 [(.ptr 6 0)])]), (8, .box [(.row (.top 800008) 100)]), (800008, .row 100 [] (List.map c_Segment []))]⟩ (here (by kernel_rfl)) ?_
  refine sem_seq (by kernel_rfl) ?_
  refine z7 (by kernel_rfl) ?_
  refine evs_run 2 (by kernel_rfl) ?_
  refine evs_op (st_len (c := cI) (l := r6.y) (x := (.sl (List.map cI r6.y))) (by kernel_rfl) (by kernel_rfl)) ?_
  refine z1 1 ⟨[(5, (.ptr 5 0)), (7, (.ptr 7 0)), (8, (.ptr 8 0)), (27, (.sl (List.map cI r6.y))), (28, (vI (r6.y.length : Int))), (29, (vI 0))], [(5, .box [(.sl (List.map cI r6.x)), (.sl (List.map cI r6.y))]), (6, .box [(.sl (List.map (cS cB) r8))]), (7, .box [(.fn 87 [(.ptr 6 0)])]), (8, .box [(.row (.top 800008) 100)]), (800008, .row 100 [] (List.map c_Segment []))]⟩ (by kernel_rfl) ?_
  refine sem_block (by kernel_rfl) ?_
  obtain ⟨x62, hx62, h⟩ := bindS h
  refine sem_loopS (fun (s45 : Int × (List Segment)) => ⟨[(5, (.ptr 500000 0)), (7, (.ptr 500001 0)), (8, (.ptr 500003 0)), (27, (.sl (List.map cI r6.y))), (28, (vI (r6.y.length : Int))), (29, (vI s45.1))], [(500000, .box [(.sl (List.map cI r6.x)), (.sl (List.map cI r6.y))]), (500001, .box [(.fn 87 [(.ptr 500002 0)])]), (500002, .box [(.sl (List.map (cS cB) r8))]), (500003, .box [(.row (.top 500004) 100)]), (500004, .row 100 [] (List.map c_Segment s45.2))]⟩) (fun (x62 : (List Segment)) => (.exit 0, ⟨[(5, (.ptr 500000 0)), (7, (.ptr 500001 0)), (8, (.ptr 500003 0))], [(500000, .box [(.sl (List.map cI r6.x)), (.sl (List.map cI r6.y))]), (500001, .box [(.fn 87 [(.ptr 500002 0)])]), (500002, .box [(.sl (List.map (cS cB) r8))]), (500003, .box [(.row (.top 500004) 100)]), (500004, .row 100 [] (List.map c_Segment x62))]⟩)) (geom_Outline_l1 r6 r8) (0, []) x62 (by kernel_rfl) (subR_prep [] [(5, 500000), (6, 500002), (7, 500001), (8, 500003), (800008, 500004)] (by kernel_rfl) rfl rfl (by kernel_rfl)) hx62 ?_ ?_ ?_
  ·intro s45 r h
   refine z3 1 ⟨[(5, (.ptr 500000 0)), (7, (.ptr 500001 0)), (8, (.ptr 500003 0)), (27, (.sl (List.map cI r6.y))), (28, (vI (r6.y.length : Int))), (29, (vI s45.1)), (30, (vB (decide (s45.1 < (r6.y.length : Int)))))], [(500000, .box [(.sl (List.map cI r6.x)), (.sl (List.map cI r6.y))]), (500001, .box [(.fn 87 [(.ptr 500002 0)])]), (500002, .box [(.sl (List.map (cS cB) r8))]), (500003, .box [(.row (.top 500004) 100)]), (500004, .row 100 [] (List.map c_Segment s45.2))]⟩ (by kernel_rfl) ?_
   refine sem_seq (by kernel_rfl) ?_
   refine sem_cond (decide (s45.1 < (r6.y.length : Int))) (by kernel_rfl) (by kernel_rfl) (fun hb => ?_) (fun hb => ?_)
   ·replace h := iteT hb h
    refine z4 ⟨[(5, (.ptr 500000 0)), (7, (.ptr 500001 0)), (8, (.ptr 500003 0)), (27, (.sl (List.map cI r6.y))), (28, (vI (r6.y.length : Int))), (29, (vI s45.1))], [(500000, .box [(.sl (List.map cI r6.x)), (.sl (List.map cI r6.y))]), (500001, .box [(.fn 87 [(.ptr 500002 0)])]), (500002, .box [(.sl (List.map (cS cB) r8))]), (500003, .box [(.row (.top 500004) 100)]), (500004, .row 100 [] (List.map c_Segment s45.2))]⟩ (by kernel_rfl) ?_
    refine sem_seq (by kernel_rfl) ?_
    refine sem_block (by kernel_rfl) ?_
    refine z7 (by kernel_rfl) ?_
    refine evs_run 1 (by kernel_rfl) ?_
    obtain ⟨x59, hx59, h⟩ := bindS h
    refine evs_op (st_idx (c := cI) (l := r6.y) (i := s45.1) (kd := .i64) (sz := 1) (by kernel_rfl) hx59 rfl) ?_
    refine z1 5 ⟨[(5, (.ptr 500000 0)), (7, (.ptr 500001 0)), (8, (.ptr 500003 0)), (9, (.ptr 9 0)), (10, (.ptr 10 0)), (27, (.sl (List.map cI r6.y))), (28, (vI (r6.y.length : Int))), (29, (vI s45.1))], [(9, .box [(vI s45.1)]), (10, .box [(vI x59)]), (500000, .box [(.sl (List.map cI r6.x)), (.sl (List.map cI r6.y))]), (500001, .box [(.fn 87 [(.ptr 500002 0)])]), (500002, .box [(.sl (List.map (cS cB) r8))]), (500003, .box [(.row (.top 500004) 100)]), (500004, .row 100 [] (List.map c_Segment s45.2))]⟩ (by kernel_rfl) ?_
    refine sem_region (by kernel_rfl) ?_
    refine evs_run 4 (by kernel_rfl) ?_
    obtain ⟨r61, hr61, h⟩ := bindS h
    refine evs_callS [(1000000, 500003), (300001, 500004)] [(0, 700200)] [500001, 500002, 9, 10] (by kernel_rfl) (W.geom_runs__geom_Outline_2__geom_Outline_3_ok hr61) (by kernel_rfl) (by kernel_rfl) (.inr ⟨rfl, fun _ _ => ind_cons (ind_row fun _ => rfl) (fun _ _ => ind_cons rfl (fun _ _ => ind_nil))⟩) ?_
    refine evs_endS (by kernel_rfl) (fun τ hτ => ?_)
    refine bl_normal ?_
    refine th_normalS hτ ⟨[(5, (.ptr 500000 0)), (7, (.ptr 500001 0)), (8, (.ptr 500003 0)), (27, (.sl (List.map cI r6.y))), (28, (vI (r6.y.length : Int))), (29, (vI s45.1))], [(500000, .box [(.sl (List.map cI r6.x)), (.sl (List.map cI r6.y))]), (500001, .box [(.fn 87 [(.ptr 500002 0)])]), (500002, .box [(.sl (List.map (cS cB) r8))]), (500003, .box [(.row (.top 700200) 100)]), (700200, .row 100 [] (List.map c_Segment r61))]⟩ (here (by kernel_rfl)) ?_
    refine sem_region (by kernel_rfl) ?_
    refine z6 2 (by kernel_rfl) (fun τ hτ => ?_)
    obtain rfl := Option.some.inj h
    exact lk_nextS hτ (subR_prep [] [(500000, 500000), (500001, 500001), (500002, 500002), (500003, 500003), (700200, 500004)] (by kernel_rfl) rfl rfl (by kernel_rfl))
   ·replace h := iteF hb h
    refine sem_exitS 0 (by kernel_rfl) rfl (fun τ hτ => ?_)
    refine th_exit ?_
    obtain rfl := Option.some.inj h
    exact lk_outS hτ rfl (here (by kernel_rfl))
  ·intro x
   rfl
  ·intro τ hτ
   refine bl_hit (by kernel_rfl) ?_
   refine th_normalS hτ ⟨[(5, (.ptr 500000 0)), (7, (.ptr 500001 0)), (8, (.ptr 500003 0))], [(500000, .box [(.sl (List.map cI r6.x)), (.sl (List.map cI r6.y))]), (500001, .box [(.fn 87 [(.ptr 500002 0)])]), (500002, .box [(.sl (List.map (cS cB) r8))]), (500003, .box [(.row (.top 500004) 100)]), (500004, .row 100 [] (List.map c_Segment x62))]⟩ (here (by kernel_rfl)) ?_
   refine sem_seq (by kernel_rfl) ?_
   refine z7 (by kernel_rfl) ?_
   refine evs_run 2 (by kernel_rfl) ?_
   refine evs_op (st_len (c := cI) (l := r6.x) (x := (.sl (List.map cI r6.x))) (by kernel_rfl) (by kernel_rfl)) ?_
   refine z1 1 ⟨[(5, (.ptr 500000 0)), (7, (.ptr 500001 0)), (8, (.ptr 500003 0)), (41, (.sl (List.map cI r6.x))), (42, (vI (r6.x.length : Int))), (43, (vI 0))], [(500000, .box [(.sl (List.map cI r6.x)), (.sl (List.map cI r6.y))]), (500001, .box [(.fn 87 [(.ptr 500002 0)])]), (500002, .box [(.sl (List.map (cS cB) r8))]), (500003, .box [(.row (.top 500004) 100)]), (500004, .row 100 [] (List.map c_Segment x62))]⟩ (by kernel_rfl) ?_
   refine sem_block (by kernel_rfl) ?_
   obtain ⟨x116, hx116, h⟩ := bindS h
   refine sem_loopS (fun (s99 : Int × (List Segment)) => ⟨[(5, (.ptr 500000 0)), (7, (.ptr 500001 0)), (8, (.ptr 500003 0)), (41, (.sl (List.map cI r6.x))), (42, (vI (r6.x.length : Int))), (43, (vI s99.1))], [(500000, .box [(.sl (List.map cI r6.x)), (.sl (List.map cI r6.y))]), (500001, .box [(.fn 87 [(.ptr 500002 0)])]), (500002, .box [(.sl (List.map (cS cB) r8))]), (500003, .box [(.row (.top 500004) 100)]), (500004, .row 100 [] (List.map c_Segment s99.2))]⟩) (fun (x116 : (List Segment)) => (.exit 2, ⟨[(8, (.ptr 500000 0))], [(500000, .box [(.row (.top 500001) 100)]), (500001, .row 100 [] (List.map c_Segment x116))]⟩)) (geom_Outline_l2 r6 r8) (0, x62) x116 (by kernel_rfl) (here (by kernel_rfl)) hx116 ?_ ?_ ?_
   ·intro s99 r h
    refine z3 1 ⟨[(5, (.ptr 500000 0)), (7, (.ptr 500001 0)), (8, (.ptr 500003 0)), (41, (.sl (List.map cI r6.x))), (42, (vI (r6.x.length : Int))), (43, (vI s99.1)), (44, (vB (decide (s99.1 < (r6.x.length : Int)))))], [(500000, .box [(.sl (List.map cI r6.x)), (.sl (List.map cI r6.y))]), (500001, .box [(.fn 87 [(.ptr 500002 0)])]), (500002, .box [(.sl (List.map (cS cB) r8))]), (500003, .box [(.row (.top 500004) 100)]), (500004, .row 100 [] (List.map c_Segment s99.2))]⟩ (by kernel_rfl) ?_
    refine sem_seq (by kernel_rfl) ?_
    refine sem_cond (decide (s99.1 < (r6.x.length : Int))) (by kernel_rfl) (by kernel_rfl) (fun hb => ?_) (fun hb => ?_)
    ·replace h := iteT hb h
     refine z4 ⟨[(5, (.ptr 500000 0)), (7, (.ptr 500001 0)), (8, (.ptr 500003 0)), (41, (.sl (List.map cI r6.x))), (42, (vI (r6.x.length : Int))), (43, (vI s99.1))], [(500000, .box [(.sl (List.map cI r6.x)), (.sl (List.map cI r6.y))]), (500001, .box [(.fn 87 [(.ptr 500002 0)])]), (500002, .box [(.sl (List.map (cS cB) r8))]), (500003, .box [(.row (.top 500004) 100)]), (500004, .row 100 [] (List.map c_Segment s99.2))]⟩ (by kernel_rfl) ?_
     refine sem_seq (by kernel_rfl) ?_
     refine sem_block (by kernel_rfl) ?_
     refine z7 (by kernel_rfl) ?_
     refine evs_run 1 (by kernel_rfl) ?_
     obtain ⟨x113, hx113, h⟩ := bindS h
     refine evs_op (st_idx (c := cI) (l := r6.x) (i := s99.1) (kd := .i64) (sz := 1) (by kernel_rfl) hx113 rfl) ?_
     refine z1 5 ⟨[(5, (.ptr 500000 0)), (7, (.ptr 500001 0)), (8, (.ptr 500003 0)), (11, (.ptr 11 0)), (12, (.ptr 12 0)), (41, (.sl (List.map cI r6.x))), (42, (vI (r6.x.length : Int))), (43, (vI s99.1))], [(11, .box [(vI s99.1)]), (12, .box [(vI x113)]), (500000, .box [(.sl (List.map cI r6.x)), (.sl (List.map cI r6.y))]), (500001, .box [(.fn 87 [(.ptr 500002 0)])]), (500002, .box [(.sl (List.map (cS cB) r8))]), (500003, .box [(.row (.top 500004) 100)]), (500004, .row 100 [] (List.map c_Segment s99.2))]⟩ (by kernel_rfl) ?_
     refine sem_region (by kernel_rfl) ?_
     refine evs_run 4 (by kernel_rfl) ?_
     obtain ⟨r115, hr115, h⟩ := bindS h
     refine evs_callS [(1000000, 500003), (300001, 500004)] [(0, 700200)] [500001, 500002, 11, 12] (by kernel_rfl) (W.geom_runs__geom_Outline_4__geom_Outline_5_ok hr115) (by kernel_rfl) (by kernel_rfl) (.inr ⟨rfl, fun _ _ => ind_cons (ind_row fun _ => rfl) (fun _ _ => ind_cons rfl (fun _ _ => ind_nil))⟩) ?_
     refine evs_endS (by kernel_rfl) (fun τ hτ => ?_)
     refine bl_normal ?_
     refine th_normalS hτ ⟨[(5, (.ptr 500000 0)), (7, (.ptr 500001 0)), (8, (.ptr 500003 0)), (41, (.sl (List.map cI r6.x))), (42, (vI (r6.x.length : Int))), (43, (vI s99.1))], [(500000, .box [(.sl (List.map cI r6.x)), (.sl (List.map cI r6.y))]), (500001, .box [(.fn 87 [(.ptr 500002 0)])]), (500002, .box [(.sl (List.map (cS cB) r8))]), (500003, .box [(.row (.top 700200) 100)]), (700200, .row 100 [] (List.map c_Segment r115))]⟩ (here (by kernel_rfl)) ?_
     refine sem_region (by kernel_rfl) ?_
     refine z6 2 (by kernel_rfl) (fun τ hτ => ?_)
     obtain rfl := Option.some.inj h
     exact lk_nextS hτ (subR_prep [] [(500000, 500000), (500001, 500001), (500002, 500002), (500003, 500003), (700200, 500004)] (by kernel_rfl) rfl rfl (by kernel_rfl))
    ·replace h := iteF hb h
     refine sem_exitS 2 (by kernel_rfl) rfl (fun τ hτ => ?_)
     refine th_exit ?_
     obtain rfl := Option.some.inj h
     exact lk_outS hτ rfl (subR_prep [] [(500003, 500000), (500004, 500001)] (by kernel_rfl) rfl rfl (by kernel_rfl))
   ·intro x
    rfl
   ·intro τ hτ
    refine bl_hit (by kernel_rfl) ?_
    refine th_normalS hτ ⟨[(8, (.ptr 500000 0))], [(500000, .box [(.row (.top 500001) 100)]), (500001, .row 100 [] (List.map c_Segment x116))]⟩ (here (by kernel_rfl)) ?_
    refine z8 3 ⟨[(2, (.row (.top 500001) 100)), (3, (vI 0))], [(500001, .row 100 [] (List.map c_Segment x116))]⟩ (by kernel_rfl) (fun τ hτ => ?_)
    obtain rfl := Option.some.inj h
    exact rk_ret hτ [(2, (.row (.top 0) 100)), (3, (vI 0))] (subR_prep [] [(500001, 0)] (by kernel_rfl) rfl rfl (by kernel_rfl)) (by kernel_rfl)
theorem W.sheetmetalref01_Grid_At_ok {g : sheetmetalref01_Grid} {x1 : Int} {y : Int} {r : Bool} (h : sheetmetalref01_Grid_At g x1 y = some r) : PC G.P 99 [(.agg [(.sl (List.map cI g.X)), (.sl (List.map cI g.Y)), (.sl (List.map (cS cB) g.On))]), (vI x1), (vI y)] [] (vB r) [] := by
 refine pc_of G (fn := Try.f99) Try.func99 (by kernel_rfl) (by kernel_rfl) (by kernel_rfl) (by kernel_rfl) (by kernel_rfl) ?_
 refine sem_set ⟨[(0, (.agg [(.sl (List.map cI g.X)), (.sl (List.map cI g.Y)), (.sl (List.map (cS cB) g.On))])), (1, (vI x1)), (2, (vI y))], []⟩ (by kernel_rfl) ?_
 refine z3 2 ⟨[(1, (vI x1)), (2, (vI y)), (3, (.ptr 3 0))], [(3, .box [(.sl (List.map cI g.X)), (.sl (List.map cI g.Y)), (.sl (List.map (cS cB) g.On))])]⟩ (by kernel_rfl) ?_
 refine sem_seq (by kernel_rfl) ?_
 obtain ⟨j4, hj4, h⟩ := bindS h
 refine sem_regionC ⟨[(6, (vB j4))], []⟩ (by kernel_rfl) ?_ (fun τ hτ => ?_)
 ·replace h := hj4
  refine evs_run 3 (by kernel_rfl) ?_
  refine evs_split (decide (x1 ≥ 0)) (fun b0 => ⟨[(1, (vI x1)), (2, (vI y)), (3, (.ptr 3 0)), (9, (vB b0))], [(3, .box [(.sl (List.map cI g.X)), (.sl (List.map cI g.Y)), (.sl (List.map (cS cB) g.On))])]⟩) (by kernel_rfl) (fun hb => ?_) (fun hb => ?_)
  ·replace h := iteT hb h
   refine evs_run 3 (by kernel_rfl) ?_
   refine evs_op (st_len (c := (cS cB)) (l := g.On) (x := (.sl (List.map (cS cB) g.On))) (by kernel_rfl) (by kernel_rfl)) ?_
   refine evs_run 3 (by kernel_rfl) ?_
   refine evs_split (decide (x1 < (g.On.length : Int))) (fun b0 => ⟨[(1, (vI x1)), (2, (vI y)), (3, (.ptr 3 0)), (16, (vB b0))], [(3, .box [(.sl (List.map cI g.X)), (.sl (List.map cI g.Y)), (.sl (List.map (cS cB) g.On))])]⟩) (by kernel_rfl) (fun hb => ?_) (fun hb => ?_)
   ·replace h := iteT hb h
    refine evs_run 4 (by kernel_rfl) ?_
    refine evs_split (decide (y ≥ 0)) (fun b0 => ⟨[(1, (vI x1)), (2, (vI y)), (3, (.ptr 3 0)), (20, (vB b0))], [(3, .box [(.sl (List.map cI g.X)), (.sl (List.map cI g.Y)), (.sl (List.map (cS cB) g.On))])]⟩) (by kernel_rfl) (fun hb => ?_) (fun hb => ?_)
    ·replace h := iteT hb h
     refine evs_run 4 (by kernel_rfl) ?_
     obtain ⟨x5, hx5, h⟩ := bindS h
     refine evs_op (st_idx (c := (cS cB)) (l := g.On) (i := x1) (kd := .i64) (sz := 1) (by kernel_rfl) hx5 rfl) ?_
     refine evs_run 1 (by kernel_rfl) ?_
     refine evs_op (st_len (c := cB) (l := x5) (x := (.sl (List.map cB x5))) (by kernel_rfl) (by kernel_rfl)) ?_
     refine evs_run 3 (by kernel_rfl) ?_
     refine evs_split (decide (y < (x5.length : Int))) (fun b0 => ⟨[(1, (vI x1)), (2, (vI y)), (3, (.ptr 3 0)), (30, (vB b0))], [(3, .box [(.sl (List.map cI g.X)), (.sl (List.map cI g.Y)), (.sl (List.map (cS cB) g.On))])]⟩) (by kernel_rfl) (fun hb => ?_) (fun hb => ?_)
     ·replace h := iteT hb h
      refine evs_run 3 (by kernel_rfl) ?_
      obtain ⟨x6, hx6, h⟩ := bindS h
      refine evs_op (st_idx (c := (cS cB)) (l := g.On) (i := x1) (kd := .i64) (sz := 1) (by kernel_rfl) hx6 rfl) ?_
      refine evs_run 2 (by kernel_rfl) ?_
      obtain ⟨x7, hx7, h⟩ := bindS h
      refine evs_op (st_idx (c := cB) (l := x6) (i := y) (kd := .i64) (sz := 1) (by kernel_rfl) hx7 rfl) ?_
      refine z6 3 (by kernel_rfl) (fun τ hτ => ?_)
      obtain rfl := Option.some.inj h
      exact leafC hτ (here (by kernel_rfl))
     ·replace h := iteF hb h
      refine z6 10 (by kernel_rfl) (fun τ hτ => ?_)
      obtain rfl := Option.some.inj h
      exact leafC hτ (here (by kernel_rfl))
    ·replace h := iteF hb h
     refine z6 20 (by kernel_rfl) (fun τ hτ => ?_)
     obtain rfl := Option.some.inj h
     exact leafC hτ (here (by kernel_rfl))
   ·replace h := iteF hb h
    refine z6 24 (by kernel_rfl) (fun τ hτ => ?_)
    obtain rfl := Option.some.inj h
    exact leafC hτ (here (by kernel_rfl))
  ·replace h := iteF hb h
   refine z6 31 (by kernel_rfl) (fun τ hτ => ?_)
   obtain rfl := Option.some.inj h
   exact leafC hτ (here (by kernel_rfl))
 refine th_normalS hτ ⟨[(6, (vB j4))], []⟩ (here (by kernel_rfl)) ?_
 refine sem_retS (by kernel_rfl) (fun τ hτ => ?_)
 obtain rfl := Option.some.inj h
 exact rk_ret hτ [(6, (vB j4))] (here (by kernel_rfl)) (by kernel_rfl)
end Go.Proofs.Ytiodkdpfkchkjaa
