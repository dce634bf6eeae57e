/- Each Go function does what its model says; written by a program out of the translation. -/
import Derived.Test.YtiodkdpfkchkjaaWR2
import Derived.Test.YtiodkdpfkchkjaaGeMR
set_option linter.unusedVariables false
set_option linter.unusedSimpArgs false
set_option linter.unusedSectionVars false
namespace Go.Proofs.Ytiodkdpfkchkjaa
open Go Go.VI Go.SM Go.Proofs
set_option maxRecDepth 100000
set_option maxHeartbeats 4000000
theorem W.sheetmetalref01_MakeGrid_ok {lines : (List Rect)} {l : (List Rect)} {r : sheetmetalref01_Grid × (List Int) × (List Int)} (h : sheetmetalref01_MakeGrid lines l = some r) : PC G.P 96 [(.sl (List.map c_Rect lines)), (.sl (List.map c_Rect l))] [] (.agg [(.sl (List.map cI r.1.X)), (.sl (List.map cI r.1.Y)), (.row (.top 1) 94)]) [(0, .box [(.sl (List.map cI r.2.1)), (.sl (List.map cI r.2.2)), (.row (.top 1) 94)]), (1, .row 94 [] (List.map (cS cB) r.1.On))] := by
  refine pc_of G (fn := Try.f96) Try.func96 (by kernel_rfl) (by kernel_rfl) (by kernel_rfl) (by kernel_rfl) (by kernel_rfl) ?_
  refine sem_set ⟨[(0, (.sl (List.map c_Rect lines))), (1, (.sl (List.map c_Rect l)))], []⟩ (by kernel_rfl) ?_
  refine sem_seq (by kernel_rfl) ?_
  refine sem_region (by kernel_rfl) ?_
  refine evs_run 1 (by kernel_rfl) ?_
  refine evs_endS (by kernel_rfl) (fun τ hτ => ?_)
  refine th_normalS hτ ⟨[(0, (.sl (List.map c_Rect lines))), (1, (.sl (List.map c_Rect l))), (4, (.ptr 4 0))], [(4, .box [.nl, .nl, .nl])]⟩ (here (by kernel_rfl)) ?_
  refine sem_seq (by kernel_rfl) ?_
  refine sem_region (by kernel_rfl) ?_
  refine evs_run 1 (by kernel_rfl) ?_
  refine evs_endS (by kernel_rfl) (fun τ hτ => ?_)
  refine th_normalS hτ ⟨[(0, (.sl (List.map c_Rect lines))), (1, (.sl (List.map c_Rect l))), (4, (.ptr 4 0)), (5, (.ptr 5 0))], [(4, .box [.nl, .nl, .nl]), (5, .box [.nl, .nl, .nl])]⟩ (here (by kernel_rfl)) ?_
  refine sem_seq (by kernel_rfl) ?_
  refine sem_seq (by kernel_rfl) ?_
  refine sem_region (by kernel_rfl) ?_
  refine evs_run 1 (by kernel_rfl) ?_
  refine evs_endS (by kernel_rfl) (fun τ hτ => ?_)
  refine th_normalS hτ ⟨[(0, (.sl (List.map c_Rect lines))), (1, (.sl (List.map c_Rect l))), (4, (.ptr 4 0)), (5, (.ptr 5 0)), (6, (vI 0))], [(4, .box [.nl, .nl, .nl]), (5, .box [.nl, .nl, .nl])]⟩ (here (by kernel_rfl)) ?_
  refine sem_block (by kernel_rfl) ?_
  obtain ⟨x366, hx366, h⟩ := bindS h
  refine sem_loopS (fun (s245 : Int × (List Int) × (List Int)) => ⟨[(0, (.sl (List.map c_Rect lines))), (1, (.sl (List.map c_Rect l))), (4, (.ptr 500000 0)), (5, (.ptr 500001 0)), (6, (vI s245.1))], [(500000, .box [.nl, .nl, .nl]), (500001, .box [(.sl (List.map cI s245.2.1)), (.sl (List.map cI s245.2.2)), .nl])]⟩) (fun (x366 : (List Int) × (List Int)) => (.exit 0, ⟨[(1, (.sl (List.map c_Rect l))), (4, (.ptr 500000 0)), (5, (.ptr 500001 0))], [(500000, .box [.nl, .nl, .nl]), (500001, .box [(.sl (List.map cI x366.1)), (.sl (List.map cI x366.2)), .nl])]⟩)) (sheetmetalref01_MakeGrid_l1 lines) (0, [], []) x366 (by kernel_rfl) (subR_prep [.soft (.box 5 0), .soft (.box 5 1)] [(4, 500000), (5, 500001)] (by kernel_rfl) rfl rfl (by kernel_rfl)) hx366 ?_ ?_ ?_
  · intro s245 r h
    refine sem_seq (by kernel_rfl) ?_
    refine sem_seq (by kernel_rfl) ?_
    refine sem_region (by kernel_rfl) ?_
    refine evs_run 2 (by kernel_rfl) ?_
    refine evs_op (st_len (c := c_Rect) (l := lines) (x := (.sl (List.map c_Rect lines))) (by kernel_rfl) (by kernel_rfl)) ?_
    refine evs_run 1 (by kernel_rfl) ?_
    refine evs_endS (by kernel_rfl) (fun τ hτ => ?_)
    refine th_normalS hτ ⟨[(0, (.sl (List.map c_Rect lines))), (1, (.sl (List.map c_Rect l))), (4, (.ptr 500000 0)), (5, (.ptr 500001 0)), (6, (vI s245.1)), (13, (vB (decide (s245.1 < (lines.length : Int)))))], [(500000, .box [.nl, .nl, .nl]), (500001, .box [(.sl (List.map cI s245.2.1)), (.sl (List.map cI s245.2.2)), .nl])]⟩ (here (by kernel_rfl)) ?_
    refine sem_cond (decide (s245.1 < (lines.length : Int))) (by kernel_rfl) (by kernel_rfl) (fun hb => ?_) (fun hb => ?_)
    · replace h := iteT hb h
      refine sem_skipS (by kernel_rfl) (fun τ hτ => ?_)
      refine th_normalS hτ ⟨[(0, (.sl (List.map c_Rect lines))), (1, (.sl (List.map c_Rect l))), (4, (.ptr 500000 0)), (5, (.ptr 500001 0)), (6, (vI s245.1))], [(500000, .box [.nl, .nl, .nl]), (500001, .box [(.sl (List.map cI s245.2.1)), (.sl (List.map cI s245.2.2)), .nl])]⟩ (here (by kernel_rfl)) ?_
      refine sem_seq (by kernel_rfl) ?_
      refine sem_block (by kernel_rfl) ?_
      refine sem_seq (by kernel_rfl) ?_
      refine sem_drawN [] [] [] [] [] 19 (by kernel_rfl) (by kernel_rfl) (by kernel_rfl) ?_
      refine evd_run 4 (by kernel_rfl) ?_
      obtain ⟨x346, hx346, h⟩ := bindS h
      refine evd_val (by kernel_rfl) (st_idx (c := c_Rect) (l := lines) (i := s245.1) (kd := .i64) (sz := 4) (by kernel_rfl) hx346 rfl) (by kernel_rfl) (by kernel_rfl) ?_
      refine evd_run 2 (by kernel_rfl) ?_
      obtain ⟨r347, hr347, h⟩ := bindS h
      refine evd_callS [] [] (by kernel_rfl) (by kernel_rfl) (W.sheetmetalref01_insert_ok hr347) (by kernel_rfl) (.inl rfl) (by kernel_rfl) (by kernel_rfl) ?_
      refine evd_run 2 (by kernel_rfl) ?_
      obtain ⟨x348, hx348, h⟩ := bindS h
      refine evd_val (by kernel_rfl) (st_idx (c := c_Rect) (l := lines) (i := s245.1) (kd := .i64) (sz := 4) (by kernel_rfl) hx348 rfl) (by kernel_rfl) (by kernel_rfl) ?_
      refine evd_run 4 (by kernel_rfl) ?_
      obtain ⟨x349, hx349, h⟩ := bindS h
      refine evd_val (by kernel_rfl) (st_idx (c := c_Rect) (l := lines) (i := s245.1) (kd := .i64) (sz := 4) (by kernel_rfl) hx349 rfl) (by kernel_rfl) (by kernel_rfl) ?_
      refine evd_run 3 (by kernel_rfl) ?_
      refine evd_end (by kernel_rfl) ?_
      obtain ⟨r350, hr350, h⟩ := bindS h
      refine evo_callP [] (by kernel_rfl) (W.sheetmetalref01_insert_ok hr350) (by kernel_rfl) (.inl rfl) (by kernel_rfl) ?_
      refine evo_run 2 (by kernel_rfl) ?_
      refine evo_endS (by kernel_rfl) (fun τ hτ => ?_)
      refine th_normalS hτ ⟨[(0, (.sl (List.map c_Rect lines))), (1, (.sl (List.map c_Rect l))), (4, (.ptr 500000 0)), (5, (.ptr 500001 0)), (6, (vI s245.1))], [(500000, .box [.nl, .nl, .nl]), (500001, .box [(.sl (List.map cI r350)), (.sl (List.map cI s245.2.2)), .nl])]⟩ (here (by kernel_rfl)) ?_
      refine sem_drawN [] [] [] [] [] 19 (by kernel_rfl) (by kernel_rfl) (by kernel_rfl) ?_
      refine evd_run 4 (by kernel_rfl) ?_
      obtain ⟨x361, hx361, h⟩ := bindS h
      refine evd_val (by kernel_rfl) (st_idx (c := c_Rect) (l := lines) (i := s245.1) (kd := .i64) (sz := 4) (by kernel_rfl) hx361 rfl) (by kernel_rfl) (by kernel_rfl) ?_
      refine evd_run 2 (by kernel_rfl) ?_
      obtain ⟨r362, hr362, h⟩ := bindS h
      refine evd_callS [] [] (by kernel_rfl) (by kernel_rfl) (W.sheetmetalref01_insert_ok hr362) (by kernel_rfl) (.inl rfl) (by kernel_rfl) (by kernel_rfl) ?_
      refine evd_run 2 (by kernel_rfl) ?_
      obtain ⟨x363, hx363, h⟩ := bindS h
      refine evd_val (by kernel_rfl) (st_idx (c := c_Rect) (l := lines) (i := s245.1) (kd := .i64) (sz := 4) (by kernel_rfl) hx363 rfl) (by kernel_rfl) (by kernel_rfl) ?_
      refine evd_run 4 (by kernel_rfl) ?_
      obtain ⟨x364, hx364, h⟩ := bindS h
      refine evd_val (by kernel_rfl) (st_idx (c := c_Rect) (l := lines) (i := s245.1) (kd := .i64) (sz := 4) (by kernel_rfl) hx364 rfl) (by kernel_rfl) (by kernel_rfl) ?_
      refine evd_run 3 (by kernel_rfl) ?_
      refine evd_end (by kernel_rfl) ?_
      obtain ⟨r365, hr365, h⟩ := bindS h
      refine evo_callP [] (by kernel_rfl) (W.sheetmetalref01_insert_ok hr365) (by kernel_rfl) (.inl rfl) (by kernel_rfl) ?_
      refine evo_run 2 (by kernel_rfl) ?_
      refine evo_endS (by kernel_rfl) (fun τ hτ => ?_)
      refine bl_normal ?_
      refine th_normalS hτ ⟨[(0, (.sl (List.map c_Rect lines))), (1, (.sl (List.map c_Rect l))), (4, (.ptr 500000 0)), (5, (.ptr 500001 0)), (6, (vI s245.1))], [(500000, .box [.nl, .nl, .nl]), (500001, .box [(.sl (List.map cI r350)), (.sl (List.map cI r365)), .nl])]⟩ (here (by kernel_rfl)) ?_
      refine sem_region (by kernel_rfl) ?_
      refine evs_run 3 (by kernel_rfl) ?_
      refine evs_endS (by kernel_rfl) (fun τ hτ => ?_)
      obtain rfl := Option.some.inj h
      exact lk_nextS hτ (here (by kernel_rfl))
    · replace h := iteF hb h
      refine sem_exitS 0 (by kernel_rfl) rfl (fun τ hτ => ?_)
      refine th_exit ?_
      obtain rfl := Option.some.inj h
      exact lk_outS hτ rfl (here (by kernel_rfl))
  · intro x
    rfl
  · intro τ hτ
    refine bl_hit (by kernel_rfl) ?_
    refine th_normalS hτ ⟨[(1, (.sl (List.map c_Rect l))), (4, (.ptr 500000 0)), (5, (.ptr 500001 0))], [(500000, .box [.nl, .nl, .nl]), (500001, .box [(.sl (List.map cI x366.1)), (.sl (List.map cI x366.2)), .nl])]⟩ (here (by kernel_rfl)) ?_
    refine sem_seq (by kernel_rfl) ?_
    refine sem_seq (by kernel_rfl) ?_
    refine sem_region (by kernel_rfl) ?_
    refine evs_run 1 (by kernel_rfl) ?_
    refine evs_endS (by kernel_rfl) (fun τ hτ => ?_)
    refine th_normalS hτ ⟨[(1, (.sl (List.map c_Rect l))), (4, (.ptr 500000 0)), (5, (.ptr 500001 0)), (7, (vI 0))], [(500000, .box [.nl, .nl, .nl]), (500001, .box [(.sl (List.map cI x366.1)), (.sl (List.map cI x366.2)), .nl])]⟩ (here (by kernel_rfl)) ?_
    refine sem_block (by kernel_rfl) ?_
    obtain ⟨x2196, hx2196, h⟩ := bindS h
    refine sem_loopS (fun (s1587 : Int × (List (List Bool))) => ⟨[(1, (.sl (List.map c_Rect l))), (4, (.ptr 500000 0)), (5, (.ptr 500001 0)), (7, (vI s1587.1))], [(500000, .box [.nl, .nl, .nl]), (500001, .box [(.sl (List.map cI x366.1)), (.sl (List.map cI x366.2)), (.row (.top 500002) 94)]), (500002, .row 94 [] (List.map (cS cB) s1587.2))]⟩) (fun (x2196 : (List (List Bool))) => (.exit 2, ⟨[(4, (.ptr 500000 0)), (5, (.ptr 500001 0))], [(500000, .box [.nl, .nl, .nl]), (500001, .box [(.sl (List.map cI x366.1)), (.sl (List.map cI x366.2)), (.row (.top 500002) 94)]), (500002, .row 94 [] (List.map (cS cB) x2196))]⟩)) (sheetmetalref01_MakeGrid_l3 l x366) (0, []) x2196 (by kernel_rfl) (subR_prep [.row (.box 500001 2) 800000 94 []] [(500000, 500000), (500001, 500001), (800000, 500002)] (by kernel_rfl) rfl rfl (by kernel_rfl)) hx2196 ?_ ?_ ?_
    · intro s1587 r h
      refine sem_seq (by kernel_rfl) ?_
      refine sem_seq (by kernel_rfl) ?_
      refine sem_region (by kernel_rfl) ?_
      refine evs_run 4 (by kernel_rfl) ?_
      refine evs_op (st_len (c := cI) (l := x366.1) (x := (.sl (List.map cI x366.1))) (by kernel_rfl) (by kernel_rfl)) ?_
      refine evs_run 1 (by kernel_rfl) ?_
      refine evs_endS (by kernel_rfl) (fun τ hτ => ?_)
      refine th_normalS hτ ⟨[(1, (.sl (List.map c_Rect l))), (4, (.ptr 500000 0)), (5, (.ptr 500001 0)), (7, (vI s1587.1)), (63, (vB (decide ((iadd s1587.1 1) < (x366.1.length : Int)))))], [(500000, .box [.nl, .nl, .nl]), (500001, .box [(.sl (List.map cI x366.1)), (.sl (List.map cI x366.2)), (.row (.top 500002) 94)]), (500002, .row 94 [] (List.map (cS cB) s1587.2))]⟩ (here (by kernel_rfl)) ?_
      refine sem_cond (decide ((iadd s1587.1 1) < (x366.1.length : Int))) (by kernel_rfl) (by kernel_rfl) (fun hb => ?_) (fun hb => ?_)
      · replace h := iteT hb h
        refine sem_skipS (by kernel_rfl) (fun τ hτ => ?_)
        refine th_normalS hτ ⟨[(1, (.sl (List.map c_Rect l))), (4, (.ptr 500000 0)), (5, (.ptr 500001 0)), (7, (vI s1587.1))], [(500000, .box [.nl, .nl, .nl]), (500001, .box [(.sl (List.map cI x366.1)), (.sl (List.map cI x366.2)), (.row (.top 500002) 94)]), (500002, .row 94 [] (List.map (cS cB) s1587.2))]⟩ (here (by kernel_rfl)) ?_
        refine sem_seq (by kernel_rfl) ?_
        refine sem_block (by kernel_rfl) ?_
        refine sem_seq (by kernel_rfl) ?_
        refine sem_region (by kernel_rfl) ?_
        refine evs_run 1 (by kernel_rfl) ?_
        refine evs_endS (by kernel_rfl) (fun τ hτ => ?_)
        refine th_normalS hτ ⟨[(1, (.sl (List.map c_Rect l))), (4, (.ptr 500000 0)), (5, (.ptr 500001 0)), (7, (vI s1587.1)), (8, (.row (.top 8) 4))], [(8, .row 4 [] (List.map cB [])), (500000, .box [.nl, .nl, .nl]), (500001, .box [(.sl (List.map cI x366.1)), (.sl (List.map cI x366.2)), (.row (.top 500002) 94)]), (500002, .row 94 [] (List.map (cS cB) s1587.2))]⟩ (here (by kernel_rfl)) ?_
        refine sem_seq (by kernel_rfl) ?_
        refine sem_seq (by kernel_rfl) ?_
        refine sem_region (by kernel_rfl) ?_
        refine evs_run 1 (by kernel_rfl) ?_
        refine evs_endS (by kernel_rfl) (fun τ hτ => ?_)
        refine th_normalS hτ ⟨[(1, (.sl (List.map c_Rect l))), (4, (.ptr 500000 0)), (5, (.ptr 500001 0)), (7, (vI s1587.1)), (8, (.row (.top 8) 4)), (9, (vI 0))], [(8, .row 4 [] (List.map cB [])), (500000, .box [.nl, .nl, .nl]), (500001, .box [(.sl (List.map cI x366.1)), (.sl (List.map cI x366.2)), (.row (.top 500002) 94)]), (500002, .row 94 [] (List.map (cS cB) s1587.2))]⟩ (here (by kernel_rfl)) ?_
        refine sem_block (by kernel_rfl) ?_
        obtain ⟨x2193, hx2193, h⟩ := bindS h
        refine sem_loopS (fun (s2144 : Int × (List Bool)) => ⟨[(1, (.sl (List.map c_Rect l))), (4, (.ptr 500000 0)), (5, (.ptr 500001 0)), (7, (vI s1587.1)), (8, (.row (.top 500003) 4)), (9, (vI s2144.1))], [(500000, .box [.nl, .nl, .nl]), (500001, .box [(.sl (List.map cI x366.1)), (.sl (List.map cI x366.2)), (.row (.top 500002) 94)]), (500002, .row 94 [] (List.map (cS cB) s1587.2)), (500003, .row 4 [] (List.map cB s2144.2))]⟩) (fun (x2193 : (List Bool)) => (.exit 4, ⟨[(1, (.sl (List.map c_Rect l))), (4, (.ptr 500000 0)), (5, (.ptr 500001 0)), (7, (vI s1587.1)), (8, (.row (.top 500003) 4))], [(500000, .box [.nl, .nl, .nl]), (500001, .box [(.sl (List.map cI x366.1)), (.sl (List.map cI x366.2)), (.row (.top 500002) 94)]), (500002, .row 94 [] (List.map (cS cB) s1587.2)), (500003, .row 4 [] (List.map cB x2193))]⟩)) (sheetmetalref01_MakeGrid_l2 l x366 s1587) (0, []) x2193 (by kernel_rfl) (subR_prep [] [(8, 500003), (500000, 500000), (500001, 500001), (500002, 500002)] (by kernel_rfl) rfl rfl (by kernel_rfl)) hx2193 ?_ ?_ ?_
        · intro s2144 r h
          refine sem_seq (by kernel_rfl) ?_
          refine sem_seq (by kernel_rfl) ?_
          refine sem_region (by kernel_rfl) ?_
          refine evs_run 4 (by kernel_rfl) ?_
          refine evs_op (st_len (c := cI) (l := x366.2) (x := (.sl (List.map cI x366.2))) (by kernel_rfl) (by kernel_rfl)) ?_
          refine evs_run 1 (by kernel_rfl) ?_
          refine evs_endS (by kernel_rfl) (fun τ hτ => ?_)
          refine th_normalS hτ ⟨[(1, (.sl (List.map c_Rect l))), (4, (.ptr 500000 0)), (5, (.ptr 500001 0)), (7, (vI s1587.1)), (8, (.row (.top 500003) 4)), (9, (vI s2144.1)), (71, (vB (decide ((iadd s2144.1 1) < (x366.2.length : Int)))))], [(500000, .box [.nl, .nl, .nl]), (500001, .box [(.sl (List.map cI x366.1)), (.sl (List.map cI x366.2)), (.row (.top 500002) 94)]), (500002, .row 94 [] (List.map (cS cB) s1587.2)), (500003, .row 4 [] (List.map cB s2144.2))]⟩ (here (by kernel_rfl)) ?_
          refine sem_cond (decide ((iadd s2144.1 1) < (x366.2.length : Int))) (by kernel_rfl) (by kernel_rfl) (fun hb => ?_) (fun hb => ?_)
          · replace h := iteT hb h
            refine sem_skipS (by kernel_rfl) (fun τ hτ => ?_)
            refine th_normalS hτ ⟨[(1, (.sl (List.map c_Rect l))), (4, (.ptr 500000 0)), (5, (.ptr 500001 0)), (7, (vI s1587.1)), (8, (.row (.top 500003) 4)), (9, (vI s2144.1))], [(500000, .box [.nl, .nl, .nl]), (500001, .box [(.sl (List.map cI x366.1)), (.sl (List.map cI x366.2)), (.row (.top 500002) 94)]), (500002, .row 94 [] (List.map (cS cB) s1587.2)), (500003, .row 4 [] (List.map cB s2144.2))]⟩ (here (by kernel_rfl)) ?_
            refine sem_seq (by kernel_rfl) ?_
            refine sem_block (by kernel_rfl) ?_
            refine sem_drawN [] [] [] [] [] 14 (by kernel_rfl) (by kernel_rfl) (by kernel_rfl) ?_
            refine evd_run 5 (by kernel_rfl) ?_
            obtain ⟨x2189, hx2189, h⟩ := bindS h
            refine evd_val (by kernel_rfl) (st_idx (c := cI) (l := x366.1) (i := s1587.1) (kd := .i64) (sz := 1) (by kernel_rfl) hx2189 rfl) (by kernel_rfl) (by kernel_rfl) ?_
            refine evd_run 4 (by kernel_rfl) ?_
            obtain ⟨x2190, hx2190, h⟩ := bindS h
            refine evd_val (by kernel_rfl) (st_idx (c := cI) (l := x366.2) (i := s2144.1) (kd := .i64) (sz := 1) (by kernel_rfl) hx2190 rfl) (by kernel_rfl) (by kernel_rfl) ?_
            refine evd_run 1 (by kernel_rfl) ?_
            obtain ⟨r2191, hr2191, h⟩ := bindS h
            refine evd_callS [] [] (by kernel_rfl) (by kernel_rfl) (W.sheetmetalref01_covers_ok hr2191) (by kernel_rfl) (.inl rfl) (by kernel_rfl) (by kernel_rfl) ?_
            refine evd_run 1 (by kernel_rfl) ?_
            refine evd_end (by kernel_rfl) ?_
            obtain ⟨l2192, hl2192, h⟩ := bindS h
            refine evo_op (st_app (c := cB) (l := s2144.2) (l2 := [r2191]) (x := (.sl (List.map cB [r2191]))) (g := 500003) (e := 4) (sz := 1) (d := 88) (by kernel_rfl) (by kernel_rfl) (by kernel_rfl) (by kernel_rfl) (fun _ => rfl) rfl hl2192) ?_
            refine evo_run 1 (by kernel_rfl) ?_
            refine evo_endS (by kernel_rfl) (fun τ hτ => ?_)
            refine bl_normal ?_
            refine th_normalS hτ ⟨[(1, (.sl (List.map c_Rect l))), (4, (.ptr 500000 0)), (5, (.ptr 500001 0)), (7, (vI s1587.1)), (8, (.row (.top 500003) 4)), (9, (vI s2144.1))], [(500000, .box [.nl, .nl, .nl]), (500001, .box [(.sl (List.map cI x366.1)), (.sl (List.map cI x366.2)), (.row (.top 500002) 94)]), (500002, .row 94 [] (List.map (cS cB) s1587.2)), (500003, .row 4 [] (List.map cB l2192))]⟩ (here (by kernel_rfl)) ?_
            refine sem_region (by kernel_rfl) ?_
            refine evs_run 3 (by kernel_rfl) ?_
            refine evs_endS (by kernel_rfl) (fun τ hτ => ?_)
            obtain rfl := Option.some.inj h
            exact lk_nextS hτ (here (by kernel_rfl))
          · replace h := iteF hb h
            refine sem_exitS 4 (by kernel_rfl) rfl (fun τ hτ => ?_)
            refine th_exit ?_
            obtain rfl := Option.some.inj h
            exact lk_outS hτ rfl (here (by kernel_rfl))
        · intro x
          rfl
        · intro τ hτ
          refine bl_hit (by kernel_rfl) ?_
          refine th_normalS hτ ⟨[(1, (.sl (List.map c_Rect l))), (4, (.ptr 500000 0)), (5, (.ptr 500001 0)), (7, (vI s1587.1)), (8, (.row (.top 500003) 4))], [(500000, .box [.nl, .nl, .nl]), (500001, .box [(.sl (List.map cI x366.1)), (.sl (List.map cI x366.2)), (.row (.top 500002) 94)]), (500002, .row 94 [] (List.map (cS cB) s1587.2)), (500003, .row 4 [] (List.map cB x2193))]⟩ (here (by kernel_rfl)) ?_
          refine sem_region (by kernel_rfl) ?_
          refine evs_run 3 (by kernel_rfl) ?_
          refine evs_prep [.frz 500003] (by kernel_rfl) ?_
          refine evs_run 1 (by kernel_rfl) ?_
          obtain ⟨l2195, hl2195, h⟩ := bindS h
          refine evs_op (st_app (c := (cS cB)) (l := s1587.2) (l2 := [x2193]) (x := (.sl (List.map (cS cB) [x2193]))) (g := 500002) (e := 94) (sz := 1) (d := 93) (by kernel_rfl) (by kernel_rfl) (by kernel_rfl) (by kernel_rfl) (fun _ => rfl) rfl hl2195) ?_
          refine evs_run 2 (by kernel_rfl) ?_
          refine evs_endS (by kernel_rfl) (fun τ hτ => ?_)
          refine bl_normal ?_
          refine th_normalS hτ ⟨[(1, (.sl (List.map c_Rect l))), (4, (.ptr 500000 0)), (5, (.ptr 500001 0)), (7, (vI s1587.1))], [(500000, .box [.nl, .nl, .nl]), (500001, .box [(.sl (List.map cI x366.1)), (.sl (List.map cI x366.2)), (.row (.top 500002) 94)]), (500002, .row 94 [] (List.map (cS cB) l2195))]⟩ (here (by kernel_rfl)) ?_
          refine sem_region (by kernel_rfl) ?_
          refine evs_run 3 (by kernel_rfl) ?_
          refine evs_endS (by kernel_rfl) (fun τ hτ => ?_)
          obtain rfl := Option.some.inj h
          exact lk_nextS hτ (here (by kernel_rfl))
      · replace h := iteF hb h
        refine sem_exitS 2 (by kernel_rfl) rfl (fun τ hτ => ?_)
        refine th_exit ?_
        obtain rfl := Option.some.inj h
        exact lk_outS hτ rfl (here (by kernel_rfl))
    · intro x
      rfl
    · intro τ hτ
      refine bl_hit (by kernel_rfl) ?_
      refine th_normalS hτ ⟨[(4, (.ptr 500000 0)), (5, (.ptr 500001 0))], [(500000, .box [.nl, .nl, .nl]), (500001, .box [(.sl (List.map cI x366.1)), (.sl (List.map cI x366.2)), (.row (.top 500002) 94)]), (500002, .row 94 [] (List.map (cS cB) x2196))]⟩ (here (by kernel_rfl)) ?_
      refine sem_seq (by kernel_rfl) ?_
      refine sem_region (by kernel_rfl) ?_
      refine evs_run 2 (by kernel_rfl) ?_
      refine evs_endS (by kernel_rfl) (fun τ hτ => ?_)
      refine th_normalS hτ ⟨[(4, (.ptr 500000 0))], [(500000, .box [(.sl (List.map cI x366.1)), (.sl (List.map cI x366.2)), (.row (.top 500002) 94)]), (500002, .row 94 [] (List.map (cS cB) x2196))]⟩ (here (by kernel_rfl)) ?_
      refine sem_retS (by kernel_rfl) (fun τ hτ => ?_)
      obtain rfl := Option.some.inj h
      exact rk_ret hτ [(4, (.ptr 0 0))] (subR_prep [] [(500000, 0), (500002, 1)] (by kernel_rfl) rfl rfl (by kernel_rfl)) (by kernel_rfl)
theorem W.sheetmetalref01_Grid_Size_ok {g : sheetmetalref01_Grid} {r : Int} (h : sheetmetalref01_Grid_Size g = some r) : PC G.P 97 [(.agg [(.sl (List.map cI g.X)), (.sl (List.map cI g.Y)), (.sl (List.map (cS cB) g.On))])] [] (vI r) [] := by
  refine pc_of G (fn := Try.f97) Try.func97 (by kernel_rfl) (by kernel_rfl) (by kernel_rfl) (by kernel_rfl) (by kernel_rfl) ?_
  refine sem_set ⟨[(0, (.agg [(.sl (List.map cI g.X)), (.sl (List.map cI g.Y)), (.sl (List.map (cS cB) g.On))]))], []⟩ (by kernel_rfl) ?_
  refine sem_seq (by kernel_rfl) ?_
  refine sem_region (by kernel_rfl) ?_
  refine evs_run 2 (by kernel_rfl) ?_
  refine evs_endS (by kernel_rfl) (fun τ hτ => ?_)
  refine th_normalS hτ ⟨[(1, (.ptr 1 0))], [(1, .box [(.sl (List.map cI g.X)), (.sl (List.map cI g.Y)), (.sl (List.map (cS cB) g.On))])]⟩ (here (by kernel_rfl)) ?_
  refine sem_seq (by kernel_rfl) ?_
  refine sem_region (by kernel_rfl) ?_
  refine evs_run 1 (by kernel_rfl) ?_
  refine evs_endS (by kernel_rfl) (fun τ hτ => ?_)
  refine th_normalS hτ ⟨[(1, (.ptr 1 0)), (3, (vI 0))], [(1, .box [(.sl (List.map cI g.X)), (.sl (List.map cI g.Y)), (.sl (List.map (cS cB) g.On))])]⟩ (here (by kernel_rfl)) ?_
  refine sem_seq (by kernel_rfl) ?_
  refine sem_seq (by kernel_rfl) ?_
  refine sem_region (by kernel_rfl) ?_
  refine evs_run 1 (by kernel_rfl) ?_
  refine evs_endS (by kernel_rfl) (fun τ hτ => ?_)
  refine th_normalS hτ ⟨[(1, (.ptr 1 0)), (3, (vI 0)), (4, (vI 0))], [(1, .box [(.sl (List.map cI g.X)), (.sl (List.map cI g.Y)), (.sl (List.map (cS cB) g.On))])]⟩ (here (by kernel_rfl)) ?_
  refine sem_block (by kernel_rfl) ?_
  obtain ⟨x1374, hx1374, h⟩ := bindS h
  refine sem_loopS (fun (s917 : Int × Int) => ⟨[(1, (.ptr 500000 0)), (3, (vI s917.1)), (4, (vI s917.2))], [(500000, .box [(.sl (List.map cI g.X)), (.sl (List.map cI g.Y)), (.sl (List.map (cS cB) g.On))])]⟩) (fun (x1374 : Int) => (.exit 0, ⟨[(3, (vI x1374))], []⟩)) (sheetmetalref01_Grid_Size_l3 g) (0, 0) x1374 (by kernel_rfl) (subR_prep [] [(1, 500000)] (by kernel_rfl) rfl rfl (by kernel_rfl)) hx1374 ?_ ?_ ?_
  · intro s917 r h
    refine sem_seq (by kernel_rfl) ?_
    refine sem_seq (by kernel_rfl) ?_
    refine sem_region (by kernel_rfl) ?_
    refine evs_run 3 (by kernel_rfl) ?_
    refine evs_op (st_len (c := (cS cB)) (l := g.On) (x := (.sl (List.map (cS cB) g.On))) (by kernel_rfl) (by kernel_rfl)) ?_
    refine evs_run 1 (by kernel_rfl) ?_
    refine evs_endS (by kernel_rfl) (fun τ hτ => ?_)
    refine th_normalS hτ ⟨[(1, (.ptr 500000 0)), (3, (vI s917.1)), (4, (vI s917.2)), (10, (vB (decide (s917.2 < (g.On.length : Int)))))], [(500000, .box [(.sl (List.map cI g.X)), (.sl (List.map cI g.Y)), (.sl (List.map (cS cB) g.On))])]⟩ (here (by kernel_rfl)) ?_
    refine sem_cond (decide (s917.2 < (g.On.length : Int))) (by kernel_rfl) (by kernel_rfl) (fun hb => ?_) (fun hb => ?_)
    · replace h := iteT hb h
      refine sem_skipS (by kernel_rfl) (fun τ hτ => ?_)
      refine th_normalS hτ ⟨[(1, (.ptr 500000 0)), (3, (vI s917.1)), (4, (vI s917.2))], [(500000, .box [(.sl (List.map cI g.X)), (.sl (List.map cI g.Y)), (.sl (List.map (cS cB) g.On))])]⟩ (here (by kernel_rfl)) ?_
      refine sem_seq (by kernel_rfl) ?_
      refine sem_block (by kernel_rfl) ?_
      refine sem_seq (by kernel_rfl) ?_
      refine sem_region (by kernel_rfl) ?_
      refine evs_run 1 (by kernel_rfl) ?_
      refine evs_endS (by kernel_rfl) (fun τ hτ => ?_)
      refine th_normalS hτ ⟨[(1, (.ptr 500000 0)), (3, (vI s917.1)), (4, (vI s917.2)), (5, (vI 0))], [(500000, .box [(.sl (List.map cI g.X)), (.sl (List.map cI g.Y)), (.sl (List.map (cS cB) g.On))])]⟩ (here (by kernel_rfl)) ?_
      refine sem_block (by kernel_rfl) ?_
      obtain ⟨x1373, hx1373, h⟩ := bindS h
      refine sem_loopS (fun (s1298 : Int × Int) => ⟨[(1, (.ptr 500000 0)), (3, (vI s1298.1)), (4, (vI s917.2)), (5, (vI s1298.2))], [(500000, .box [(.sl (List.map cI g.X)), (.sl (List.map cI g.Y)), (.sl (List.map (cS cB) g.On))])]⟩) (fun (x1373 : Int) => (.exit 2, ⟨[(1, (.ptr 500000 0)), (3, (vI x1373)), (4, (vI s917.2))], [(500000, .box [(.sl (List.map cI g.X)), (.sl (List.map cI g.Y)), (.sl (List.map (cS cB) g.On))])]⟩)) (sheetmetalref01_Grid_Size_l2 g s917) (s917.1, 0) x1373 (by kernel_rfl) (here (by kernel_rfl)) hx1373 ?_ ?_ ?_
      · intro s1298 r h
        refine sem_seq (by kernel_rfl) ?_
        refine sem_seq (by kernel_rfl) ?_
        refine sem_region (by kernel_rfl) ?_
        refine evs_run 4 (by kernel_rfl) ?_
        obtain ⟨x1339, hx1339, h⟩ := bindS h
        refine evs_op (st_idx (c := (cS cB)) (l := g.On) (i := s917.2) (kd := .i64) (sz := 1) (by kernel_rfl) hx1339 rfl) ?_
        refine evs_run 1 (by kernel_rfl) ?_
        refine evs_op (st_len (c := cB) (l := x1339) (x := (.sl (List.map cB x1339))) (by kernel_rfl) (by kernel_rfl)) ?_
        refine evs_run 1 (by kernel_rfl) ?_
        refine evs_endS (by kernel_rfl) (fun τ hτ => ?_)
        refine th_normalS hτ ⟨[(1, (.ptr 500000 0)), (3, (vI s1298.1)), (4, (vI s917.2)), (5, (vI s1298.2)), (20, (vB (decide (s1298.2 < (x1339.length : Int)))))], [(500000, .box [(.sl (List.map cI g.X)), (.sl (List.map cI g.Y)), (.sl (List.map (cS cB) g.On))])]⟩ (here (by kernel_rfl)) ?_
        refine sem_cond (decide (s1298.2 < (x1339.length : Int))) (by kernel_rfl) (by kernel_rfl) (fun hb => ?_) (fun hb => ?_)
        · replace h := iteT hb h
          refine sem_skipS (by kernel_rfl) (fun τ hτ => ?_)
          refine th_normalS hτ ⟨[(1, (.ptr 500000 0)), (3, (vI s1298.1)), (4, (vI s917.2)), (5, (vI s1298.2))], [(500000, .box [(.sl (List.map cI g.X)), (.sl (List.map cI g.Y)), (.sl (List.map (cS cB) g.On))])]⟩ (here (by kernel_rfl)) ?_
          refine sem_seqJ (fun (j1356 : Int) => ⟨[(1, (.ptr 500000 0)), (3, (vI j1356)), (4, (vI s917.2)), (5, (vI s1298.2))], [(500000, .box [(.sl (List.map cI g.X)), (.sl (List.map cI g.Y)), (.sl (List.map (cS cB) g.On))])]⟩) (sheetmetalref01_Grid_Size_k1 s1298) r (by kernel_rfl) (fun j1356 h => ?_) ?_
          · refine sem_region (by kernel_rfl) ?_
            refine evs_run 3 (by kernel_rfl) ?_
            refine evs_endS (by kernel_rfl) (fun τ hτ => ?_)
            obtain rfl := Option.some.inj h
            exact lk_nextS hτ (here (by kernel_rfl))
          refine sem_block (by kernel_rfl) ?_
          refine sem_seq (by kernel_rfl) ?_
          refine sem_region (by kernel_rfl) ?_
          refine evs_run 3 (by kernel_rfl) ?_
          obtain ⟨x1359, hx1359, h⟩ := bindS h
          refine evs_op (st_idx (c := (cS cB)) (l := g.On) (i := s917.2) (kd := .i64) (sz := 1) (by kernel_rfl) hx1359 rfl) ?_
          refine evs_run 2 (by kernel_rfl) ?_
          obtain ⟨x1360, hx1360, h⟩ := bindS h
          refine evs_op (st_idx (c := cB) (l := x1359) (i := s1298.2) (kd := .i64) (sz := 1) (by kernel_rfl) hx1360 rfl) ?_
          refine evs_run 1 (by kernel_rfl) ?_
          refine evs_endS (by kernel_rfl) (fun τ hτ => ?_)
          refine th_normalS hτ ⟨[(1, (.ptr 500000 0)), (3, (vI s1298.1)), (4, (vI s917.2)), (5, (vI s1298.2)), (30, (vB x1360))], [(500000, .box [(.sl (List.map cI g.X)), (.sl (List.map cI g.Y)), (.sl (List.map (cS cB) g.On))])]⟩ (here (by kernel_rfl)) ?_
          refine sem_cond x1360 (by kernel_rfl) (by kernel_rfl) (fun hb => ?_) (fun hb => ?_)
          · replace h := iteT hb h
            refine sem_drawN [] [] [] [] [] 26 (by kernel_rfl) (by kernel_rfl) (by kernel_rfl) ?_
            refine evd_run 5 (by kernel_rfl) ?_
            obtain ⟨x1369, hx1369, h⟩ := bindS h
            refine evd_val (by kernel_rfl) (st_idx (c := cI) (l := g.X) (i := (iadd s917.2 1)) (kd := .i64) (sz := 1) (by kernel_rfl) hx1369 rfl) (by kernel_rfl) (by kernel_rfl) ?_
            refine evd_run 4 (by kernel_rfl) ?_
            obtain ⟨x1370, hx1370, h⟩ := bindS h
            refine evd_val (by kernel_rfl) (st_idx (c := cI) (l := g.X) (i := s917.2) (kd := .i64) (sz := 1) (by kernel_rfl) hx1370 rfl) (by kernel_rfl) (by kernel_rfl) ?_
            refine evd_run 6 (by kernel_rfl) ?_
            obtain ⟨x1371, hx1371, h⟩ := bindS h
            refine evd_val (by kernel_rfl) (st_idx (c := cI) (l := g.Y) (i := (iadd s1298.2 1)) (kd := .i64) (sz := 1) (by kernel_rfl) hx1371 rfl) (by kernel_rfl) (by kernel_rfl) ?_
            refine evd_run 4 (by kernel_rfl) ?_
            obtain ⟨x1372, hx1372, h⟩ := bindS h
            refine evd_val (by kernel_rfl) (st_idx (c := cI) (l := g.Y) (i := s1298.2) (kd := .i64) (sz := 1) (by kernel_rfl) hx1372 rfl) (by kernel_rfl) (by kernel_rfl) ?_
            refine evd_run 3 (by kernel_rfl) ?_
            refine evd_end (by kernel_rfl) ?_
            refine evo_run 2 (by kernel_rfl) ?_
            refine evo_endS (by kernel_rfl) (fun τ hτ => ?_)
            refine bl_normal ?_
            exact jk_normal (iadd s1298.1 (imul (isub x1369 x1370) (isub x1371 x1372))) h hτ (here (by kernel_rfl))
          · replace h := iteF hb h
            refine sem_skipS (by kernel_rfl) (fun τ hτ => ?_)
            refine bl_normal ?_
            exact jk_normal s1298.1 h hτ (here (by kernel_rfl))
        · replace h := iteF hb h
          refine sem_exitS 2 (by kernel_rfl) rfl (fun τ hτ => ?_)
          refine th_exit ?_
          obtain rfl := Option.some.inj h
          exact lk_outS hτ rfl (here (by kernel_rfl))
      · intro x
        rfl
      · intro τ hτ
        refine bl_hit (by kernel_rfl) ?_
        refine bl_normal ?_
        refine th_normalS hτ ⟨[(1, (.ptr 500000 0)), (3, (vI x1373)), (4, (vI s917.2))], [(500000, .box [(.sl (List.map cI g.X)), (.sl (List.map cI g.Y)), (.sl (List.map (cS cB) g.On))])]⟩ (here (by kernel_rfl)) ?_
        refine sem_region (by kernel_rfl) ?_
        refine evs_run 3 (by kernel_rfl) ?_
        refine evs_endS (by kernel_rfl) (fun τ hτ => ?_)
        obtain rfl := Option.some.inj h
        exact lk_nextS hτ (here (by kernel_rfl))
    · replace h := iteF hb h
      refine sem_exitS 0 (by kernel_rfl) rfl (fun τ hτ => ?_)
      refine th_exit ?_
      obtain rfl := Option.some.inj h
      exact lk_outS hτ rfl (here (by kernel_rfl))
  · intro x
    rfl
  · intro τ hτ
    refine bl_hit (by kernel_rfl) ?_
    refine th_normalS hτ ⟨[(3, (vI x1374))], []⟩ (here (by kernel_rfl)) ?_
    refine sem_seq (by kernel_rfl) ?_
    refine sem_region (by kernel_rfl) ?_
    refine evs_run 2 (by kernel_rfl) ?_
    refine evs_endS (by kernel_rfl) (fun τ hτ => ?_)
    refine th_normalS hτ ⟨[(2, (vI x1374))], []⟩ (here (by kernel_rfl)) ?_
    refine sem_retS (by kernel_rfl) (fun τ hτ => ?_)
    obtain rfl := Option.some.inj h
    exact rk_ret hτ [(2, (vI x1374))] (here (by kernel_rfl)) (by kernel_rfl)
theorem W.sheetmetalref01_Area_ok {l : (List Rect)} {r : Int × Int} (h : sheetmetalref01_Area l = some r) : PC G.P 53 [(.sl (List.map c_Rect l))] [] (.tup [(vI r.1), (vI r.2)]) [] := by
  refine pc_of G (fn := Try.f53) Try.func53 (by kernel_rfl) (by kernel_rfl) (by kernel_rfl) (by kernel_rfl) (by kernel_rfl) ?_
  refine sem_set ⟨[(0, (.sl (List.map c_Rect l)))], []⟩ (by kernel_rfl) ?_
  refine sem_seq (by kernel_rfl) ?_
  refine sem_region (by kernel_rfl) ?_
  refine evs_run 2 (by kernel_rfl) ?_
  refine evs_endS (by kernel_rfl) (fun τ hτ => ?_)
  refine th_normalS hτ ⟨[(0, (.sl (List.map c_Rect l)))], []⟩ (here (by kernel_rfl)) ?_
  refine sem_seq (by kernel_rfl) ?_
  refine sem_seq (by kernel_rfl) ?_
  refine sem_region (by kernel_rfl) ?_
  refine evs_run 1 (by kernel_rfl) ?_
  obtain ⟨r4, hr4, h⟩ := bindS h
  refine evs_callP [] (by kernel_rfl) (W.sheetmetalref01_CheckRects_ok hr4) (by kernel_rfl) (.inl rfl) (by kernel_rfl) ?_
  refine evs_run 1 (by kernel_rfl) ?_
  refine evs_endS (by kernel_rfl) (fun τ hτ => ?_)
  refine th_normalS hτ ⟨[(0, (.sl (List.map c_Rect l))), (4, (vI r4))], []⟩ (here (by kernel_rfl)) ?_
  refine sem_seq (by kernel_rfl) ?_
  refine sem_region (by kernel_rfl) ?_
  refine evs_run 2 (by kernel_rfl) ?_
  refine evs_endS (by kernel_rfl) (fun τ hτ => ?_)
  refine th_normalS hτ ⟨[(0, (.sl (List.map c_Rect l))), (4, (vI r4)), (8, (vB (r4 != 0)))], []⟩ (here (by kernel_rfl)) ?_
  refine sem_cond (r4 != 0) (by kernel_rfl) (by kernel_rfl) (fun hb => ?_) (fun hb => ?_)
  · replace h := iteT hb h
    refine sem_seq (by kernel_rfl) ?_
    refine sem_region (by kernel_rfl) ?_
    refine evs_run 3 (by kernel_rfl) ?_
    refine evs_endS (by kernel_rfl) (fun τ hτ => ?_)
    refine th_normalS hτ ⟨[(2, (vI 0)), (3, (vI r4))], []⟩ (here (by kernel_rfl)) ?_
    refine sem_retS (by kernel_rfl) (fun τ hτ => ?_)
    refine th_ret ?_
    obtain rfl := Option.some.inj h
    exact rk_ret hτ [(2, (vI 0)), (3, (vI r4))] (here (by kernel_rfl)) (by kernel_rfl)
  · replace h := iteF hb h
    refine sem_skipS (by kernel_rfl) (fun τ hτ => ?_)
    refine th_normalS hτ ⟨[(0, (.sl (List.map c_Rect l)))], []⟩ (here (by kernel_rfl)) ?_
    refine sem_seq (by kernel_rfl) ?_
    refine sem_region (by kernel_rfl) ?_
    refine evs_run 2 (by kernel_rfl) ?_
    obtain ⟨r7, hr7, h⟩ := bindS h
    refine evs_callS [] [(0, 700100), (1, 700101)] [] (by kernel_rfl) (W.sheetmetalref01_MakeGrid_ok hr7) (by kernel_rfl) (by kernel_rfl) (.inl rfl) ?_
    obtain ⟨r8, hr8, h⟩ := bindS h
    refine evs_callP [700101] (by kernel_rfl) (W.sheetmetalref01_Grid_Size_ok hr8) (by kernel_rfl) (.inr rfl) (by kernel_rfl) ?_
    refine evs_run 2 (by kernel_rfl) ?_
    refine evs_endS (by kernel_rfl) (fun τ hτ => ?_)
    refine th_normalS hτ ⟨[(2, (vI r8)), (3, (vI 0))], []⟩ (here (by kernel_rfl)) ?_
    refine sem_retS (by kernel_rfl) (fun τ hτ => ?_)
    obtain rfl := Option.some.inj h
    exact rk_ret hτ [(2, (vI r8)), (3, (vI 0))] (here (by kernel_rfl)) (by kernel_rfl)
theorem W.slices_Equal_Lbool_bool_ok {s1 : (List Bool)} {s2 : (List Bool)} {r : Bool} (h : slices_Equal_Lbool_bool s1 s2 = some r) : PC G.P 86 [(.sl (List.map cB s1)), (.sl (List.map cB s2))] [] (vB r) [] := by
  refine pc_of G (fn := Try.f86) Try.func86 (by kernel_rfl) (by kernel_rfl) (by kernel_rfl) (by kernel_rfl) (by kernel_rfl) ?_
  refine sem_set ⟨[(0, (.sl (List.map cB s1))), (1, (.sl (List.map cB s2)))], []⟩ (by kernel_rfl) ?_
  refine sem_seq (by kernel_rfl) ?_
  refine sem_region (by kernel_rfl) ?_
  refine evs_run 1 (by kernel_rfl) ?_
  refine evs_endS (by kernel_rfl) (fun τ hτ => ?_)
  refine th_normalS hτ ⟨[(0, (.sl (List.map cB s1))), (1, (.sl (List.map cB s2)))], []⟩ (here (by kernel_rfl)) ?_
  refine sem_seq (by kernel_rfl) ?_
  refine sem_seq (by kernel_rfl) ?_
  refine sem_region (by kernel_rfl) ?_
  refine evs_run 1 (by kernel_rfl) ?_
  refine evs_op (st_len (c := cB) (l := s1) (x := (.sl (List.map cB s1))) (by kernel_rfl) (by kernel_rfl)) ?_
  refine evs_run 1 (by kernel_rfl) ?_
  refine evs_op (st_len (c := cB) (l := s2) (x := (.sl (List.map cB s2))) (by kernel_rfl) (by kernel_rfl)) ?_
  refine evs_run 1 (by kernel_rfl) ?_
  refine evs_endS (by kernel_rfl) (fun τ hτ => ?_)
  refine th_normalS hτ ⟨[(0, (.sl (List.map cB s1))), (1, (.sl (List.map cB s2))), (10, (vB ((s1.length : Int) != (s2.length : Int))))], []⟩ (here (by kernel_rfl)) ?_
  refine sem_cond ((s1.length : Int) != (s2.length : Int)) (by kernel_rfl) (by kernel_rfl) (fun hb => ?_) (fun hb => ?_)
  · replace h := iteT hb h
    refine sem_seq (by kernel_rfl) ?_
    refine sem_region (by kernel_rfl) ?_
    refine evs_run 1 (by kernel_rfl) ?_
    refine evs_endS (by kernel_rfl) (fun τ hτ => ?_)
    refine th_normalS hτ ⟨[(4, (vB false))], []⟩ (here (by kernel_rfl)) ?_
    refine sem_retS (by kernel_rfl) (fun τ hτ => ?_)
    refine th_ret ?_
    obtain rfl := Option.some.inj h
    exact rk_ret hτ [(4, (vB false))] (here (by kernel_rfl)) (by kernel_rfl)
  · replace h := iteF hb h
    refine sem_skipS (by kernel_rfl) (fun τ hτ => ?_)
    refine th_normalS hτ ⟨[(0, (.sl (List.map cB s1))), (1, (.sl (List.map cB s2)))], []⟩ (here (by kernel_rfl)) ?_
    refine sem_seq (by kernel_rfl) ?_
    refine sem_seq (by kernel_rfl) ?_
    refine sem_region (by kernel_rfl) ?_
    refine evs_run 1 (by kernel_rfl) ?_
    refine evs_op (st_len (c := cB) (l := s1) (x := (.sl (List.map cB s1))) (by kernel_rfl) (by kernel_rfl)) ?_
    refine evs_run 1 (by kernel_rfl) ?_
    refine evs_endS (by kernel_rfl) (fun τ hτ => ?_)
    refine th_normalS hτ ⟨[(0, (.sl (List.map cB s1))), (1, (.sl (List.map cB s2))), (12, (vI (s1.length : Int))), (13, (vI 0))], []⟩ (here (by kernel_rfl)) ?_
    refine sem_block (by kernel_rfl) ?_
    obtain ⟨x80, hx80, h⟩ := bindS h
    refine sem_loopS (fun (s55 : Int) => ⟨[(0, (.sl (List.map cB s1))), (1, (.sl (List.map cB s2))), (12, (vI (s1.length : Int))), (13, (vI s55))], []⟩) (fun (x80 : Unit ⊕ Unit) => match x80 with | .inl j81 => (.ret, ⟨[(4, (vB false))], []⟩) | .inr j82 => (.exit 0, ⟨[], []⟩)) (slices_Equal_Lbool_bool_l1 s1 s2) 0 x80 (by kernel_rfl) (here (by kernel_rfl)) hx80 ?_ ?_ ?_
    · intro s55 r h
      refine sem_seq (by kernel_rfl) ?_
      refine sem_region (by kernel_rfl) ?_
      refine evs_run 1 (by kernel_rfl) ?_
      refine evs_endS (by kernel_rfl) (fun τ hτ => ?_)
      refine th_normalS hτ ⟨[(0, (.sl (List.map cB s1))), (1, (.sl (List.map cB s2))), (12, (vI (s1.length : Int))), (13, (vI s55)), (14, (vB (decide (s55 < (s1.length : Int)))))], []⟩ (here (by kernel_rfl)) ?_
      refine sem_seq (by kernel_rfl) ?_
      refine sem_cond (decide (s55 < (s1.length : Int))) (by kernel_rfl) (by kernel_rfl) (fun hb => ?_) (fun hb => ?_)
      · replace h := iteT hb h
        refine sem_skipS (by kernel_rfl) (fun τ hτ => ?_)
        refine th_normalS hτ ⟨[(0, (.sl (List.map cB s1))), (1, (.sl (List.map cB s2))), (12, (vI (s1.length : Int))), (13, (vI s55))], []⟩ (here (by kernel_rfl)) ?_
        refine sem_seq (by kernel_rfl) ?_
        refine sem_block (by kernel_rfl) ?_
        refine sem_seq (by kernel_rfl) ?_
        refine sem_region (by kernel_rfl) ?_
        refine evs_run 2 (by kernel_rfl) ?_
        refine evs_endS (by kernel_rfl) (fun τ hτ => ?_)
        refine th_normalS hτ ⟨[(0, (.sl (List.map cB s1))), (1, (.sl (List.map cB s2))), (5, (vI s55)), (12, (vI (s1.length : Int))), (13, (vI s55))], []⟩ (here (by kernel_rfl)) ?_
        refine sem_seq (by kernel_rfl) ?_
        refine sem_drawN [] [] [] [] [] 8 (by kernel_rfl) (by kernel_rfl) (by kernel_rfl) ?_
        refine evd_run 2 (by kernel_rfl) ?_
        obtain ⟨x78, hx78, h⟩ := bindS h
        refine evd_val (by kernel_rfl) (st_idx (c := cB) (l := s1) (i := s55) (kd := .i64) (sz := 1) (by kernel_rfl) hx78 rfl) (by kernel_rfl) (by kernel_rfl) ?_
        refine evd_run 3 (by kernel_rfl) ?_
        obtain ⟨x79, hx79, h⟩ := bindS h
        refine evd_val (by kernel_rfl) (st_idx (c := cB) (l := s2) (i := s55) (kd := .i64) (sz := 1) (by kernel_rfl) hx79 rfl) (by kernel_rfl) (by kernel_rfl) ?_
        refine evd_run 1 (by kernel_rfl) ?_
        refine evd_end (by kernel_rfl) ?_
        refine evo_run 1 (by kernel_rfl) ?_
        refine evo_endS (by kernel_rfl) (fun τ hτ => ?_)
        refine th_normalS hτ ⟨[(0, (.sl (List.map cB s1))), (1, (.sl (List.map cB s2))), (12, (vI (s1.length : Int))), (13, (vI s55)), (24, (vB (!(x78 == x79))))], []⟩ (here (by kernel_rfl)) ?_
        refine sem_cond (!(x78 == x79)) (by kernel_rfl) (by kernel_rfl) (fun hb => ?_) (fun hb => ?_)
        · replace h := iteT hb h
          refine sem_seq (by kernel_rfl) ?_
          refine sem_region (by kernel_rfl) ?_
          refine evs_run 1 (by kernel_rfl) ?_
          refine evs_endS (by kernel_rfl) (fun τ hτ => ?_)
          refine th_normalS hτ ⟨[(4, (vB false))], []⟩ (here (by kernel_rfl)) ?_
          refine sem_retS (by kernel_rfl) (fun τ hτ => ?_)
          refine bl_ret ?_
          refine th_ret ?_
          obtain rfl := Option.some.inj h
          exact lk_outS hτ rfl (here (by kernel_rfl))
        · replace h := iteF hb h
          refine sem_skipS (by kernel_rfl) (fun τ hτ => ?_)
          refine bl_normal ?_
          refine th_normalS hτ ⟨[(0, (.sl (List.map cB s1))), (1, (.sl (List.map cB s2))), (12, (vI (s1.length : Int))), (13, (vI s55))], []⟩ (here (by kernel_rfl)) ?_
          refine sem_region (by kernel_rfl) ?_
          refine evs_run 2 (by kernel_rfl) ?_
          refine evs_endS (by kernel_rfl) (fun τ hτ => ?_)
          obtain rfl := Option.some.inj h
          exact lk_nextS hτ (here (by kernel_rfl))
      · replace h := iteF hb h
        refine sem_exitS 0 (by kernel_rfl) rfl (fun τ hτ => ?_)
        refine th_exit ?_
        obtain rfl := Option.some.inj h
        exact lk_outS hτ rfl (here (by kernel_rfl))
    · intro x
      rcases x with _ | _ <;> rfl
    · intro τ hτ
      rcases x80 with j81 | j82
      · refine bl_ret ?_
        refine th_ret ?_
        obtain rfl := Option.some.inj h
        exact rk_ret hτ [(4, (vB false))] (here (by kernel_rfl)) (by kernel_rfl)
      · refine bl_hit (by kernel_rfl) ?_
        refine th_normalS hτ ⟨[], []⟩ (here (by kernel_rfl)) ?_
        refine sem_seq (by kernel_rfl) ?_
        refine sem_region (by kernel_rfl) ?_
        refine evs_run 1 (by kernel_rfl) ?_
        refine evs_endS (by kernel_rfl) (fun τ hτ => ?_)
        refine th_normalS hτ ⟨[(4, (vB true))], []⟩ (here (by kernel_rfl)) ?_
        refine sem_retS (by kernel_rfl) (fun τ hτ => ?_)
        obtain rfl := Option.some.inj h
        exact rk_ret hτ [(4, (vB true))] (here (by kernel_rfl)) (by kernel_rfl)
theorem W.geom_SameRegion_ok {a : (List Rect)} {b : (List Rect)} {r : Bool × Int} (h : geom_SameRegion a b = some r) : PC G.P 46 [(.sl (List.map c_Rect a)), (.sl (List.map c_Rect b))] [] (.tup [(vB r.1), (vI r.2)]) [] := by
  refine pc_of G (fn := Try.f46) Try.func46 (by kernel_rfl) (by kernel_rfl) (by kernel_rfl) (by kernel_rfl) (by kernel_rfl) ?_
  refine sem_set ⟨[(0, (.sl (List.map c_Rect a))), (1, (.sl (List.map c_Rect b)))], []⟩ (by kernel_rfl) ?_
  refine sem_seq (by kernel_rfl) ?_
  refine sem_region (by kernel_rfl) ?_
  refine evs_run 2 (by kernel_rfl) ?_
  refine evs_endS (by kernel_rfl) (fun τ hτ => ?_)
  refine th_normalS hτ ⟨[(0, (.sl (List.map c_Rect a))), (1, (.sl (List.map c_Rect b)))], []⟩ (here (by kernel_rfl)) ?_
  refine sem_seq (by kernel_rfl) ?_
  refine sem_seq (by kernel_rfl) ?_
  refine sem_region (by kernel_rfl) ?_
  refine evs_run 3 (by kernel_rfl) ?_
  obtain ⟨r4, hr4, h⟩ := bindS h
  refine evs_callP [] (by kernel_rfl) (W.geom_rects_ok hr4) (by kernel_rfl) (.inl rfl) (by kernel_rfl) ?_
  refine evs_run 1 (by kernel_rfl) ?_
  refine evs_endS (by kernel_rfl) (fun τ hτ => ?_)
  refine th_normalS hτ ⟨[(0, (.sl (List.map c_Rect a))), (1, (.sl (List.map c_Rect b))), (6, (vI r4))], []⟩ (here (by kernel_rfl)) ?_
  refine sem_seq (by kernel_rfl) ?_
  refine sem_region (by kernel_rfl) ?_
  refine evs_run 2 (by kernel_rfl) ?_
  refine evs_endS (by kernel_rfl) (fun τ hτ => ?_)
  refine th_normalS hτ ⟨[(0, (.sl (List.map c_Rect a))), (1, (.sl (List.map c_Rect b))), (6, (vI r4)), (16, (vB (r4 != 0)))], []⟩ (here (by kernel_rfl)) ?_
  refine sem_cond (r4 != 0) (by kernel_rfl) (by kernel_rfl) (fun hb => ?_) (fun hb => ?_)
  · replace h := iteT hb h
    refine sem_seq (by kernel_rfl) ?_
    refine sem_region (by kernel_rfl) ?_
    refine evs_run 3 (by kernel_rfl) ?_
    refine evs_endS (by kernel_rfl) (fun τ hτ => ?_)
    refine th_normalS hτ ⟨[(4, (vB false)), (5, (vI r4))], []⟩ (here (by kernel_rfl)) ?_
    refine sem_retS (by kernel_rfl) (fun τ hτ => ?_)
    refine th_ret ?_
    obtain rfl := Option.some.inj h
    exact rk_ret hτ [(4, (vB false)), (5, (vI r4))] (here (by kernel_rfl)) (by kernel_rfl)
  · replace h := iteF hb h
    refine sem_skipS (by kernel_rfl) (fun τ hτ => ?_)
    refine th_normalS hτ ⟨[(0, (.sl (List.map c_Rect a))), (1, (.sl (List.map c_Rect b)))], []⟩ (here (by kernel_rfl)) ?_
    refine sem_seq (by kernel_rfl) ?_
    refine sem_region (by kernel_rfl) ?_
    refine evs_run 3 (by kernel_rfl) ?_
    obtain ⟨r6, hr6, h⟩ := bindS h
    refine evs_callS [] [(0, 700150), (1, 700151), (2, 700152)] [] (by kernel_rfl) (W.geom_newGrid_ok hr6) (by kernel_rfl) (by kernel_rfl) (.inl rfl) ?_
    refine evs_run 2 (by kernel_rfl) ?_
    refine evs_endS (by kernel_rfl) (fun τ hτ => ?_)
    refine th_normalS hτ ⟨[(0, (.sl (List.map c_Rect a))), (1, (.sl (List.map c_Rect b))), (7, (.ptr 7 0))], [(7, .box [(.row (.top 700151) 3), (.row (.top 700152) 3)]), (700151, .row 3 [] (List.map cI r6.x)), (700152, .row 3 [] (List.map cI r6.y))]⟩ (here (by kernel_rfl)) ?_
    refine sem_seq (by kernel_rfl) ?_
    refine sem_prep [.frz 700151] (by kernel_rfl) ?_
    refine sem_prep [.frz 700152] (by kernel_rfl) ?_
    refine sem_draw [(2, [700100])] [(2, [700100])] [] [(3, [700100]), (4, [700100])] [(0, [700100]), (1, [700100]), (3, [700100]), (4, [700100])] 5 (by kernel_rfl) (by kernel_rfl) [700100] (by kernel_rfl) (by kernel_rfl) ?_
    refine evd_run 2 (by kernel_rfl) ?_
    obtain ⟨r11, hr11, h⟩ := bindS h
    refine evd_callS [(0, 700100)] [] (by kernel_rfl) (by kernel_rfl) (W.geom_grid_covered_ok hr11) (by kernel_rfl) (.inl rfl) (by kernel_rfl) (by kernel_rfl) ?_
    refine evd_run 2 (by kernel_rfl) ?_
    refine evd_end (by kernel_rfl) ?_
    obtain ⟨r12, hr12, h⟩ := bindS h
    refine evo_callS [] [(0, 700250)] [] (by kernel_rfl) (W.geom_grid_covered_ok hr12) (by kernel_rfl) (by kernel_rfl) (.inl rfl) ?_
    refine evo_prep [.frz 700250] (by kernel_rfl) ?_
    refine evo_run 2 (by kernel_rfl) ?_
    refine evo_endS (by kernel_rfl) (fun τ hτ => ?_)
    refine th_normalS hτ ⟨[(8, (.row (.top 700100) 94)), (9, (.sl (List.map (cS cB) r12)))], [(700100, .row 94 [(0, 4)] (List.map (cS cB) r11))]⟩ (here (by kernel_rfl)) ?_
    refine sem_seq (by kernel_rfl) ?_
    refine sem_seq (by kernel_rfl) ?_
    refine sem_region (by kernel_rfl) ?_
    refine evs_run 1 (by kernel_rfl) ?_
    refine evs_op (st_len (c := (cS cB)) (l := r11) (x := (.row (.top 700100) 94)) (by kernel_rfl) (by kernel_rfl)) ?_
    refine evs_run 1 (by kernel_rfl) ?_
    refine evs_endS (by kernel_rfl) (fun τ hτ => ?_)
    refine th_normalS hτ ⟨[(8, (.row (.top 700100) 94)), (9, (.sl (List.map (cS cB) r12))), (29, (vI (r11.length : Int))), (30, (vI 0))], [(700100, .row 94 [(0, 4)] (List.map (cS cB) r11))]⟩ (here (by kernel_rfl)) ?_
    refine sem_block (by kernel_rfl) ?_
    obtain ⟨x128, hx128, h⟩ := bindS h
    refine sem_loopS (fun (s91 : Int) => ⟨[(8, (.sl (List.map (cS cB) r11))), (9, (.sl (List.map (cS cB) r12))), (29, (vI (r11.length : Int))), (30, (vI s91))], []⟩) (fun (x128 : Unit ⊕ Unit) => match x128 with | .inl j129 => (.ret, ⟨[(4, (vB false)), (5, (vI 0))], []⟩) | .inr j130 => (.exit 0, ⟨[], []⟩)) (geom_SameRegion_l1 r11 r12) 0 x128 (by kernel_rfl) (subR_prep [.frz 700100] [] (by kernel_rfl) rfl rfl (by kernel_rfl)) hx128 ?_ ?_ ?_
    · intro s91 r h
      refine sem_seq (by kernel_rfl) ?_
      refine sem_region (by kernel_rfl) ?_
      refine evs_run 1 (by kernel_rfl) ?_
      refine evs_endS (by kernel_rfl) (fun τ hτ => ?_)
      refine th_normalS hτ ⟨[(8, (.sl (List.map (cS cB) r11))), (9, (.sl (List.map (cS cB) r12))), (29, (vI (r11.length : Int))), (30, (vI s91)), (31, (vB (decide (s91 < (r11.length : Int)))))], []⟩ (here (by kernel_rfl)) ?_
      refine sem_seq (by kernel_rfl) ?_
      refine sem_cond (decide (s91 < (r11.length : Int))) (by kernel_rfl) (by kernel_rfl) (fun hb => ?_) (fun hb => ?_)
      · replace h := iteT hb h
        refine sem_skipS (by kernel_rfl) (fun τ hτ => ?_)
        refine th_normalS hτ ⟨[(8, (.sl (List.map (cS cB) r11))), (9, (.sl (List.map (cS cB) r12))), (29, (vI (r11.length : Int))), (30, (vI s91))], []⟩ (here (by kernel_rfl)) ?_
        refine sem_seq (by kernel_rfl) ?_
        refine sem_block (by kernel_rfl) ?_
        refine sem_seq (by kernel_rfl) ?_
        refine sem_region (by kernel_rfl) ?_
        refine evs_run 2 (by kernel_rfl) ?_
        refine evs_endS (by kernel_rfl) (fun τ hτ => ?_)
        refine th_normalS hτ ⟨[(8, (.sl (List.map (cS cB) r11))), (9, (.sl (List.map (cS cB) r12))), (10, (vI s91)), (29, (vI (r11.length : Int))), (30, (vI s91))], []⟩ (here (by kernel_rfl)) ?_
        refine sem_seq (by kernel_rfl) ?_
        refine sem_drawN [] [] [] [] [] 8 (by kernel_rfl) (by kernel_rfl) (by kernel_rfl) ?_
        refine evd_run 2 (by kernel_rfl) ?_
        obtain ⟨x125, hx125, h⟩ := bindS h
        refine evd_val (by kernel_rfl) (st_idx (c := (cS cB)) (l := r11) (i := s91) (kd := .i64) (sz := 1) (by kernel_rfl) hx125 rfl) (by kernel_rfl) (by kernel_rfl) ?_
        refine evd_run 3 (by kernel_rfl) ?_
        obtain ⟨x126, hx126, h⟩ := bindS h
        refine evd_val (by kernel_rfl) (st_idx (c := (cS cB)) (l := r12) (i := s91) (kd := .i64) (sz := 1) (by kernel_rfl) hx126 rfl) (by kernel_rfl) (by kernel_rfl) ?_
        refine evd_run 1 (by kernel_rfl) ?_
        refine evd_end (by kernel_rfl) ?_
        obtain ⟨r127, hr127, h⟩ := bindS h
        refine evo_callP [] (by kernel_rfl) (W.slices_Equal_Lbool_bool_ok hr127) (by kernel_rfl) (.inl rfl) (by kernel_rfl) ?_
        refine evo_run 1 (by kernel_rfl) ?_
        refine evo_endS (by kernel_rfl) (fun τ hτ => ?_)
        refine th_normalS hτ ⟨[(8, (.sl (List.map (cS cB) r11))), (9, (.sl (List.map (cS cB) r12))), (29, (vI (r11.length : Int))), (30, (vI s91)), (42, (vB (!r127)))], []⟩ (here (by kernel_rfl)) ?_
        refine sem_cond (!r127) (by kernel_rfl) (by kernel_rfl) (fun hb => ?_) (fun hb => ?_)
        · replace h := iteT hb h
          refine sem_seq (by kernel_rfl) ?_
          refine sem_region (by kernel_rfl) ?_
          refine evs_run 2 (by kernel_rfl) ?_
          refine evs_endS (by kernel_rfl) (fun τ hτ => ?_)
          refine th_normalS hτ ⟨[(4, (vB false)), (5, (vI 0))], []⟩ (here (by kernel_rfl)) ?_
          refine sem_retS (by kernel_rfl) (fun τ hτ => ?_)
          refine bl_ret ?_
          refine th_ret ?_
          obtain rfl := Option.some.inj h
          exact lk_outS hτ rfl (here (by kernel_rfl))
        · replace h := iteF hb h
          refine sem_skipS (by kernel_rfl) (fun τ hτ => ?_)
          refine bl_normal ?_
          refine th_normalS hτ ⟨[(8, (.sl (List.map (cS cB) r11))), (9, (.sl (List.map (cS cB) r12))), (29, (vI (r11.length : Int))), (30, (vI s91))], []⟩ (here (by kernel_rfl)) ?_
          refine sem_region (by kernel_rfl) ?_
          refine evs_run 2 (by kernel_rfl) ?_
          refine evs_endS (by kernel_rfl) (fun τ hτ => ?_)
          obtain rfl := Option.some.inj h
          exact lk_nextS hτ (here (by kernel_rfl))
      · replace h := iteF hb h
        refine sem_exitS 0 (by kernel_rfl) rfl (fun τ hτ => ?_)
        refine th_exit ?_
        obtain rfl := Option.some.inj h
        exact lk_outS hτ rfl (here (by kernel_rfl))
    · intro x
      rcases x with _ | _ <;> rfl
    · intro τ hτ
      rcases x128 with j129 | j130
      · refine bl_ret ?_
        refine th_ret ?_
        obtain rfl := Option.some.inj h
        exact rk_ret hτ [(4, (vB false)), (5, (vI 0))] (here (by kernel_rfl)) (by kernel_rfl)
      · refine bl_hit (by kernel_rfl) ?_
        refine th_normalS hτ ⟨[], []⟩ (here (by kernel_rfl)) ?_
        refine sem_seq (by kernel_rfl) ?_
        refine sem_region (by kernel_rfl) ?_
        refine evs_run 2 (by kernel_rfl) ?_
        refine evs_endS (by kernel_rfl) (fun τ hτ => ?_)
        refine th_normalS hτ ⟨[(4, (vB true)), (5, (vI 0))], []⟩ (here (by kernel_rfl)) ?_
        refine sem_retS (by kernel_rfl) (fun τ hτ => ?_)
        obtain rfl := Option.some.inj h
        exact rk_ret hτ [(4, (vB true)), (5, (vI 0))] (here (by kernel_rfl)) (by kernel_rfl)
theorem W.sheetmetalref01_Both_ok {a : (List Rect)} {b : (List Rect)} {r : (List Rect)} (h : sheetmetalref01_Both a b = some r) : PC G.P 49 [(.sl (List.map c_Rect a)), (.sl (List.map c_Rect b))] [] (.row (.top 0) 41) [(0, .row 41 [] (List.map c_Rect r))] := by
  refine pc_of G (fn := Try.f49) Try.func49 (by kernel_rfl) (by kernel_rfl) (by kernel_rfl) (by kernel_rfl) (by kernel_rfl) ?_
  refine sem_set ⟨[(0, (.sl (List.map c_Rect a))), (1, (.sl (List.map c_Rect b)))], []⟩ (by kernel_rfl) ?_
  refine sem_seq (by kernel_rfl) ?_
  refine sem_region (by kernel_rfl) ?_
  refine evs_run 1 (by kernel_rfl) ?_
  refine evs_endS (by kernel_rfl) (fun τ hτ => ?_)
  refine th_normalS hτ ⟨[(0, (.sl (List.map c_Rect a))), (1, (.sl (List.map c_Rect b)))], []⟩ (here (by kernel_rfl)) ?_
  refine sem_seq (by kernel_rfl) ?_
  refine sem_region (by kernel_rfl) ?_
  refine evs_run 1 (by kernel_rfl) ?_
  refine evs_endS (by kernel_rfl) (fun τ hτ => ?_)
  refine th_normalS hτ ⟨[(0, (.sl (List.map c_Rect a))), (1, (.sl (List.map c_Rect b))), (5, (.row (.top 5) 41))], [(5, .row 41 [] (List.map c_Rect []))]⟩ (here (by kernel_rfl)) ?_
  refine sem_seq (by kernel_rfl) ?_
  refine sem_seq (by kernel_rfl) ?_
  refine sem_region (by kernel_rfl) ?_
  refine evs_run 1 (by kernel_rfl) ?_
  refine evs_endS (by kernel_rfl) (fun τ hτ => ?_)
  refine th_normalS hτ ⟨[(0, (.sl (List.map c_Rect a))), (1, (.sl (List.map c_Rect b))), (5, (.row (.top 5) 41)), (6, (vI 0))], [(5, .row 41 [] (List.map c_Rect []))]⟩ (here (by kernel_rfl)) ?_
  refine sem_block (by kernel_rfl) ?_
  obtain ⟨x54, hx54, h⟩ := bindS h
  refine sem_loopS (fun (s37 : Int × (List Rect)) => ⟨[(0, (.sl (List.map c_Rect a))), (1, (.sl (List.map c_Rect b))), (5, (.row (.top 500000) 41)), (6, (vI s37.1))], [(500000, .row 41 [] (List.map c_Rect s37.2))]⟩) (fun (x54 : (List Rect)) => (.exit 0, ⟨[(1, (.sl (List.map c_Rect b))), (5, (.row (.top 500000) 41))], [(500000, .row 41 [] (List.map c_Rect x54))]⟩)) (sheetmetalref01_Both_l1 a) (0, []) x54 (by kernel_rfl) (subR_prep [] [(5, 500000)] (by kernel_rfl) rfl rfl (by kernel_rfl)) hx54 ?_ ?_ ?_
  · intro s37 r h
    refine sem_seq (by kernel_rfl) ?_
    refine sem_seq (by kernel_rfl) ?_
    refine sem_region (by kernel_rfl) ?_
    refine evs_run 2 (by kernel_rfl) ?_
    refine evs_op (st_len (c := c_Rect) (l := a) (x := (.sl (List.map c_Rect a))) (by kernel_rfl) (by kernel_rfl)) ?_
    refine evs_run 1 (by kernel_rfl) ?_
    refine evs_endS (by kernel_rfl) (fun τ hτ => ?_)
    refine th_normalS hτ ⟨[(0, (.sl (List.map c_Rect a))), (1, (.sl (List.map c_Rect b))), (5, (.row (.top 500000) 41)), (6, (vI s37.1)), (11, (vB (decide (s37.1 < (a.length : Int)))))], [(500000, .row 41 [] (List.map c_Rect s37.2))]⟩ (here (by kernel_rfl)) ?_
    refine sem_cond (decide (s37.1 < (a.length : Int))) (by kernel_rfl) (by kernel_rfl) (fun hb => ?_) (fun hb => ?_)
    · replace h := iteT hb h
      refine sem_skipS (by kernel_rfl) (fun τ hτ => ?_)
      refine th_normalS hτ ⟨[(0, (.sl (List.map c_Rect a))), (1, (.sl (List.map c_Rect b))), (5, (.row (.top 500000) 41)), (6, (vI s37.1))], [(500000, .row 41 [] (List.map c_Rect s37.2))]⟩ (here (by kernel_rfl)) ?_
      refine sem_seq (by kernel_rfl) ?_
      refine sem_block (by kernel_rfl) ?_
      refine sem_region (by kernel_rfl) ?_
      refine evs_run 3 (by kernel_rfl) ?_
      obtain ⟨x52, hx52, h⟩ := bindS h
      refine evs_op (st_idx (c := c_Rect) (l := a) (i := s37.1) (kd := .i64) (sz := 4) (by kernel_rfl) hx52 rfl) ?_
      refine evs_run 2 (by kernel_rfl) ?_
      obtain ⟨l53, hl53, h⟩ := bindS h
      refine evs_op (st_app (c := c_Rect) (l := s37.2) (l2 := [x52]) (x := (.sl (List.map c_Rect [x52]))) (g := 500000) (e := 41) (sz := 4) (d := 20) (by kernel_rfl) (by kernel_rfl) (by kernel_rfl) (by kernel_rfl) (fun _ => rfl) rfl hl53) ?_
      refine evs_run 1 (by kernel_rfl) ?_
      refine evs_endS (by kernel_rfl) (fun τ hτ => ?_)
      refine bl_normal ?_
      refine th_normalS hτ ⟨[(0, (.sl (List.map c_Rect a))), (1, (.sl (List.map c_Rect b))), (5, (.row (.top 500000) 41)), (6, (vI s37.1))], [(500000, .row 41 [] (List.map c_Rect l53))]⟩ (here (by kernel_rfl)) ?_
      refine sem_region (by kernel_rfl) ?_
      refine evs_run 3 (by kernel_rfl) ?_
      refine evs_endS (by kernel_rfl) (fun τ hτ => ?_)
      obtain rfl := Option.some.inj h
      exact lk_nextS hτ (here (by kernel_rfl))
    · replace h := iteF hb h
      refine sem_exitS 0 (by kernel_rfl) rfl (fun τ hτ => ?_)
      refine th_exit ?_
      obtain rfl := Option.some.inj h
      exact lk_outS hτ rfl (here (by kernel_rfl))
  · intro x
    rfl
  · intro τ hτ
    refine bl_hit (by kernel_rfl) ?_
    refine th_normalS hτ ⟨[(1, (.sl (List.map c_Rect b))), (5, (.row (.top 500000) 41))], [(500000, .row 41 [] (List.map c_Rect x54))]⟩ (here (by kernel_rfl)) ?_
    refine sem_seq (by kernel_rfl) ?_
    refine sem_seq (by kernel_rfl) ?_
    refine sem_region (by kernel_rfl) ?_
    refine evs_run 1 (by kernel_rfl) ?_
    refine evs_endS (by kernel_rfl) (fun τ hτ => ?_)
    refine th_normalS hτ ⟨[(1, (.sl (List.map c_Rect b))), (5, (.row (.top 500000) 41)), (7, (vI 0))], [(500000, .row 41 [] (List.map c_Rect x54))]⟩ (here (by kernel_rfl)) ?_
    refine sem_block (by kernel_rfl) ?_
    obtain ⟨x108, hx108, h⟩ := bindS h
    refine sem_loopS (fun (s91 : Int × (List Rect)) => ⟨[(1, (.sl (List.map c_Rect b))), (5, (.row (.top 500000) 41)), (7, (vI s91.1))], [(500000, .row 41 [] (List.map c_Rect s91.2))]⟩) (fun (x108 : (List Rect)) => (.exit 2, ⟨[(5, (.row (.top 500000) 41))], [(500000, .row 41 [] (List.map c_Rect x108))]⟩)) (sheetmetalref01_Both_l2 b) (0, x54) x108 (by kernel_rfl) (here (by kernel_rfl)) hx108 ?_ ?_ ?_
    · intro s91 r h
      refine sem_seq (by kernel_rfl) ?_
      refine sem_seq (by kernel_rfl) ?_
      refine sem_region (by kernel_rfl) ?_
      refine evs_run 2 (by kernel_rfl) ?_
      refine evs_op (st_len (c := c_Rect) (l := b) (x := (.sl (List.map c_Rect b))) (by kernel_rfl) (by kernel_rfl)) ?_
      refine evs_run 1 (by kernel_rfl) ?_
      refine evs_endS (by kernel_rfl) (fun τ hτ => ?_)
      refine th_normalS hτ ⟨[(1, (.sl (List.map c_Rect b))), (5, (.row (.top 500000) 41)), (7, (vI s91.1)), (24, (vB (decide (s91.1 < (b.length : Int)))))], [(500000, .row 41 [] (List.map c_Rect s91.2))]⟩ (here (by kernel_rfl)) ?_
      refine sem_cond (decide (s91.1 < (b.length : Int))) (by kernel_rfl) (by kernel_rfl) (fun hb => ?_) (fun hb => ?_)
      · replace h := iteT hb h
        refine sem_skipS (by kernel_rfl) (fun τ hτ => ?_)
        refine th_normalS hτ ⟨[(1, (.sl (List.map c_Rect b))), (5, (.row (.top 500000) 41)), (7, (vI s91.1))], [(500000, .row 41 [] (List.map c_Rect s91.2))]⟩ (here (by kernel_rfl)) ?_
        refine sem_seq (by kernel_rfl) ?_
        refine sem_block (by kernel_rfl) ?_
        refine sem_region (by kernel_rfl) ?_
        refine evs_run 3 (by kernel_rfl) ?_
        obtain ⟨x106, hx106, h⟩ := bindS h
        refine evs_op (st_idx (c := c_Rect) (l := b) (i := s91.1) (kd := .i64) (sz := 4) (by kernel_rfl) hx106 rfl) ?_
        refine evs_run 2 (by kernel_rfl) ?_
        obtain ⟨l107, hl107, h⟩ := bindS h
        refine evs_op (st_app (c := c_Rect) (l := s91.2) (l2 := [x106]) (x := (.sl (List.map c_Rect [x106]))) (g := 500000) (e := 41) (sz := 4) (d := 33) (by kernel_rfl) (by kernel_rfl) (by kernel_rfl) (by kernel_rfl) (fun _ => rfl) rfl hl107) ?_
        refine evs_run 1 (by kernel_rfl) ?_
        refine evs_endS (by kernel_rfl) (fun τ hτ => ?_)
        refine bl_normal ?_
        refine th_normalS hτ ⟨[(1, (.sl (List.map c_Rect b))), (5, (.row (.top 500000) 41)), (7, (vI s91.1))], [(500000, .row 41 [] (List.map c_Rect l107))]⟩ (here (by kernel_rfl)) ?_
        refine sem_region (by kernel_rfl) ?_
        refine evs_run 3 (by kernel_rfl) ?_
        refine evs_endS (by kernel_rfl) (fun τ hτ => ?_)
        obtain rfl := Option.some.inj h
        exact lk_nextS hτ (here (by kernel_rfl))
      · replace h := iteF hb h
        refine sem_exitS 2 (by kernel_rfl) rfl (fun τ hτ => ?_)
        refine th_exit ?_
        obtain rfl := Option.some.inj h
        exact lk_outS hτ rfl (here (by kernel_rfl))
    · intro x
      rfl
    · intro τ hτ
      refine bl_hit (by kernel_rfl) ?_
      refine th_normalS hτ ⟨[(5, (.row (.top 500000) 41))], [(500000, .row 41 [] (List.map c_Rect x108))]⟩ (here (by kernel_rfl)) ?_
      refine sem_seq (by kernel_rfl) ?_
      refine sem_region (by kernel_rfl) ?_
      refine evs_run 2 (by kernel_rfl) ?_
      refine evs_endS (by kernel_rfl) (fun τ hτ => ?_)
      refine th_normalS hτ ⟨[(4, (.row (.top 500000) 41))], [(500000, .row 41 [] (List.map c_Rect x108))]⟩ (here (by kernel_rfl)) ?_
      refine sem_retS (by kernel_rfl) (fun τ hτ => ?_)
      obtain rfl := Option.some.inj h
      exact rk_ret hτ [(4, (.row (.top 0) 41))] (subR_prep [] [(500000, 0)] (by kernel_rfl) rfl rfl (by kernel_rfl)) (by kernel_rfl)
theorem W.sheetmetalref01_sameCells_ok {a : (List Rect)} {b : (List Rect)} {r : Bool} (h : sheetmetalref01_sameCells a b = some r) : PC G.P 98 [(.sl (List.map c_Rect a)), (.sl (List.map c_Rect b))] [] (vB r) [] := by
  refine pc_of G (fn := Try.f98) Try.func98 (by kernel_rfl) (by kernel_rfl) (by kernel_rfl) (by kernel_rfl) (by kernel_rfl) ?_
  refine sem_set ⟨[(0, (.sl (List.map c_Rect a))), (1, (.sl (List.map c_Rect b)))], []⟩ (by kernel_rfl) ?_
  refine sem_seq (by kernel_rfl) ?_
  refine sem_region (by kernel_rfl) ?_
  refine evs_run 1 (by kernel_rfl) ?_
  refine evs_endS (by kernel_rfl) (fun τ hτ => ?_)
  refine th_normalS hτ ⟨[(0, (.sl (List.map c_Rect a))), (1, (.sl (List.map c_Rect b)))], []⟩ (here (by kernel_rfl)) ?_
  refine sem_seq (by kernel_rfl) ?_
  refine sem_region (by kernel_rfl) ?_
  refine evs_run 2 (by kernel_rfl) ?_
  obtain ⟨r5, hr5, h⟩ := bindS h
  refine evs_callS [] [(0, 700100)] [] (by kernel_rfl) (W.sheetmetalref01_Both_ok hr5) (by kernel_rfl) (by kernel_rfl) (.inl rfl) ?_
  refine evs_run 1 (by kernel_rfl) ?_
  refine evs_prep [.frz 700100] (by kernel_rfl) ?_
  obtain ⟨r6, hr6, h⟩ := bindS h
  refine evs_callS [] [(0, 700200), (1, 700201)] [] (by kernel_rfl) (W.sheetmetalref01_MakeGrid_ok hr6) (by kernel_rfl) (by kernel_rfl) (.inl rfl) ?_
  refine evs_run 2 (by kernel_rfl) ?_
  obtain ⟨r7, hr7, h⟩ := bindS h
  refine evs_callS [] [(0, 700350)] [] (by kernel_rfl) (W.sheetmetalref01_Both_ok hr7) (by kernel_rfl) (by kernel_rfl) (.inl rfl) ?_
  refine evs_run 1 (by kernel_rfl) ?_
  refine evs_prep [.frz 700350] (by kernel_rfl) ?_
  obtain ⟨r8, hr8, h⟩ := bindS h
  refine evs_callS [] [(0, 700450), (1, 700451)] [] (by kernel_rfl) (W.sheetmetalref01_MakeGrid_ok hr8) (by kernel_rfl) (by kernel_rfl) (.inl rfl) ?_
  refine evs_run 4 (by kernel_rfl) ?_
  refine evs_endS (by kernel_rfl) (fun τ hτ => ?_)
  refine th_normalS hτ ⟨[(5, (.ptr 5 0)), (6, (.ptr 6 0))], [(5, .box [(.sl (List.map cI r6.1.X)), (.sl (List.map cI r6.1.Y)), (.row (.top 700201) 94)]), (6, .box [(.sl (List.map cI r8.1.X)), (.sl (List.map cI r8.1.Y)), (.row (.top 700451) 94)]), (700201, .row 94 [] (List.map (cS cB) r6.1.On)), (700451, .row 94 [] (List.map (cS cB) r8.1.On))]⟩ (here (by kernel_rfl)) ?_
  refine sem_seq (by kernel_rfl) ?_
  refine sem_seq (by kernel_rfl) ?_
  refine sem_region (by kernel_rfl) ?_
  refine evs_run 1 (by kernel_rfl) ?_
  refine evs_endS (by kernel_rfl) (fun τ hτ => ?_)
  refine th_normalS hτ ⟨[(5, (.ptr 5 0)), (6, (.ptr 6 0)), (7, (vI 0))], [(5, .box [(.sl (List.map cI r6.1.X)), (.sl (List.map cI r6.1.Y)), (.row (.top 700201) 94)]), (6, .box [(.sl (List.map cI r8.1.X)), (.sl (List.map cI r8.1.Y)), (.row (.top 700451) 94)]), (700201, .row 94 [] (List.map (cS cB) r6.1.On)), (700451, .row 94 [] (List.map (cS cB) r8.1.On))]⟩ (here (by kernel_rfl)) ?_
  refine sem_block (by kernel_rfl) ?_
  obtain ⟨x1084, hx1084, h⟩ := bindS h
  refine sem_loopS (fun (s727 : Int) => ⟨[(5, (.ptr 500000 0)), (6, (.ptr 500002 0)), (7, (vI s727))], [(500000, .box [(.sl (List.map cI r6.1.X)), (.sl (List.map cI r6.1.Y)), (.row (.top 500001) 94)]), (500001, .row 94 [] (List.map (cS cB) r6.1.On)), (500002, .box [(.sl (List.map cI r8.1.X)), (.sl (List.map cI r8.1.Y)), (.row (.top 500003) 94)]), (500003, .row 94 [] (List.map (cS cB) r8.1.On))]⟩) (fun (x1084 : Unit ⊕ Unit) => match x1084 with | .inl j1085 => (.ret, ⟨[(4, (vB false))], []⟩) | .inr j1086 => (.exit 0, ⟨[], []⟩)) (sheetmetalref01_sameCells_l2 r6 r8) 0 x1084 (by kernel_rfl) (subR_prep [] [(5, 500000), (6, 500002), (700201, 500001), (700451, 500003)] (by kernel_rfl) rfl rfl (by kernel_rfl)) hx1084 ?_ ?_ ?_
  · intro s727 r h
    refine sem_seq (by kernel_rfl) ?_
    refine sem_seq (by kernel_rfl) ?_
    refine sem_region (by kernel_rfl) ?_
    refine evs_run 3 (by kernel_rfl) ?_
    refine evs_op (st_len (c := (cS cB)) (l := r6.1.On) (x := (.row (.top 500001) 94)) (by kernel_rfl) (by kernel_rfl)) ?_
    refine evs_run 1 (by kernel_rfl) ?_
    refine evs_endS (by kernel_rfl) (fun τ hτ => ?_)
    refine th_normalS hτ ⟨[(5, (.ptr 500000 0)), (6, (.ptr 500002 0)), (7, (vI s727)), (23, (vB (decide (s727 < (r6.1.On.length : Int)))))], [(500000, .box [(.sl (List.map cI r6.1.X)), (.sl (List.map cI r6.1.Y)), (.row (.top 500001) 94)]), (500001, .row 94 [] (List.map (cS cB) r6.1.On)), (500002, .box [(.sl (List.map cI r8.1.X)), (.sl (List.map cI r8.1.Y)), (.row (.top 500003) 94)]), (500003, .row 94 [] (List.map (cS cB) r8.1.On))]⟩ (here (by kernel_rfl)) ?_
    refine sem_cond (decide (s727 < (r6.1.On.length : Int))) (by kernel_rfl) (by kernel_rfl) (fun hb => ?_) (fun hb => ?_)
    · replace h := iteT hb h
      refine sem_skipS (by kernel_rfl) (fun τ hτ => ?_)
      refine th_normalS hτ ⟨[(5, (.ptr 500000 0)), (6, (.ptr 500002 0)), (7, (vI s727))], [(500000, .box [(.sl (List.map cI r6.1.X)), (.sl (List.map cI r6.1.Y)), (.row (.top 500001) 94)]), (500001, .row 94 [] (List.map (cS cB) r6.1.On)), (500002, .box [(.sl (List.map cI r8.1.X)), (.sl (List.map cI r8.1.Y)), (.row (.top 500003) 94)]), (500003, .row 94 [] (List.map (cS cB) r8.1.On))]⟩ (here (by kernel_rfl)) ?_
      refine sem_seq (by kernel_rfl) ?_
      refine sem_block (by kernel_rfl) ?_
      refine sem_seq (by kernel_rfl) ?_
      refine sem_region (by kernel_rfl) ?_
      refine evs_run 1 (by kernel_rfl) ?_
      refine evs_endS (by kernel_rfl) (fun τ hτ => ?_)
      refine th_normalS hτ ⟨[(5, (.ptr 500000 0)), (6, (.ptr 500002 0)), (7, (vI s727)), (8, (vI 0))], [(500000, .box [(.sl (List.map cI r6.1.X)), (.sl (List.map cI r6.1.Y)), (.row (.top 500001) 94)]), (500001, .row 94 [] (List.map (cS cB) r6.1.On)), (500002, .box [(.sl (List.map cI r8.1.X)), (.sl (List.map cI r8.1.Y)), (.row (.top 500003) 94)]), (500003, .row 94 [] (List.map (cS cB) r8.1.On))]⟩ (here (by kernel_rfl)) ?_
      refine sem_block (by kernel_rfl) ?_
      obtain ⟨x1081, hx1081, h⟩ := bindS h
      refine sem_loopS (fun (s1024 : Int) => ⟨[(5, (.ptr 500000 0)), (6, (.ptr 500002 0)), (7, (vI s727)), (8, (vI s1024))], [(500000, .box [(.sl (List.map cI r6.1.X)), (.sl (List.map cI r6.1.Y)), (.row (.top 500001) 94)]), (500001, .row 94 [] (List.map (cS cB) r6.1.On)), (500002, .box [(.sl (List.map cI r8.1.X)), (.sl (List.map cI r8.1.Y)), (.row (.top 500003) 94)]), (500003, .row 94 [] (List.map (cS cB) r8.1.On))]⟩) (fun (x1081 : Unit ⊕ Unit) => match x1081 with | .inl j1082 => (.ret, ⟨[(4, (vB false))], []⟩) | .inr j1083 => (.exit 2, ⟨[(5, (.ptr 500000 0)), (6, (.ptr 500002 0)), (7, (vI s727))], [(500000, .box [(.sl (List.map cI r6.1.X)), (.sl (List.map cI r6.1.Y)), (.row (.top 500001) 94)]), (500001, .row 94 [] (List.map (cS cB) r6.1.On)), (500002, .box [(.sl (List.map cI r8.1.X)), (.sl (List.map cI r8.1.Y)), (.row (.top 500003) 94)]), (500003, .row 94 [] (List.map (cS cB) r8.1.On))]⟩)) (sheetmetalref01_sameCells_l1 r6 r8 s727) 0 x1081 (by kernel_rfl) (here (by kernel_rfl)) hx1081 ?_ ?_ ?_
      · intro s1024 r h
        refine sem_seq (by kernel_rfl) ?_
        refine sem_seq (by kernel_rfl) ?_
        refine sem_region (by kernel_rfl) ?_
        refine evs_run 4 (by kernel_rfl) ?_
        obtain ⟨x1056, hx1056, h⟩ := bindS h
        refine evs_op (st_idxO (c := (cS cB)) (l := r6.1.On) (i := s727) (kd := .i64) (kk := (.top 500001)) (e := 94) (sz := 1) (by kernel_rfl) (by kernel_rfl) hx1056 rfl) ?_
        refine evs_op (st_ldO (c := (cS cB)) (l := r6.1.On) (i := (Int.toNat s727)) (v := (.sl (List.map cB x1056))) (agg := false) (sz := 1) (kk := (.top 500001)) (e := 94) (off := 0) (J := []) (by kernel_rfl) (by kernel_rfl) (by kernel_rfl) ((idxS hx1056).2) (by kernel_rfl)) ?_
        refine evs_op (st_len (c := cB) (l := x1056) (x := (.sl (List.map cB x1056))) (by kernel_rfl) (by kernel_rfl)) ?_
        refine evs_run 1 (by kernel_rfl) ?_
        refine evs_endS (by kernel_rfl) (fun τ hτ => ?_)
        refine th_normalS hτ ⟨[(5, (.ptr 500000 0)), (6, (.ptr 500002 0)), (7, (vI s727)), (8, (vI s1024)), (33, (vB (decide (s1024 < (x1056.length : Int)))))], [(500000, .box [(.sl (List.map cI r6.1.X)), (.sl (List.map cI r6.1.Y)), (.row (.top 500001) 94)]), (500001, .row 94 [] (List.map (cS cB) r6.1.On)), (500002, .box [(.sl (List.map cI r8.1.X)), (.sl (List.map cI r8.1.Y)), (.row (.top 500003) 94)]), (500003, .row 94 [] (List.map (cS cB) r8.1.On))]⟩ (here (by kernel_rfl)) ?_
        refine sem_cond (decide (s1024 < (x1056.length : Int))) (by kernel_rfl) (by kernel_rfl) (fun hb => ?_) (fun hb => ?_)
        · replace h := iteT hb h
          refine sem_skipS (by kernel_rfl) (fun τ hτ => ?_)
          refine th_normalS hτ ⟨[(5, (.ptr 500000 0)), (6, (.ptr 500002 0)), (7, (vI s727)), (8, (vI s1024))], [(500000, .box [(.sl (List.map cI r6.1.X)), (.sl (List.map cI r6.1.Y)), (.row (.top 500001) 94)]), (500001, .row 94 [] (List.map (cS cB) r6.1.On)), (500002, .box [(.sl (List.map cI r8.1.X)), (.sl (List.map cI r8.1.Y)), (.row (.top 500003) 94)]), (500003, .row 94 [] (List.map (cS cB) r8.1.On))]⟩ (here (by kernel_rfl)) ?_
          refine sem_seq (by kernel_rfl) ?_
          refine sem_block (by kernel_rfl) ?_
          refine sem_seq (by kernel_rfl) ?_
          refine sem_drawN [] [] [] [] [] 16 (by kernel_rfl) (by kernel_rfl) (by kernel_rfl) ?_
          refine evd_run 3 (by kernel_rfl) ?_
          obtain ⟨x1077, hx1077, h⟩ := bindS h
          refine evd_val (by kernel_rfl) (st_idxO (c := (cS cB)) (l := r6.1.On) (i := s727) (kd := .i64) (kk := (.top 500001)) (e := 94) (sz := 1) (by kernel_rfl) (by kernel_rfl) hx1077 rfl) (by kernel_rfl) (by kernel_rfl) ?_
          refine evd_val (by kernel_rfl) (st_ldO (c := (cS cB)) (l := r6.1.On) (i := (Int.toNat s727)) (v := (.sl (List.map cB x1077))) (agg := false) (sz := 1) (kk := (.top 500001)) (e := 94) (off := 0) (J := []) (by kernel_rfl) (by kernel_rfl) (by kernel_rfl) ((idxS hx1077).2) (by kernel_rfl)) (by kernel_rfl) (by kernel_rfl) ?_
          refine evd_run 1 (by kernel_rfl) ?_
          obtain ⟨x1078, hx1078, h⟩ := bindS h
          refine evd_val (by kernel_rfl) (st_idx (c := cB) (l := x1077) (i := s1024) (kd := .i64) (sz := 1) (by kernel_rfl) hx1078 rfl) (by kernel_rfl) (by kernel_rfl) ?_
          refine evd_run 4 (by kernel_rfl) ?_
          obtain ⟨x1079, hx1079, h⟩ := bindS h
          refine evd_val (by kernel_rfl) (st_idxO (c := (cS cB)) (l := r8.1.On) (i := s727) (kd := .i64) (kk := (.top 500003)) (e := 94) (sz := 1) (by kernel_rfl) (by kernel_rfl) hx1079 rfl) (by kernel_rfl) (by kernel_rfl) ?_
          refine evd_val (by kernel_rfl) (st_ldO (c := (cS cB)) (l := r8.1.On) (i := (Int.toNat s727)) (v := (.sl (List.map cB x1079))) (agg := false) (sz := 1) (kk := (.top 500003)) (e := 94) (off := 0) (J := []) (by kernel_rfl) (by kernel_rfl) (by kernel_rfl) ((idxS hx1079).2) (by kernel_rfl)) (by kernel_rfl) (by kernel_rfl) ?_
          refine evd_run 1 (by kernel_rfl) ?_
          obtain ⟨x1080, hx1080, h⟩ := bindS h
          refine evd_val (by kernel_rfl) (st_idx (c := cB) (l := x1079) (i := s1024) (kd := .i64) (sz := 1) (by kernel_rfl) hx1080 rfl) (by kernel_rfl) (by kernel_rfl) ?_
          refine evd_run 1 (by kernel_rfl) ?_
          refine evd_end (by kernel_rfl) ?_
          refine evo_run 1 (by kernel_rfl) ?_
          refine evo_endS (by kernel_rfl) (fun τ hτ => ?_)
          refine th_normalS hτ ⟨[(5, (.ptr 500000 0)), (6, (.ptr 500002 0)), (7, (vI s727)), (8, (vI s1024)), (52, (vB (!(x1078 == x1080))))], [(500000, .box [(.sl (List.map cI r6.1.X)), (.sl (List.map cI r6.1.Y)), (.row (.top 500001) 94)]), (500001, .row 94 [] (List.map (cS cB) r6.1.On)), (500002, .box [(.sl (List.map cI r8.1.X)), (.sl (List.map cI r8.1.Y)), (.row (.top 500003) 94)]), (500003, .row 94 [] (List.map (cS cB) r8.1.On))]⟩ (here (by kernel_rfl)) ?_
          refine sem_cond (!(x1078 == x1080)) (by kernel_rfl) (by kernel_rfl) (fun hb => ?_) (fun hb => ?_)
          · replace h := iteT hb h
            refine sem_seq (by kernel_rfl) ?_
            refine sem_region (by kernel_rfl) ?_
            refine evs_run 1 (by kernel_rfl) ?_
            refine evs_endS (by kernel_rfl) (fun τ hτ => ?_)
            refine th_normalS hτ ⟨[(4, (vB false))], []⟩ (here (by kernel_rfl)) ?_
            refine sem_retS (by kernel_rfl) (fun τ hτ => ?_)
            refine bl_ret ?_
            refine th_ret ?_
            obtain rfl := Option.some.inj h
            exact lk_outS hτ rfl (here (by kernel_rfl))
          · replace h := iteF hb h
            refine sem_skipS (by kernel_rfl) (fun τ hτ => ?_)
            refine bl_normal ?_
            refine th_normalS hτ ⟨[(5, (.ptr 500000 0)), (6, (.ptr 500002 0)), (7, (vI s727)), (8, (vI s1024))], [(500000, .box [(.sl (List.map cI r6.1.X)), (.sl (List.map cI r6.1.Y)), (.row (.top 500001) 94)]), (500001, .row 94 [] (List.map (cS cB) r6.1.On)), (500002, .box [(.sl (List.map cI r8.1.X)), (.sl (List.map cI r8.1.Y)), (.row (.top 500003) 94)]), (500003, .row 94 [] (List.map (cS cB) r8.1.On))]⟩ (here (by kernel_rfl)) ?_
            refine sem_region (by kernel_rfl) ?_
            refine evs_run 3 (by kernel_rfl) ?_
            refine evs_endS (by kernel_rfl) (fun τ hτ => ?_)
            obtain rfl := Option.some.inj h
            exact lk_nextS hτ (here (by kernel_rfl))
        · replace h := iteF hb h
          refine sem_exitS 2 (by kernel_rfl) rfl (fun τ hτ => ?_)
          refine th_exit ?_
          obtain rfl := Option.some.inj h
          exact lk_outS hτ rfl (here (by kernel_rfl))
      · intro x
        rcases x with _ | _ <;> rfl
      · intro τ hτ
        rcases x1081 with j1082 | j1083
        · refine bl_ret ?_
          refine bl_ret ?_
          refine th_ret ?_
          obtain rfl := Option.some.inj h
          exact lk_outS hτ rfl (here (by kernel_rfl))
        · refine bl_hit (by kernel_rfl) ?_
          refine bl_normal ?_
          refine th_normalS hτ ⟨[(5, (.ptr 500000 0)), (6, (.ptr 500002 0)), (7, (vI s727))], [(500000, .box [(.sl (List.map cI r6.1.X)), (.sl (List.map cI r6.1.Y)), (.row (.top 500001) 94)]), (500001, .row 94 [] (List.map (cS cB) r6.1.On)), (500002, .box [(.sl (List.map cI r8.1.X)), (.sl (List.map cI r8.1.Y)), (.row (.top 500003) 94)]), (500003, .row 94 [] (List.map (cS cB) r8.1.On))]⟩ (here (by kernel_rfl)) ?_
          refine sem_region (by kernel_rfl) ?_
          refine evs_run 3 (by kernel_rfl) ?_
          refine evs_endS (by kernel_rfl) (fun τ hτ => ?_)
          obtain rfl := Option.some.inj h
          exact lk_nextS hτ (here (by kernel_rfl))
    · replace h := iteF hb h
      refine sem_exitS 0 (by kernel_rfl) rfl (fun τ hτ => ?_)
      refine th_exit ?_
      obtain rfl := Option.some.inj h
      exact lk_outS hτ rfl (here (by kernel_rfl))
  · intro x
    rcases x with _ | _ <;> rfl
  · intro τ hτ
    rcases x1084 with j1085 | j1086
    · refine bl_ret ?_
      refine th_ret ?_
      obtain rfl := Option.some.inj h
      exact rk_ret hτ [(4, (vB false))] (here (by kernel_rfl)) (by kernel_rfl)
    · refine bl_hit (by kernel_rfl) ?_
      refine th_normalS hτ ⟨[], []⟩ (here (by kernel_rfl)) ?_
      refine sem_seq (by kernel_rfl) ?_
      refine sem_region (by kernel_rfl) ?_
      refine evs_run 1 (by kernel_rfl) ?_
      refine evs_endS (by kernel_rfl) (fun τ hτ => ?_)
      refine th_normalS hτ ⟨[(4, (vB true))], []⟩ (here (by kernel_rfl)) ?_
      refine sem_retS (by kernel_rfl) (fun τ hτ => ?_)
      obtain rfl := Option.some.inj h
      exact rk_ret hτ [(4, (vB true))] (here (by kernel_rfl)) (by kernel_rfl)
theorem W.sheetmetalref01_SameRegion_ok {a : (List Rect)} {b : (List Rect)} {r : Bool × Int} (h : sheetmetalref01_SameRegion a b = some r) : PC G.P 54 [(.sl (List.map c_Rect a)), (.sl (List.map c_Rect b))] [] (.tup [(vB r.1), (vI r.2)]) [] := by
  refine pc_of G (fn := Try.f54) Try.func54 (by kernel_rfl) (by kernel_rfl) (by kernel_rfl) (by kernel_rfl) (by kernel_rfl) ?_
  refine sem_set ⟨[(0, (.sl (List.map c_Rect a))), (1, (.sl (List.map c_Rect b)))], []⟩ (by kernel_rfl) ?_
  refine sem_seq (by kernel_rfl) ?_
  refine sem_region (by kernel_rfl) ?_
  refine evs_run 2 (by kernel_rfl) ?_
  refine evs_endS (by kernel_rfl) (fun τ hτ => ?_)
  refine th_normalS hτ ⟨[(0, (.sl (List.map c_Rect a))), (1, (.sl (List.map c_Rect b)))], []⟩ (here (by kernel_rfl)) ?_
  refine sem_seq (by kernel_rfl) ?_
  refine sem_region (by kernel_rfl) ?_
  refine evs_run 1 (by kernel_rfl) ?_
  obtain ⟨r3, hr3, h⟩ := bindS h
  refine evs_callP [] (by kernel_rfl) (W.sheetmetalref01_CheckRects_ok hr3) (by kernel_rfl) (.inl rfl) (by kernel_rfl) ?_
  refine evs_run 1 (by kernel_rfl) ?_
  obtain ⟨r4, hr4, h⟩ := bindS h
  refine evs_callP [] (by kernel_rfl) (W.sheetmetalref01_CheckRects_ok hr4) (by kernel_rfl) (.inl rfl) (by kernel_rfl) ?_
  refine evs_run 2 (by kernel_rfl) ?_
  refine evs_endS (by kernel_rfl) (fun τ hτ => ?_)
  refine th_normalS hτ ⟨[(0, (.sl (List.map c_Rect a))), (1, (.sl (List.map c_Rect b))), (6, (vI r3)), (7, (vI r4))], []⟩ (here (by kernel_rfl)) ?_
  refine sem_seq (by kernel_rfl) ?_
  refine sem_seq (by kernel_rfl) ?_
  obtain ⟨j6, hj6, h⟩ := bindS h
  refine sem_regionC ⟨[(0, (.sl (List.map c_Rect a))), (1, (.sl (List.map c_Rect b))), (6, (vI r3)), (7, (vI r4)), (17, (vB j6))], []⟩ (by kernel_rfl) ?_ (fun τ hτ => ?_)
  · replace h := hj6
    refine evs_run 3 (by kernel_rfl) ?_
    refine evs_split (r3 == 4) (fun b0 => ⟨[(0, (.sl (List.map c_Rect a))), (1, (.sl (List.map c_Rect b))), (6, (vI r3)), (7, (vI r4)), (14, (vB b0))], []⟩) (by kernel_rfl) (fun hb => ?_) (fun hb => ?_)
    · replace h := iteT hb h
      refine evs_run 3 (by kernel_rfl) ?_
      refine evs_endS (by kernel_rfl) (fun τ hτ => ?_)
      obtain rfl := Option.some.inj h
      exact leafC hτ (here (by kernel_rfl))
    · replace h := iteF hb h
      refine evs_run 3 (by kernel_rfl) ?_
      refine evs_endS (by kernel_rfl) (fun τ hτ => ?_)
      obtain rfl := Option.some.inj h
      exact leafC hτ (here (by kernel_rfl))
  refine th_normalS hτ ⟨[(0, (.sl (List.map c_Rect a))), (1, (.sl (List.map c_Rect b))), (6, (vI r3)), (7, (vI r4)), (17, (vB j6))], []⟩ (here (by kernel_rfl)) ?_
  refine sem_cond j6 (by kernel_rfl) (by kernel_rfl) (fun hb => ?_) (fun hb => ?_)
  · replace h := iteT hb h
    refine sem_seq (by kernel_rfl) ?_
    refine sem_region (by kernel_rfl) ?_
    refine evs_run 2 (by kernel_rfl) ?_
    refine evs_endS (by kernel_rfl) (fun τ hτ => ?_)
    refine th_normalS hτ ⟨[(4, (vB false)), (5, (vI 4))], []⟩ (here (by kernel_rfl)) ?_
    refine sem_retS (by kernel_rfl) (fun τ hτ => ?_)
    refine th_ret ?_
    obtain rfl := Option.some.inj h
    exact rk_ret hτ [(4, (vB false)), (5, (vI 4))] (here (by kernel_rfl)) (by kernel_rfl)
  · replace h := iteF hb h
    refine sem_skipS (by kernel_rfl) (fun τ hτ => ?_)
    refine th_normalS hτ ⟨[(0, (.sl (List.map c_Rect a))), (1, (.sl (List.map c_Rect b))), (6, (vI r3)), (7, (vI r4))], []⟩ (here (by kernel_rfl)) ?_
    refine sem_seq (by kernel_rfl) ?_
    refine sem_seq (by kernel_rfl) ?_
    obtain ⟨j8, hj8, h⟩ := bindS h
    refine sem_regionC ⟨[(0, (.sl (List.map c_Rect a))), (1, (.sl (List.map c_Rect b))), (23, (vB j8))], []⟩ (by kernel_rfl) ?_ (fun τ hτ => ?_)
    · replace h := hj8
      refine evs_run 3 (by kernel_rfl) ?_
      refine evs_split (r3 != 0) (fun b0 => ⟨[(0, (.sl (List.map c_Rect a))), (1, (.sl (List.map c_Rect b))), (7, (vI r4)), (20, (vB b0))], []⟩) (by kernel_rfl) (fun hb => ?_) (fun hb => ?_)
      · replace h := iteT hb h
        refine evs_run 3 (by kernel_rfl) ?_
        refine evs_endS (by kernel_rfl) (fun τ hτ => ?_)
        obtain rfl := Option.some.inj h
        exact leafC hτ (here (by kernel_rfl))
      · replace h := iteF hb h
        refine evs_run 3 (by kernel_rfl) ?_
        refine evs_endS (by kernel_rfl) (fun τ hτ => ?_)
        obtain rfl := Option.some.inj h
        exact leafC hτ (here (by kernel_rfl))
    refine th_normalS hτ ⟨[(0, (.sl (List.map c_Rect a))), (1, (.sl (List.map c_Rect b))), (23, (vB j8))], []⟩ (here (by kernel_rfl)) ?_
    refine sem_cond j8 (by kernel_rfl) (by kernel_rfl) (fun hb => ?_) (fun hb => ?_)
    · replace h := iteT hb h
      refine sem_seq (by kernel_rfl) ?_
      refine sem_region (by kernel_rfl) ?_
      refine evs_run 2 (by kernel_rfl) ?_
      refine evs_endS (by kernel_rfl) (fun τ hτ => ?_)
      refine th_normalS hτ ⟨[(4, (vB false)), (5, (vI 1))], []⟩ (here (by kernel_rfl)) ?_
      refine sem_retS (by kernel_rfl) (fun τ hτ => ?_)
      refine th_ret ?_
      obtain rfl := Option.some.inj h
      exact rk_ret hτ [(4, (vB false)), (5, (vI 1))] (here (by kernel_rfl)) (by kernel_rfl)
    · replace h := iteF hb h
      refine sem_skipS (by kernel_rfl) (fun τ hτ => ?_)
      refine th_normalS hτ ⟨[(0, (.sl (List.map c_Rect a))), (1, (.sl (List.map c_Rect b)))], []⟩ (here (by kernel_rfl)) ?_
      refine sem_seq (by kernel_rfl) ?_
      refine sem_region (by kernel_rfl) ?_
      refine evs_run 2 (by kernel_rfl) ?_
      obtain ⟨r10, hr10, h⟩ := bindS h
      refine evs_callP [] (by kernel_rfl) (W.sheetmetalref01_sameCells_ok hr10) (by kernel_rfl) (.inl rfl) (by kernel_rfl) ?_
      refine evs_run 2 (by kernel_rfl) ?_
      refine evs_endS (by kernel_rfl) (fun τ hτ => ?_)
      refine th_normalS hτ ⟨[(4, (vB r10)), (5, (vI 0))], []⟩ (here (by kernel_rfl)) ?_
      refine sem_retS (by kernel_rfl) (fun τ hτ => ?_)
      obtain rfl := Option.some.inj h
      exact rk_ret hτ [(4, (vB r10)), (5, (vI 0))] (here (by kernel_rfl)) (by kernel_rfl)
theorem W.sheetmetallaw01_GeomAreas_ok {a : (List Rect)} {b : (List Rect)} {r : Bool} (h : sheetmetallaw01_GeomAreas a b = some r) : PC G.P 15 [(.sl (List.map c_Rect a)), (.sl (List.map c_Rect b))] [] (vB r) [] := by
  refine pc_of G (fn := Try.f15) Try.func15 (by kernel_rfl) (by kernel_rfl) (by kernel_rfl) (by kernel_rfl) (by kernel_rfl) ?_
  refine sem_set ⟨[(0, (.sl (List.map c_Rect a))), (1, (.sl (List.map c_Rect b)))], []⟩ (by kernel_rfl) ?_
  refine sem_seq (by kernel_rfl) ?_
  refine sem_region (by kernel_rfl) ?_
  refine evs_run 1 (by kernel_rfl) ?_
  refine evs_endS (by kernel_rfl) (fun τ hτ => ?_)
  refine th_normalS hτ ⟨[(0, (.sl (List.map c_Rect a))), (1, (.sl (List.map c_Rect b)))], []⟩ (here (by kernel_rfl)) ?_
  refine sem_seq (by kernel_rfl) ?_
  refine sem_seq (by kernel_rfl) ?_
  obtain ⟨j10, hj10, h⟩ := bindS h
  refine sem_regionC ⟨[(0, (.sl (List.map c_Rect a))), (1, (.sl (List.map c_Rect b))), (18, (vB j10))], []⟩ (by kernel_rfl) ?_ (fun τ hτ => ?_)
  · replace h := hj10
    refine evs_run 1 (by kernel_rfl) ?_
    obtain ⟨r11, hr11, h⟩ := bindS h
    refine evs_callP [] (by kernel_rfl) (W.sheetmetallaw01_Many_ok hr11) (by kernel_rfl) (.inl rfl) (by kernel_rfl) ?_
    refine evs_run 1 (by kernel_rfl) ?_
    refine evs_split r11 (fun b0 => ⟨[(0, (.sl (List.map c_Rect a))), (1, (.sl (List.map c_Rect b))), (15, (vB b0))], []⟩) (by kernel_rfl) (fun hb => ?_) (fun hb => ?_)
    · replace h := iteT hb h
      refine evs_run 3 (by kernel_rfl) ?_
      refine evs_endS (by kernel_rfl) (fun τ hτ => ?_)
      obtain rfl := Option.some.inj h
      exact leafC hτ (here (by kernel_rfl))
    · replace h := iteF hb h
      refine evs_run 1 (by kernel_rfl) ?_
      obtain ⟨r12, hr12, h⟩ := bindS h
      refine evs_callP [] (by kernel_rfl) (W.sheetmetallaw01_Many_ok hr12) (by kernel_rfl) (.inl rfl) (by kernel_rfl) ?_
      refine evs_run 1 (by kernel_rfl) ?_
      refine evs_endS (by kernel_rfl) (fun τ hτ => ?_)
      obtain rfl := Option.some.inj h
      exact leafC hτ (here (by kernel_rfl))
  refine th_normalS hτ ⟨[(0, (.sl (List.map c_Rect a))), (1, (.sl (List.map c_Rect b))), (18, (vB j10))], []⟩ (here (by kernel_rfl)) ?_
  refine sem_cond j10 (by kernel_rfl) (by kernel_rfl) (fun hb => ?_) (fun hb => ?_)
  · replace h := iteT hb h
    refine sem_seq (by kernel_rfl) ?_
    refine sem_region (by kernel_rfl) ?_
    obtain ⟨r14, hr14, h⟩ := bindS h
    refine evs_callP [] (by kernel_rfl) (W.sheetmetallaw01_known_ok hr14) (by kernel_rfl) (.inl rfl) (by kernel_rfl) ?_
    refine evs_run 1 (by kernel_rfl) ?_
    refine evs_endS (by kernel_rfl) (fun τ hτ => ?_)
    refine th_normalS hτ ⟨[(4, (vB r14))], []⟩ (here (by kernel_rfl)) ?_
    refine sem_retS (by kernel_rfl) (fun τ hτ => ?_)
    refine th_ret ?_
    obtain rfl := Option.some.inj h
    exact rk_ret hτ [(4, (vB r14))] (here (by kernel_rfl)) (by kernel_rfl)
  · replace h := iteF hb h
    refine sem_skipS (by kernel_rfl) (fun τ hτ => ?_)
    refine th_normalS hτ ⟨[(0, (.sl (List.map c_Rect a))), (1, (.sl (List.map c_Rect b)))], []⟩ (here (by kernel_rfl)) ?_
    refine sem_seq (by kernel_rfl) ?_
    refine sem_region (by kernel_rfl) ?_
    refine evs_run 1 (by kernel_rfl) ?_
    obtain ⟨r16, hr16, h⟩ := bindS h
    refine evs_callP [] (by kernel_rfl) (W.geom_Area_ok hr16) (by kernel_rfl) (.inl rfl) (by kernel_rfl) ?_
    refine evs_run 5 (by kernel_rfl) ?_
    refine evs_endS (by kernel_rfl) (fun τ hτ => ?_)
    refine th_normalS hτ ⟨[(0, (.sl (List.map c_Rect a))), (1, (.sl (List.map c_Rect b))), (5, (vI r16.1)), (6, (vI r16.2))], []⟩ (here (by kernel_rfl)) ?_
    refine sem_seq (by kernel_rfl) ?_
    refine sem_region (by kernel_rfl) ?_
    refine evs_run 1 (by kernel_rfl) ?_
    obtain ⟨r18, hr18, h⟩ := bindS h
    refine evs_callP [] (by kernel_rfl) (W.sheetmetalref01_Area_ok hr18) (by kernel_rfl) (.inl rfl) (by kernel_rfl) ?_
    refine evs_run 5 (by kernel_rfl) ?_
    refine evs_endS (by kernel_rfl) (fun τ hτ => ?_)
    refine th_normalS hτ ⟨[(0, (.sl (List.map c_Rect a))), (1, (.sl (List.map c_Rect b))), (5, (vI r16.1)), (6, (vI r16.2)), (7, (vI r18.1)), (8, (vI r18.2))], []⟩ (here (by kernel_rfl)) ?_
    refine sem_seq (by kernel_rfl) ?_
    refine sem_region (by kernel_rfl) ?_
    refine evs_run 2 (by kernel_rfl) ?_
    obtain ⟨r20, hr20, h⟩ := bindS h
    refine evs_callP [] (by kernel_rfl) (W.geom_SameRegion_ok hr20) (by kernel_rfl) (.inl rfl) (by kernel_rfl) ?_
    refine evs_run 5 (by kernel_rfl) ?_
    refine evs_endS (by kernel_rfl) (fun τ hτ => ?_)
    refine th_normalS hτ ⟨[(0, (.sl (List.map c_Rect a))), (1, (.sl (List.map c_Rect b))), (5, (vI r16.1)), (6, (vI r16.2)), (7, (vI r18.1)), (8, (vI r18.2)), (9, (vB r20.1)), (10, (vI r20.2))], []⟩ (here (by kernel_rfl)) ?_
    refine sem_seq (by kernel_rfl) ?_
    refine sem_region (by kernel_rfl) ?_
    refine evs_run 2 (by kernel_rfl) ?_
    obtain ⟨r22, hr22, h⟩ := bindS h
    refine evs_callP [] (by kernel_rfl) (W.sheetmetalref01_SameRegion_ok hr22) (by kernel_rfl) (.inl rfl) (by kernel_rfl) ?_
    refine evs_run 5 (by kernel_rfl) ?_
    refine evs_endS (by kernel_rfl) (fun τ hτ => ?_)
    refine th_normalS hτ ⟨[(5, (vI r16.1)), (6, (vI r16.2)), (7, (vI r18.1)), (8, (vI r18.2)), (9, (vB r20.1)), (10, (vI r20.2)), (11, (vB r22.1)), (12, (vI r22.2))], []⟩ (here (by kernel_rfl)) ?_
    refine sem_seq (by kernel_rfl) ?_
    obtain ⟨j24, hj24, h⟩ := bindS h
    refine sem_regionC ⟨[(4, (vB j24))], []⟩ (by kernel_rfl) ?_ (fun τ hτ => ?_)
    · replace h := hj24
      refine evs_run 4 (by kernel_rfl) ?_
      refine evs_split (r16.1 == r18.1) (fun b0 => ⟨[(6, (vI r16.2)), (8, (vI r18.2)), (9, (vB r20.1)), (10, (vI r20.2)), (11, (vB r22.1)), (12, (vI r22.2)), (45, (vB b0))], []⟩) (by kernel_rfl) (fun hb => ?_) (fun hb => ?_)
      · replace h := iteT hb h
        refine evs_run 5 (by kernel_rfl) ?_
        refine evs_split (r16.2 == r18.2) (fun b0 => ⟨[(9, (vB r20.1)), (10, (vI r20.2)), (11, (vB r22.1)), (12, (vI r22.2)), (50, (vB b0))], []⟩) (by kernel_rfl) (fun hb => ?_) (fun hb => ?_)
        · replace h := iteT hb h
          refine evs_run 5 (by kernel_rfl) ?_
          refine evs_split (r20.1 == r22.1) (fun b0 => ⟨[(10, (vI r20.2)), (12, (vI r22.2)), (55, (vB b0))], []⟩) (by kernel_rfl) (fun hb => ?_) (fun hb => ?_)
          · replace h := iteT hb h
            refine evs_run 5 (by kernel_rfl) ?_
            refine evs_split (r20.2 == r22.2) (fun b0 => ⟨[(60, (vB b0))], []⟩) (by kernel_rfl) (fun hb => ?_) (fun hb => ?_)
            · replace h := iteT hb h
              obtain ⟨r25, hr25, h⟩ := bindS h
              refine evs_callP [] (by kernel_rfl) (W.sheetmetallaw01_known_ok hr25) (by kernel_rfl) (.inl rfl) (by kernel_rfl) ?_
              refine evs_run 2 (by kernel_rfl) ?_
              refine evs_endS (by kernel_rfl) (fun τ hτ => ?_)
              obtain rfl := Option.some.inj h
              exact leafC hτ (here (by kernel_rfl))
            · replace h := iteF hb h
              refine evs_run 3 (by kernel_rfl) ?_
              refine evs_endS (by kernel_rfl) (fun τ hτ => ?_)
              obtain rfl := Option.some.inj h
              exact leafC hτ (here (by kernel_rfl))
          · replace h := iteF hb h
            refine evs_run 8 (by kernel_rfl) ?_
            refine evs_endS (by kernel_rfl) (fun τ hτ => ?_)
            obtain rfl := Option.some.inj h
            exact leafC hτ (here (by kernel_rfl))
        · replace h := iteF hb h
          refine evs_run 13 (by kernel_rfl) ?_
          refine evs_endS (by kernel_rfl) (fun τ hτ => ?_)
          obtain rfl := Option.some.inj h
          exact leafC hτ (here (by kernel_rfl))
      · replace h := iteF hb h
        refine evs_run 18 (by kernel_rfl) ?_
        refine evs_endS (by kernel_rfl) (fun τ hτ => ?_)
        obtain rfl := Option.some.inj h
        exact leafC hτ (here (by kernel_rfl))
    refine th_normalS hτ ⟨[(4, (vB j24))], []⟩ (here (by kernel_rfl)) ?_
    refine sem_retS (by kernel_rfl) (fun τ hτ => ?_)
    obtain rfl := Option.some.inj h
    exact rk_ret hτ [(4, (vB j24))] (here (by kernel_rfl)) (by kernel_rfl)
end Go.Proofs.Ytiodkdpfkchkjaa
