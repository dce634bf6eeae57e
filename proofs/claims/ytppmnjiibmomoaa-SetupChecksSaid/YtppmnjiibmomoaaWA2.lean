/- Each Go function does what its model says; written by a program out of the translation. -/
import Derived.Test.YtppmnjiibmomoaaWA1
import Derived.Test.YtppmnjiibmomoaaSeMA
set_option linter.unusedVariables false
set_option linter.unusedSimpArgs false
set_option linter.unusedSectionVars false
namespace Go.Proofs.Ytppmnjiibmomoaa
open Go Go.VI Go.SM Go.Proofs
set_option maxRecDepth 100000
set_option maxHeartbeats 4000000
theorem W.sheetmetallaw05_SetupBounds_ok {needs : (List (List Int))} {stations : Int} {l : (List Window)} {r : Bool} (h : sheetmetallaw05_SetupBounds needs stations l = some r) : PC G.P 4 [(.sl (List.map (cS cI) needs)), (vI stations), (.sl (List.map c_Window l))] [] (vB r) [] := by
  refine pc_of G (fn := Try.f4) Try.func4 (by as_aux_lemma => kernel_rfl) (by as_aux_lemma => kernel_rfl) (by as_aux_lemma => kernel_rfl) (by as_aux_lemma => kernel_rfl) (by as_aux_lemma => kernel_rfl) ?_
  refine sem_set ⟨[(0, (.sl (List.map (cS cI) needs))), (1, (vI stations)), (2, (.sl (List.map c_Window l)))], []⟩ (by as_aux_lemma => kernel_rfl) ?_
  refine sem_seq (by as_aux_lemma => kernel_rfl) ?_
  refine sem_region (by as_aux_lemma => kernel_rfl) ?_
  refine evs_run 1 (by as_aux_lemma => kernel_rfl) ?_
  refine evs_endS (by as_aux_lemma => kernel_rfl) (fun τ hτ => ?_)
  refine th_normalS hτ ⟨[(0, (.sl (List.map (cS cI) needs))), (1, (vI stations)), (2, (.sl (List.map c_Window l)))], []⟩ (here (by as_aux_lemma => kernel_rfl)) ?_
  refine sem_seq (by as_aux_lemma => kernel_rfl) ?_
  refine sem_seq (by as_aux_lemma => kernel_rfl) ?_
  obtain ⟨j7, hj7, h⟩ := bindS h
  refine sem_regionC ⟨[(0, (.sl (List.map (cS cI) needs))), (1, (vI stations)), (2, (.sl (List.map c_Window l))), (19, (vB j7))], []⟩ (by as_aux_lemma => kernel_rfl) ?_ (fun τ hτ => ?_)
  · replace h := hj7
    refine evs_run 1 (by as_aux_lemma => kernel_rfl) ?_
    obtain ⟨r8, hr8, h⟩ := bindS h
    refine evs_callS [] [] [] (by as_aux_lemma => kernel_rfl) (W.sheetmetallaw05_heavy_ok hr8) (by as_aux_lemma => kernel_rfl) (by as_aux_lemma => kernel_rfl) (.inl rfl) ?_
    refine evs_run 1 (by as_aux_lemma => kernel_rfl) ?_
    refine evs_split r8 (fun b0 => ⟨[(0, (.sl (List.map (cS cI) needs))), (1, (vI stations)), (2, (.sl (List.map c_Window l))), (15, (vB b0))], []⟩) (by as_aux_lemma => kernel_rfl) (fun hb => ?_) (fun hb => ?_)
    · replace h := iteT hb h
      refine evs_run 4 (by as_aux_lemma => kernel_rfl) ?_
      refine evs_endS (by as_aux_lemma => kernel_rfl) (fun τ hτ => ?_)
      obtain rfl := Option.some.inj h
      exact leafC hτ (here (by as_aux_lemma => kernel_rfl))
    · replace h := iteF hb h
      refine evs_run 1 (by as_aux_lemma => kernel_rfl) ?_
      refine evs_op (st_len (c := c_Window) (l := l) (x := (.sl (List.map c_Window l))) (by as_aux_lemma => kernel_rfl) (by as_aux_lemma => kernel_rfl)) ?_
      refine evs_run 2 (by as_aux_lemma => kernel_rfl) ?_
      refine evs_endS (by as_aux_lemma => kernel_rfl) (fun τ hτ => ?_)
      obtain rfl := Option.some.inj h
      exact leafC hτ (here (by as_aux_lemma => kernel_rfl))
  refine th_normalS hτ ⟨[(0, (.sl (List.map (cS cI) needs))), (1, (vI stations)), (2, (.sl (List.map c_Window l))), (19, (vB j7))], []⟩ (here (by as_aux_lemma => kernel_rfl)) ?_
  refine sem_cond j7 (by as_aux_lemma => kernel_rfl) (by as_aux_lemma => kernel_rfl) (fun hb => ?_) (fun hb => ?_)
  · replace h := iteT hb h
    refine sem_seq (by as_aux_lemma => kernel_rfl) ?_
    refine sem_region (by as_aux_lemma => kernel_rfl) ?_
    obtain ⟨r10, hr10, h⟩ := bindS h
    refine evs_callS [] [] [] (by as_aux_lemma => kernel_rfl) (W.sheetmetallaw05_known_ok hr10) (by as_aux_lemma => kernel_rfl) (by as_aux_lemma => kernel_rfl) (.inl rfl) ?_
    refine evs_run 1 (by as_aux_lemma => kernel_rfl) ?_
    refine evs_endS (by as_aux_lemma => kernel_rfl) (fun τ hτ => ?_)
    refine th_normalS hτ ⟨[(6, (vB r10))], []⟩ (here (by as_aux_lemma => kernel_rfl)) ?_
    refine sem_retS (by as_aux_lemma => kernel_rfl) (fun τ hτ => ?_)
    refine th_ret ?_
    obtain rfl := Option.some.inj h
    exact rk_ret hτ [(6, (vB r10))] (here (by as_aux_lemma => kernel_rfl)) (by as_aux_lemma => kernel_rfl)
  · replace h := iteF hb h
    refine sem_skipS (by as_aux_lemma => kernel_rfl) (fun τ hτ => ?_)
    refine th_normalS hτ ⟨[(0, (.sl (List.map (cS cI) needs))), (1, (vI stations)), (2, (.sl (List.map c_Window l)))], []⟩ (here (by as_aux_lemma => kernel_rfl)) ?_
    refine sem_seq (by as_aux_lemma => kernel_rfl) ?_
    refine sem_region (by as_aux_lemma => kernel_rfl) ?_
    refine evs_run 3 (by as_aux_lemma => kernel_rfl) ?_
    obtain ⟨r12, hr12, h⟩ := bindS h
    refine evs_callS [] [] [] (by as_aux_lemma => kernel_rfl) (W.setup_CheckBound_ok hr12) (by as_aux_lemma => kernel_rfl) (by as_aux_lemma => kernel_rfl) (.inl rfl) ?_
    refine evs_run 5 (by as_aux_lemma => kernel_rfl) ?_
    refine evs_endS (by as_aux_lemma => kernel_rfl) (fun τ hτ => ?_)
    refine th_normalS hτ ⟨[(0, (.sl (List.map (cS cI) needs))), (1, (vI stations)), (2, (.sl (List.map c_Window l))), (7, (vI r12.1)), (8, (vI r12.2))], []⟩ (here (by as_aux_lemma => kernel_rfl)) ?_
    refine sem_seq (by as_aux_lemma => kernel_rfl) ?_
    refine sem_region (by as_aux_lemma => kernel_rfl) ?_
    refine evs_run 3 (by as_aux_lemma => kernel_rfl) ?_
    obtain ⟨r14, hr14, h⟩ := bindS h
    refine evs_callS [] [] [] (by as_aux_lemma => kernel_rfl) (W.sheetmetalref05_CheckBound_ok hr14) (by as_aux_lemma => kernel_rfl) (by as_aux_lemma => kernel_rfl) (.inl rfl) ?_
    refine evs_run 5 (by as_aux_lemma => kernel_rfl) ?_
    refine evs_endS (by as_aux_lemma => kernel_rfl) (fun τ hτ => ?_)
    refine th_normalS hτ ⟨[(0, (.sl (List.map (cS cI) needs))), (1, (vI stations)), (7, (vI r12.1)), (8, (vI r12.2)), (9, (vI r14.1)), (10, (vI r14.2))], []⟩ (here (by as_aux_lemma => kernel_rfl)) ?_
    refine sem_seq (by as_aux_lemma => kernel_rfl) ?_
    refine sem_seq (by as_aux_lemma => kernel_rfl) ?_
    obtain ⟨j16, hj16, h⟩ := bindS h
    refine sem_regionC ⟨[(0, (.sl (List.map (cS cI) needs))), (1, (vI stations)), (7, (vI r12.1)), (8, (vI r12.2)), (42, (vB j16))], []⟩ (by as_aux_lemma => kernel_rfl) ?_ (fun τ hτ => ?_)
    · replace h := hj16
      refine evs_run 4 (by as_aux_lemma => kernel_rfl) ?_
      refine evs_split (r12.1 != r14.1) (fun b0 => ⟨[(0, (.sl (List.map (cS cI) needs))), (1, (vI stations)), (7, (vI r12.1)), (8, (vI r12.2)), (10, (vI r14.2)), (38, (vB b0))], []⟩) (by as_aux_lemma => kernel_rfl) (fun hb => ?_) (fun hb => ?_)
      · replace h := iteT hb h
        refine evs_run 4 (by as_aux_lemma => kernel_rfl) ?_
        refine evs_endS (by as_aux_lemma => kernel_rfl) (fun τ hτ => ?_)
        obtain rfl := Option.some.inj h
        exact leafC hτ (here (by as_aux_lemma => kernel_rfl))
      · replace h := iteF hb h
        refine evs_run 4 (by as_aux_lemma => kernel_rfl) ?_
        refine evs_endS (by as_aux_lemma => kernel_rfl) (fun τ hτ => ?_)
        obtain rfl := Option.some.inj h
        exact leafC hτ (here (by as_aux_lemma => kernel_rfl))
    refine th_normalS hτ ⟨[(0, (.sl (List.map (cS cI) needs))), (1, (vI stations)), (7, (vI r12.1)), (8, (vI r12.2)), (42, (vB j16))], []⟩ (here (by as_aux_lemma => kernel_rfl)) ?_
    refine sem_cond j16 (by as_aux_lemma => kernel_rfl) (by as_aux_lemma => kernel_rfl) (fun hb => ?_) (fun hb => ?_)
    · replace h := iteT hb h
      refine sem_seq (by as_aux_lemma => kernel_rfl) ?_
      refine sem_region (by as_aux_lemma => kernel_rfl) ?_
      refine evs_run 1 (by as_aux_lemma => kernel_rfl) ?_
      refine evs_endS (by as_aux_lemma => kernel_rfl) (fun τ hτ => ?_)
      refine th_normalS hτ ⟨[(6, (vB false))], []⟩ (here (by as_aux_lemma => kernel_rfl)) ?_
      refine sem_retS (by as_aux_lemma => kernel_rfl) (fun τ hτ => ?_)
      refine th_ret ?_
      obtain rfl := Option.some.inj h
      exact rk_ret hτ [(6, (vB false))] (here (by as_aux_lemma => kernel_rfl)) (by as_aux_lemma => kernel_rfl)
    · replace h := iteF hb h
      refine sem_skipS (by as_aux_lemma => kernel_rfl) (fun τ hτ => ?_)
      refine th_normalS hτ ⟨[(0, (.sl (List.map (cS cI) needs))), (1, (vI stations)), (7, (vI r12.1)), (8, (vI r12.2))], []⟩ (here (by as_aux_lemma => kernel_rfl)) ?_
      refine sem_seq (by as_aux_lemma => kernel_rfl) ?_
      refine sem_seq (by as_aux_lemma => kernel_rfl) ?_
      refine sem_region (by as_aux_lemma => kernel_rfl) ?_
      refine evs_run 2 (by as_aux_lemma => kernel_rfl) ?_
      refine evs_endS (by as_aux_lemma => kernel_rfl) (fun τ hτ => ?_)
      refine th_normalS hτ ⟨[(0, (.sl (List.map (cS cI) needs))), (1, (vI stations)), (7, (vI r12.1)), (44, (vB (r12.2 != 0)))], []⟩ (here (by as_aux_lemma => kernel_rfl)) ?_
      refine sem_cond (r12.2 != 0) (by as_aux_lemma => kernel_rfl) (by as_aux_lemma => kernel_rfl) (fun hb => ?_) (fun hb => ?_)
      · replace h := iteT hb h
        refine sem_seq (by as_aux_lemma => kernel_rfl) ?_
        refine sem_region (by as_aux_lemma => kernel_rfl) ?_
        obtain ⟨r20, hr20, h⟩ := bindS h
        refine evs_callS [] [] [] (by as_aux_lemma => kernel_rfl) (W.sheetmetallaw05_known_ok hr20) (by as_aux_lemma => kernel_rfl) (by as_aux_lemma => kernel_rfl) (.inl rfl) ?_
        refine evs_run 1 (by as_aux_lemma => kernel_rfl) ?_
        refine evs_endS (by as_aux_lemma => kernel_rfl) (fun τ hτ => ?_)
        refine th_normalS hτ ⟨[(6, (vB r20))], []⟩ (here (by as_aux_lemma => kernel_rfl)) ?_
        refine sem_retS (by as_aux_lemma => kernel_rfl) (fun τ hτ => ?_)
        refine th_ret ?_
        obtain rfl := Option.some.inj h
        exact rk_ret hτ [(6, (vB r20))] (here (by as_aux_lemma => kernel_rfl)) (by as_aux_lemma => kernel_rfl)
      · replace h := iteF hb h
        refine sem_skipS (by as_aux_lemma => kernel_rfl) (fun τ hτ => ?_)
        refine th_normalS hτ ⟨[(0, (.sl (List.map (cS cI) needs))), (1, (vI stations)), (7, (vI r12.1))], []⟩ (here (by as_aux_lemma => kernel_rfl)) ?_
        refine sem_seq (by as_aux_lemma => kernel_rfl) ?_
        refine sem_region (by as_aux_lemma => kernel_rfl) ?_
        refine evs_run 2 (by as_aux_lemma => kernel_rfl) ?_
        obtain ⟨r22, hr22, h⟩ := bindS h
        refine evs_callS [] [] [] (by as_aux_lemma => kernel_rfl) (W.setup_Least_ok hr22) (by as_aux_lemma => kernel_rfl) (by as_aux_lemma => kernel_rfl) (.inl rfl) ?_
        refine evs_run 5 (by as_aux_lemma => kernel_rfl) ?_
        refine evs_endS (by as_aux_lemma => kernel_rfl) (fun τ hτ => ?_)
        refine th_normalS hτ ⟨[(7, (vI r12.1)), (11, (vI r22.1)), (12, (vI r22.2))], []⟩ (here (by as_aux_lemma => kernel_rfl)) ?_
        refine sem_seq (by as_aux_lemma => kernel_rfl) ?_
        obtain ⟨j24, hj24, h⟩ := bindS h
        refine sem_regionC ⟨[(6, (vB j24))], []⟩ (by as_aux_lemma => kernel_rfl) ?_ (fun τ hτ => ?_)
        · replace h := hj24
          refine evs_run 3 (by as_aux_lemma => kernel_rfl) ?_
          refine evs_split (r22.2 == 0) (fun b0 => ⟨[(7, (vI r12.1)), (11, (vI r22.1)), (54, (vB b0))], []⟩) (by as_aux_lemma => kernel_rfl) (fun hb => ?_) (fun hb => ?_)
          · replace h := iteT hb h
            refine evs_run 5 (by as_aux_lemma => kernel_rfl) ?_
            refine evs_split (decide (r12.1 ≤ r22.1)) (fun b0 => ⟨[(59, (vB b0))], []⟩) (by as_aux_lemma => kernel_rfl) (fun hb => ?_) (fun hb => ?_)
            · replace h := iteT hb h
              obtain ⟨r25, hr25, h⟩ := bindS h
              refine evs_callS [] [] [] (by as_aux_lemma => kernel_rfl) (W.sheetmetallaw05_known_ok hr25) (by as_aux_lemma => kernel_rfl) (by as_aux_lemma => kernel_rfl) (.inl rfl) ?_
              refine evs_run 2 (by as_aux_lemma => kernel_rfl) ?_
              refine evs_endS (by as_aux_lemma => kernel_rfl) (fun τ hτ => ?_)
              obtain rfl := Option.some.inj h
              exact leafC hτ (here (by as_aux_lemma => kernel_rfl))
            · replace h := iteF hb h
              refine evs_run 3 (by as_aux_lemma => kernel_rfl) ?_
              refine evs_endS (by as_aux_lemma => kernel_rfl) (fun τ hτ => ?_)
              obtain rfl := Option.some.inj h
              exact leafC hτ (here (by as_aux_lemma => kernel_rfl))
          · replace h := iteF hb h
            refine evs_run 8 (by as_aux_lemma => kernel_rfl) ?_
            refine evs_endS (by as_aux_lemma => kernel_rfl) (fun τ hτ => ?_)
            obtain rfl := Option.some.inj h
            exact leafC hτ (here (by as_aux_lemma => kernel_rfl))
        refine th_normalS hτ ⟨[(6, (vB j24))], []⟩ (here (by as_aux_lemma => kernel_rfl)) ?_
        refine sem_retS (by as_aux_lemma => kernel_rfl) (fun τ hτ => ?_)
        obtain rfl := Option.some.inj h
        exact rk_ret hτ [(6, (vB j24))] (here (by as_aux_lemma => kernel_rfl)) (by as_aux_lemma => kernel_rfl)
theorem W.setup_Bound_ok {needs : (List (List Int))} {stations : Int} {r : (List Window) × Int} (h : setup_Bound needs stations = some r) : PC G.P 20 [(.sl (List.map (cS cI) needs)), (vI stations)] [] (.tup [(.row (.top 0) 35), (vI r.2)]) [(0, .row 35 [] (List.map c_Window r.1))] := by
  refine pc_of G (fn := Try.f20) Try.func20 (by as_aux_lemma => kernel_rfl) (by as_aux_lemma => kernel_rfl) (by as_aux_lemma => kernel_rfl) (by as_aux_lemma => kernel_rfl) (by as_aux_lemma => kernel_rfl) ?_
  refine sem_set ⟨[(0, (.sl (List.map (cS cI) needs))), (1, (vI stations))], []⟩ (by as_aux_lemma => kernel_rfl) ?_
  refine sem_seq (by as_aux_lemma => kernel_rfl) ?_
  refine sem_region (by as_aux_lemma => kernel_rfl) ?_
  refine evs_run 2 (by as_aux_lemma => kernel_rfl) ?_
  refine evs_endS (by as_aux_lemma => kernel_rfl) (fun τ hτ => ?_)
  refine th_normalS hτ ⟨[(0, (.sl (List.map (cS cI) needs))), (1, (vI stations))], []⟩ (here (by as_aux_lemma => kernel_rfl)) ?_
  refine sem_seq (by as_aux_lemma => kernel_rfl) ?_
  refine sem_seq (by as_aux_lemma => kernel_rfl) ?_
  refine sem_region (by as_aux_lemma => kernel_rfl) ?_
  refine evs_run 2 (by as_aux_lemma => kernel_rfl) ?_
  obtain ⟨r4, hr4, h⟩ := bindS h
  refine evs_callS [] [] [] (by as_aux_lemma => kernel_rfl) (W.setup_check_ok hr4) (by as_aux_lemma => kernel_rfl) (by as_aux_lemma => kernel_rfl) (.inl rfl) ?_
  refine evs_run 1 (by as_aux_lemma => kernel_rfl) ?_
  refine evs_endS (by as_aux_lemma => kernel_rfl) (fun τ hτ => ?_)
  refine th_normalS hτ ⟨[(0, (.sl (List.map (cS cI) needs))), (1, (vI stations)), (6, (vI r4))], []⟩ (here (by as_aux_lemma => kernel_rfl)) ?_
  refine sem_seq (by as_aux_lemma => kernel_rfl) ?_
  refine sem_region (by as_aux_lemma => kernel_rfl) ?_
  refine evs_run 2 (by as_aux_lemma => kernel_rfl) ?_
  refine evs_endS (by as_aux_lemma => kernel_rfl) (fun τ hτ => ?_)
  refine th_normalS hτ ⟨[(0, (.sl (List.map (cS cI) needs))), (1, (vI stations)), (6, (vI r4)), (13, (vB (r4 != 0)))], []⟩ (here (by as_aux_lemma => kernel_rfl)) ?_
  refine sem_cond (r4 != 0) (by as_aux_lemma => kernel_rfl) (by as_aux_lemma => kernel_rfl) (fun hb => ?_) (fun hb => ?_)
  · replace h := iteT hb h
    refine sem_seq (by as_aux_lemma => kernel_rfl) ?_
    refine sem_region (by as_aux_lemma => kernel_rfl) ?_
    refine evs_run 3 (by as_aux_lemma => kernel_rfl) ?_
    refine evs_endS (by as_aux_lemma => kernel_rfl) (fun τ hτ => ?_)
    refine th_normalS hτ ⟨[(4, (.row (.top 4) 35)), (5, (vI r4))], [(4, .row 35 [] (List.map c_Window []))]⟩ (here (by as_aux_lemma => kernel_rfl)) ?_
    refine sem_retS (by as_aux_lemma => kernel_rfl) (fun τ hτ => ?_)
    refine th_ret ?_
    obtain rfl := Option.some.inj h
    exact rk_ret hτ [(4, (.row (.top 0) 35)), (5, (vI r4))] (subR_prep [] [(4, 0)] (by as_aux_lemma => kernel_rfl) rfl rfl (by as_aux_lemma => kernel_rfl)) (by as_aux_lemma => kernel_rfl)
  · replace h := iteF hb h
    refine sem_skipS (by as_aux_lemma => kernel_rfl) (fun τ hτ => ?_)
    refine th_normalS hτ ⟨[(0, (.sl (List.map (cS cI) needs))), (1, (vI stations))], []⟩ (here (by as_aux_lemma => kernel_rfl)) ?_
    refine sem_seq (by as_aux_lemma => kernel_rfl) ?_
    refine sem_region (by as_aux_lemma => kernel_rfl) ?_
    refine evs_run 1 (by as_aux_lemma => kernel_rfl) ?_
    refine evs_endS (by as_aux_lemma => kernel_rfl) (fun τ hτ => ?_)
    refine th_normalS hτ ⟨[(0, (.sl (List.map (cS cI) needs))), (1, (vI stations)), (7, (.row (.top 7) 35))], [(7, .row 35 [] (List.map c_Window []))]⟩ (here (by as_aux_lemma => kernel_rfl)) ?_
    refine sem_seq (by as_aux_lemma => kernel_rfl) ?_
    refine sem_region (by as_aux_lemma => kernel_rfl) ?_
    refine evs_run 3 (by as_aux_lemma => kernel_rfl) ?_
    refine evs_endS (by as_aux_lemma => kernel_rfl) (fun τ hτ => ?_)
    refine th_normalS hτ ⟨[(0, (.sl (List.map (cS cI) needs))), (1, (vI stations)), (7, (.row (.top 7) 35)), (8, (.ptr 8 0))], [(7, .row 35 [] (List.map c_Window [])), (8, .box [(vI 0), (vI 0)])]⟩ (here (by as_aux_lemma => kernel_rfl)) ?_
    refine sem_seq (by as_aux_lemma => kernel_rfl) ?_
    refine sem_block (by as_aux_lemma => kernel_rfl) ?_
    obtain ⟨x60, hx60, h⟩ := bindS h
    refine sem_loopS (fun (s47 : (List Window) × Int × Int) => ⟨[(0, (.sl (List.map (cS cI) needs))), (1, (vI stations)), (7, (.row (.top 500000) 35)), (8, (.ptr 500001 0))], [(500000, .row 35 [] (List.map c_Window s47.1)), (500001, .box [(vI s47.2.1), (vI s47.2.2)])]⟩) (fun (x60 : (List Window)) => (.exit 0, ⟨[(7, (.row (.top 500000) 35))], [(500000, .row 35 [] (List.map c_Window x60))]⟩)) (setup_Bound_l1 needs stations) ([], 0, 0) x60 (by as_aux_lemma => kernel_rfl) (subR_prep [] [(7, 500000), (8, 500001)] (by as_aux_lemma => kernel_rfl) rfl rfl (by as_aux_lemma => kernel_rfl)) hx60 ?_ ?_ ?_
    · intro s47 r h
      refine sem_seq (by as_aux_lemma => kernel_rfl) ?_
      refine sem_seq (by as_aux_lemma => kernel_rfl) ?_
      refine sem_region (by as_aux_lemma => kernel_rfl) ?_
      refine evs_run 3 (by as_aux_lemma => kernel_rfl) ?_
      refine evs_op (st_len (c := (cS cI)) (l := needs) (x := (.sl (List.map (cS cI) needs))) (by as_aux_lemma => kernel_rfl) (by as_aux_lemma => kernel_rfl)) ?_
      refine evs_run 1 (by as_aux_lemma => kernel_rfl) ?_
      refine evs_endS (by as_aux_lemma => kernel_rfl) (fun τ hτ => ?_)
      refine th_normalS hτ ⟨[(0, (.sl (List.map (cS cI) needs))), (1, (vI stations)), (7, (.row (.top 500000) 35)), (8, (.ptr 500001 0)), (20, (vB (decide (s47.2.2 < (needs.length : Int)))))], [(500000, .row 35 [] (List.map c_Window s47.1)), (500001, .box [(vI s47.2.1), (vI s47.2.2)])]⟩ (here (by as_aux_lemma => kernel_rfl)) ?_
      refine sem_cond (decide (s47.2.2 < (needs.length : Int))) (by as_aux_lemma => kernel_rfl) (by as_aux_lemma => kernel_rfl) (fun hb => ?_) (fun hb => ?_)
      · replace h := iteT hb h
        refine sem_skipS (by as_aux_lemma => kernel_rfl) (fun τ hτ => ?_)
        refine th_normalS hτ ⟨[(0, (.sl (List.map (cS cI) needs))), (1, (vI stations)), (7, (.row (.top 500000) 35)), (8, (.ptr 500001 0))], [(500000, .row 35 [] (List.map c_Window s47.1)), (500001, .box [(vI s47.2.1), (vI s47.2.2)])]⟩ (here (by as_aux_lemma => kernel_rfl)) ?_
        refine sem_block (by as_aux_lemma => kernel_rfl) ?_
        refine sem_seq (by as_aux_lemma => kernel_rfl) ?_
        refine sem_seq (by as_aux_lemma => kernel_rfl) ?_
        refine sem_region (by as_aux_lemma => kernel_rfl) ?_
        refine evs_run 3 (by as_aux_lemma => kernel_rfl) ?_
        obtain ⟨r57, hr57, h⟩ := bindS h
        refine evs_callS [] [] [] (by as_aux_lemma => kernel_rfl) (W.setup_blocked_ok hr57) (by as_aux_lemma => kernel_rfl) (by as_aux_lemma => kernel_rfl) (.inl rfl) ?_
        refine evs_run 1 (by as_aux_lemma => kernel_rfl) ?_
        refine evs_endS (by as_aux_lemma => kernel_rfl) (fun τ hτ => ?_)
        refine th_normalS hτ ⟨[(0, (.sl (List.map (cS cI) needs))), (1, (vI stations)), (7, (.row (.top 500000) 35)), (8, (.ptr 500001 0)), (25, (vB (!r57)))], [(500000, .row 35 [] (List.map c_Window s47.1)), (500001, .box [(vI s47.2.1), (vI s47.2.2)])]⟩ (here (by as_aux_lemma => kernel_rfl)) ?_
        refine sem_cond (!r57) (by as_aux_lemma => kernel_rfl) (by as_aux_lemma => kernel_rfl) (fun hb => ?_) (fun hb => ?_)
        · replace h := iteT hb h
          refine sem_seq (by as_aux_lemma => kernel_rfl) ?_
          refine sem_region (by as_aux_lemma => kernel_rfl) ?_
          refine evs_run 5 (by as_aux_lemma => kernel_rfl) ?_
          refine evs_endS (by as_aux_lemma => kernel_rfl) (fun τ hτ => ?_)
          refine th_normalS hτ ⟨[(0, (.sl (List.map (cS cI) needs))), (1, (vI stations)), (7, (.row (.top 500000) 35)), (8, (.ptr 500001 0))], [(500000, .row 35 [] (List.map c_Window s47.1)), (500001, .box [(vI s47.2.1), (vI (iadd s47.2.2 1))])]⟩ (here (by as_aux_lemma => kernel_rfl)) ?_
          refine sem_exitS 1 (by as_aux_lemma => kernel_rfl) rfl (fun τ hτ => ?_)
          refine th_exit ?_
          refine bl_hit (by as_aux_lemma => kernel_rfl) ?_
          obtain rfl := Option.some.inj h
          exact lk_nextS hτ (here (by as_aux_lemma => kernel_rfl))
        · replace h := iteF hb h
          refine sem_skipS (by as_aux_lemma => kernel_rfl) (fun τ hτ => ?_)
          refine th_normalS hτ ⟨[(0, (.sl (List.map (cS cI) needs))), (1, (vI stations)), (7, (.row (.top 500000) 35)), (8, (.ptr 500001 0))], [(500000, .row 35 [] (List.map c_Window s47.1)), (500001, .box [(vI s47.2.1), (vI s47.2.2)])]⟩ (here (by as_aux_lemma => kernel_rfl)) ?_
          refine sem_seq (by as_aux_lemma => kernel_rfl) ?_
          refine sem_region (by as_aux_lemma => kernel_rfl) ?_
          refine evs_run 3 (by as_aux_lemma => kernel_rfl) ?_
          obtain ⟨l59, hl59, h⟩ := bindS h
          refine evs_op (st_app (c := c_Window) (l := s47.1) (l2 := [(Window.mk s47.2.1 s47.2.2)]) (x := (.sl (List.map c_Window [(Window.mk s47.2.1 s47.2.2)]))) (g := 500000) (e := 35) (sz := 2) (d := 33) (by as_aux_lemma => kernel_rfl) (by as_aux_lemma => kernel_rfl) (by as_aux_lemma => kernel_rfl) (by as_aux_lemma => kernel_rfl) (fun _ => rfl) rfl hl59) ?_
          refine evs_run 1 (by as_aux_lemma => kernel_rfl) ?_
          refine evs_endS (by as_aux_lemma => kernel_rfl) (fun τ hτ => ?_)
          refine th_normalS hτ ⟨[(0, (.sl (List.map (cS cI) needs))), (1, (vI stations)), (7, (.row (.top 500000) 35)), (8, (.ptr 500001 0))], [(500000, .row 35 [] (List.map c_Window l59)), (500001, .box [(vI s47.2.1), (vI s47.2.2)])]⟩ (here (by as_aux_lemma => kernel_rfl)) ?_
          refine sem_region (by as_aux_lemma => kernel_rfl) ?_
          refine evs_run 4 (by as_aux_lemma => kernel_rfl) ?_
          refine evs_endS (by as_aux_lemma => kernel_rfl) (fun τ hτ => ?_)
          refine bl_normal ?_
          obtain rfl := Option.some.inj h
          exact lk_nextS hτ (here (by as_aux_lemma => kernel_rfl))
      · replace h := iteF hb h
        refine sem_exitS 0 (by as_aux_lemma => kernel_rfl) rfl (fun τ hτ => ?_)
        refine th_exit ?_
        obtain rfl := Option.some.inj h
        exact lk_outS hτ rfl (here (by as_aux_lemma => kernel_rfl))
    · intro x
      rfl
    · intro τ hτ
      refine bl_hit (by as_aux_lemma => kernel_rfl) ?_
      refine th_normalS hτ ⟨[(7, (.row (.top 500000) 35))], [(500000, .row 35 [] (List.map c_Window x60))]⟩ (here (by as_aux_lemma => kernel_rfl)) ?_
      refine sem_seq (by as_aux_lemma => kernel_rfl) ?_
      refine sem_region (by as_aux_lemma => kernel_rfl) ?_
      refine evs_run 3 (by as_aux_lemma => kernel_rfl) ?_
      refine evs_endS (by as_aux_lemma => kernel_rfl) (fun τ hτ => ?_)
      refine th_normalS hτ ⟨[(4, (.row (.top 500000) 35)), (5, (vI 0))], [(500000, .row 35 [] (List.map c_Window x60))]⟩ (here (by as_aux_lemma => kernel_rfl)) ?_
      refine sem_retS (by as_aux_lemma => kernel_rfl) (fun τ hτ => ?_)
      obtain rfl := Option.some.inj h
      exact rk_ret hτ [(4, (.row (.top 0) 35)), (5, (vI 0))] (subR_prep [] [(500000, 0)] (by as_aux_lemma => kernel_rfl) rfl rfl (by as_aux_lemma => kernel_rfl)) (by as_aux_lemma => kernel_rfl)
theorem W.sheetmetalref05_Bound_ok {needs : (List (List Int))} {stations : Int} {r : (List Window) × Int} (h : sheetmetalref05_Bound needs stations = some r) : PC G.P 21 [(.sl (List.map (cS cI) needs)), (vI stations)] [] (.tup [(.row (.top 0) 35), (vI r.2)]) [(0, .row 35 [] (List.map c_Window r.1))] := by
  refine pc_of G (fn := Try.f21) Try.func21 (by as_aux_lemma => kernel_rfl) (by as_aux_lemma => kernel_rfl) (by as_aux_lemma => kernel_rfl) (by as_aux_lemma => kernel_rfl) (by as_aux_lemma => kernel_rfl) ?_
  refine sem_set ⟨[(0, (.sl (List.map (cS cI) needs))), (1, (vI stations))], []⟩ (by as_aux_lemma => kernel_rfl) ?_
  refine sem_seq (by as_aux_lemma => kernel_rfl) ?_
  refine sem_region (by as_aux_lemma => kernel_rfl) ?_
  refine evs_run 2 (by as_aux_lemma => kernel_rfl) ?_
  refine evs_endS (by as_aux_lemma => kernel_rfl) (fun τ hτ => ?_)
  refine th_normalS hτ ⟨[(0, (.sl (List.map (cS cI) needs))), (1, (vI stations))], []⟩ (here (by as_aux_lemma => kernel_rfl)) ?_
  refine sem_seq (by as_aux_lemma => kernel_rfl) ?_
  refine sem_seq (by as_aux_lemma => kernel_rfl) ?_
  refine sem_region (by as_aux_lemma => kernel_rfl) ?_
  refine evs_run 2 (by as_aux_lemma => kernel_rfl) ?_
  obtain ⟨r4, hr4, h⟩ := bindS h
  refine evs_callS [] [] [] (by as_aux_lemma => kernel_rfl) (W.sheetmetalref05_Check0_ok hr4) (by as_aux_lemma => kernel_rfl) (by as_aux_lemma => kernel_rfl) (.inl rfl) ?_
  refine evs_run 1 (by as_aux_lemma => kernel_rfl) ?_
  refine evs_endS (by as_aux_lemma => kernel_rfl) (fun τ hτ => ?_)
  refine th_normalS hτ ⟨[(0, (.sl (List.map (cS cI) needs))), (1, (vI stations)), (6, (vI r4))], []⟩ (here (by as_aux_lemma => kernel_rfl)) ?_
  refine sem_seq (by as_aux_lemma => kernel_rfl) ?_
  refine sem_region (by as_aux_lemma => kernel_rfl) ?_
  refine evs_run 2 (by as_aux_lemma => kernel_rfl) ?_
  refine evs_endS (by as_aux_lemma => kernel_rfl) (fun τ hτ => ?_)
  refine th_normalS hτ ⟨[(0, (.sl (List.map (cS cI) needs))), (1, (vI stations)), (6, (vI r4)), (14, (vB (r4 != 0)))], []⟩ (here (by as_aux_lemma => kernel_rfl)) ?_
  refine sem_cond (r4 != 0) (by as_aux_lemma => kernel_rfl) (by as_aux_lemma => kernel_rfl) (fun hb => ?_) (fun hb => ?_)
  · replace h := iteT hb h
    refine sem_seq (by as_aux_lemma => kernel_rfl) ?_
    refine sem_region (by as_aux_lemma => kernel_rfl) ?_
    refine evs_run 3 (by as_aux_lemma => kernel_rfl) ?_
    refine evs_endS (by as_aux_lemma => kernel_rfl) (fun τ hτ => ?_)
    refine th_normalS hτ ⟨[(4, (.row (.top 4) 35)), (5, (vI r4))], [(4, .row 35 [] (List.map c_Window []))]⟩ (here (by as_aux_lemma => kernel_rfl)) ?_
    refine sem_retS (by as_aux_lemma => kernel_rfl) (fun τ hτ => ?_)
    refine th_ret ?_
    obtain rfl := Option.some.inj h
    exact rk_ret hτ [(4, (.row (.top 0) 35)), (5, (vI r4))] (subR_prep [] [(4, 0)] (by as_aux_lemma => kernel_rfl) rfl rfl (by as_aux_lemma => kernel_rfl)) (by as_aux_lemma => kernel_rfl)
  · replace h := iteF hb h
    refine sem_skipS (by as_aux_lemma => kernel_rfl) (fun τ hτ => ?_)
    refine th_normalS hτ ⟨[(0, (.sl (List.map (cS cI) needs))), (1, (vI stations))], []⟩ (here (by as_aux_lemma => kernel_rfl)) ?_
    refine sem_seq (by as_aux_lemma => kernel_rfl) ?_
    refine sem_region (by as_aux_lemma => kernel_rfl) ?_
    refine evs_run 1 (by as_aux_lemma => kernel_rfl) ?_
    refine evs_endS (by as_aux_lemma => kernel_rfl) (fun τ hτ => ?_)
    refine th_normalS hτ ⟨[(0, (.sl (List.map (cS cI) needs))), (1, (vI stations)), (7, (.row (.top 7) 35))], [(7, .row 35 [] (List.map c_Window []))]⟩ (here (by as_aux_lemma => kernel_rfl)) ?_
    refine sem_seq (by as_aux_lemma => kernel_rfl) ?_
    refine sem_region (by as_aux_lemma => kernel_rfl) ?_
    refine evs_run 1 (by as_aux_lemma => kernel_rfl) ?_
    refine evs_endS (by as_aux_lemma => kernel_rfl) (fun τ hτ => ?_)
    refine th_normalS hτ ⟨[(0, (.sl (List.map (cS cI) needs))), (1, (vI stations)), (7, (.row (.top 7) 35)), (8, (vI 0))], [(7, .row 35 [] (List.map c_Window []))]⟩ (here (by as_aux_lemma => kernel_rfl)) ?_
    refine sem_seq (by as_aux_lemma => kernel_rfl) ?_
    refine sem_seq (by as_aux_lemma => kernel_rfl) ?_
    refine sem_region (by as_aux_lemma => kernel_rfl) ?_
    refine evs_run 1 (by as_aux_lemma => kernel_rfl) ?_
    refine evs_endS (by as_aux_lemma => kernel_rfl) (fun τ hτ => ?_)
    refine th_normalS hτ ⟨[(0, (.sl (List.map (cS cI) needs))), (1, (vI stations)), (7, (.row (.top 7) 35)), (8, (vI 0)), (9, (vI 0))], [(7, .row 35 [] (List.map c_Window []))]⟩ (here (by as_aux_lemma => kernel_rfl)) ?_
    refine sem_block (by as_aux_lemma => kernel_rfl) ?_
    obtain ⟨x84, hx84, h⟩ := bindS h
    refine sem_loopS (fun (s65 : Int × Int × (List Window)) => ⟨[(0, (.sl (List.map (cS cI) needs))), (1, (vI stations)), (7, (.row (.top 500000) 35)), (8, (vI s65.1)), (9, (vI s65.2.1))], [(500000, .row 35 [] (List.map c_Window s65.2.2))]⟩) (fun (x84 : (List Window)) => (.exit 0, ⟨[(7, (.row (.top 500000) 35))], [(500000, .row 35 [] (List.map c_Window x84))]⟩)) (sheetmetalref05_Bound_l2 needs stations) (0, 0, []) x84 (by as_aux_lemma => kernel_rfl) (subR_prep [] [(7, 500000)] (by as_aux_lemma => kernel_rfl) rfl rfl (by as_aux_lemma => kernel_rfl)) hx84 ?_ ?_ ?_
    · intro s65 r h
      refine sem_seq (by as_aux_lemma => kernel_rfl) ?_
      refine sem_seq (by as_aux_lemma => kernel_rfl) ?_
      refine sem_region (by as_aux_lemma => kernel_rfl) ?_
      refine evs_run 2 (by as_aux_lemma => kernel_rfl) ?_
      refine evs_op (st_len (c := (cS cI)) (l := needs) (x := (.sl (List.map (cS cI) needs))) (by as_aux_lemma => kernel_rfl) (by as_aux_lemma => kernel_rfl)) ?_
      refine evs_run 1 (by as_aux_lemma => kernel_rfl) ?_
      refine evs_endS (by as_aux_lemma => kernel_rfl) (fun τ hτ => ?_)
      refine th_normalS hτ ⟨[(0, (.sl (List.map (cS cI) needs))), (1, (vI stations)), (7, (.row (.top 500000) 35)), (8, (vI s65.1)), (9, (vI s65.2.1)), (19, (vB (decide (s65.2.1 < (needs.length : Int)))))], [(500000, .row 35 [] (List.map c_Window s65.2.2))]⟩ (here (by as_aux_lemma => kernel_rfl)) ?_
      refine sem_cond (decide (s65.2.1 < (needs.length : Int))) (by as_aux_lemma => kernel_rfl) (by as_aux_lemma => kernel_rfl) (fun hb => ?_) (fun hb => ?_)
      · replace h := iteT hb h
        refine sem_skipS (by as_aux_lemma => kernel_rfl) (fun τ hτ => ?_)
        refine th_normalS hτ ⟨[(0, (.sl (List.map (cS cI) needs))), (1, (vI stations)), (7, (.row (.top 500000) 35)), (8, (vI s65.1)), (9, (vI s65.2.1))], [(500000, .row 35 [] (List.map c_Window s65.2.2))]⟩ (here (by as_aux_lemma => kernel_rfl)) ?_
        refine sem_seqJ (fun (j79 : Int × (List Window)) => ⟨[(0, (.sl (List.map (cS cI) needs))), (1, (vI stations)), (7, (.row (.top 500000) 35)), (8, (vI j79.1)), (9, (vI s65.2.1))], [(500000, .row 35 [] (List.map c_Window j79.2))]⟩) (sheetmetalref05_Bound_k1 s65) r (by as_aux_lemma => kernel_rfl) (fun j79 h => ?_) ?_
        · refine sem_region (by as_aux_lemma => kernel_rfl) ?_
          refine evs_run 3 (by as_aux_lemma => kernel_rfl) ?_
          refine evs_endS (by as_aux_lemma => kernel_rfl) (fun τ hτ => ?_)
          obtain rfl := Option.some.inj h
          exact lk_nextS hτ (here (by as_aux_lemma => kernel_rfl))
        refine sem_block (by as_aux_lemma => kernel_rfl) ?_
        refine sem_seq (by as_aux_lemma => kernel_rfl) ?_
        refine sem_region (by as_aux_lemma => kernel_rfl) ?_
        refine evs_run 4 (by as_aux_lemma => kernel_rfl) ?_
        obtain ⟨r81, hr81, h⟩ := bindS h
        refine evs_callS [] [] [] (by as_aux_lemma => kernel_rfl) (W.sheetmetalref05_blocked_ok hr81) (by as_aux_lemma => kernel_rfl) (by as_aux_lemma => kernel_rfl) (.inl rfl) ?_
        refine evs_endS (by as_aux_lemma => kernel_rfl) (fun τ hτ => ?_)
        refine th_normalS hτ ⟨[(0, (.sl (List.map (cS cI) needs))), (1, (vI stations)), (7, (.row (.top 500000) 35)), (8, (vI s65.1)), (9, (vI s65.2.1)), (26, (vB r81))], [(500000, .row 35 [] (List.map c_Window s65.2.2))]⟩ (here (by as_aux_lemma => kernel_rfl)) ?_
        refine sem_cond r81 (by as_aux_lemma => kernel_rfl) (by as_aux_lemma => kernel_rfl) (fun hb => ?_) (fun hb => ?_)
        · replace h := iteT hb h
          refine sem_seq (by as_aux_lemma => kernel_rfl) ?_
          refine sem_region (by as_aux_lemma => kernel_rfl) ?_
          refine evs_run 5 (by as_aux_lemma => kernel_rfl) ?_
          obtain ⟨l83, hl83, h⟩ := bindS h
          refine evs_op (st_app (c := c_Window) (l := s65.2.2) (l2 := [(Window.mk s65.1 s65.2.1)]) (x := (.sl (List.map c_Window [(Window.mk s65.1 s65.2.1)]))) (g := 500000) (e := 35) (sz := 2) (d := 32) (by as_aux_lemma => kernel_rfl) (by as_aux_lemma => kernel_rfl) (by as_aux_lemma => kernel_rfl) (by as_aux_lemma => kernel_rfl) (fun _ => rfl) rfl hl83) ?_
          refine evs_run 1 (by as_aux_lemma => kernel_rfl) ?_
          refine evs_endS (by as_aux_lemma => kernel_rfl) (fun τ hτ => ?_)
          refine th_normalS hτ ⟨[(0, (.sl (List.map (cS cI) needs))), (1, (vI stations)), (7, (.row (.top 500000) 35)), (9, (vI s65.2.1))], [(500000, .row 35 [] (List.map c_Window l83))]⟩ (here (by as_aux_lemma => kernel_rfl)) ?_
          refine sem_region (by as_aux_lemma => kernel_rfl) ?_
          refine evs_run 2 (by as_aux_lemma => kernel_rfl) ?_
          refine evs_endS (by as_aux_lemma => kernel_rfl) (fun τ hτ => ?_)
          refine bl_normal ?_
          exact jk_normal (s65.2.1, l83) h hτ (here (by as_aux_lemma => kernel_rfl))
        · replace h := iteF hb h
          refine sem_skipS (by as_aux_lemma => kernel_rfl) (fun τ hτ => ?_)
          refine bl_normal ?_
          exact jk_normal (s65.1, s65.2.2) h hτ (here (by as_aux_lemma => kernel_rfl))
      · replace h := iteF hb h
        refine sem_exitS 0 (by as_aux_lemma => kernel_rfl) rfl (fun τ hτ => ?_)
        refine th_exit ?_
        obtain rfl := Option.some.inj h
        exact lk_outS hτ rfl (here (by as_aux_lemma => kernel_rfl))
    · intro x
      rfl
    · intro τ hτ
      refine bl_hit (by as_aux_lemma => kernel_rfl) ?_
      refine th_normalS hτ ⟨[(7, (.row (.top 500000) 35))], [(500000, .row 35 [] (List.map c_Window x84))]⟩ (here (by as_aux_lemma => kernel_rfl)) ?_
      refine sem_seq (by as_aux_lemma => kernel_rfl) ?_
      refine sem_region (by as_aux_lemma => kernel_rfl) ?_
      refine evs_run 3 (by as_aux_lemma => kernel_rfl) ?_
      refine evs_endS (by as_aux_lemma => kernel_rfl) (fun τ hτ => ?_)
      refine th_normalS hτ ⟨[(4, (.row (.top 500000) 35)), (5, (vI 0))], [(500000, .row 35 [] (List.map c_Window x84))]⟩ (here (by as_aux_lemma => kernel_rfl)) ?_
      refine sem_retS (by as_aux_lemma => kernel_rfl) (fun τ hτ => ?_)
      obtain rfl := Option.some.inj h
      exact rk_ret hτ [(4, (.row (.top 0) 35)), (5, (vI 0))] (subR_prep [] [(500000, 0)] (by as_aux_lemma => kernel_rfl) rfl rfl (by as_aux_lemma => kernel_rfl)) (by as_aux_lemma => kernel_rfl)
theorem W.sheetmetallaw05_SetupFinds_ok {needs : (List (List Int))} {a : Int} {r : Bool} (h : sheetmetallaw05_SetupFinds needs a = some r) : PC G.P 5 [(.sl (List.map (cS cI) needs)), (vI a)] [] (vB r) [] := by
  refine pc_of G (fn := Try.f5) Try.func5 (by as_aux_lemma => kernel_rfl) (by as_aux_lemma => kernel_rfl) (by as_aux_lemma => kernel_rfl) (by as_aux_lemma => kernel_rfl) (by as_aux_lemma => kernel_rfl) ?_
  refine sem_set ⟨[(0, (.sl (List.map (cS cI) needs))), (1, (vI a))], []⟩ (by as_aux_lemma => kernel_rfl) ?_
  refine sem_seq (by as_aux_lemma => kernel_rfl) ?_
  refine sem_region (by as_aux_lemma => kernel_rfl) ?_
  refine evs_run 1 (by as_aux_lemma => kernel_rfl) ?_
  refine evs_endS (by as_aux_lemma => kernel_rfl) (fun τ hτ => ?_)
  refine th_normalS hτ ⟨[(0, (.sl (List.map (cS cI) needs))), (1, (vI a))], []⟩ (here (by as_aux_lemma => kernel_rfl)) ?_
  refine sem_seq (by as_aux_lemma => kernel_rfl) ?_
  refine sem_seq (by as_aux_lemma => kernel_rfl) ?_
  refine sem_region (by as_aux_lemma => kernel_rfl) ?_
  refine evs_run 1 (by as_aux_lemma => kernel_rfl) ?_
  obtain ⟨r6, hr6, h⟩ := bindS h
  refine evs_callS [] [] [] (by as_aux_lemma => kernel_rfl) (W.sheetmetallaw05_heavy_ok hr6) (by as_aux_lemma => kernel_rfl) (by as_aux_lemma => kernel_rfl) (.inl rfl) ?_
  refine evs_endS (by as_aux_lemma => kernel_rfl) (fun τ hτ => ?_)
  refine th_normalS hτ ⟨[(0, (.sl (List.map (cS cI) needs))), (1, (vI a)), (15, (vB r6))], []⟩ (here (by as_aux_lemma => kernel_rfl)) ?_
  refine sem_cond r6 (by as_aux_lemma => kernel_rfl) (by as_aux_lemma => kernel_rfl) (fun hb => ?_) (fun hb => ?_)
  · replace h := iteT hb h
    refine sem_seq (by as_aux_lemma => kernel_rfl) ?_
    refine sem_region (by as_aux_lemma => kernel_rfl) ?_
    obtain ⟨r8, hr8, h⟩ := bindS h
    refine evs_callS [] [] [] (by as_aux_lemma => kernel_rfl) (W.sheetmetallaw05_known_ok hr8) (by as_aux_lemma => kernel_rfl) (by as_aux_lemma => kernel_rfl) (.inl rfl) ?_
    refine evs_run 1 (by as_aux_lemma => kernel_rfl) ?_
    refine evs_endS (by as_aux_lemma => kernel_rfl) (fun τ hτ => ?_)
    refine th_normalS hτ ⟨[(4, (vB r8))], []⟩ (here (by as_aux_lemma => kernel_rfl)) ?_
    refine sem_retS (by as_aux_lemma => kernel_rfl) (fun τ hτ => ?_)
    refine th_ret ?_
    obtain rfl := Option.some.inj h
    exact rk_ret hτ [(4, (vB r8))] (here (by as_aux_lemma => kernel_rfl)) (by as_aux_lemma => kernel_rfl)
  · replace h := iteF hb h
    refine sem_skipS (by as_aux_lemma => kernel_rfl) (fun τ hτ => ?_)
    refine th_normalS hτ ⟨[(0, (.sl (List.map (cS cI) needs))), (1, (vI a))], []⟩ (here (by as_aux_lemma => kernel_rfl)) ?_
    refine sem_seq (by as_aux_lemma => kernel_rfl) ?_
    refine sem_region (by as_aux_lemma => kernel_rfl) ?_
    refine evs_run 2 (by as_aux_lemma => kernel_rfl) ?_
    obtain ⟨r10, hr10, h⟩ := bindS h
    refine evs_callS [] [(0, 700100)] [] (by as_aux_lemma => kernel_rfl) (W.setup_Bound_ok hr10) (by as_aux_lemma => kernel_rfl) (by as_aux_lemma => kernel_rfl) (.inl rfl) ?_
    refine evs_run 5 (by as_aux_lemma => kernel_rfl) ?_
    refine evs_endS (by as_aux_lemma => kernel_rfl) (fun τ hτ => ?_)
    refine th_normalS hτ ⟨[(0, (.sl (List.map (cS cI) needs))), (1, (vI a)), (5, (.row (.top 700100) 35)), (6, (vI r10.2))], [(700100, .row 35 [] (List.map c_Window r10.1))]⟩ (here (by as_aux_lemma => kernel_rfl)) ?_
    refine sem_seq (by as_aux_lemma => kernel_rfl) ?_
    refine sem_region (by as_aux_lemma => kernel_rfl) ?_
    refine evs_run 2 (by as_aux_lemma => kernel_rfl) ?_
    obtain ⟨r12, hr12, h⟩ := bindS h
    refine evs_callS [] [(0, 700101)] [] (by as_aux_lemma => kernel_rfl) (W.sheetmetalref05_Bound_ok hr12) (by as_aux_lemma => kernel_rfl) (by as_aux_lemma => kernel_rfl) (.inl rfl) ?_
    refine evs_run 5 (by as_aux_lemma => kernel_rfl) ?_
    refine evs_endS (by as_aux_lemma => kernel_rfl) (fun τ hτ => ?_)
    refine th_normalS hτ ⟨[(0, (.sl (List.map (cS cI) needs))), (1, (vI a)), (5, (.row (.top 700100) 35)), (6, (vI r10.2)), (7, (.row (.top 700101) 35)), (8, (vI r12.2))], [(700100, .row 35 [] (List.map c_Window r10.1)), (700101, .row 35 [] (List.map c_Window r12.1))]⟩ (here (by as_aux_lemma => kernel_rfl)) ?_
    refine sem_seq (by as_aux_lemma => kernel_rfl) ?_
    refine sem_seq (by as_aux_lemma => kernel_rfl) ?_
    obtain ⟨j14, hj14, h⟩ := bindS h
    refine sem_regionC ⟨[(0, (.sl (List.map (cS cI) needs))), (1, (vI a)), (5, (.row (.top 500000) 35)), (6, (vI r10.2)), (7, (.row (.top 500001) 35)), (38, (vB j14))], [(500000, .row 35 [] (List.map c_Window r10.1)), (500001, .row 35 [] (List.map c_Window r12.1))]⟩ (by as_aux_lemma => kernel_rfl) ?_ (fun τ hτ => ?_)
    · replace h := hj14
      refine evs_run 4 (by as_aux_lemma => kernel_rfl) ?_
      refine evs_split (r10.2 != r12.2) (fun b0 => ⟨[(0, (.sl (List.map (cS cI) needs))), (1, (vI a)), (5, (.row (.top 700100) 35)), (6, (vI r10.2)), (7, (.row (.top 700101) 35)), (32, (vB b0))], [(700100, .row 35 [] (List.map c_Window r10.1)), (700101, .row 35 [] (List.map c_Window r12.1))]⟩) (by as_aux_lemma => kernel_rfl) (fun hb => ?_) (fun hb => ?_)
      · replace h := iteT hb h
        refine evs_run 6 (by as_aux_lemma => kernel_rfl) ?_
        refine evs_endS (by as_aux_lemma => kernel_rfl) (fun τ hτ => ?_)
        obtain rfl := Option.some.inj h
        exact leafC hτ (subR_prep [] [(700100, 500000), (700101, 500001)] (by as_aux_lemma => kernel_rfl) rfl rfl (by as_aux_lemma => kernel_rfl))
      · replace h := iteF hb h
        refine evs_run 1 (by as_aux_lemma => kernel_rfl) ?_
        refine evs_op (st_len (c := c_Window) (l := r10.1) (x := (.row (.top 700100) 35)) (by as_aux_lemma => kernel_rfl) (by as_aux_lemma => kernel_rfl)) ?_
        refine evs_run 1 (by as_aux_lemma => kernel_rfl) ?_
        refine evs_op (st_len (c := c_Window) (l := r12.1) (x := (.row (.top 700101) 35)) (by as_aux_lemma => kernel_rfl) (by as_aux_lemma => kernel_rfl)) ?_
        refine evs_run 2 (by as_aux_lemma => kernel_rfl) ?_
        refine evs_endS (by as_aux_lemma => kernel_rfl) (fun τ hτ => ?_)
        obtain rfl := Option.some.inj h
        exact leafC hτ (subR_prep [] [(700100, 500000), (700101, 500001)] (by as_aux_lemma => kernel_rfl) rfl rfl (by as_aux_lemma => kernel_rfl))
    refine th_normalS hτ ⟨[(0, (.sl (List.map (cS cI) needs))), (1, (vI a)), (5, (.row (.top 500000) 35)), (6, (vI r10.2)), (7, (.row (.top 500001) 35)), (38, (vB j14))], [(500000, .row 35 [] (List.map c_Window r10.1)), (500001, .row 35 [] (List.map c_Window r12.1))]⟩ (here (by as_aux_lemma => kernel_rfl)) ?_
    refine sem_cond j14 (by as_aux_lemma => kernel_rfl) (by as_aux_lemma => kernel_rfl) (fun hb => ?_) (fun hb => ?_)
    · replace h := iteT hb h
      refine sem_seq (by as_aux_lemma => kernel_rfl) ?_
      refine sem_region (by as_aux_lemma => kernel_rfl) ?_
      refine evs_run 1 (by as_aux_lemma => kernel_rfl) ?_
      refine evs_endS (by as_aux_lemma => kernel_rfl) (fun τ hτ => ?_)
      refine th_normalS hτ ⟨[(4, (vB false))], []⟩ (here (by as_aux_lemma => kernel_rfl)) ?_
      refine sem_retS (by as_aux_lemma => kernel_rfl) (fun τ hτ => ?_)
      refine th_ret ?_
      obtain rfl := Option.some.inj h
      exact rk_ret hτ [(4, (vB false))] (here (by as_aux_lemma => kernel_rfl)) (by as_aux_lemma => kernel_rfl)
    · replace h := iteF hb h
      refine sem_skipS (by as_aux_lemma => kernel_rfl) (fun τ hτ => ?_)
      refine th_normalS hτ ⟨[(0, (.sl (List.map (cS cI) needs))), (1, (vI a)), (5, (.row (.top 500000) 35)), (6, (vI r10.2)), (7, (.row (.top 500001) 35))], [(500000, .row 35 [] (List.map c_Window r10.1)), (500001, .row 35 [] (List.map c_Window r12.1))]⟩ (here (by as_aux_lemma => kernel_rfl)) ?_
      refine sem_seq (by as_aux_lemma => kernel_rfl) ?_
      refine sem_seq (by as_aux_lemma => kernel_rfl) ?_
      refine sem_region (by as_aux_lemma => kernel_rfl) ?_
      refine evs_run 1 (by as_aux_lemma => kernel_rfl) ?_
      refine evs_endS (by as_aux_lemma => kernel_rfl) (fun τ hτ => ?_)
      refine th_normalS hτ ⟨[(0, (.sl (List.map (cS cI) needs))), (1, (vI a)), (5, (.row (.top 500000) 35)), (6, (vI r10.2)), (7, (.row (.top 500001) 35)), (9, (vI 0))], [(500000, .row 35 [] (List.map c_Window r10.1)), (500001, .row 35 [] (List.map c_Window r12.1))]⟩ (here (by as_aux_lemma => kernel_rfl)) ?_
      refine sem_block (by as_aux_lemma => kernel_rfl) ?_
      obtain ⟨x94, hx94, h⟩ := bindS h
      refine sem_loopS (fun (s69 : Int) => ⟨[(0, (.sl (List.map (cS cI) needs))), (1, (vI a)), (5, (.row (.top 500000) 35)), (6, (vI r10.2)), (7, (.row (.top 500001) 35)), (9, (vI s69))], [(500000, .row 35 [] (List.map c_Window r10.1)), (500001, .row 35 [] (List.map c_Window r12.1))]⟩) (fun (x94 : Unit ⊕ Unit) => match x94 with | .inl j95 => (.ret, ⟨[(4, (vB false))], []⟩) | .inr j96 => (.exit 0, ⟨[(0, (.sl (List.map (cS cI) needs))), (1, (vI a)), (5, (.row (.top 500000) 35)), (6, (vI r10.2))], [(500000, .row 35 [] (List.map c_Window r10.1))]⟩)) (sheetmetallaw05_SetupFinds_l1 r10 r12) 0 x94 (by as_aux_lemma => kernel_rfl) (here (by as_aux_lemma => kernel_rfl)) hx94 ?_ ?_ ?_
      · intro s69 r h
        refine sem_seq (by as_aux_lemma => kernel_rfl) ?_
        refine sem_seq (by as_aux_lemma => kernel_rfl) ?_
        refine sem_region (by as_aux_lemma => kernel_rfl) ?_
        refine evs_run 2 (by as_aux_lemma => kernel_rfl) ?_
        refine evs_op (st_len (c := c_Window) (l := r10.1) (x := (.row (.top 500000) 35)) (by as_aux_lemma => kernel_rfl) (by as_aux_lemma => kernel_rfl)) ?_
        refine evs_run 1 (by as_aux_lemma => kernel_rfl) ?_
        refine evs_endS (by as_aux_lemma => kernel_rfl) (fun τ hτ => ?_)
        refine th_normalS hτ ⟨[(0, (.sl (List.map (cS cI) needs))), (1, (vI a)), (5, (.row (.top 500000) 35)), (6, (vI r10.2)), (7, (.row (.top 500001) 35)), (9, (vI s69)), (42, (vB (decide (s69 < (r10.1.length : Int)))))], [(500000, .row 35 [] (List.map c_Window r10.1)), (500001, .row 35 [] (List.map c_Window r12.1))]⟩ (here (by as_aux_lemma => kernel_rfl)) ?_
        refine sem_cond (decide (s69 < (r10.1.length : Int))) (by as_aux_lemma => kernel_rfl) (by as_aux_lemma => kernel_rfl) (fun hb => ?_) (fun hb => ?_)
        · replace h := iteT hb h
          refine sem_skipS (by as_aux_lemma => kernel_rfl) (fun τ hτ => ?_)
          refine th_normalS hτ ⟨[(0, (.sl (List.map (cS cI) needs))), (1, (vI a)), (5, (.row (.top 500000) 35)), (6, (vI r10.2)), (7, (.row (.top 500001) 35)), (9, (vI s69))], [(500000, .row 35 [] (List.map c_Window r10.1)), (500001, .row 35 [] (List.map c_Window r12.1))]⟩ (here (by as_aux_lemma => kernel_rfl)) ?_
          refine sem_seq (by as_aux_lemma => kernel_rfl) ?_
          refine sem_block (by as_aux_lemma => kernel_rfl) ?_
          refine sem_seq (by as_aux_lemma => kernel_rfl) ?_
          refine sem_draw [] [] [] [] [] 8 (by as_aux_lemma => kernel_rfl) (by as_aux_lemma => kernel_rfl) [] (by as_aux_lemma => kernel_rfl) (by as_aux_lemma => kernel_rfl) ?_
          refine evd_run 2 (by as_aux_lemma => kernel_rfl) ?_
          obtain ⟨x92, hx92, h⟩ := bindS h
          refine evd_val (by as_aux_lemma => kernel_rfl) (st_idxO (c := c_Window) (l := r10.1) (i := s69) (kd := .i64) (kk := (.top 500000)) (e := 35) (sz := 2) (by as_aux_lemma => kernel_rfl) (by as_aux_lemma => kernel_rfl) hx92 rfl) (by as_aux_lemma => kernel_rfl) (by as_aux_lemma => kernel_rfl) ?_
          refine evd_val (by as_aux_lemma => kernel_rfl) (st_ldO (c := c_Window) (l := r10.1) (i := (Int.toNat s69)) (v := (.agg [(vI x92.From), (vI x92.To)])) (agg := true) (sz := 2) (kk := (.top 500000)) (e := 35) (off := 0) (J := []) (by as_aux_lemma => kernel_rfl) (by as_aux_lemma => kernel_rfl) (by as_aux_lemma => kernel_rfl) ((idxS hx92).2) (by as_aux_lemma => kernel_rfl)) (by as_aux_lemma => kernel_rfl) (by as_aux_lemma => kernel_rfl) ?_
          refine evd_run 2 (by as_aux_lemma => kernel_rfl) ?_
          obtain ⟨x93, hx93, h⟩ := bindS h
          refine evd_val (by as_aux_lemma => kernel_rfl) (st_idxO (c := c_Window) (l := r12.1) (i := s69) (kd := .i64) (kk := (.top 500001)) (e := 35) (sz := 2) (by as_aux_lemma => kernel_rfl) (by as_aux_lemma => kernel_rfl) hx93 rfl) (by as_aux_lemma => kernel_rfl) (by as_aux_lemma => kernel_rfl) ?_
          refine evd_val (by as_aux_lemma => kernel_rfl) (st_ldO (c := c_Window) (l := r12.1) (i := (Int.toNat s69)) (v := (.agg [(vI x93.From), (vI x93.To)])) (agg := true) (sz := 2) (kk := (.top 500001)) (e := 35) (off := 0) (J := []) (by as_aux_lemma => kernel_rfl) (by as_aux_lemma => kernel_rfl) (by as_aux_lemma => kernel_rfl) ((idxS hx93).2) (by as_aux_lemma => kernel_rfl)) (by as_aux_lemma => kernel_rfl) (by as_aux_lemma => kernel_rfl) ?_
          refine evd_end (by as_aux_lemma => kernel_rfl) ?_
          refine evo_run 1 (by as_aux_lemma => kernel_rfl) ?_
          refine evo_endS (by as_aux_lemma => kernel_rfl) (fun τ hτ => ?_)
          refine th_normalS hτ ⟨[(0, (.sl (List.map (cS cI) needs))), (1, (vI a)), (5, (.row (.top 500000) 35)), (6, (vI r10.2)), (7, (.row (.top 500001) 35)), (9, (vI s69)), (53, (vB (!((x92.From == x93.From) && ((x92.To == x93.To) && true)))))], [(500000, .row 35 [] (List.map c_Window r10.1)), (500001, .row 35 [] (List.map c_Window r12.1))]⟩ (here (by as_aux_lemma => kernel_rfl)) ?_
          refine sem_cond (!((x92.From == x93.From) && ((x92.To == x93.To) && true))) (by as_aux_lemma => kernel_rfl) (by as_aux_lemma => kernel_rfl) (fun hb => ?_) (fun hb => ?_)
          · replace h := iteT hb h
            refine sem_seq (by as_aux_lemma => kernel_rfl) ?_
            refine sem_region (by as_aux_lemma => kernel_rfl) ?_
            refine evs_run 1 (by as_aux_lemma => kernel_rfl) ?_
            refine evs_endS (by as_aux_lemma => kernel_rfl) (fun τ hτ => ?_)
            refine th_normalS hτ ⟨[(4, (vB false))], []⟩ (here (by as_aux_lemma => kernel_rfl)) ?_
            refine sem_retS (by as_aux_lemma => kernel_rfl) (fun τ hτ => ?_)
            refine bl_ret ?_
            refine th_ret ?_
            obtain rfl := Option.some.inj h
            exact lk_outS hτ rfl (here (by as_aux_lemma => kernel_rfl))
          · replace h := iteF hb h
            refine sem_skipS (by as_aux_lemma => kernel_rfl) (fun τ hτ => ?_)
            refine bl_normal ?_
            refine th_normalS hτ ⟨[(0, (.sl (List.map (cS cI) needs))), (1, (vI a)), (5, (.row (.top 500000) 35)), (6, (vI r10.2)), (7, (.row (.top 500001) 35)), (9, (vI s69))], [(500000, .row 35 [] (List.map c_Window r10.1)), (500001, .row 35 [] (List.map c_Window r12.1))]⟩ (here (by as_aux_lemma => kernel_rfl)) ?_
            refine sem_region (by as_aux_lemma => kernel_rfl) ?_
            refine evs_run 3 (by as_aux_lemma => kernel_rfl) ?_
            refine evs_endS (by as_aux_lemma => kernel_rfl) (fun τ hτ => ?_)
            obtain rfl := Option.some.inj h
            exact lk_nextS hτ (here (by as_aux_lemma => kernel_rfl))
        · replace h := iteF hb h
          refine sem_exitS 0 (by as_aux_lemma => kernel_rfl) rfl (fun τ hτ => ?_)
          refine th_exit ?_
          obtain rfl := Option.some.inj h
          exact lk_outS hτ rfl (here (by as_aux_lemma => kernel_rfl))
      · intro x
        rcases x with _ | _ <;> rfl
      · intro τ hτ
        rcases x94 with j95 | j96
        · refine bl_ret ?_
          refine th_ret ?_
          obtain rfl := Option.some.inj h
          exact rk_ret hτ [(4, (vB false))] (here (by as_aux_lemma => kernel_rfl)) (by as_aux_lemma => kernel_rfl)
        · refine bl_hit (by as_aux_lemma => kernel_rfl) ?_
          refine th_normalS hτ ⟨[(0, (.sl (List.map (cS cI) needs))), (1, (vI a)), (5, (.row (.top 500000) 35)), (6, (vI r10.2))], [(500000, .row 35 [] (List.map c_Window r10.1))]⟩ (here (by as_aux_lemma => kernel_rfl)) ?_
          refine sem_seq (by as_aux_lemma => kernel_rfl) ?_
          refine sem_seq (by as_aux_lemma => kernel_rfl) ?_
          refine sem_region (by as_aux_lemma => kernel_rfl) ?_
          refine evs_run 2 (by as_aux_lemma => kernel_rfl) ?_
          refine evs_endS (by as_aux_lemma => kernel_rfl) (fun τ hτ => ?_)
          refine th_normalS hτ ⟨[(0, (.sl (List.map (cS cI) needs))), (1, (vI a)), (5, (.row (.top 500000) 35)), (55, (vB (r10.2 != 0)))], [(500000, .row 35 [] (List.map c_Window r10.1))]⟩ (here (by as_aux_lemma => kernel_rfl)) ?_
          refine sem_cond (r10.2 != 0) (by as_aux_lemma => kernel_rfl) (by as_aux_lemma => kernel_rfl) (fun hb => ?_) (fun hb => ?_)
          · replace h := iteT hb h
            refine sem_seq (by as_aux_lemma => kernel_rfl) ?_
            refine sem_region (by as_aux_lemma => kernel_rfl) ?_
            obtain ⟨r100, hr100, h⟩ := bindS h
            refine evs_callS [] [] [] (by as_aux_lemma => kernel_rfl) (W.sheetmetallaw05_known_ok hr100) (by as_aux_lemma => kernel_rfl) (by as_aux_lemma => kernel_rfl) (.inl rfl) ?_
            refine evs_run 1 (by as_aux_lemma => kernel_rfl) ?_
            refine evs_endS (by as_aux_lemma => kernel_rfl) (fun τ hτ => ?_)
            refine th_normalS hτ ⟨[(4, (vB r100))], []⟩ (here (by as_aux_lemma => kernel_rfl)) ?_
            refine sem_retS (by as_aux_lemma => kernel_rfl) (fun τ hτ => ?_)
            refine th_ret ?_
            obtain rfl := Option.some.inj h
            exact rk_ret hτ [(4, (vB r100))] (here (by as_aux_lemma => kernel_rfl)) (by as_aux_lemma => kernel_rfl)
          · replace h := iteF hb h
            refine sem_skipS (by as_aux_lemma => kernel_rfl) (fun τ hτ => ?_)
            refine th_normalS hτ ⟨[(0, (.sl (List.map (cS cI) needs))), (1, (vI a)), (5, (.row (.top 500000) 35))], [(500000, .row 35 [] (List.map c_Window r10.1))]⟩ (here (by as_aux_lemma => kernel_rfl)) ?_
            refine sem_seq (by as_aux_lemma => kernel_rfl) ?_
            refine sem_region (by as_aux_lemma => kernel_rfl) ?_
            refine evs_run 3 (by as_aux_lemma => kernel_rfl) ?_
            obtain ⟨r102, hr102, h⟩ := bindS h
            refine evs_callS [] [] [500000] (by as_aux_lemma => kernel_rfl) (W.setup_CheckBound_ok hr102) (by as_aux_lemma => kernel_rfl) (by as_aux_lemma => kernel_rfl) (.inr ⟨rfl, fun _ _ => ind_nil⟩) ?_
            refine evs_run 5 (by as_aux_lemma => kernel_rfl) ?_
            refine evs_endS (by as_aux_lemma => kernel_rfl) (fun τ hτ => ?_)
            refine th_normalS hτ ⟨[(0, (.sl (List.map (cS cI) needs))), (1, (vI a)), (10, (vI r102.1)), (11, (vI r102.2))], []⟩ (here (by as_aux_lemma => kernel_rfl)) ?_
            refine sem_seq (by as_aux_lemma => kernel_rfl) ?_
            refine sem_region (by as_aux_lemma => kernel_rfl) ?_
            refine evs_run 2 (by as_aux_lemma => kernel_rfl) ?_
            obtain ⟨r104, hr104, h⟩ := bindS h
            refine evs_callS [] [] [] (by as_aux_lemma => kernel_rfl) (W.setup_Least_ok hr104) (by as_aux_lemma => kernel_rfl) (by as_aux_lemma => kernel_rfl) (.inl rfl) ?_
            refine evs_run 5 (by as_aux_lemma => kernel_rfl) ?_
            refine evs_endS (by as_aux_lemma => kernel_rfl) (fun τ hτ => ?_)
            refine th_normalS hτ ⟨[(1, (vI a)), (10, (vI r102.1)), (11, (vI r102.2)), (12, (vI r104.1)), (13, (vI r104.2))], []⟩ (here (by as_aux_lemma => kernel_rfl)) ?_
            refine sem_seq (by as_aux_lemma => kernel_rfl) ?_
            obtain ⟨j107, hj107, h⟩ := bindS h
            refine sem_regionC ⟨[(4, (vB j107))], []⟩ (by as_aux_lemma => kernel_rfl) ?_ (fun τ hτ => ?_)
            · replace h := hj107
              refine evs_run 3 (by as_aux_lemma => kernel_rfl) ?_
              refine evs_split (r102.2 == 0) (fun b0 => ⟨[(1, (vI a)), (10, (vI r102.1)), (12, (vI r104.1)), (13, (vI r104.2)), (72, (vB b0))], []⟩) (by as_aux_lemma => kernel_rfl) (fun hb => ?_) (fun hb => ?_)
              · replace h := iteT hb h
                refine evs_run 4 (by as_aux_lemma => kernel_rfl) ?_
                refine evs_split (r104.2 == 0) (fun b0 => ⟨[(1, (vI a)), (10, (vI r102.1)), (12, (vI r104.1)), (76, (vB b0))], []⟩) (by as_aux_lemma => kernel_rfl) (fun hb => ?_) (fun hb => ?_)
                · replace h := iteT hb h
                  refine evs_run 5 (by as_aux_lemma => kernel_rfl) ?_
                  refine evs_split (decide (r102.1 ≤ r104.1)) (fun b0 => ⟨[(1, (vI a)), (10, (vI r102.1)), (12, (vI r104.1)), (81, (vB b0))], []⟩) (by as_aux_lemma => kernel_rfl) (fun hb => ?_) (fun hb => ?_)
                  · replace h := iteT hb h
                    refine evs_run 3 (by as_aux_lemma => kernel_rfl) ?_
                    refine evs_split (a != 1) (fun b0 => ⟨[(10, (vI r102.1)), (12, (vI r104.1)), (81, (vB true)), (84, (vB b0))], []⟩) (by as_aux_lemma => kernel_rfl) (fun hb => ?_) (fun hb => ?_)
                    · replace h := iteT hb h
                      refine evs_run 6 (by as_aux_lemma => kernel_rfl) ?_
                      obtain ⟨r108, hr108, h⟩ := bindS h
                      refine evs_callS [] [] [] (by as_aux_lemma => kernel_rfl) (W.sheetmetallaw05_known_ok hr108) (by as_aux_lemma => kernel_rfl) (by as_aux_lemma => kernel_rfl) (.inl rfl) ?_
                      refine evs_run 2 (by as_aux_lemma => kernel_rfl) ?_
                      refine evs_endS (by as_aux_lemma => kernel_rfl) (fun τ hτ => ?_)
                      obtain rfl := Option.some.inj h
                      exact leafC hτ (here (by as_aux_lemma => kernel_rfl))
                    · replace h := iteF hb h
                      refine evs_run 6 (by as_aux_lemma => kernel_rfl) ?_
                      refine evs_split (r102.1 == r104.1) (fun b0 => ⟨[(90, (vB b0))], []⟩) (by as_aux_lemma => kernel_rfl) (fun hb => ?_) (fun hb => ?_)
                      · replace h := iteT hb h
                        obtain ⟨r109, hr109, h⟩ := bindS h
                        refine evs_callS [] [] [] (by as_aux_lemma => kernel_rfl) (W.sheetmetallaw05_known_ok hr109) (by as_aux_lemma => kernel_rfl) (by as_aux_lemma => kernel_rfl) (.inl rfl) ?_
                        refine evs_run 2 (by as_aux_lemma => kernel_rfl) ?_
                        refine evs_endS (by as_aux_lemma => kernel_rfl) (fun τ hτ => ?_)
                        obtain rfl := Option.some.inj h
                        exact leafC hτ (here (by as_aux_lemma => kernel_rfl))
                      · replace h := iteF hb h
                        refine evs_run 3 (by as_aux_lemma => kernel_rfl) ?_
                        refine evs_endS (by as_aux_lemma => kernel_rfl) (fun τ hτ => ?_)
                        obtain rfl := Option.some.inj h
                        exact leafC hτ (here (by as_aux_lemma => kernel_rfl))
                  · replace h := iteF hb h
                    refine evs_run 12 (by as_aux_lemma => kernel_rfl) ?_
                    refine evs_endS (by as_aux_lemma => kernel_rfl) (fun τ hτ => ?_)
                    obtain rfl := Option.some.inj h
                    exact leafC hτ (here (by as_aux_lemma => kernel_rfl))
                · replace h := iteF hb h
                  refine evs_run 17 (by as_aux_lemma => kernel_rfl) ?_
                  refine evs_endS (by as_aux_lemma => kernel_rfl) (fun τ hτ => ?_)
                  obtain rfl := Option.some.inj h
                  exact leafC hτ (here (by as_aux_lemma => kernel_rfl))
              · replace h := iteF hb h
                refine evs_run 21 (by as_aux_lemma => kernel_rfl) ?_
                refine evs_endS (by as_aux_lemma => kernel_rfl) (fun τ hτ => ?_)
                obtain rfl := Option.some.inj h
                exact leafC hτ (here (by as_aux_lemma => kernel_rfl))
            refine th_normalS hτ ⟨[(4, (vB j107))], []⟩ (here (by as_aux_lemma => kernel_rfl)) ?_
            refine sem_retS (by as_aux_lemma => kernel_rfl) (fun τ hτ => ?_)
            obtain rfl := Option.some.inj h
            exact rk_ret hτ [(4, (vB j107))] (here (by as_aux_lemma => kernel_rfl)) (by as_aux_lemma => kernel_rfl)
theorem W.slices_Index_Lint_int_ok {s0 : (List Int)} {v : Int} {r : Int} (h : slices_Index_Lint_int s0 v = some r) : PC G.P 81 [(.sl (List.map cI s0)), (vI v)] [] (vI r) [] := by
  refine pc_of G (fn := Try.f81) Try.func81 (by as_aux_lemma => kernel_rfl) (by as_aux_lemma => kernel_rfl) (by as_aux_lemma => kernel_rfl) (by as_aux_lemma => kernel_rfl) (by as_aux_lemma => kernel_rfl) ?_
  refine sem_set ⟨[(0, (.sl (List.map cI s0))), (1, (vI v))], []⟩ (by as_aux_lemma => kernel_rfl) ?_
  refine sem_seq (by as_aux_lemma => kernel_rfl) ?_
  refine sem_region (by as_aux_lemma => kernel_rfl) ?_
  refine evs_run 1 (by as_aux_lemma => kernel_rfl) ?_
  refine evs_endS (by as_aux_lemma => kernel_rfl) (fun τ hτ => ?_)
  refine th_normalS hτ ⟨[(0, (.sl (List.map cI s0))), (1, (vI v))], []⟩ (here (by as_aux_lemma => kernel_rfl)) ?_
  refine sem_seq (by as_aux_lemma => kernel_rfl) ?_
  refine sem_seq (by as_aux_lemma => kernel_rfl) ?_
  refine sem_region (by as_aux_lemma => kernel_rfl) ?_
  refine evs_run 1 (by as_aux_lemma => kernel_rfl) ?_
  refine evs_op (st_len (c := cI) (l := s0) (x := (.sl (List.map cI s0))) (by as_aux_lemma => kernel_rfl) (by as_aux_lemma => kernel_rfl)) ?_
  refine evs_run 1 (by as_aux_lemma => kernel_rfl) ?_
  refine evs_endS (by as_aux_lemma => kernel_rfl) (fun τ hτ => ?_)
  refine th_normalS hτ ⟨[(0, (.sl (List.map cI s0))), (1, (vI v)), (7, (vI (s0.length : Int))), (8, (vI 0))], []⟩ (here (by as_aux_lemma => kernel_rfl)) ?_
  refine sem_block (by as_aux_lemma => kernel_rfl) ?_
  obtain ⟨x32, hx32, h⟩ := bindS h
  refine sem_loopS (fun (s23 : Int) => ⟨[(0, (.sl (List.map cI s0))), (1, (vI v)), (7, (vI (s0.length : Int))), (8, (vI s23))], []⟩) (fun (x32 : Int ⊕ Unit) => match x32 with | .inl j33 => (.ret, ⟨[(4, (vI j33))], []⟩) | .inr j34 => (.exit 0, ⟨[], []⟩)) (slices_Index_Lint_int_l1 s0 v) 0 x32 (by as_aux_lemma => kernel_rfl) (here (by as_aux_lemma => kernel_rfl)) hx32 ?_ ?_ ?_
  · intro s23 r h
    refine sem_seq (by as_aux_lemma => kernel_rfl) ?_
    refine sem_region (by as_aux_lemma => kernel_rfl) ?_
    refine evs_run 1 (by as_aux_lemma => kernel_rfl) ?_
    refine evs_endS (by as_aux_lemma => kernel_rfl) (fun τ hτ => ?_)
    refine th_normalS hτ ⟨[(0, (.sl (List.map cI s0))), (1, (vI v)), (7, (vI (s0.length : Int))), (8, (vI s23)), (9, (vB (decide (s23 < (s0.length : Int)))))], []⟩ (here (by as_aux_lemma => kernel_rfl)) ?_
    refine sem_seq (by as_aux_lemma => kernel_rfl) ?_
    refine sem_cond (decide (s23 < (s0.length : Int))) (by as_aux_lemma => kernel_rfl) (by as_aux_lemma => kernel_rfl) (fun hb => ?_) (fun hb => ?_)
    · replace h := iteT hb h
      refine sem_skipS (by as_aux_lemma => kernel_rfl) (fun τ hτ => ?_)
      refine th_normalS hτ ⟨[(0, (.sl (List.map cI s0))), (1, (vI v)), (7, (vI (s0.length : Int))), (8, (vI s23))], []⟩ (here (by as_aux_lemma => kernel_rfl)) ?_
      refine sem_seq (by as_aux_lemma => kernel_rfl) ?_
      refine sem_block (by as_aux_lemma => kernel_rfl) ?_
      refine sem_seq (by as_aux_lemma => kernel_rfl) ?_
      refine sem_region (by as_aux_lemma => kernel_rfl) ?_
      refine evs_run 2 (by as_aux_lemma => kernel_rfl) ?_
      refine evs_endS (by as_aux_lemma => kernel_rfl) (fun τ hτ => ?_)
      refine th_normalS hτ ⟨[(0, (.sl (List.map cI s0))), (1, (vI v)), (5, (vI s23)), (7, (vI (s0.length : Int))), (8, (vI s23))], []⟩ (here (by as_aux_lemma => kernel_rfl)) ?_
      refine sem_seq (by as_aux_lemma => kernel_rfl) ?_
      refine sem_region (by as_aux_lemma => kernel_rfl) ?_
      refine evs_run 3 (by as_aux_lemma => kernel_rfl) ?_
      obtain ⟨x31, hx31, h⟩ := bindS h
      refine evs_op (st_idx (c := cI) (l := s0) (i := s23) (kd := .i64) (sz := 1) (by as_aux_lemma => kernel_rfl) hx31 rfl) ?_
      refine evs_run 2 (by as_aux_lemma => kernel_rfl) ?_
      refine evs_endS (by as_aux_lemma => kernel_rfl) (fun τ hτ => ?_)
      refine th_normalS hτ ⟨[(0, (.sl (List.map cI s0))), (1, (vI v)), (5, (vI s23)), (7, (vI (s0.length : Int))), (8, (vI s23)), (16, (vB (v == x31)))], []⟩ (here (by as_aux_lemma => kernel_rfl)) ?_
      refine sem_cond (v == x31) (by as_aux_lemma => kernel_rfl) (by as_aux_lemma => kernel_rfl) (fun hb => ?_) (fun hb => ?_)
      · replace h := iteT hb h
        refine sem_seq (by as_aux_lemma => kernel_rfl) ?_
        refine sem_region (by as_aux_lemma => kernel_rfl) ?_
        refine evs_run 2 (by as_aux_lemma => kernel_rfl) ?_
        refine evs_endS (by as_aux_lemma => kernel_rfl) (fun τ hτ => ?_)
        refine th_normalS hτ ⟨[(4, (vI s23))], []⟩ (here (by as_aux_lemma => kernel_rfl)) ?_
        refine sem_retS (by as_aux_lemma => kernel_rfl) (fun τ hτ => ?_)
        refine bl_ret ?_
        refine th_ret ?_
        obtain rfl := Option.some.inj h
        exact lk_outS hτ rfl (here (by as_aux_lemma => kernel_rfl))
      · replace h := iteF hb h
        refine sem_skipS (by as_aux_lemma => kernel_rfl) (fun τ hτ => ?_)
        refine bl_normal ?_
        refine th_normalS hτ ⟨[(0, (.sl (List.map cI s0))), (1, (vI v)), (7, (vI (s0.length : Int))), (8, (vI s23))], []⟩ (here (by as_aux_lemma => kernel_rfl)) ?_
        refine sem_region (by as_aux_lemma => kernel_rfl) ?_
        refine evs_run 2 (by as_aux_lemma => kernel_rfl) ?_
        refine evs_endS (by as_aux_lemma => kernel_rfl) (fun τ hτ => ?_)
        obtain rfl := Option.some.inj h
        exact lk_nextS hτ (here (by as_aux_lemma => kernel_rfl))
    · replace h := iteF hb h
      refine sem_exitS 0 (by as_aux_lemma => kernel_rfl) rfl (fun τ hτ => ?_)
      refine th_exit ?_
      obtain rfl := Option.some.inj h
      exact lk_outS hτ rfl (here (by as_aux_lemma => kernel_rfl))
  · intro x
    rcases x with _ | _ <;> rfl
  · intro τ hτ
    rcases x32 with j33 | j34
    · refine bl_ret ?_
      refine th_ret ?_
      obtain rfl := Option.some.inj h
      exact rk_ret hτ [(4, (vI j33))] (here (by as_aux_lemma => kernel_rfl)) (by as_aux_lemma => kernel_rfl)
    · refine bl_hit (by as_aux_lemma => kernel_rfl) ?_
      refine th_normalS hτ ⟨[], []⟩ (here (by as_aux_lemma => kernel_rfl)) ?_
      refine sem_seq (by as_aux_lemma => kernel_rfl) ?_
      refine sem_region (by as_aux_lemma => kernel_rfl) ?_
      refine evs_run 1 (by as_aux_lemma => kernel_rfl) ?_
      refine evs_endS (by as_aux_lemma => kernel_rfl) (fun τ hτ => ?_)
      refine th_normalS hτ ⟨[(4, (vI (-1)))], []⟩ (here (by as_aux_lemma => kernel_rfl)) ?_
      refine sem_retS (by as_aux_lemma => kernel_rfl) (fun τ hτ => ?_)
      obtain rfl := Option.some.inj h
      exact rk_ret hτ [(4, (vI (-1)))] (here (by as_aux_lemma => kernel_rfl)) (by as_aux_lemma => kernel_rfl)
theorem W.slices_Contains_Lint_int_ok {s0 : (List Int)} {v : Int} {r : Bool} (h : slices_Contains_Lint_int s0 v = some r) : PC G.P 64 [(.sl (List.map cI s0)), (vI v)] [] (vB r) [] := by
  refine pc_of G (fn := Try.f64) Try.func64 (by as_aux_lemma => kernel_rfl) (by as_aux_lemma => kernel_rfl) (by as_aux_lemma => kernel_rfl) (by as_aux_lemma => kernel_rfl) (by as_aux_lemma => kernel_rfl) ?_
  refine sem_set ⟨[(0, (.sl (List.map cI s0))), (1, (vI v))], []⟩ (by as_aux_lemma => kernel_rfl) ?_
  refine sem_seq (by as_aux_lemma => kernel_rfl) ?_
  refine sem_region (by as_aux_lemma => kernel_rfl) ?_
  refine evs_run 1 (by as_aux_lemma => kernel_rfl) ?_
  refine evs_endS (by as_aux_lemma => kernel_rfl) (fun τ hτ => ?_)
  refine th_normalS hτ ⟨[(0, (.sl (List.map cI s0))), (1, (vI v))], []⟩ (here (by as_aux_lemma => kernel_rfl)) ?_
  refine sem_seq (by as_aux_lemma => kernel_rfl) ?_
  refine sem_region (by as_aux_lemma => kernel_rfl) ?_
  refine evs_run 2 (by as_aux_lemma => kernel_rfl) ?_
  obtain ⟨r2, hr2, h⟩ := bindS h
  refine evs_callS [] [] [] (by as_aux_lemma => kernel_rfl) (W.slices_Index_Lint_int_ok hr2) (by as_aux_lemma => kernel_rfl) (by as_aux_lemma => kernel_rfl) (.inl rfl) ?_
  refine evs_run 2 (by as_aux_lemma => kernel_rfl) ?_
  refine evs_endS (by as_aux_lemma => kernel_rfl) (fun τ hτ => ?_)
  refine th_normalS hτ ⟨[(4, (vB (decide (r2 ≥ 0))))], []⟩ (here (by as_aux_lemma => kernel_rfl)) ?_
  refine sem_retS (by as_aux_lemma => kernel_rfl) (fun τ hτ => ?_)
  obtain rfl := Option.some.inj h
  exact rk_ret hτ [(4, (vB (decide (r2 ≥ 0))))] (here (by as_aux_lemma => kernel_rfl)) (by as_aux_lemma => kernel_rfl)
theorem W.setup_meets_1_ok {x0 : Int} {a_0 : (List Int)} {r : Bool} (h : setup_meets_1 x0 a_0 = some r) : PC G.P 90 [(vI x0), (.vptr [(.sl (List.map cI a_0))] 0)] [] (vB r) [] := by
  refine pc_of G (fn := Try.f90) Try.func90 (by as_aux_lemma => kernel_rfl) (by as_aux_lemma => kernel_rfl) (by as_aux_lemma => kernel_rfl) (by as_aux_lemma => kernel_rfl) (by as_aux_lemma => kernel_rfl) ?_
  refine sem_set ⟨[(0, (vI x0)), (1, (.vptr [(.sl (List.map cI a_0))] 0))], []⟩ (by as_aux_lemma => kernel_rfl) ?_
  refine sem_seq (by as_aux_lemma => kernel_rfl) ?_
  refine sem_region (by as_aux_lemma => kernel_rfl) ?_
  refine evs_run 1 (by as_aux_lemma => kernel_rfl) ?_
  refine evs_endS (by as_aux_lemma => kernel_rfl) (fun τ hτ => ?_)
  refine th_normalS hτ ⟨[(0, (vI x0)), (1, (.vptr [(.sl (List.map cI a_0))] 0))], []⟩ (here (by as_aux_lemma => kernel_rfl)) ?_
  refine sem_seq (by as_aux_lemma => kernel_rfl) ?_
  refine sem_region (by as_aux_lemma => kernel_rfl) ?_
  refine evs_run 2 (by as_aux_lemma => kernel_rfl) ?_
  obtain ⟨r2, hr2, h⟩ := bindS h
  refine evs_callS [] [] [] (by as_aux_lemma => kernel_rfl) (W.slices_Contains_Lint_int_ok hr2) (by as_aux_lemma => kernel_rfl) (by as_aux_lemma => kernel_rfl) (.inl rfl) ?_
  refine evs_run 1 (by as_aux_lemma => kernel_rfl) ?_
  refine evs_endS (by as_aux_lemma => kernel_rfl) (fun τ hτ => ?_)
  refine th_normalS hτ ⟨[(3, (vB r2))], []⟩ (here (by as_aux_lemma => kernel_rfl)) ?_
  refine sem_retS (by as_aux_lemma => kernel_rfl) (fun τ hτ => ?_)
  obtain rfl := Option.some.inj h
  exact rk_ret hτ [(3, (vB r2))] (here (by as_aux_lemma => kernel_rfl)) (by as_aux_lemma => kernel_rfl)
theorem W.slices_IndexFunc_Lint_int__setup_meets_1_ok {s0 : (List Int)} {f_0_0 : (List Int)} {r : Int} (h : slices_IndexFunc_Lint_int__setup_meets_1 s0 f_0_0 = some r) : PC G.P 86 [(.sl (List.map cI s0)), (.fn 90 [(.vptr [(.sl (List.map cI f_0_0))] 0)])] [] (vI r) [] := by
  refine pc_of G (fn := Try.f86) Try.func86 (by as_aux_lemma => kernel_rfl) (by as_aux_lemma => kernel_rfl) (by as_aux_lemma => kernel_rfl) (by as_aux_lemma => kernel_rfl) (by as_aux_lemma => kernel_rfl) ?_
  refine sem_set ⟨[(0, (.sl (List.map cI s0))), (1, (.fn 90 [(.vptr [(.sl (List.map cI f_0_0))] 0)]))], []⟩ (by as_aux_lemma => kernel_rfl) ?_
  refine sem_seq (by as_aux_lemma => kernel_rfl) ?_
  refine sem_region (by as_aux_lemma => kernel_rfl) ?_
  refine evs_run 1 (by as_aux_lemma => kernel_rfl) ?_
  refine evs_endS (by as_aux_lemma => kernel_rfl) (fun τ hτ => ?_)
  refine th_normalS hτ ⟨[(0, (.sl (List.map cI s0))), (1, (.fn 90 [(.vptr [(.sl (List.map cI f_0_0))] 0)]))], []⟩ (here (by as_aux_lemma => kernel_rfl)) ?_
  refine sem_seq (by as_aux_lemma => kernel_rfl) ?_
  refine sem_seq (by as_aux_lemma => kernel_rfl) ?_
  refine sem_region (by as_aux_lemma => kernel_rfl) ?_
  refine evs_run 1 (by as_aux_lemma => kernel_rfl) ?_
  refine evs_op (st_len (c := cI) (l := s0) (x := (.sl (List.map cI s0))) (by as_aux_lemma => kernel_rfl) (by as_aux_lemma => kernel_rfl)) ?_
  refine evs_run 1 (by as_aux_lemma => kernel_rfl) ?_
  refine evs_endS (by as_aux_lemma => kernel_rfl) (fun τ hτ => ?_)
  refine th_normalS hτ ⟨[(0, (.sl (List.map cI s0))), (1, (.fn 90 [(.vptr [(.sl (List.map cI f_0_0))] 0)])), (7, (vI (s0.length : Int))), (8, (vI 0))], []⟩ (here (by as_aux_lemma => kernel_rfl)) ?_
  refine sem_block (by as_aux_lemma => kernel_rfl) ?_
  obtain ⟨x56, hx56, h⟩ := bindS h
  refine sem_loopS (fun (s39 : Int) => ⟨[(0, (.sl (List.map cI s0))), (1, (.fn 90 [(.vptr [(.sl (List.map cI f_0_0))] 0)])), (7, (vI (s0.length : Int))), (8, (vI s39))], []⟩) (fun (x56 : Int ⊕ Unit) => match x56 with | .inl j57 => (.ret, ⟨[(4, (vI j57))], []⟩) | .inr j58 => (.exit 0, ⟨[], []⟩)) (slices_IndexFunc_Lint_int__setup_meets_1_l1 s0 f_0_0) 0 x56 (by as_aux_lemma => kernel_rfl) (here (by as_aux_lemma => kernel_rfl)) hx56 ?_ ?_ ?_
  · intro s39 r h
    refine sem_seq (by as_aux_lemma => kernel_rfl) ?_
    refine sem_region (by as_aux_lemma => kernel_rfl) ?_
    refine evs_run 1 (by as_aux_lemma => kernel_rfl) ?_
    refine evs_endS (by as_aux_lemma => kernel_rfl) (fun τ hτ => ?_)
    refine th_normalS hτ ⟨[(0, (.sl (List.map cI s0))), (1, (.fn 90 [(.vptr [(.sl (List.map cI f_0_0))] 0)])), (7, (vI (s0.length : Int))), (8, (vI s39)), (9, (vB (decide (s39 < (s0.length : Int)))))], []⟩ (here (by as_aux_lemma => kernel_rfl)) ?_
    refine sem_seq (by as_aux_lemma => kernel_rfl) ?_
    refine sem_cond (decide (s39 < (s0.length : Int))) (by as_aux_lemma => kernel_rfl) (by as_aux_lemma => kernel_rfl) (fun hb => ?_) (fun hb => ?_)
    · replace h := iteT hb h
      refine sem_skipS (by as_aux_lemma => kernel_rfl) (fun τ hτ => ?_)
      refine th_normalS hτ ⟨[(0, (.sl (List.map cI s0))), (1, (.fn 90 [(.vptr [(.sl (List.map cI f_0_0))] 0)])), (7, (vI (s0.length : Int))), (8, (vI s39))], []⟩ (here (by as_aux_lemma => kernel_rfl)) ?_
      refine sem_seq (by as_aux_lemma => kernel_rfl) ?_
      refine sem_block (by as_aux_lemma => kernel_rfl) ?_
      refine sem_seq (by as_aux_lemma => kernel_rfl) ?_
      refine sem_region (by as_aux_lemma => kernel_rfl) ?_
      refine evs_run 2 (by as_aux_lemma => kernel_rfl) ?_
      refine evs_endS (by as_aux_lemma => kernel_rfl) (fun τ hτ => ?_)
      refine th_normalS hτ ⟨[(0, (.sl (List.map cI s0))), (1, (.fn 90 [(.vptr [(.sl (List.map cI f_0_0))] 0)])), (5, (vI s39)), (7, (vI (s0.length : Int))), (8, (vI s39))], []⟩ (here (by as_aux_lemma => kernel_rfl)) ?_
      refine sem_seq (by as_aux_lemma => kernel_rfl) ?_
      refine sem_region (by as_aux_lemma => kernel_rfl) ?_
      refine evs_run 3 (by as_aux_lemma => kernel_rfl) ?_
      obtain ⟨x54, hx54, h⟩ := bindS h
      refine evs_op (st_idx (c := cI) (l := s0) (i := s39) (kd := .i64) (sz := 1) (by as_aux_lemma => kernel_rfl) hx54 rfl) ?_
      refine evs_run 1 (by as_aux_lemma => kernel_rfl) ?_
      obtain ⟨r55, hr55, h⟩ := bindS h
      refine evs_callS [] [] [] (by as_aux_lemma => kernel_rfl) (W.setup_meets_1_ok hr55) (by as_aux_lemma => kernel_rfl) (by as_aux_lemma => kernel_rfl) (.inl rfl) ?_
      refine evs_endS (by as_aux_lemma => kernel_rfl) (fun τ hτ => ?_)
      refine th_normalS hτ ⟨[(0, (.sl (List.map cI s0))), (1, (.fn 90 [(.vptr [(.sl (List.map cI f_0_0))] 0)])), (5, (vI s39)), (7, (vI (s0.length : Int))), (8, (vI s39)), (16, (vB r55))], []⟩ (here (by as_aux_lemma => kernel_rfl)) ?_
      refine sem_cond r55 (by as_aux_lemma => kernel_rfl) (by as_aux_lemma => kernel_rfl) (fun hb => ?_) (fun hb => ?_)
      · replace h := iteT hb h
        refine sem_seq (by as_aux_lemma => kernel_rfl) ?_
        refine sem_region (by as_aux_lemma => kernel_rfl) ?_
        refine evs_run 2 (by as_aux_lemma => kernel_rfl) ?_
        refine evs_endS (by as_aux_lemma => kernel_rfl) (fun τ hτ => ?_)
        refine th_normalS hτ ⟨[(4, (vI s39))], []⟩ (here (by as_aux_lemma => kernel_rfl)) ?_
        refine sem_retS (by as_aux_lemma => kernel_rfl) (fun τ hτ => ?_)
        refine bl_ret ?_
        refine th_ret ?_
        obtain rfl := Option.some.inj h
        exact lk_outS hτ rfl (here (by as_aux_lemma => kernel_rfl))
      · replace h := iteF hb h
        refine sem_skipS (by as_aux_lemma => kernel_rfl) (fun τ hτ => ?_)
        refine bl_normal ?_
        refine th_normalS hτ ⟨[(0, (.sl (List.map cI s0))), (1, (.fn 90 [(.vptr [(.sl (List.map cI f_0_0))] 0)])), (7, (vI (s0.length : Int))), (8, (vI s39))], []⟩ (here (by as_aux_lemma => kernel_rfl)) ?_
        refine sem_region (by as_aux_lemma => kernel_rfl) ?_
        refine evs_run 2 (by as_aux_lemma => kernel_rfl) ?_
        refine evs_endS (by as_aux_lemma => kernel_rfl) (fun τ hτ => ?_)
        obtain rfl := Option.some.inj h
        exact lk_nextS hτ (here (by as_aux_lemma => kernel_rfl))
    · replace h := iteF hb h
      refine sem_exitS 0 (by as_aux_lemma => kernel_rfl) rfl (fun τ hτ => ?_)
      refine th_exit ?_
      obtain rfl := Option.some.inj h
      exact lk_outS hτ rfl (here (by as_aux_lemma => kernel_rfl))
  · intro x
    rcases x with _ | _ <;> rfl
  · intro τ hτ
    rcases x56 with j57 | j58
    · refine bl_ret ?_
      refine th_ret ?_
      obtain rfl := Option.some.inj h
      exact rk_ret hτ [(4, (vI j57))] (here (by as_aux_lemma => kernel_rfl)) (by as_aux_lemma => kernel_rfl)
    · refine bl_hit (by as_aux_lemma => kernel_rfl) ?_
      refine th_normalS hτ ⟨[], []⟩ (here (by as_aux_lemma => kernel_rfl)) ?_
      refine sem_seq (by as_aux_lemma => kernel_rfl) ?_
      refine sem_region (by as_aux_lemma => kernel_rfl) ?_
      refine evs_run 1 (by as_aux_lemma => kernel_rfl) ?_
      refine evs_endS (by as_aux_lemma => kernel_rfl) (fun τ hτ => ?_)
      refine th_normalS hτ ⟨[(4, (vI (-1)))], []⟩ (here (by as_aux_lemma => kernel_rfl)) ?_
      refine sem_retS (by as_aux_lemma => kernel_rfl) (fun τ hτ => ?_)
      obtain rfl := Option.some.inj h
      exact rk_ret hτ [(4, (vI (-1)))] (here (by as_aux_lemma => kernel_rfl)) (by as_aux_lemma => kernel_rfl)
theorem W.slices_ContainsFunc_Lint_int__setup_meets_1_ok {s0 : (List Int)} {f_0_0 : (List Int)} {r : Bool} (h : slices_ContainsFunc_Lint_int__setup_meets_1 s0 f_0_0 = some r) : PC G.P 89 [(.sl (List.map cI s0)), (.fn 90 [(.vptr [(.sl (List.map cI f_0_0))] 0)])] [] (vB r) [] := by
  refine pc_of G (fn := Try.f89) Try.func89 (by as_aux_lemma => kernel_rfl) (by as_aux_lemma => kernel_rfl) (by as_aux_lemma => kernel_rfl) (by as_aux_lemma => kernel_rfl) (by as_aux_lemma => kernel_rfl) ?_
  refine sem_set ⟨[(0, (.sl (List.map cI s0))), (1, (.fn 90 [(.vptr [(.sl (List.map cI f_0_0))] 0)]))], []⟩ (by as_aux_lemma => kernel_rfl) ?_
  refine sem_seq (by as_aux_lemma => kernel_rfl) ?_
  refine sem_region (by as_aux_lemma => kernel_rfl) ?_
  refine evs_run 1 (by as_aux_lemma => kernel_rfl) ?_
  refine evs_endS (by as_aux_lemma => kernel_rfl) (fun τ hτ => ?_)
  refine th_normalS hτ ⟨[(0, (.sl (List.map cI s0))), (1, (.fn 90 [(.vptr [(.sl (List.map cI f_0_0))] 0)]))], []⟩ (here (by as_aux_lemma => kernel_rfl)) ?_
  refine sem_seq (by as_aux_lemma => kernel_rfl) ?_
  refine sem_region (by as_aux_lemma => kernel_rfl) ?_
  refine evs_run 2 (by as_aux_lemma => kernel_rfl) ?_
  obtain ⟨r2, hr2, h⟩ := bindS h
  refine evs_callS [] [] [] (by as_aux_lemma => kernel_rfl) (W.slices_IndexFunc_Lint_int__setup_meets_1_ok hr2) (by as_aux_lemma => kernel_rfl) (by as_aux_lemma => kernel_rfl) (.inl rfl) ?_
  refine evs_run 2 (by as_aux_lemma => kernel_rfl) ?_
  refine evs_endS (by as_aux_lemma => kernel_rfl) (fun τ hτ => ?_)
  refine th_normalS hτ ⟨[(4, (vB (decide (r2 ≥ 0))))], []⟩ (here (by as_aux_lemma => kernel_rfl)) ?_
  refine sem_retS (by as_aux_lemma => kernel_rfl) (fun τ hτ => ?_)
  obtain rfl := Option.some.inj h
  exact rk_ret hτ [(4, (vB (decide (r2 ≥ 0))))] (here (by as_aux_lemma => kernel_rfl)) (by as_aux_lemma => kernel_rfl)
theorem W.setup_meets_ok {a : (List Int)} {b : (List Int)} {r : Bool} (h : setup_meets a b = some r) : PC G.P 76 [(.sl (List.map cI a)), (.sl (List.map cI b))] [] (vB r) [] := by
  refine pc_of G (fn := Try.f76) Try.func76 (by as_aux_lemma => kernel_rfl) (by as_aux_lemma => kernel_rfl) (by as_aux_lemma => kernel_rfl) (by as_aux_lemma => kernel_rfl) (by as_aux_lemma => kernel_rfl) ?_
  refine sem_set ⟨[(0, (.sl (List.map cI a))), (1, (.sl (List.map cI b)))], []⟩ (by as_aux_lemma => kernel_rfl) ?_
  refine sem_seq (by as_aux_lemma => kernel_rfl) ?_
  refine sem_region (by as_aux_lemma => kernel_rfl) ?_
  refine evs_run 2 (by as_aux_lemma => kernel_rfl) ?_
  refine evs_endS (by as_aux_lemma => kernel_rfl) (fun τ hτ => ?_)
  refine th_normalS hτ ⟨[(0, (.sl (List.map cI a))), (3, (.ptr 3 0))], [(3, .box [(.sl (List.map cI b))])]⟩ (here (by as_aux_lemma => kernel_rfl)) ?_
  refine sem_seq (by as_aux_lemma => kernel_rfl) ?_
  refine sem_region (by as_aux_lemma => kernel_rfl) ?_
  refine evs_run 2 (by as_aux_lemma => kernel_rfl) ?_
  obtain ⟨r2, hr2, h⟩ := bindS h
  refine evs_callS [] [] [3] (by as_aux_lemma => kernel_rfl) (W.slices_ContainsFunc_Lint_int__setup_meets_1_ok hr2) (by as_aux_lemma => kernel_rfl) (by as_aux_lemma => kernel_rfl) (.inr ⟨rfl, fun _ _ => ind_nil⟩) ?_
  refine evs_run 1 (by as_aux_lemma => kernel_rfl) ?_
  refine evs_endS (by as_aux_lemma => kernel_rfl) (fun τ hτ => ?_)
  refine th_normalS hτ ⟨[(4, (vB r2))], []⟩ (here (by as_aux_lemma => kernel_rfl)) ?_
  refine sem_retS (by as_aux_lemma => kernel_rfl) (fun τ hτ => ?_)
  obtain rfl := Option.some.inj h
  exact rk_ret hτ [(4, (vB r2))] (here (by as_aux_lemma => kernel_rfl)) (by as_aux_lemma => kernel_rfl)
theorem W.setup_serves_ok {needs : (List (List Int))} {w : Window} {pairs : (List Int)} {r : Bool} (h : setup_serves needs w pairs = some r) : PC G.P 51 [(.sl (List.map (cS cI) needs)), (.agg [(vI w.From), (vI w.To)]), (.sl (List.map cI pairs))] [] (vB r) [] := by
  refine pc_of G (fn := Try.f51) Try.func51 (by as_aux_lemma => kernel_rfl) (by as_aux_lemma => kernel_rfl) (by as_aux_lemma => kernel_rfl) (by as_aux_lemma => kernel_rfl) (by as_aux_lemma => kernel_rfl) ?_
  refine sem_set ⟨[(0, (.sl (List.map (cS cI) needs))), (1, (.agg [(vI w.From), (vI w.To)])), (2, (.sl (List.map cI pairs)))], []⟩ (by as_aux_lemma => kernel_rfl) ?_
  refine sem_seq (by as_aux_lemma => kernel_rfl) ?_
  refine sem_region (by as_aux_lemma => kernel_rfl) ?_
  refine evs_run 2 (by as_aux_lemma => kernel_rfl) ?_
  refine evs_endS (by as_aux_lemma => kernel_rfl) (fun τ hτ => ?_)
  refine th_normalS hτ ⟨[(0, (.sl (List.map (cS cI) needs))), (2, (.sl (List.map cI pairs))), (4, (.ptr 4 0))], [(4, .box [(vI w.From), (vI w.To)])]⟩ (here (by as_aux_lemma => kernel_rfl)) ?_
  refine sem_seq (by as_aux_lemma => kernel_rfl) ?_
  refine sem_seq (by as_aux_lemma => kernel_rfl) ?_
  refine sem_region (by as_aux_lemma => kernel_rfl) ?_
  refine evs_run 6 (by as_aux_lemma => kernel_rfl) ?_
  obtain ⟨l33, hl33, h⟩ := bindS h
  refine evs_op (st_sl (c := (cS cI)) (l := needs) (sz := 1) (lo := w.From) (k1 := .i64) (hi := (iadd w.To 1)) (k2 := .i64) (by as_aux_lemma => kernel_rfl) (fun _ => rfl) hl33) ?_
  refine evs_op (st_len (c := (cS cI)) (l := l33) (x := (.sl (List.map (cS cI) l33))) (by as_aux_lemma => kernel_rfl) (by as_aux_lemma => kernel_rfl)) ?_
  refine evs_run 1 (by as_aux_lemma => kernel_rfl) ?_
  refine evs_endS (by as_aux_lemma => kernel_rfl) (fun τ hτ => ?_)
  refine th_normalS hτ ⟨[(2, (.sl (List.map cI pairs))), (15, (.sl (List.map (cS cI) l33))), (16, (vI (l33.length : Int))), (17, (vI 0))], []⟩ (here (by as_aux_lemma => kernel_rfl)) ?_
  refine sem_block (by as_aux_lemma => kernel_rfl) ?_
  obtain ⟨x60, hx60, h⟩ := bindS h
  refine sem_loopS (fun (s43 : Int) => ⟨[(2, (.sl (List.map cI pairs))), (15, (.sl (List.map (cS cI) l33))), (16, (vI (l33.length : Int))), (17, (vI s43))], []⟩) (fun (x60 : Unit ⊕ Unit) => match x60 with | .inl j61 => (.ret, ⟨[(6, (vB false))], []⟩) | .inr j62 => (.exit 0, ⟨[], []⟩)) (setup_serves_l1 pairs l33) 0 x60 (by as_aux_lemma => kernel_rfl) (here (by as_aux_lemma => kernel_rfl)) hx60 ?_ ?_ ?_
  · intro s43 r h
    refine sem_seq (by as_aux_lemma => kernel_rfl) ?_
    refine sem_region (by as_aux_lemma => kernel_rfl) ?_
    refine evs_run 1 (by as_aux_lemma => kernel_rfl) ?_
    refine evs_endS (by as_aux_lemma => kernel_rfl) (fun τ hτ => ?_)
    refine th_normalS hτ ⟨[(2, (.sl (List.map cI pairs))), (15, (.sl (List.map (cS cI) l33))), (16, (vI (l33.length : Int))), (17, (vI s43)), (18, (vB (decide (s43 < (l33.length : Int)))))], []⟩ (here (by as_aux_lemma => kernel_rfl)) ?_
    refine sem_seq (by as_aux_lemma => kernel_rfl) ?_
    refine sem_cond (decide (s43 < (l33.length : Int))) (by as_aux_lemma => kernel_rfl) (by as_aux_lemma => kernel_rfl) (fun hb => ?_) (fun hb => ?_)
    · replace h := iteT hb h
      refine sem_skipS (by as_aux_lemma => kernel_rfl) (fun τ hτ => ?_)
      refine th_normalS hτ ⟨[(2, (.sl (List.map cI pairs))), (15, (.sl (List.map (cS cI) l33))), (16, (vI (l33.length : Int))), (17, (vI s43))], []⟩ (here (by as_aux_lemma => kernel_rfl)) ?_
      refine sem_seq (by as_aux_lemma => kernel_rfl) ?_
      refine sem_block (by as_aux_lemma => kernel_rfl) ?_
      refine sem_seq (by as_aux_lemma => kernel_rfl) ?_
      refine sem_region (by as_aux_lemma => kernel_rfl) ?_
      obtain ⟨x57, hx57, h⟩ := bindS h
      refine evs_op (st_idx (c := (cS cI)) (l := l33) (i := s43) (kd := .i64) (sz := 1) (by as_aux_lemma => kernel_rfl) hx57 rfl) ?_
      refine evs_run 2 (by as_aux_lemma => kernel_rfl) ?_
      refine evs_endS (by as_aux_lemma => kernel_rfl) (fun τ hτ => ?_)
      refine th_normalS hτ ⟨[(2, (.sl (List.map cI pairs))), (8, (.sl (List.map cI x57))), (15, (.sl (List.map (cS cI) l33))), (16, (vI (l33.length : Int))), (17, (vI s43))], []⟩ (here (by as_aux_lemma => kernel_rfl)) ?_
      refine sem_seq (by as_aux_lemma => kernel_rfl) ?_
      refine sem_region (by as_aux_lemma => kernel_rfl) ?_
      refine evs_run 2 (by as_aux_lemma => kernel_rfl) ?_
      obtain ⟨r59, hr59, h⟩ := bindS h
      refine evs_callS [] [] [] (by as_aux_lemma => kernel_rfl) (W.setup_meets_ok hr59) (by as_aux_lemma => kernel_rfl) (by as_aux_lemma => kernel_rfl) (.inl rfl) ?_
      refine evs_run 1 (by as_aux_lemma => kernel_rfl) ?_
      refine evs_endS (by as_aux_lemma => kernel_rfl) (fun τ hτ => ?_)
      refine th_normalS hτ ⟨[(2, (.sl (List.map cI pairs))), (15, (.sl (List.map (cS cI) l33))), (16, (vI (l33.length : Int))), (17, (vI s43)), (24, (vB (!r59)))], []⟩ (here (by as_aux_lemma => kernel_rfl)) ?_
      refine sem_cond (!r59) (by as_aux_lemma => kernel_rfl) (by as_aux_lemma => kernel_rfl) (fun hb => ?_) (fun hb => ?_)
      · replace h := iteT hb h
        refine sem_seq (by as_aux_lemma => kernel_rfl) ?_
        refine sem_region (by as_aux_lemma => kernel_rfl) ?_
        refine evs_run 1 (by as_aux_lemma => kernel_rfl) ?_
        refine evs_endS (by as_aux_lemma => kernel_rfl) (fun τ hτ => ?_)
        refine th_normalS hτ ⟨[(6, (vB false))], []⟩ (here (by as_aux_lemma => kernel_rfl)) ?_
        refine sem_retS (by as_aux_lemma => kernel_rfl) (fun τ hτ => ?_)
        refine bl_ret ?_
        refine th_ret ?_
        obtain rfl := Option.some.inj h
        exact lk_outS hτ rfl (here (by as_aux_lemma => kernel_rfl))
      · replace h := iteF hb h
        refine sem_skipS (by as_aux_lemma => kernel_rfl) (fun τ hτ => ?_)
        refine bl_normal ?_
        refine th_normalS hτ ⟨[(2, (.sl (List.map cI pairs))), (15, (.sl (List.map (cS cI) l33))), (16, (vI (l33.length : Int))), (17, (vI s43))], []⟩ (here (by as_aux_lemma => kernel_rfl)) ?_
        refine sem_region (by as_aux_lemma => kernel_rfl) ?_
        refine evs_run 2 (by as_aux_lemma => kernel_rfl) ?_
        refine evs_endS (by as_aux_lemma => kernel_rfl) (fun τ hτ => ?_)
        obtain rfl := Option.some.inj h
        exact lk_nextS hτ (here (by as_aux_lemma => kernel_rfl))
    · replace h := iteF hb h
      refine sem_exitS 0 (by as_aux_lemma => kernel_rfl) rfl (fun τ hτ => ?_)
      refine th_exit ?_
      obtain rfl := Option.some.inj h
      exact lk_outS hτ rfl (here (by as_aux_lemma => kernel_rfl))
  · intro x
    rcases x with _ | _ <;> rfl
  · intro τ hτ
    rcases x60 with j61 | j62
    · refine bl_ret ?_
      refine th_ret ?_
      obtain rfl := Option.some.inj h
      exact rk_ret hτ [(6, (vB false))] (here (by as_aux_lemma => kernel_rfl)) (by as_aux_lemma => kernel_rfl)
    · refine bl_hit (by as_aux_lemma => kernel_rfl) ?_
      refine th_normalS hτ ⟨[], []⟩ (here (by as_aux_lemma => kernel_rfl)) ?_
      refine sem_seq (by as_aux_lemma => kernel_rfl) ?_
      refine sem_region (by as_aux_lemma => kernel_rfl) ?_
      refine evs_run 1 (by as_aux_lemma => kernel_rfl) ?_
      refine evs_endS (by as_aux_lemma => kernel_rfl) (fun τ hτ => ?_)
      refine th_normalS hτ ⟨[(6, (vB true))], []⟩ (here (by as_aux_lemma => kernel_rfl)) ?_
      refine sem_retS (by as_aux_lemma => kernel_rfl) (fun τ hτ => ?_)
      obtain rfl := Option.some.inj h
      exact rk_ret hτ [(6, (vB true))] (here (by as_aux_lemma => kernel_rfl)) (by as_aux_lemma => kernel_rfl)
theorem W.setup_Serves_ok {needs : (List (List Int))} {w : Window} {pairs : (List Int)} {r : Bool × Int} (h : setup_Serves needs w pairs = some r) : PC G.P 23 [(.sl (List.map (cS cI) needs)), (.agg [(vI w.From), (vI w.To)]), (.sl (List.map cI pairs))] [] (.tup [(vB r.1), (vI r.2)]) [] := by
  refine pc_of G (fn := Try.f23) Try.func23 (by as_aux_lemma => kernel_rfl) (by as_aux_lemma => kernel_rfl) (by as_aux_lemma => kernel_rfl) (by as_aux_lemma => kernel_rfl) (by as_aux_lemma => kernel_rfl) ?_
  refine sem_set ⟨[(0, (.sl (List.map (cS cI) needs))), (1, (.agg [(vI w.From), (vI w.To)])), (2, (.sl (List.map cI pairs)))], []⟩ (by as_aux_lemma => kernel_rfl) ?_
  refine sem_seq (by as_aux_lemma => kernel_rfl) ?_
  refine sem_region (by as_aux_lemma => kernel_rfl) ?_
  refine evs_run 3 (by as_aux_lemma => kernel_rfl) ?_
  refine evs_endS (by as_aux_lemma => kernel_rfl) (fun τ hτ => ?_)
  refine th_normalS hτ ⟨[(0, (.sl (List.map (cS cI) needs))), (2, (.sl (List.map cI pairs))), (4, (.ptr 4 0))], [(4, .box [(vI w.From), (vI w.To)])]⟩ (here (by as_aux_lemma => kernel_rfl)) ?_
  refine sem_seq (by as_aux_lemma => kernel_rfl) ?_
  refine sem_seq (by as_aux_lemma => kernel_rfl) ?_
  refine sem_region (by as_aux_lemma => kernel_rfl) ?_
  refine evs_run 1 (by as_aux_lemma => kernel_rfl) ?_
  obtain ⟨r4, hr4, h⟩ := bindS h
  refine evs_callS [] [] [] (by as_aux_lemma => kernel_rfl) (W.setup_Validate_ok hr4) (by as_aux_lemma => kernel_rfl) (by as_aux_lemma => kernel_rfl) (.inl rfl) ?_
  refine evs_run 1 (by as_aux_lemma => kernel_rfl) ?_
  refine evs_endS (by as_aux_lemma => kernel_rfl) (fun τ hτ => ?_)
  refine th_normalS hτ ⟨[(0, (.sl (List.map (cS cI) needs))), (2, (.sl (List.map cI pairs))), (4, (.ptr 4 0)), (8, (vI r4))], [(4, .box [(vI w.From), (vI w.To)])]⟩ (here (by as_aux_lemma => kernel_rfl)) ?_
  refine sem_seq (by as_aux_lemma => kernel_rfl) ?_
  refine sem_region (by as_aux_lemma => kernel_rfl) ?_
  refine evs_run 2 (by as_aux_lemma => kernel_rfl) ?_
  refine evs_endS (by as_aux_lemma => kernel_rfl) (fun τ hτ => ?_)
  refine th_normalS hτ ⟨[(0, (.sl (List.map (cS cI) needs))), (2, (.sl (List.map cI pairs))), (4, (.ptr 4 0)), (8, (vI r4)), (12, (vB (r4 != 0)))], [(4, .box [(vI w.From), (vI w.To)])]⟩ (here (by as_aux_lemma => kernel_rfl)) ?_
  refine sem_cond (r4 != 0) (by as_aux_lemma => kernel_rfl) (by as_aux_lemma => kernel_rfl) (fun hb => ?_) (fun hb => ?_)
  · replace h := iteT hb h
    refine sem_seq (by as_aux_lemma => kernel_rfl) ?_
    refine sem_region (by as_aux_lemma => kernel_rfl) ?_
    refine evs_run 3 (by as_aux_lemma => kernel_rfl) ?_
    refine evs_endS (by as_aux_lemma => kernel_rfl) (fun τ hτ => ?_)
    refine th_normalS hτ ⟨[(6, (vB false)), (7, (vI r4))], []⟩ (here (by as_aux_lemma => kernel_rfl)) ?_
    refine sem_retS (by as_aux_lemma => kernel_rfl) (fun τ hτ => ?_)
    refine th_ret ?_
    obtain rfl := Option.some.inj h
    exact rk_ret hτ [(6, (vB false)), (7, (vI r4))] (here (by as_aux_lemma => kernel_rfl)) (by as_aux_lemma => kernel_rfl)
  · replace h := iteF hb h
    refine sem_skipS (by as_aux_lemma => kernel_rfl) (fun τ hτ => ?_)
    refine th_normalS hτ ⟨[(0, (.sl (List.map (cS cI) needs))), (2, (.sl (List.map cI pairs))), (4, (.ptr 4 0))], [(4, .box [(vI w.From), (vI w.To)])]⟩ (here (by as_aux_lemma => kernel_rfl)) ?_
    refine sem_seq (by as_aux_lemma => kernel_rfl) ?_
    refine sem_seq (by as_aux_lemma => kernel_rfl) ?_
    obtain ⟨j12, hj12, h⟩ := bindS h
    refine sem_regionC ⟨[(0, (.sl (List.map (cS cI) needs))), (2, (.sl (List.map cI pairs))), (4, (.ptr 500000 0)), (22, (vB j12))], [(500000, .box [(vI w.From), (vI w.To)])]⟩ (by as_aux_lemma => kernel_rfl) ?_ (fun τ hτ => ?_)
    · replace h := hj12
      refine evs_run 2 (by as_aux_lemma => kernel_rfl) ?_
      obtain ⟨r13, hr13, h⟩ := bindS h
      refine evs_callS [] [] [] (by as_aux_lemma => kernel_rfl) (W.setup_validWindow_ok hr13) (by as_aux_lemma => kernel_rfl) (by as_aux_lemma => kernel_rfl) (.inl rfl) ?_
      refine evs_run 2 (by as_aux_lemma => kernel_rfl) ?_
      refine evs_split r13 (fun b0 => ⟨[(0, (.sl (List.map (cS cI) needs))), (2, (.sl (List.map cI pairs))), (4, (.ptr 4 0)), (18, (vB (!b0)))], [(4, .box [(vI w.From), (vI w.To)])]⟩) (by as_aux_lemma => kernel_rfl) (fun hb => ?_) (fun hb => ?_)
      · replace h := iteT hb h
        refine evs_run 1 (by as_aux_lemma => kernel_rfl) ?_
        obtain ⟨r14, hr14, h⟩ := bindS h
        refine evs_callS [] [] [] (by as_aux_lemma => kernel_rfl) (W.setup_isSet_ok hr14) (by as_aux_lemma => kernel_rfl) (by as_aux_lemma => kernel_rfl) (.inl rfl) ?_
        refine evs_run 2 (by as_aux_lemma => kernel_rfl) ?_
        refine evs_endS (by as_aux_lemma => kernel_rfl) (fun τ hτ => ?_)
        obtain rfl := Option.some.inj h
        exact leafC hτ (subR_prep [] [(4, 500000)] (by as_aux_lemma => kernel_rfl) rfl rfl (by as_aux_lemma => kernel_rfl))
      · replace h := iteF hb h
        refine evs_run 4 (by as_aux_lemma => kernel_rfl) ?_
        refine evs_endS (by as_aux_lemma => kernel_rfl) (fun τ hτ => ?_)
        obtain rfl := Option.some.inj h
        exact leafC hτ (subR_prep [] [(4, 500000)] (by as_aux_lemma => kernel_rfl) rfl rfl (by as_aux_lemma => kernel_rfl))
    refine th_normalS hτ ⟨[(0, (.sl (List.map (cS cI) needs))), (2, (.sl (List.map cI pairs))), (4, (.ptr 500000 0)), (22, (vB j12))], [(500000, .box [(vI w.From), (vI w.To)])]⟩ (here (by as_aux_lemma => kernel_rfl)) ?_
    refine sem_cond j12 (by as_aux_lemma => kernel_rfl) (by as_aux_lemma => kernel_rfl) (fun hb => ?_) (fun hb => ?_)
    · replace h := iteT hb h
      refine sem_seq (by as_aux_lemma => kernel_rfl) ?_
      refine sem_region (by as_aux_lemma => kernel_rfl) ?_
      refine evs_run 2 (by as_aux_lemma => kernel_rfl) ?_
      refine evs_endS (by as_aux_lemma => kernel_rfl) (fun τ hτ => ?_)
      refine th_normalS hτ ⟨[(6, (vB false)), (7, (vI 1))], []⟩ (here (by as_aux_lemma => kernel_rfl)) ?_
      refine sem_retS (by as_aux_lemma => kernel_rfl) (fun τ hτ => ?_)
      refine th_ret ?_
      obtain rfl := Option.some.inj h
      exact rk_ret hτ [(6, (vB false)), (7, (vI 1))] (here (by as_aux_lemma => kernel_rfl)) (by as_aux_lemma => kernel_rfl)
    · replace h := iteF hb h
      refine sem_skipS (by as_aux_lemma => kernel_rfl) (fun τ hτ => ?_)
      refine th_normalS hτ ⟨[(0, (.sl (List.map (cS cI) needs))), (2, (.sl (List.map cI pairs))), (4, (.ptr 500000 0))], [(500000, .box [(vI w.From), (vI w.To)])]⟩ (here (by as_aux_lemma => kernel_rfl)) ?_
      refine sem_seq (by as_aux_lemma => kernel_rfl) ?_
      refine sem_region (by as_aux_lemma => kernel_rfl) ?_
      refine evs_run 3 (by as_aux_lemma => kernel_rfl) ?_
      obtain ⟨r16, hr16, h⟩ := bindS h
      refine evs_callS [] [] [] (by as_aux_lemma => kernel_rfl) (W.setup_serves_ok hr16) (by as_aux_lemma => kernel_rfl) (by as_aux_lemma => kernel_rfl) (.inl rfl) ?_
      refine evs_run 2 (by as_aux_lemma => kernel_rfl) ?_
      refine evs_endS (by as_aux_lemma => kernel_rfl) (fun τ hτ => ?_)
      refine th_normalS hτ ⟨[(6, (vB r16)), (7, (vI 0))], []⟩ (here (by as_aux_lemma => kernel_rfl)) ?_
      refine sem_retS (by as_aux_lemma => kernel_rfl) (fun τ hτ => ?_)
      obtain rfl := Option.some.inj h
      exact rk_ret hτ [(6, (vB r16)), (7, (vI 0))] (here (by as_aux_lemma => kernel_rfl)) (by as_aux_lemma => kernel_rfl)
theorem W.sheetmetalref05_Serves_ok {needs : (List (List Int))} {w : Window} {pairs : (List Int)} {r : Bool × Int} (h : sheetmetalref05_Serves needs w pairs = some r) : PC G.P 24 [(.sl (List.map (cS cI) needs)), (.agg [(vI w.From), (vI w.To)]), (.sl (List.map cI pairs))] [] (.tup [(vB r.1), (vI r.2)]) [] := by
  refine pc_of G (fn := Try.f24) Try.func24 (by as_aux_lemma => kernel_rfl) (by as_aux_lemma => kernel_rfl) (by as_aux_lemma => kernel_rfl) (by as_aux_lemma => kernel_rfl) (by as_aux_lemma => kernel_rfl) ?_
  refine sem_set ⟨[(0, (.sl (List.map (cS cI) needs))), (1, (.agg [(vI w.From), (vI w.To)])), (2, (.sl (List.map cI pairs)))], []⟩ (by as_aux_lemma => kernel_rfl) ?_
  refine sem_seq (by as_aux_lemma => kernel_rfl) ?_
  refine sem_region (by as_aux_lemma => kernel_rfl) ?_
  refine evs_run 3 (by as_aux_lemma => kernel_rfl) ?_
  refine evs_endS (by as_aux_lemma => kernel_rfl) (fun τ hτ => ?_)
  refine th_normalS hτ ⟨[(0, (.sl (List.map (cS cI) needs))), (2, (.sl (List.map cI pairs))), (4, (.ptr 4 0))], [(4, .box [(vI w.From), (vI w.To)])]⟩ (here (by as_aux_lemma => kernel_rfl)) ?_
  refine sem_seq (by as_aux_lemma => kernel_rfl) ?_
  refine sem_seq (by as_aux_lemma => kernel_rfl) ?_
  refine sem_region (by as_aux_lemma => kernel_rfl) ?_
  refine evs_run 1 (by as_aux_lemma => kernel_rfl) ?_
  obtain ⟨r4, hr4, h⟩ := bindS h
  refine evs_callS [] [] [] (by as_aux_lemma => kernel_rfl) (W.sheetmetalref05_Validate_ok hr4) (by as_aux_lemma => kernel_rfl) (by as_aux_lemma => kernel_rfl) (.inl rfl) ?_
  refine evs_run 1 (by as_aux_lemma => kernel_rfl) ?_
  refine evs_endS (by as_aux_lemma => kernel_rfl) (fun τ hτ => ?_)
  refine th_normalS hτ ⟨[(0, (.sl (List.map (cS cI) needs))), (2, (.sl (List.map cI pairs))), (4, (.ptr 4 0)), (8, (vI r4))], [(4, .box [(vI w.From), (vI w.To)])]⟩ (here (by as_aux_lemma => kernel_rfl)) ?_
  refine sem_seq (by as_aux_lemma => kernel_rfl) ?_
  refine sem_region (by as_aux_lemma => kernel_rfl) ?_
  refine evs_run 2 (by as_aux_lemma => kernel_rfl) ?_
  refine evs_endS (by as_aux_lemma => kernel_rfl) (fun τ hτ => ?_)
  refine th_normalS hτ ⟨[(0, (.sl (List.map (cS cI) needs))), (2, (.sl (List.map cI pairs))), (4, (.ptr 4 0)), (8, (vI r4)), (12, (vB (r4 != 0)))], [(4, .box [(vI w.From), (vI w.To)])]⟩ (here (by as_aux_lemma => kernel_rfl)) ?_
  refine sem_cond (r4 != 0) (by as_aux_lemma => kernel_rfl) (by as_aux_lemma => kernel_rfl) (fun hb => ?_) (fun hb => ?_)
  · replace h := iteT hb h
    refine sem_seq (by as_aux_lemma => kernel_rfl) ?_
    refine sem_region (by as_aux_lemma => kernel_rfl) ?_
    refine evs_run 3 (by as_aux_lemma => kernel_rfl) ?_
    refine evs_endS (by as_aux_lemma => kernel_rfl) (fun τ hτ => ?_)
    refine th_normalS hτ ⟨[(6, (vB false)), (7, (vI r4))], []⟩ (here (by as_aux_lemma => kernel_rfl)) ?_
    refine sem_retS (by as_aux_lemma => kernel_rfl) (fun τ hτ => ?_)
    refine th_ret ?_
    obtain rfl := Option.some.inj h
    exact rk_ret hτ [(6, (vB false)), (7, (vI r4))] (here (by as_aux_lemma => kernel_rfl)) (by as_aux_lemma => kernel_rfl)
  · replace h := iteF hb h
    refine sem_skipS (by as_aux_lemma => kernel_rfl) (fun τ hτ => ?_)
    refine th_normalS hτ ⟨[(0, (.sl (List.map (cS cI) needs))), (2, (.sl (List.map cI pairs))), (4, (.ptr 4 0))], [(4, .box [(vI w.From), (vI w.To)])]⟩ (here (by as_aux_lemma => kernel_rfl)) ?_
    refine sem_seq (by as_aux_lemma => kernel_rfl) ?_
    refine sem_seq (by as_aux_lemma => kernel_rfl) ?_
    obtain ⟨j12, hj12, h⟩ := bindS h
    refine sem_regionC ⟨[(0, (.sl (List.map (cS cI) needs))), (2, (.sl (List.map cI pairs))), (4, (.ptr 500000 0)), (22, (vB j12))], [(500000, .box [(vI w.From), (vI w.To)])]⟩ (by as_aux_lemma => kernel_rfl) ?_ (fun τ hτ => ?_)
    · replace h := hj12
      refine evs_run 2 (by as_aux_lemma => kernel_rfl) ?_
      obtain ⟨r13, hr13, h⟩ := bindS h
      refine evs_callS [] [] [] (by as_aux_lemma => kernel_rfl) (W.sheetmetalref05_windowIn_ok hr13) (by as_aux_lemma => kernel_rfl) (by as_aux_lemma => kernel_rfl) (.inl rfl) ?_
      refine evs_run 2 (by as_aux_lemma => kernel_rfl) ?_
      refine evs_split r13 (fun b0 => ⟨[(0, (.sl (List.map (cS cI) needs))), (2, (.sl (List.map cI pairs))), (4, (.ptr 4 0)), (18, (vB (!b0)))], [(4, .box [(vI w.From), (vI w.To)])]⟩) (by as_aux_lemma => kernel_rfl) (fun hb => ?_) (fun hb => ?_)
      · replace h := iteT hb h
        refine evs_run 1 (by as_aux_lemma => kernel_rfl) ?_
        obtain ⟨r14, hr14, h⟩ := bindS h
        refine evs_callS [] [] [] (by as_aux_lemma => kernel_rfl) (W.sheetmetalref05_isSet_ok hr14) (by as_aux_lemma => kernel_rfl) (by as_aux_lemma => kernel_rfl) (.inl rfl) ?_
        refine evs_run 2 (by as_aux_lemma => kernel_rfl) ?_
        refine evs_endS (by as_aux_lemma => kernel_rfl) (fun τ hτ => ?_)
        obtain rfl := Option.some.inj h
        exact leafC hτ (subR_prep [] [(4, 500000)] (by as_aux_lemma => kernel_rfl) rfl rfl (by as_aux_lemma => kernel_rfl))
      · replace h := iteF hb h
        refine evs_run 4 (by as_aux_lemma => kernel_rfl) ?_
        refine evs_endS (by as_aux_lemma => kernel_rfl) (fun τ hτ => ?_)
        obtain rfl := Option.some.inj h
        exact leafC hτ (subR_prep [] [(4, 500000)] (by as_aux_lemma => kernel_rfl) rfl rfl (by as_aux_lemma => kernel_rfl))
    refine th_normalS hτ ⟨[(0, (.sl (List.map (cS cI) needs))), (2, (.sl (List.map cI pairs))), (4, (.ptr 500000 0)), (22, (vB j12))], [(500000, .box [(vI w.From), (vI w.To)])]⟩ (here (by as_aux_lemma => kernel_rfl)) ?_
    refine sem_cond j12 (by as_aux_lemma => kernel_rfl) (by as_aux_lemma => kernel_rfl) (fun hb => ?_) (fun hb => ?_)
    · replace h := iteT hb h
      refine sem_seq (by as_aux_lemma => kernel_rfl) ?_
      refine sem_region (by as_aux_lemma => kernel_rfl) ?_
      refine evs_run 2 (by as_aux_lemma => kernel_rfl) ?_
      refine evs_endS (by as_aux_lemma => kernel_rfl) (fun τ hτ => ?_)
      refine th_normalS hτ ⟨[(6, (vB false)), (7, (vI 1))], []⟩ (here (by as_aux_lemma => kernel_rfl)) ?_
      refine sem_retS (by as_aux_lemma => kernel_rfl) (fun τ hτ => ?_)
      refine th_ret ?_
      obtain rfl := Option.some.inj h
      exact rk_ret hτ [(6, (vB false)), (7, (vI 1))] (here (by as_aux_lemma => kernel_rfl)) (by as_aux_lemma => kernel_rfl)
    · replace h := iteF hb h
      refine sem_skipS (by as_aux_lemma => kernel_rfl) (fun τ hτ => ?_)
      refine th_normalS hτ ⟨[(0, (.sl (List.map (cS cI) needs))), (2, (.sl (List.map cI pairs))), (4, (.ptr 500000 0))], [(500000, .box [(vI w.From), (vI w.To)])]⟩ (here (by as_aux_lemma => kernel_rfl)) ?_
      refine sem_seq (by as_aux_lemma => kernel_rfl) ?_
      refine sem_draw [] [] [] [] [] 7 (by as_aux_lemma => kernel_rfl) (by as_aux_lemma => kernel_rfl) [] (by as_aux_lemma => kernel_rfl) (by as_aux_lemma => kernel_rfl) ?_
      refine evd_run 6 (by as_aux_lemma => kernel_rfl) ?_
      obtain ⟨r19, hr19, h⟩ := bindS h
      refine evd_callS [] [] (by as_aux_lemma => kernel_rfl) (by as_aux_lemma => kernel_rfl) (W.sheetmetalref05_bits_ok hr19) (by as_aux_lemma => kernel_rfl) (.inl rfl) (by as_aux_lemma => kernel_rfl) (by as_aux_lemma => kernel_rfl) ?_
      refine evd_end (by as_aux_lemma => kernel_rfl) ?_
      obtain ⟨r20, hr20, h⟩ := bindS h
      refine evo_callS [] [] [] (by as_aux_lemma => kernel_rfl) (W.sheetmetalref05_serves_ok hr20) (by as_aux_lemma => kernel_rfl) (by as_aux_lemma => kernel_rfl) (.inl rfl) ?_
      refine evo_run 2 (by as_aux_lemma => kernel_rfl) ?_
      refine evo_endS (by as_aux_lemma => kernel_rfl) (fun τ hτ => ?_)
      refine th_normalS hτ ⟨[(6, (vB r20)), (7, (vI 0))], []⟩ (here (by as_aux_lemma => kernel_rfl)) ?_
      refine sem_retS (by as_aux_lemma => kernel_rfl) (fun τ hτ => ?_)
      obtain rfl := Option.some.inj h
      exact rk_ret hτ [(6, (vB r20)), (7, (vI 0))] (here (by as_aux_lemma => kernel_rfl)) (by as_aux_lemma => kernel_rfl)
theorem W.setup_Blocked_ok {needs : (List (List Int))} {stations : Int} {w : Window} {r : Bool × Int} (h : setup_Blocked needs stations w = some r) : PC G.P 25 [(.sl (List.map (cS cI) needs)), (vI stations), (.agg [(vI w.From), (vI w.To)])] [] (.tup [(vB r.1), (vI r.2)]) [] := by
  refine pc_of G (fn := Try.f25) Try.func25 (by as_aux_lemma => kernel_rfl) (by as_aux_lemma => kernel_rfl) (by as_aux_lemma => kernel_rfl) (by as_aux_lemma => kernel_rfl) (by as_aux_lemma => kernel_rfl) ?_
  refine sem_set ⟨[(0, (.sl (List.map (cS cI) needs))), (1, (vI stations)), (2, (.agg [(vI w.From), (vI w.To)]))], []⟩ (by as_aux_lemma => kernel_rfl) ?_
  refine sem_seq (by as_aux_lemma => kernel_rfl) ?_
  refine sem_region (by as_aux_lemma => kernel_rfl) ?_
  refine evs_run 3 (by as_aux_lemma => kernel_rfl) ?_
  refine evs_endS (by as_aux_lemma => kernel_rfl) (fun τ hτ => ?_)
  refine th_normalS hτ ⟨[(0, (.sl (List.map (cS cI) needs))), (1, (vI stations)), (5, (.ptr 5 0))], [(5, .box [(vI w.From), (vI w.To)])]⟩ (here (by as_aux_lemma => kernel_rfl)) ?_
  refine sem_seq (by as_aux_lemma => kernel_rfl) ?_
  refine sem_seq (by as_aux_lemma => kernel_rfl) ?_
  refine sem_region (by as_aux_lemma => kernel_rfl) ?_
  refine evs_run 2 (by as_aux_lemma => kernel_rfl) ?_
  obtain ⟨r4, hr4, h⟩ := bindS h
  refine evs_callS [] [] [] (by as_aux_lemma => kernel_rfl) (W.setup_check_ok hr4) (by as_aux_lemma => kernel_rfl) (by as_aux_lemma => kernel_rfl) (.inl rfl) ?_
  refine evs_run 1 (by as_aux_lemma => kernel_rfl) ?_
  refine evs_endS (by as_aux_lemma => kernel_rfl) (fun τ hτ => ?_)
  refine th_normalS hτ ⟨[(0, (.sl (List.map (cS cI) needs))), (1, (vI stations)), (5, (.ptr 5 0)), (8, (vI r4))], [(5, .box [(vI w.From), (vI w.To)])]⟩ (here (by as_aux_lemma => kernel_rfl)) ?_
  refine sem_seq (by as_aux_lemma => kernel_rfl) ?_
  refine sem_region (by as_aux_lemma => kernel_rfl) ?_
  refine evs_run 2 (by as_aux_lemma => kernel_rfl) ?_
  refine evs_endS (by as_aux_lemma => kernel_rfl) (fun τ hτ => ?_)
  refine th_normalS hτ ⟨[(0, (.sl (List.map (cS cI) needs))), (1, (vI stations)), (5, (.ptr 5 0)), (8, (vI r4)), (13, (vB (r4 != 0)))], [(5, .box [(vI w.From), (vI w.To)])]⟩ (here (by as_aux_lemma => kernel_rfl)) ?_
  refine sem_cond (r4 != 0) (by as_aux_lemma => kernel_rfl) (by as_aux_lemma => kernel_rfl) (fun hb => ?_) (fun hb => ?_)
  · replace h := iteT hb h
    refine sem_seq (by as_aux_lemma => kernel_rfl) ?_
    refine sem_region (by as_aux_lemma => kernel_rfl) ?_
    refine evs_run 3 (by as_aux_lemma => kernel_rfl) ?_
    refine evs_endS (by as_aux_lemma => kernel_rfl) (fun τ hτ => ?_)
    refine th_normalS hτ ⟨[(6, (vB false)), (7, (vI r4))], []⟩ (here (by as_aux_lemma => kernel_rfl)) ?_
    refine sem_retS (by as_aux_lemma => kernel_rfl) (fun τ hτ => ?_)
    refine th_ret ?_
    obtain rfl := Option.some.inj h
    exact rk_ret hτ [(6, (vB false)), (7, (vI r4))] (here (by as_aux_lemma => kernel_rfl)) (by as_aux_lemma => kernel_rfl)
  · replace h := iteF hb h
    refine sem_skipS (by as_aux_lemma => kernel_rfl) (fun τ hτ => ?_)
    refine th_normalS hτ ⟨[(0, (.sl (List.map (cS cI) needs))), (1, (vI stations)), (5, (.ptr 5 0))], [(5, .box [(vI w.From), (vI w.To)])]⟩ (here (by as_aux_lemma => kernel_rfl)) ?_
    refine sem_seq (by as_aux_lemma => kernel_rfl) ?_
    refine sem_seq (by as_aux_lemma => kernel_rfl) ?_
    refine sem_region (by as_aux_lemma => kernel_rfl) ?_
    refine evs_run 2 (by as_aux_lemma => kernel_rfl) ?_
    obtain ⟨r8, hr8, h⟩ := bindS h
    refine evs_callS [] [] [] (by as_aux_lemma => kernel_rfl) (W.setup_validWindow_ok hr8) (by as_aux_lemma => kernel_rfl) (by as_aux_lemma => kernel_rfl) (.inl rfl) ?_
    refine evs_run 1 (by as_aux_lemma => kernel_rfl) ?_
    refine evs_endS (by as_aux_lemma => kernel_rfl) (fun τ hτ => ?_)
    refine th_normalS hτ ⟨[(0, (.sl (List.map (cS cI) needs))), (1, (vI stations)), (5, (.ptr 5 0)), (18, (vB (!r8)))], [(5, .box [(vI w.From), (vI w.To)])]⟩ (here (by as_aux_lemma => kernel_rfl)) ?_
    refine sem_cond (!r8) (by as_aux_lemma => kernel_rfl) (by as_aux_lemma => kernel_rfl) (fun hb => ?_) (fun hb => ?_)
    · replace h := iteT hb h
      refine sem_seq (by as_aux_lemma => kernel_rfl) ?_
      refine sem_region (by as_aux_lemma => kernel_rfl) ?_
      refine evs_run 2 (by as_aux_lemma => kernel_rfl) ?_
      refine evs_endS (by as_aux_lemma => kernel_rfl) (fun τ hτ => ?_)
      refine th_normalS hτ ⟨[(6, (vB false)), (7, (vI 1))], []⟩ (here (by as_aux_lemma => kernel_rfl)) ?_
      refine sem_retS (by as_aux_lemma => kernel_rfl) (fun τ hτ => ?_)
      refine th_ret ?_
      obtain rfl := Option.some.inj h
      exact rk_ret hτ [(6, (vB false)), (7, (vI 1))] (here (by as_aux_lemma => kernel_rfl)) (by as_aux_lemma => kernel_rfl)
    · replace h := iteF hb h
      refine sem_skipS (by as_aux_lemma => kernel_rfl) (fun τ hτ => ?_)
      refine th_normalS hτ ⟨[(0, (.sl (List.map (cS cI) needs))), (1, (vI stations)), (5, (.ptr 5 0))], [(5, .box [(vI w.From), (vI w.To)])]⟩ (here (by as_aux_lemma => kernel_rfl)) ?_
      refine sem_seq (by as_aux_lemma => kernel_rfl) ?_
      refine sem_region (by as_aux_lemma => kernel_rfl) ?_
      refine evs_run 3 (by as_aux_lemma => kernel_rfl) ?_
      obtain ⟨r10, hr10, h⟩ := bindS h
      refine evs_callS [] [] [] (by as_aux_lemma => kernel_rfl) (W.setup_blocked_ok hr10) (by as_aux_lemma => kernel_rfl) (by as_aux_lemma => kernel_rfl) (.inl rfl) ?_
      refine evs_run 2 (by as_aux_lemma => kernel_rfl) ?_
      refine evs_endS (by as_aux_lemma => kernel_rfl) (fun τ hτ => ?_)
      refine th_normalS hτ ⟨[(6, (vB r10)), (7, (vI 0))], []⟩ (here (by as_aux_lemma => kernel_rfl)) ?_
      refine sem_retS (by as_aux_lemma => kernel_rfl) (fun τ hτ => ?_)
      obtain rfl := Option.some.inj h
      exact rk_ret hτ [(6, (vB r10)), (7, (vI 0))] (here (by as_aux_lemma => kernel_rfl)) (by as_aux_lemma => kernel_rfl)
theorem W.sheetmetalref05_Blocked_ok {needs : (List (List Int))} {stations : Int} {w : Window} {r : Bool × Int} (h : sheetmetalref05_Blocked needs stations w = some r) : PC G.P 26 [(.sl (List.map (cS cI) needs)), (vI stations), (.agg [(vI w.From), (vI w.To)])] [] (.tup [(vB r.1), (vI r.2)]) [] := by
  refine pc_of G (fn := Try.f26) Try.func26 (by as_aux_lemma => kernel_rfl) (by as_aux_lemma => kernel_rfl) (by as_aux_lemma => kernel_rfl) (by as_aux_lemma => kernel_rfl) (by as_aux_lemma => kernel_rfl) ?_
  refine sem_set ⟨[(0, (.sl (List.map (cS cI) needs))), (1, (vI stations)), (2, (.agg [(vI w.From), (vI w.To)]))], []⟩ (by as_aux_lemma => kernel_rfl) ?_
  refine sem_seq (by as_aux_lemma => kernel_rfl) ?_
  refine sem_region (by as_aux_lemma => kernel_rfl) ?_
  refine evs_run 3 (by as_aux_lemma => kernel_rfl) ?_
  refine evs_endS (by as_aux_lemma => kernel_rfl) (fun τ hτ => ?_)
  refine th_normalS hτ ⟨[(0, (.sl (List.map (cS cI) needs))), (1, (vI stations)), (5, (.ptr 5 0))], [(5, .box [(vI w.From), (vI w.To)])]⟩ (here (by as_aux_lemma => kernel_rfl)) ?_
  refine sem_seq (by as_aux_lemma => kernel_rfl) ?_
  refine sem_seq (by as_aux_lemma => kernel_rfl) ?_
  refine sem_region (by as_aux_lemma => kernel_rfl) ?_
  refine evs_run 2 (by as_aux_lemma => kernel_rfl) ?_
  obtain ⟨r4, hr4, h⟩ := bindS h
  refine evs_callS [] [] [] (by as_aux_lemma => kernel_rfl) (W.sheetmetalref05_Check0_ok hr4) (by as_aux_lemma => kernel_rfl) (by as_aux_lemma => kernel_rfl) (.inl rfl) ?_
  refine evs_run 1 (by as_aux_lemma => kernel_rfl) ?_
  refine evs_endS (by as_aux_lemma => kernel_rfl) (fun τ hτ => ?_)
  refine th_normalS hτ ⟨[(0, (.sl (List.map (cS cI) needs))), (1, (vI stations)), (5, (.ptr 5 0)), (8, (vI r4))], [(5, .box [(vI w.From), (vI w.To)])]⟩ (here (by as_aux_lemma => kernel_rfl)) ?_
  refine sem_seq (by as_aux_lemma => kernel_rfl) ?_
  refine sem_region (by as_aux_lemma => kernel_rfl) ?_
  refine evs_run 2 (by as_aux_lemma => kernel_rfl) ?_
  refine evs_endS (by as_aux_lemma => kernel_rfl) (fun τ hτ => ?_)
  refine th_normalS hτ ⟨[(0, (.sl (List.map (cS cI) needs))), (1, (vI stations)), (5, (.ptr 5 0)), (8, (vI r4)), (13, (vB (r4 != 0)))], [(5, .box [(vI w.From), (vI w.To)])]⟩ (here (by as_aux_lemma => kernel_rfl)) ?_
  refine sem_cond (r4 != 0) (by as_aux_lemma => kernel_rfl) (by as_aux_lemma => kernel_rfl) (fun hb => ?_) (fun hb => ?_)
  · replace h := iteT hb h
    refine sem_seq (by as_aux_lemma => kernel_rfl) ?_
    refine sem_region (by as_aux_lemma => kernel_rfl) ?_
    refine evs_run 3 (by as_aux_lemma => kernel_rfl) ?_
    refine evs_endS (by as_aux_lemma => kernel_rfl) (fun τ hτ => ?_)
    refine th_normalS hτ ⟨[(6, (vB false)), (7, (vI r4))], []⟩ (here (by as_aux_lemma => kernel_rfl)) ?_
    refine sem_retS (by as_aux_lemma => kernel_rfl) (fun τ hτ => ?_)
    refine th_ret ?_
    obtain rfl := Option.some.inj h
    exact rk_ret hτ [(6, (vB false)), (7, (vI r4))] (here (by as_aux_lemma => kernel_rfl)) (by as_aux_lemma => kernel_rfl)
  · replace h := iteF hb h
    refine sem_skipS (by as_aux_lemma => kernel_rfl) (fun τ hτ => ?_)
    refine th_normalS hτ ⟨[(0, (.sl (List.map (cS cI) needs))), (1, (vI stations)), (5, (.ptr 5 0))], [(5, .box [(vI w.From), (vI w.To)])]⟩ (here (by as_aux_lemma => kernel_rfl)) ?_
    refine sem_seq (by as_aux_lemma => kernel_rfl) ?_
    refine sem_seq (by as_aux_lemma => kernel_rfl) ?_
    refine sem_region (by as_aux_lemma => kernel_rfl) ?_
    refine evs_run 2 (by as_aux_lemma => kernel_rfl) ?_
    obtain ⟨r8, hr8, h⟩ := bindS h
    refine evs_callS [] [] [] (by as_aux_lemma => kernel_rfl) (W.sheetmetalref05_windowIn_ok hr8) (by as_aux_lemma => kernel_rfl) (by as_aux_lemma => kernel_rfl) (.inl rfl) ?_
    refine evs_run 1 (by as_aux_lemma => kernel_rfl) ?_
    refine evs_endS (by as_aux_lemma => kernel_rfl) (fun τ hτ => ?_)
    refine th_normalS hτ ⟨[(0, (.sl (List.map (cS cI) needs))), (1, (vI stations)), (5, (.ptr 5 0)), (18, (vB (!r8)))], [(5, .box [(vI w.From), (vI w.To)])]⟩ (here (by as_aux_lemma => kernel_rfl)) ?_
    refine sem_cond (!r8) (by as_aux_lemma => kernel_rfl) (by as_aux_lemma => kernel_rfl) (fun hb => ?_) (fun hb => ?_)
    · replace h := iteT hb h
      refine sem_seq (by as_aux_lemma => kernel_rfl) ?_
      refine sem_region (by as_aux_lemma => kernel_rfl) ?_
      refine evs_run 2 (by as_aux_lemma => kernel_rfl) ?_
      refine evs_endS (by as_aux_lemma => kernel_rfl) (fun τ hτ => ?_)
      refine th_normalS hτ ⟨[(6, (vB false)), (7, (vI 1))], []⟩ (here (by as_aux_lemma => kernel_rfl)) ?_
      refine sem_retS (by as_aux_lemma => kernel_rfl) (fun τ hτ => ?_)
      refine th_ret ?_
      obtain rfl := Option.some.inj h
      exact rk_ret hτ [(6, (vB false)), (7, (vI 1))] (here (by as_aux_lemma => kernel_rfl)) (by as_aux_lemma => kernel_rfl)
    · replace h := iteF hb h
      refine sem_skipS (by as_aux_lemma => kernel_rfl) (fun τ hτ => ?_)
      refine th_normalS hτ ⟨[(0, (.sl (List.map (cS cI) needs))), (1, (vI stations)), (5, (.ptr 5 0))], [(5, .box [(vI w.From), (vI w.To)])]⟩ (here (by as_aux_lemma => kernel_rfl)) ?_
      refine sem_seq (by as_aux_lemma => kernel_rfl) ?_
      refine sem_region (by as_aux_lemma => kernel_rfl) ?_
      refine evs_run 6 (by as_aux_lemma => kernel_rfl) ?_
      obtain ⟨r10, hr10, h⟩ := bindS h
      refine evs_callS [] [] [] (by as_aux_lemma => kernel_rfl) (W.sheetmetalref05_blocked_ok hr10) (by as_aux_lemma => kernel_rfl) (by as_aux_lemma => kernel_rfl) (.inl rfl) ?_
      refine evs_run 2 (by as_aux_lemma => kernel_rfl) ?_
      refine evs_endS (by as_aux_lemma => kernel_rfl) (fun τ hτ => ?_)
      refine th_normalS hτ ⟨[(6, (vB r10)), (7, (vI 0))], []⟩ (here (by as_aux_lemma => kernel_rfl)) ?_
      refine sem_retS (by as_aux_lemma => kernel_rfl) (fun τ hτ => ?_)
      obtain rfl := Option.some.inj h
      exact rk_ret hτ [(6, (vB r10)), (7, (vI 0))] (here (by as_aux_lemma => kernel_rfl)) (by as_aux_lemma => kernel_rfl)
theorem W.sheetmetallaw05_SetupServes_ok {r0 : sheetmetallaw05_Rig} {a : Window} {a2 : (List Int)} {r : Bool} (h : sheetmetallaw05_SetupServes r0 a a2 = some r) : PC G.P 6 [(.agg [(.sl (List.map (cS cI) r0.Needs)), (vI r0.Stations)]), (.agg [(vI a.From), (vI a.To)]), (.sl (List.map cI a2))] [] (vB r) [] := by
  refine pc_of G (fn := Try.f6) Try.func6 (by as_aux_lemma => kernel_rfl) (by as_aux_lemma => kernel_rfl) (by as_aux_lemma => kernel_rfl) (by as_aux_lemma => kernel_rfl) (by as_aux_lemma => kernel_rfl) ?_
  refine sem_set ⟨[(0, (.agg [(.sl (List.map (cS cI) r0.Needs)), (vI r0.Stations)])), (1, (.agg [(vI a.From), (vI a.To)])), (2, (.sl (List.map cI a2)))], []⟩ (by as_aux_lemma => kernel_rfl) ?_
  refine sem_seq (by as_aux_lemma => kernel_rfl) ?_
  refine sem_region (by as_aux_lemma => kernel_rfl) ?_
  refine evs_run 3 (by as_aux_lemma => kernel_rfl) ?_
  refine evs_endS (by as_aux_lemma => kernel_rfl) (fun τ hτ => ?_)
  refine th_normalS hτ ⟨[(2, (.sl (List.map cI a2))), (3, (.ptr 3 0)), (4, (.ptr 4 0))], [(3, .box [(.sl (List.map (cS cI) r0.Needs)), (vI r0.Stations)]), (4, .box [(vI a.From), (vI a.To)])]⟩ (here (by as_aux_lemma => kernel_rfl)) ?_
  refine sem_seq (by as_aux_lemma => kernel_rfl) ?_
  refine sem_draw [] [] [] [] [] 5 (by as_aux_lemma => kernel_rfl) (by as_aux_lemma => kernel_rfl) [] (by as_aux_lemma => kernel_rfl) (by as_aux_lemma => kernel_rfl) ?_
  refine evd_run 5 (by as_aux_lemma => kernel_rfl) ?_
  refine evd_end (by as_aux_lemma => kernel_rfl) ?_
  refine evo_run 1 (by as_aux_lemma => kernel_rfl) ?_
  refine evo_endS (by as_aux_lemma => kernel_rfl) (fun τ hτ => ?_)
  refine th_normalS hτ ⟨[(2, (.sl (List.map cI a2))), (4, (.ptr 4 0)), (7, (.sl (List.map (cS cI) r0.Needs))), (8, (vI r0.Stations))], [(4, .box [(vI a.From), (vI a.To)])]⟩ (here (by as_aux_lemma => kernel_rfl)) ?_
  refine sem_seq (by as_aux_lemma => kernel_rfl) ?_
  refine sem_seq (by as_aux_lemma => kernel_rfl) ?_
  obtain ⟨j7, hj7, h⟩ := bindS h
  refine sem_regionC ⟨[(2, (.sl (List.map cI a2))), (4, (.ptr 500000 0)), (7, (.sl (List.map (cS cI) r0.Needs))), (8, (vI r0.Stations)), (27, (vB j7))], [(500000, .box [(vI a.From), (vI a.To)])]⟩ (by as_aux_lemma => kernel_rfl) ?_ (fun τ hτ => ?_)
  · replace h := hj7
    refine evs_run 1 (by as_aux_lemma => kernel_rfl) ?_
    obtain ⟨r8, hr8, h⟩ := bindS h
    refine evs_callS [] [] [] (by as_aux_lemma => kernel_rfl) (W.sheetmetallaw05_Long_ok hr8) (by as_aux_lemma => kernel_rfl) (by as_aux_lemma => kernel_rfl) (.inl rfl) ?_
    refine evs_run 1 (by as_aux_lemma => kernel_rfl) ?_
    refine evs_split r8 (fun b0 => ⟨[(2, (.sl (List.map cI a2))), (4, (.ptr 4 0)), (7, (.sl (List.map (cS cI) r0.Needs))), (8, (vI r0.Stations)), (23, (vB b0))], [(4, .box [(vI a.From), (vI a.To)])]⟩) (by as_aux_lemma => kernel_rfl) (fun hb => ?_) (fun hb => ?_)
    · replace h := iteT hb h
      refine evs_run 4 (by as_aux_lemma => kernel_rfl) ?_
      refine evs_endS (by as_aux_lemma => kernel_rfl) (fun τ hτ => ?_)
      obtain rfl := Option.some.inj h
      exact leafC hτ (subR_prep [] [(4, 500000)] (by as_aux_lemma => kernel_rfl) rfl rfl (by as_aux_lemma => kernel_rfl))
    · replace h := iteF hb h
      refine evs_run 1 (by as_aux_lemma => kernel_rfl) ?_
      refine evs_op (st_len (c := cI) (l := a2) (x := (.sl (List.map cI a2))) (by as_aux_lemma => kernel_rfl) (by as_aux_lemma => kernel_rfl)) ?_
      refine evs_run 2 (by as_aux_lemma => kernel_rfl) ?_
      refine evs_endS (by as_aux_lemma => kernel_rfl) (fun τ hτ => ?_)
      obtain rfl := Option.some.inj h
      exact leafC hτ (subR_prep [] [(4, 500000)] (by as_aux_lemma => kernel_rfl) rfl rfl (by as_aux_lemma => kernel_rfl))
  refine th_normalS hτ ⟨[(2, (.sl (List.map cI a2))), (4, (.ptr 500000 0)), (7, (.sl (List.map (cS cI) r0.Needs))), (8, (vI r0.Stations)), (27, (vB j7))], [(500000, .box [(vI a.From), (vI a.To)])]⟩ (here (by as_aux_lemma => kernel_rfl)) ?_
  refine sem_cond j7 (by as_aux_lemma => kernel_rfl) (by as_aux_lemma => kernel_rfl) (fun hb => ?_) (fun hb => ?_)
  · replace h := iteT hb h
    refine sem_seq (by as_aux_lemma => kernel_rfl) ?_
    refine sem_region (by as_aux_lemma => kernel_rfl) ?_
    obtain ⟨r10, hr10, h⟩ := bindS h
    refine evs_callS [] [] [] (by as_aux_lemma => kernel_rfl) (W.sheetmetallaw05_known_ok hr10) (by as_aux_lemma => kernel_rfl) (by as_aux_lemma => kernel_rfl) (.inl rfl) ?_
    refine evs_run 1 (by as_aux_lemma => kernel_rfl) ?_
    refine evs_endS (by as_aux_lemma => kernel_rfl) (fun τ hτ => ?_)
    refine th_normalS hτ ⟨[(6, (vB r10))], []⟩ (here (by as_aux_lemma => kernel_rfl)) ?_
    refine sem_retS (by as_aux_lemma => kernel_rfl) (fun τ hτ => ?_)
    refine th_ret ?_
    obtain rfl := Option.some.inj h
    exact rk_ret hτ [(6, (vB r10))] (here (by as_aux_lemma => kernel_rfl)) (by as_aux_lemma => kernel_rfl)
  · replace h := iteF hb h
    refine sem_skipS (by as_aux_lemma => kernel_rfl) (fun τ hτ => ?_)
    refine th_normalS hτ ⟨[(2, (.sl (List.map cI a2))), (4, (.ptr 500000 0)), (7, (.sl (List.map (cS cI) r0.Needs))), (8, (vI r0.Stations))], [(500000, .box [(vI a.From), (vI a.To)])]⟩ (here (by as_aux_lemma => kernel_rfl)) ?_
    refine sem_seq (by as_aux_lemma => kernel_rfl) ?_
    refine sem_region (by as_aux_lemma => kernel_rfl) ?_
    refine evs_run 3 (by as_aux_lemma => kernel_rfl) ?_
    obtain ⟨r12, hr12, h⟩ := bindS h
    refine evs_callS [] [] [] (by as_aux_lemma => kernel_rfl) (W.setup_Serves_ok hr12) (by as_aux_lemma => kernel_rfl) (by as_aux_lemma => kernel_rfl) (.inl rfl) ?_
    refine evs_run 5 (by as_aux_lemma => kernel_rfl) ?_
    refine evs_endS (by as_aux_lemma => kernel_rfl) (fun τ hτ => ?_)
    refine th_normalS hτ ⟨[(2, (.sl (List.map cI a2))), (4, (.ptr 500000 0)), (7, (.sl (List.map (cS cI) r0.Needs))), (8, (vI r0.Stations)), (9, (vB r12.1)), (10, (vI r12.2))], [(500000, .box [(vI a.From), (vI a.To)])]⟩ (here (by as_aux_lemma => kernel_rfl)) ?_
    refine sem_seq (by as_aux_lemma => kernel_rfl) ?_
    refine sem_region (by as_aux_lemma => kernel_rfl) ?_
    refine evs_run 3 (by as_aux_lemma => kernel_rfl) ?_
    obtain ⟨r14, hr14, h⟩ := bindS h
    refine evs_callS [] [] [] (by as_aux_lemma => kernel_rfl) (W.sheetmetalref05_Serves_ok hr14) (by as_aux_lemma => kernel_rfl) (by as_aux_lemma => kernel_rfl) (.inl rfl) ?_
    refine evs_run 5 (by as_aux_lemma => kernel_rfl) ?_
    refine evs_endS (by as_aux_lemma => kernel_rfl) (fun τ hτ => ?_)
    refine th_normalS hτ ⟨[(2, (.sl (List.map cI a2))), (4, (.ptr 500000 0)), (7, (.sl (List.map (cS cI) r0.Needs))), (8, (vI r0.Stations)), (9, (vB r12.1)), (10, (vI r12.2)), (11, (vB r14.1)), (12, (vI r14.2))], [(500000, .box [(vI a.From), (vI a.To)])]⟩ (here (by as_aux_lemma => kernel_rfl)) ?_
    refine sem_seq (by as_aux_lemma => kernel_rfl) ?_
    refine sem_region (by as_aux_lemma => kernel_rfl) ?_
    refine evs_run 3 (by as_aux_lemma => kernel_rfl) ?_
    obtain ⟨r16, hr16, h⟩ := bindS h
    refine evs_callS [] [] [] (by as_aux_lemma => kernel_rfl) (W.setup_Blocked_ok hr16) (by as_aux_lemma => kernel_rfl) (by as_aux_lemma => kernel_rfl) (.inl rfl) ?_
    refine evs_run 5 (by as_aux_lemma => kernel_rfl) ?_
    refine evs_endS (by as_aux_lemma => kernel_rfl) (fun τ hτ => ?_)
    refine th_normalS hτ ⟨[(2, (.sl (List.map cI a2))), (4, (.ptr 500000 0)), (7, (.sl (List.map (cS cI) r0.Needs))), (8, (vI r0.Stations)), (9, (vB r12.1)), (10, (vI r12.2)), (11, (vB r14.1)), (12, (vI r14.2)), (13, (vB r16.1)), (14, (vI r16.2))], [(500000, .box [(vI a.From), (vI a.To)])]⟩ (here (by as_aux_lemma => kernel_rfl)) ?_
    refine sem_seq (by as_aux_lemma => kernel_rfl) ?_
    refine sem_region (by as_aux_lemma => kernel_rfl) ?_
    refine evs_run 3 (by as_aux_lemma => kernel_rfl) ?_
    obtain ⟨r18, hr18, h⟩ := bindS h
    refine evs_callS [] [] [] (by as_aux_lemma => kernel_rfl) (W.sheetmetalref05_Blocked_ok hr18) (by as_aux_lemma => kernel_rfl) (by as_aux_lemma => kernel_rfl) (.inl rfl) ?_
    refine evs_run 5 (by as_aux_lemma => kernel_rfl) ?_
    refine evs_endS (by as_aux_lemma => kernel_rfl) (fun τ hτ => ?_)
    refine th_normalS hτ ⟨[(2, (.sl (List.map cI a2))), (8, (vI r0.Stations)), (9, (vB r12.1)), (10, (vI r12.2)), (11, (vB r14.1)), (12, (vI r14.2)), (13, (vB r16.1)), (14, (vI r16.2)), (15, (vB r18.1)), (16, (vI r18.2))], []⟩ (here (by as_aux_lemma => kernel_rfl)) ?_
    refine sem_seq (by as_aux_lemma => kernel_rfl) ?_
    obtain ⟨j24, hj24, h⟩ := bindS h
    refine sem_regionC ⟨[(6, (vB j24))], []⟩ (by as_aux_lemma => kernel_rfl) ?_ (fun τ hτ => ?_)
    · replace h := hj24
      refine evs_run 4 (by as_aux_lemma => kernel_rfl) ?_
      refine evs_split (r12.1 == r14.1) (fun b0 => ⟨[(2, (.sl (List.map cI a2))), (8, (vI r0.Stations)), (9, (vB r12.1)), (10, (vI r12.2)), (12, (vI r14.2)), (13, (vB r16.1)), (14, (vI r16.2)), (15, (vB r18.1)), (16, (vI r18.2)), (60, (vB b0))], []⟩) (by as_aux_lemma => kernel_rfl) (fun hb => ?_) (fun hb => ?_)
      · replace h := iteT hb h
        refine evs_run 5 (by as_aux_lemma => kernel_rfl) ?_
        refine evs_split (r12.2 == r14.2) (fun b0 => ⟨[(2, (.sl (List.map cI a2))), (8, (vI r0.Stations)), (9, (vB r12.1)), (10, (vI r12.2)), (13, (vB r16.1)), (14, (vI r16.2)), (15, (vB r18.1)), (16, (vI r18.2)), (65, (vB b0))], []⟩) (by as_aux_lemma => kernel_rfl) (fun hb => ?_) (fun hb => ?_)
        · replace h := iteT hb h
          refine evs_run 5 (by as_aux_lemma => kernel_rfl) ?_
          refine evs_split (r16.1 == r18.1) (fun b0 => ⟨[(2, (.sl (List.map cI a2))), (8, (vI r0.Stations)), (9, (vB r12.1)), (10, (vI r12.2)), (13, (vB r16.1)), (14, (vI r16.2)), (16, (vI r18.2)), (70, (vB b0))], []⟩) (by as_aux_lemma => kernel_rfl) (fun hb => ?_) (fun hb => ?_)
          · replace h := iteT hb h
            refine evs_run 5 (by as_aux_lemma => kernel_rfl) ?_
            refine evs_split (r16.2 == r18.2) (fun b0 => ⟨[(2, (.sl (List.map cI a2))), (8, (vI r0.Stations)), (9, (vB r12.1)), (10, (vI r12.2)), (13, (vB r16.1)), (14, (vI r16.2)), (75, (vB b0))], []⟩) (by as_aux_lemma => kernel_rfl) (fun hb => ?_) (fun hb => ?_)
            · replace h := iteT hb h
              refine evs_run 3 (by as_aux_lemma => kernel_rfl) ?_
              refine evs_split (r12.2 != 0) (fun b0 => ⟨[(2, (.sl (List.map cI a2))), (8, (vI r0.Stations)), (9, (vB r12.1)), (13, (vB r16.1)), (14, (vI r16.2)), (75, (vB true)), (78, (vB b0))], []⟩) (by as_aux_lemma => kernel_rfl) (fun hb => ?_) (fun hb => ?_)
              · replace h := iteT hb h
                refine evs_run 19 (by as_aux_lemma => kernel_rfl) ?_
                obtain ⟨r25, hr25, h⟩ := bindS h
                refine evs_callS [] [] [] (by as_aux_lemma => kernel_rfl) (W.sheetmetallaw05_known_ok hr25) (by as_aux_lemma => kernel_rfl) (by as_aux_lemma => kernel_rfl) (.inl rfl) ?_
                refine evs_run 2 (by as_aux_lemma => kernel_rfl) ?_
                refine evs_endS (by as_aux_lemma => kernel_rfl) (fun τ hτ => ?_)
                obtain rfl := Option.some.inj h
                exact leafC hτ (here (by as_aux_lemma => kernel_rfl))
              · replace h := iteF hb h
                refine evs_run 4 (by as_aux_lemma => kernel_rfl) ?_
                refine evs_split (r16.2 != 0) (fun b0 => ⟨[(2, (.sl (List.map cI a2))), (8, (vI r0.Stations)), (9, (vB r12.1)), (13, (vB r16.1)), (75, (vB true)), (82, (vB b0))], []⟩) (by as_aux_lemma => kernel_rfl) (fun hb => ?_) (fun hb => ?_)
                · replace h := iteT hb h
                  refine evs_run 15 (by as_aux_lemma => kernel_rfl) ?_
                  obtain ⟨r26, hr26, h⟩ := bindS h
                  refine evs_callS [] [] [] (by as_aux_lemma => kernel_rfl) (W.sheetmetallaw05_known_ok hr26) (by as_aux_lemma => kernel_rfl) (by as_aux_lemma => kernel_rfl) (.inl rfl) ?_
                  refine evs_run 2 (by as_aux_lemma => kernel_rfl) ?_
                  refine evs_endS (by as_aux_lemma => kernel_rfl) (fun τ hτ => ?_)
                  obtain rfl := Option.some.inj h
                  exact leafC hτ (here (by as_aux_lemma => kernel_rfl))
                · replace h := iteF hb h
                  refine evs_run 4 (by as_aux_lemma => kernel_rfl) ?_
                  refine evs_split r12.1 (fun b0 => ⟨[(2, (.sl (List.map cI a2))), (8, (vI r0.Stations)), (13, (vB r16.1)), (75, (vB true)), (86, (vB (!b0)))], []⟩) (by as_aux_lemma => kernel_rfl) (fun hb => ?_) (fun hb => ?_)
                  · replace h := iteT hb h
                    refine evs_run 4 (by as_aux_lemma => kernel_rfl) ?_
                    refine evs_split r16.1 (fun b0 => ⟨[(2, (.sl (List.map cI a2))), (8, (vI r0.Stations)), (75, (vB true)), (90, (vB (!b0)))], []⟩) (by as_aux_lemma => kernel_rfl) (fun hb => ?_) (fun hb => ?_)
                    · replace h := iteT hb h
                      refine evs_run 1 (by as_aux_lemma => kernel_rfl) ?_
                      refine evs_op (st_len (c := cI) (l := a2) (x := (.sl (List.map cI a2))) (by as_aux_lemma => kernel_rfl) (by as_aux_lemma => kernel_rfl)) ?_
                      refine evs_run 5 (by as_aux_lemma => kernel_rfl) ?_
                      refine evs_split (decide ((a2.length : Int) > r0.Stations)) (fun b0 => ⟨[(97, (vB b0))], []⟩) (by as_aux_lemma => kernel_rfl) (fun hb => ?_) (fun hb => ?_)
                      · replace h := iteT hb h
                        obtain ⟨r27, hr27, h⟩ := bindS h
                        refine evs_callS [] [] [] (by as_aux_lemma => kernel_rfl) (W.sheetmetallaw05_known_ok hr27) (by as_aux_lemma => kernel_rfl) (by as_aux_lemma => kernel_rfl) (.inl rfl) ?_
                        refine evs_run 2 (by as_aux_lemma => kernel_rfl) ?_
                        refine evs_endS (by as_aux_lemma => kernel_rfl) (fun τ hτ => ?_)
                        obtain rfl := Option.some.inj h
                        exact leafC hτ (here (by as_aux_lemma => kernel_rfl))
                      · replace h := iteF hb h
                        refine evs_run 3 (by as_aux_lemma => kernel_rfl) ?_
                        refine evs_endS (by as_aux_lemma => kernel_rfl) (fun τ hτ => ?_)
                        obtain rfl := Option.some.inj h
                        exact leafC hτ (here (by as_aux_lemma => kernel_rfl))
                    · replace h := iteF hb h
                      refine evs_run 7 (by as_aux_lemma => kernel_rfl) ?_
                      obtain ⟨r28, hr28, h⟩ := bindS h
                      refine evs_callS [] [] [] (by as_aux_lemma => kernel_rfl) (W.sheetmetallaw05_known_ok hr28) (by as_aux_lemma => kernel_rfl) (by as_aux_lemma => kernel_rfl) (.inl rfl) ?_
                      refine evs_run 2 (by as_aux_lemma => kernel_rfl) ?_
                      refine evs_endS (by as_aux_lemma => kernel_rfl) (fun τ hτ => ?_)
                      obtain rfl := Option.some.inj h
                      exact leafC hτ (here (by as_aux_lemma => kernel_rfl))
                  · replace h := iteF hb h
                    refine evs_run 11 (by as_aux_lemma => kernel_rfl) ?_
                    obtain ⟨r29, hr29, h⟩ := bindS h
                    refine evs_callS [] [] [] (by as_aux_lemma => kernel_rfl) (W.sheetmetallaw05_known_ok hr29) (by as_aux_lemma => kernel_rfl) (by as_aux_lemma => kernel_rfl) (.inl rfl) ?_
                    refine evs_run 2 (by as_aux_lemma => kernel_rfl) ?_
                    refine evs_endS (by as_aux_lemma => kernel_rfl) (fun τ hτ => ?_)
                    obtain rfl := Option.some.inj h
                    exact leafC hτ (here (by as_aux_lemma => kernel_rfl))
            · replace h := iteF hb h
              refine evs_run 25 (by as_aux_lemma => kernel_rfl) ?_
              refine evs_endS (by as_aux_lemma => kernel_rfl) (fun τ hτ => ?_)
              obtain rfl := Option.some.inj h
              exact leafC hτ (here (by as_aux_lemma => kernel_rfl))
          · replace h := iteF hb h
            refine evs_run 30 (by as_aux_lemma => kernel_rfl) ?_
            refine evs_endS (by as_aux_lemma => kernel_rfl) (fun τ hτ => ?_)
            obtain rfl := Option.some.inj h
            exact leafC hτ (here (by as_aux_lemma => kernel_rfl))
        · replace h := iteF hb h
          refine evs_run 35 (by as_aux_lemma => kernel_rfl) ?_
          refine evs_endS (by as_aux_lemma => kernel_rfl) (fun τ hτ => ?_)
          obtain rfl := Option.some.inj h
          exact leafC hτ (here (by as_aux_lemma => kernel_rfl))
      · replace h := iteF hb h
        refine evs_run 40 (by as_aux_lemma => kernel_rfl) ?_
        refine evs_endS (by as_aux_lemma => kernel_rfl) (fun τ hτ => ?_)
        obtain rfl := Option.some.inj h
        exact leafC hτ (here (by as_aux_lemma => kernel_rfl))
    refine th_normalS hτ ⟨[(6, (vB j24))], []⟩ (here (by as_aux_lemma => kernel_rfl)) ?_
    refine sem_retS (by as_aux_lemma => kernel_rfl) (fun τ hτ => ?_)
    obtain rfl := Option.some.inj h
    exact rk_ret hτ [(6, (vB j24))] (here (by as_aux_lemma => kernel_rfl)) (by as_aux_lemma => kernel_rfl)
end Go.Proofs.Ytppmnjiibmomoaa
