/- Each Go function does what its model says; written by a program out of the translation. -/
import Derived.Test.YtppmnjiibmomoaaWA2
import Derived.Test.YtppmnjiibmomoaaSeMB
set_option linter.unusedVariables false
set_option linter.unusedSimpArgs false
set_option linter.unusedSectionVars false
namespace Go.Proofs.Ytppmnjiibmomoaa
open Go Go.VI Go.SM Go.Proofs
set_option maxRecDepth 100000
set_option maxHeartbeats 4000000
theorem W.setup_inOrder_1_ok {d : Change} {a_0 : Int} {a_1 : Int} {a_2 : Int} {r : Bool} (h : setup_inOrder_1 d a_0 a_1 a_2 = some r) : PC G.P 83 [(.agg [(vI d.Step), (vI d.Station), (vI d.Pair)]), (.vptr [(vI a_0), (vI a_1), (vI a_2)] 0)] [] (vB r) [] := by
  refine pc_of G (fn := Try.f83) Try.func83 (by as_aux_lemma => kernel_rfl) (by as_aux_lemma => kernel_rfl) (by as_aux_lemma => kernel_rfl) (by as_aux_lemma => kernel_rfl) (by as_aux_lemma => kernel_rfl) ?_
  refine sem_set ⟨[(0, (.agg [(vI d.Step), (vI d.Station), (vI d.Pair)])), (1, (.vptr [(vI a_0), (vI a_1), (vI a_2)] 0))], []⟩ (by as_aux_lemma => kernel_rfl) ?_
  refine sem_seq (by as_aux_lemma => kernel_rfl) ?_
  refine sem_region (by as_aux_lemma => kernel_rfl) ?_
  refine evs_run 2 (by as_aux_lemma => kernel_rfl) ?_
  refine evs_endS (by as_aux_lemma => kernel_rfl) (fun τ hτ => ?_)
  refine th_normalS hτ ⟨[(1, (.vptr [(vI a_0), (vI a_1), (vI a_2)] 0)), (2, (.ptr 2 0))], [(2, .box [(vI d.Step), (vI d.Station), (vI d.Pair)])]⟩ (here (by as_aux_lemma => kernel_rfl)) ?_
  refine sem_seq (by as_aux_lemma => kernel_rfl) ?_
  obtain ⟨j1, hj1, h⟩ := bindS h
  refine sem_regionC ⟨[(3, (vB j1))], []⟩ (by as_aux_lemma => kernel_rfl) ?_ (fun τ hτ => ?_)
  · replace h := hj1
    refine evs_run 6 (by as_aux_lemma => kernel_rfl) ?_
    refine evs_split (d.Step == a_0) (fun b0 => ⟨[(1, (.vptr [(vI a_0), (vI a_1), (vI a_2)] 0)), (2, (.ptr 2 0)), (9, (vB b0))], [(2, .box [(vI d.Step), (vI d.Station), (vI d.Pair)])]⟩) (by as_aux_lemma => kernel_rfl) (fun hb => ?_) (fun hb => ?_)
    · replace h := iteT hb h
      refine evs_run 7 (by as_aux_lemma => kernel_rfl) ?_
      refine evs_endS (by as_aux_lemma => kernel_rfl) (fun τ hτ => ?_)
      obtain rfl := Option.some.inj h
      exact leafC hτ (here (by as_aux_lemma => kernel_rfl))
    · replace h := iteF hb h
      refine evs_run 7 (by as_aux_lemma => kernel_rfl) ?_
      refine evs_endS (by as_aux_lemma => kernel_rfl) (fun τ hτ => ?_)
      obtain rfl := Option.some.inj h
      exact leafC hτ (here (by as_aux_lemma => kernel_rfl))
  refine th_normalS hτ ⟨[(3, (vB j1))], []⟩ (here (by as_aux_lemma => kernel_rfl)) ?_
  refine sem_retS (by as_aux_lemma => kernel_rfl) (fun τ hτ => ?_)
  obtain rfl := Option.some.inj h
  exact rk_ret hτ [(3, (vB j1))] (here (by as_aux_lemma => kernel_rfl)) (by as_aux_lemma => kernel_rfl)
theorem W.slices_IndexFunc_Lapi_Change_api_Change__setup_inOrder_1_ok {s0 : (List Change)} {f_0_0 : Int} {f_0_1 : Int} {f_0_2 : Int} {r : Int} (h : slices_IndexFunc_Lapi_Change_api_Change__setup_inOrder_1 s0 f_0_0 f_0_1 f_0_2 = some r) : PC G.P 91 [(.sl (List.map c_Change s0)), (.fn 83 [(.vptr [(vI f_0_0), (vI f_0_1), (vI f_0_2)] 0)])] [] (vI r) [] := by
  refine pc_of G (fn := Try.f91) Try.func91 (by as_aux_lemma => kernel_rfl) (by as_aux_lemma => kernel_rfl) (by as_aux_lemma => kernel_rfl) (by as_aux_lemma => kernel_rfl) (by as_aux_lemma => kernel_rfl) ?_
  refine sem_set ⟨[(0, (.sl (List.map c_Change s0))), (1, (.fn 83 [(.vptr [(vI f_0_0), (vI f_0_1), (vI f_0_2)] 0)]))], []⟩ (by as_aux_lemma => kernel_rfl) ?_
  refine sem_seq (by as_aux_lemma => kernel_rfl) ?_
  refine sem_region (by as_aux_lemma => kernel_rfl) ?_
  refine evs_run 1 (by as_aux_lemma => kernel_rfl) ?_
  refine evs_endS (by as_aux_lemma => kernel_rfl) (fun τ hτ => ?_)
  refine th_normalS hτ ⟨[(0, (.sl (List.map c_Change s0))), (1, (.fn 83 [(.vptr [(vI f_0_0), (vI f_0_1), (vI f_0_2)] 0)]))], []⟩ (here (by as_aux_lemma => kernel_rfl)) ?_
  refine sem_seq (by as_aux_lemma => kernel_rfl) ?_
  refine sem_seq (by as_aux_lemma => kernel_rfl) ?_
  refine sem_region (by as_aux_lemma => kernel_rfl) ?_
  refine evs_run 1 (by as_aux_lemma => kernel_rfl) ?_
  refine evs_op (st_len (c := c_Change) (l := s0) (x := (.sl (List.map c_Change s0))) (by as_aux_lemma => kernel_rfl) (by as_aux_lemma => kernel_rfl)) ?_
  refine evs_run 1 (by as_aux_lemma => kernel_rfl) ?_
  refine evs_endS (by as_aux_lemma => kernel_rfl) (fun τ hτ => ?_)
  refine th_normalS hτ ⟨[(0, (.sl (List.map c_Change s0))), (1, (.fn 83 [(.vptr [(vI f_0_0), (vI f_0_1), (vI f_0_2)] 0)])), (7, (vI (s0.length : Int))), (8, (vI 0))], []⟩ (here (by as_aux_lemma => kernel_rfl)) ?_
  refine sem_block (by as_aux_lemma => kernel_rfl) ?_
  obtain ⟨x56, hx56, h⟩ := bindS h
  refine sem_loopS (fun (s39 : Int) => ⟨[(0, (.sl (List.map c_Change s0))), (1, (.fn 83 [(.vptr [(vI f_0_0), (vI f_0_1), (vI f_0_2)] 0)])), (7, (vI (s0.length : Int))), (8, (vI s39))], []⟩) (fun (x56 : Int ⊕ Unit) => match x56 with | .inl j57 => (.ret, ⟨[(4, (vI j57))], []⟩) | .inr j58 => (.exit 0, ⟨[], []⟩)) (slices_IndexFunc_Lapi_Change_api_Change__setup_inOrder_1_l1 s0 f_0_0 f_0_1 f_0_2) 0 x56 (by as_aux_lemma => kernel_rfl) (here (by as_aux_lemma => kernel_rfl)) hx56 ?_ ?_ ?_
  · intro s39 r h
    refine sem_seq (by as_aux_lemma => kernel_rfl) ?_
    refine sem_region (by as_aux_lemma => kernel_rfl) ?_
    refine evs_run 1 (by as_aux_lemma => kernel_rfl) ?_
    refine evs_endS (by as_aux_lemma => kernel_rfl) (fun τ hτ => ?_)
    refine th_normalS hτ ⟨[(0, (.sl (List.map c_Change s0))), (1, (.fn 83 [(.vptr [(vI f_0_0), (vI f_0_1), (vI f_0_2)] 0)])), (7, (vI (s0.length : Int))), (8, (vI s39)), (9, (vB (decide (s39 < (s0.length : Int)))))], []⟩ (here (by as_aux_lemma => kernel_rfl)) ?_
    refine sem_seq (by as_aux_lemma => kernel_rfl) ?_
    refine sem_cond (decide (s39 < (s0.length : Int))) (by as_aux_lemma => kernel_rfl) (by as_aux_lemma => kernel_rfl) (fun hb => ?_) (fun hb => ?_)
    · replace h := iteT hb h
      refine sem_skipS (by as_aux_lemma => kernel_rfl) (fun τ hτ => ?_)
      refine th_normalS hτ ⟨[(0, (.sl (List.map c_Change s0))), (1, (.fn 83 [(.vptr [(vI f_0_0), (vI f_0_1), (vI f_0_2)] 0)])), (7, (vI (s0.length : Int))), (8, (vI s39))], []⟩ (here (by as_aux_lemma => kernel_rfl)) ?_
      refine sem_seq (by as_aux_lemma => kernel_rfl) ?_
      refine sem_block (by as_aux_lemma => kernel_rfl) ?_
      refine sem_seq (by as_aux_lemma => kernel_rfl) ?_
      refine sem_region (by as_aux_lemma => kernel_rfl) ?_
      refine evs_run 2 (by as_aux_lemma => kernel_rfl) ?_
      refine evs_endS (by as_aux_lemma => kernel_rfl) (fun τ hτ => ?_)
      refine th_normalS hτ ⟨[(0, (.sl (List.map c_Change s0))), (1, (.fn 83 [(.vptr [(vI f_0_0), (vI f_0_1), (vI f_0_2)] 0)])), (5, (vI s39)), (7, (vI (s0.length : Int))), (8, (vI s39))], []⟩ (here (by as_aux_lemma => kernel_rfl)) ?_
      refine sem_seq (by as_aux_lemma => kernel_rfl) ?_
      refine sem_region (by as_aux_lemma => kernel_rfl) ?_
      refine evs_run 3 (by as_aux_lemma => kernel_rfl) ?_
      obtain ⟨x54, hx54, h⟩ := bindS h
      refine evs_op (st_idx (c := c_Change) (l := s0) (i := s39) (kd := .i64) (sz := 3) (by as_aux_lemma => kernel_rfl) hx54 rfl) ?_
      refine evs_run 1 (by as_aux_lemma => kernel_rfl) ?_
      obtain ⟨r55, hr55, h⟩ := bindS h
      refine evs_callS [] [] [] (by as_aux_lemma => kernel_rfl) (W.setup_inOrder_1_ok hr55) (by as_aux_lemma => kernel_rfl) (by as_aux_lemma => kernel_rfl) (.inl rfl) ?_
      refine evs_endS (by as_aux_lemma => kernel_rfl) (fun τ hτ => ?_)
      refine th_normalS hτ ⟨[(0, (.sl (List.map c_Change s0))), (1, (.fn 83 [(.vptr [(vI f_0_0), (vI f_0_1), (vI f_0_2)] 0)])), (5, (vI s39)), (7, (vI (s0.length : Int))), (8, (vI s39)), (16, (vB r55))], []⟩ (here (by as_aux_lemma => kernel_rfl)) ?_
      refine sem_cond r55 (by as_aux_lemma => kernel_rfl) (by as_aux_lemma => kernel_rfl) (fun hb => ?_) (fun hb => ?_)
      · replace h := iteT hb h
        refine sem_seq (by as_aux_lemma => kernel_rfl) ?_
        refine sem_region (by as_aux_lemma => kernel_rfl) ?_
        refine evs_run 2 (by as_aux_lemma => kernel_rfl) ?_
        refine evs_endS (by as_aux_lemma => kernel_rfl) (fun τ hτ => ?_)
        refine th_normalS hτ ⟨[(4, (vI s39))], []⟩ (here (by as_aux_lemma => kernel_rfl)) ?_
        refine sem_retS (by as_aux_lemma => kernel_rfl) (fun τ hτ => ?_)
        refine bl_ret ?_
        refine th_ret ?_
        obtain rfl := Option.some.inj h
        exact lk_outS hτ rfl (here (by as_aux_lemma => kernel_rfl))
      · replace h := iteF hb h
        refine sem_skipS (by as_aux_lemma => kernel_rfl) (fun τ hτ => ?_)
        refine bl_normal ?_
        refine th_normalS hτ ⟨[(0, (.sl (List.map c_Change s0))), (1, (.fn 83 [(.vptr [(vI f_0_0), (vI f_0_1), (vI f_0_2)] 0)])), (7, (vI (s0.length : Int))), (8, (vI s39))], []⟩ (here (by as_aux_lemma => kernel_rfl)) ?_
        refine sem_region (by as_aux_lemma => kernel_rfl) ?_
        refine evs_run 2 (by as_aux_lemma => kernel_rfl) ?_
        refine evs_endS (by as_aux_lemma => kernel_rfl) (fun τ hτ => ?_)
        obtain rfl := Option.some.inj h
        exact lk_nextS hτ (here (by as_aux_lemma => kernel_rfl))
    · replace h := iteF hb h
      refine sem_exitS 0 (by as_aux_lemma => kernel_rfl) rfl (fun τ hτ => ?_)
      refine th_exit ?_
      obtain rfl := Option.some.inj h
      exact lk_outS hτ rfl (here (by as_aux_lemma => kernel_rfl))
  · intro x
    rcases x with _ | _ <;> rfl
  · intro τ hτ
    rcases x56 with j57 | j58
    · refine bl_ret ?_
      refine th_ret ?_
      obtain rfl := Option.some.inj h
      exact rk_ret hτ [(4, (vI j57))] (here (by as_aux_lemma => kernel_rfl)) (by as_aux_lemma => kernel_rfl)
    · refine bl_hit (by as_aux_lemma => kernel_rfl) ?_
      refine th_normalS hτ ⟨[], []⟩ (here (by as_aux_lemma => kernel_rfl)) ?_
      refine sem_seq (by as_aux_lemma => kernel_rfl) ?_
      refine sem_region (by as_aux_lemma => kernel_rfl) ?_
      refine evs_run 1 (by as_aux_lemma => kernel_rfl) ?_
      refine evs_endS (by as_aux_lemma => kernel_rfl) (fun τ hτ => ?_)
      refine th_normalS hτ ⟨[(4, (vI (-1)))], []⟩ (here (by as_aux_lemma => kernel_rfl)) ?_
      refine sem_retS (by as_aux_lemma => kernel_rfl) (fun τ hτ => ?_)
      obtain rfl := Option.some.inj h
      exact rk_ret hτ [(4, (vI (-1)))] (here (by as_aux_lemma => kernel_rfl)) (by as_aux_lemma => kernel_rfl)
theorem W.slices_ContainsFunc_Lapi_Change_api_Change__setup_inOrder_1_ok {s0 : (List Change)} {f_0_0 : Int} {f_0_1 : Int} {f_0_2 : Int} {r : Bool} (h : slices_ContainsFunc_Lapi_Change_api_Change__setup_inOrder_1 s0 f_0_0 f_0_1 f_0_2 = some r) : PC G.P 82 [(.sl (List.map c_Change s0)), (.fn 83 [(.vptr [(vI f_0_0), (vI f_0_1), (vI f_0_2)] 0)])] [] (vB r) [] := by
  refine pc_of G (fn := Try.f82) Try.func82 (by as_aux_lemma => kernel_rfl) (by as_aux_lemma => kernel_rfl) (by as_aux_lemma => kernel_rfl) (by as_aux_lemma => kernel_rfl) (by as_aux_lemma => kernel_rfl) ?_
  refine sem_set ⟨[(0, (.sl (List.map c_Change s0))), (1, (.fn 83 [(.vptr [(vI f_0_0), (vI f_0_1), (vI f_0_2)] 0)]))], []⟩ (by as_aux_lemma => kernel_rfl) ?_
  refine sem_seq (by as_aux_lemma => kernel_rfl) ?_
  refine sem_region (by as_aux_lemma => kernel_rfl) ?_
  refine evs_run 1 (by as_aux_lemma => kernel_rfl) ?_
  refine evs_endS (by as_aux_lemma => kernel_rfl) (fun τ hτ => ?_)
  refine th_normalS hτ ⟨[(0, (.sl (List.map c_Change s0))), (1, (.fn 83 [(.vptr [(vI f_0_0), (vI f_0_1), (vI f_0_2)] 0)]))], []⟩ (here (by as_aux_lemma => kernel_rfl)) ?_
  refine sem_seq (by as_aux_lemma => kernel_rfl) ?_
  refine sem_region (by as_aux_lemma => kernel_rfl) ?_
  refine evs_run 2 (by as_aux_lemma => kernel_rfl) ?_
  obtain ⟨r2, hr2, h⟩ := bindS h
  refine evs_callS [] [] [] (by as_aux_lemma => kernel_rfl) (W.slices_IndexFunc_Lapi_Change_api_Change__setup_inOrder_1_ok hr2) (by as_aux_lemma => kernel_rfl) (by as_aux_lemma => kernel_rfl) (.inl rfl) ?_
  refine evs_run 2 (by as_aux_lemma => kernel_rfl) ?_
  refine evs_endS (by as_aux_lemma => kernel_rfl) (fun τ hτ => ?_)
  refine th_normalS hτ ⟨[(4, (vB (decide (r2 ≥ 0))))], []⟩ (here (by as_aux_lemma => kernel_rfl)) ?_
  refine sem_retS (by as_aux_lemma => kernel_rfl) (fun τ hτ => ?_)
  obtain rfl := Option.some.inj h
  exact rk_ret hτ [(4, (vB (decide (r2 ≥ 0))))] (here (by as_aux_lemma => kernel_rfl)) (by as_aux_lemma => kernel_rfl)
theorem W.setup_inOrder_ok {needs : (List (List Int))} {a : Int} {a2 : (List Change)} {r : Bool} (h : setup_inOrder needs a a2 = some r) : PC G.P 68 [(.sl (List.map (cS cI) needs)), (vI a), (.sl (List.map c_Change a2))] [] (vB r) [] := by
  refine pc_of G (fn := Try.f68) Try.func68 (by as_aux_lemma => kernel_rfl) (by as_aux_lemma => kernel_rfl) (by as_aux_lemma => kernel_rfl) (by as_aux_lemma => kernel_rfl) (by as_aux_lemma => kernel_rfl) ?_
  refine sem_set ⟨[(0, (.sl (List.map (cS cI) needs))), (1, (vI a)), (2, (.sl (List.map c_Change a2)))], []⟩ (by as_aux_lemma => kernel_rfl) ?_
  refine sem_seq (by as_aux_lemma => kernel_rfl) ?_
  refine sem_region (by as_aux_lemma => kernel_rfl) ?_
  refine evs_run 1 (by as_aux_lemma => kernel_rfl) ?_
  refine evs_endS (by as_aux_lemma => kernel_rfl) (fun τ hτ => ?_)
  refine th_normalS hτ ⟨[(0, (.sl (List.map (cS cI) needs))), (1, (vI a)), (2, (.sl (List.map c_Change a2)))], []⟩ (here (by as_aux_lemma => kernel_rfl)) ?_
  refine sem_seq (by as_aux_lemma => kernel_rfl) ?_
  refine sem_seq (by as_aux_lemma => kernel_rfl) ?_
  refine sem_region (by as_aux_lemma => kernel_rfl) ?_
  refine evs_run 1 (by as_aux_lemma => kernel_rfl) ?_
  refine evs_op (st_len (c := c_Change) (l := a2) (x := (.sl (List.map c_Change a2))) (by as_aux_lemma => kernel_rfl) (by as_aux_lemma => kernel_rfl)) ?_
  refine evs_run 1 (by as_aux_lemma => kernel_rfl) ?_
  refine evs_endS (by as_aux_lemma => kernel_rfl) (fun τ hτ => ?_)
  refine th_normalS hτ ⟨[(0, (.sl (List.map (cS cI) needs))), (1, (vI a)), (2, (.sl (List.map c_Change a2))), (9, (.sl (List.map c_Change a2))), (10, (vI (a2.length : Int))), (11, (vI 0))], []⟩ (here (by as_aux_lemma => kernel_rfl)) ?_
  refine sem_block (by as_aux_lemma => kernel_rfl) ?_
  obtain ⟨x168, hx168, h⟩ := bindS h
  refine sem_loopS (fun (s103 : Int) => ⟨[(0, (.sl (List.map (cS cI) needs))), (1, (vI a)), (2, (.sl (List.map c_Change a2))), (9, (.sl (List.map c_Change a2))), (10, (vI (a2.length : Int))), (11, (vI s103))], []⟩) (fun (x168 : Unit ⊕ Unit) => match x168 with | .inl j169 => (.ret, ⟨[(6, (vB false))], []⟩) | .inr j170 => (.exit 0, ⟨[], []⟩)) (setup_inOrder_l1 needs a a2) 0 x168 (by as_aux_lemma => kernel_rfl) (here (by as_aux_lemma => kernel_rfl)) hx168 ?_ ?_ ?_
  · intro s103 r h
    refine sem_seq (by as_aux_lemma => kernel_rfl) ?_
    refine sem_region (by as_aux_lemma => kernel_rfl) ?_
    refine evs_run 1 (by as_aux_lemma => kernel_rfl) ?_
    refine evs_endS (by as_aux_lemma => kernel_rfl) (fun τ hτ => ?_)
    refine th_normalS hτ ⟨[(0, (.sl (List.map (cS cI) needs))), (1, (vI a)), (2, (.sl (List.map c_Change a2))), (9, (.sl (List.map c_Change a2))), (10, (vI (a2.length : Int))), (11, (vI s103)), (12, (vB (decide (s103 < (a2.length : Int)))))], []⟩ (here (by as_aux_lemma => kernel_rfl)) ?_
    refine sem_seq (by as_aux_lemma => kernel_rfl) ?_
    refine sem_cond (decide (s103 < (a2.length : Int))) (by as_aux_lemma => kernel_rfl) (by as_aux_lemma => kernel_rfl) (fun hb => ?_) (fun hb => ?_)
    · replace h := iteT hb h
      refine sem_skipS (by as_aux_lemma => kernel_rfl) (fun τ hτ => ?_)
      refine th_normalS hτ ⟨[(0, (.sl (List.map (cS cI) needs))), (1, (vI a)), (2, (.sl (List.map c_Change a2))), (9, (.sl (List.map c_Change a2))), (10, (vI (a2.length : Int))), (11, (vI s103))], []⟩ (here (by as_aux_lemma => kernel_rfl)) ?_
      refine sem_seq (by as_aux_lemma => kernel_rfl) ?_
      refine sem_block (by as_aux_lemma => kernel_rfl) ?_
      refine sem_seq (by as_aux_lemma => kernel_rfl) ?_
      refine sem_region (by as_aux_lemma => kernel_rfl) ?_
      refine evs_run 1 (by as_aux_lemma => kernel_rfl) ?_
      obtain ⟨x153, hx153, h⟩ := bindS h
      refine evs_op (st_idx (c := c_Change) (l := a2) (i := s103) (kd := .i64) (sz := 3) (by as_aux_lemma => kernel_rfl) hx153 rfl) ?_
      refine evs_run 4 (by as_aux_lemma => kernel_rfl) ?_
      refine evs_endS (by as_aux_lemma => kernel_rfl) (fun τ hτ => ?_)
      refine th_normalS hτ ⟨[(0, (.sl (List.map (cS cI) needs))), (1, (vI a)), (2, (.sl (List.map c_Change a2))), (7, (vI s103)), (8, (.ptr 8 0)), (9, (.sl (List.map c_Change a2))), (10, (vI (a2.length : Int))), (11, (vI s103))], [(8, .box [(vI x153.Step), (vI x153.Station), (vI x153.Pair)])]⟩ (here (by as_aux_lemma => kernel_rfl)) ?_
      refine sem_seq (by as_aux_lemma => kernel_rfl) ?_
      refine sem_seq (by as_aux_lemma => kernel_rfl) ?_
      obtain ⟨j155, hj155, h⟩ := bindS h
      refine sem_regionC ⟨[(0, (.sl (List.map (cS cI) needs))), (1, (vI a)), (2, (.sl (List.map c_Change a2))), (7, (vI s103)), (8, (.ptr 500000 0)), (9, (.sl (List.map c_Change a2))), (10, (vI (a2.length : Int))), (11, (vI s103)), (46, (vB j155))], [(500000, .box [(vI x153.Step), (vI x153.Station), (vI x153.Pair)])]⟩ (by as_aux_lemma => kernel_rfl) ?_ (fun τ hτ => ?_)
      · replace h := hj155
        refine evs_run 4 (by as_aux_lemma => kernel_rfl) ?_
        refine evs_split (decide (x153.Step < 0)) (fun b0 => ⟨[(0, (.sl (List.map (cS cI) needs))), (1, (vI a)), (2, (.sl (List.map c_Change a2))), (7, (vI s103)), (8, (.ptr 8 0)), (9, (.sl (List.map c_Change a2))), (10, (vI (a2.length : Int))), (11, (vI s103)), (19, (vB b0))], [(8, .box [(vI x153.Step), (vI x153.Station), (vI x153.Pair)])]⟩) (by as_aux_lemma => kernel_rfl) (fun hb => ?_) (fun hb => ?_)
        · replace h := iteT hb h
          refine evs_run 27 (by as_aux_lemma => kernel_rfl) ?_
          refine evs_endS (by as_aux_lemma => kernel_rfl) (fun τ hτ => ?_)
          obtain rfl := Option.some.inj h
          exact leafC hτ (subR_prep [] [(8, 500000)] (by as_aux_lemma => kernel_rfl) rfl rfl (by as_aux_lemma => kernel_rfl))
        · replace h := iteF hb h
          refine evs_run 3 (by as_aux_lemma => kernel_rfl) ?_
          refine evs_op (st_len (c := (cS cI)) (l := needs) (x := (.sl (List.map (cS cI) needs))) (by as_aux_lemma => kernel_rfl) (by as_aux_lemma => kernel_rfl)) ?_
          refine evs_run 3 (by as_aux_lemma => kernel_rfl) ?_
          refine evs_split (decide (x153.Step ≥ (needs.length : Int))) (fun b0 => ⟨[(0, (.sl (List.map (cS cI) needs))), (1, (vI a)), (2, (.sl (List.map c_Change a2))), (7, (vI s103)), (8, (.ptr 8 0)), (9, (.sl (List.map c_Change a2))), (10, (vI (a2.length : Int))), (11, (vI s103)), (20, (.ptr 8 0)), (21, (vI x153.Step)), (22, (.sl (List.map (cS cI) needs))), (23, (vI (needs.length : Int))), (24, (vB b0)), (26, (vB b0))], [(8, .box [(vI x153.Step), (vI x153.Station), (vI x153.Pair)])]⟩) (by as_aux_lemma => kernel_rfl) (fun hb => ?_) (fun hb => ?_)
          · replace h := iteT hb h
            refine evs_run 20 (by as_aux_lemma => kernel_rfl) ?_
            refine evs_endS (by as_aux_lemma => kernel_rfl) (fun τ hτ => ?_)
            obtain rfl := Option.some.inj h
            exact leafC hτ (subR_prep [] [(8, 500000)] (by as_aux_lemma => kernel_rfl) rfl rfl (by as_aux_lemma => kernel_rfl))
          · replace h := iteF hb h
            refine evs_run 5 (by as_aux_lemma => kernel_rfl) ?_
            refine evs_split (decide (x153.Station < 0)) (fun b0 => ⟨[(0, (.sl (List.map (cS cI) needs))), (1, (vI a)), (2, (.sl (List.map c_Change a2))), (7, (vI s103)), (8, (.ptr 8 0)), (9, (.sl (List.map c_Change a2))), (10, (vI (a2.length : Int))), (11, (vI s103)), (20, (.ptr 8 0)), (21, (vI x153.Step)), (22, (.sl (List.map (cS cI) needs))), (23, (vI (needs.length : Int))), (24, (vB false)), (27, (.ptr 8 1)), (28, (vI x153.Station)), (29, (vB b0)), (31, (vB b0))], [(8, .box [(vI x153.Step), (vI x153.Station), (vI x153.Pair)])]⟩) (by as_aux_lemma => kernel_rfl) (fun hb => ?_) (fun hb => ?_)
            · replace h := iteT hb h
              refine evs_run 15 (by as_aux_lemma => kernel_rfl) ?_
              refine evs_endS (by as_aux_lemma => kernel_rfl) (fun τ hτ => ?_)
              obtain rfl := Option.some.inj h
              exact leafC hτ (subR_prep [] [(8, 500000)] (by as_aux_lemma => kernel_rfl) rfl rfl (by as_aux_lemma => kernel_rfl))
            · replace h := iteF hb h
              refine evs_run 6 (by as_aux_lemma => kernel_rfl) ?_
              refine evs_split (decide (x153.Station ≥ a)) (fun b0 => ⟨[(0, (.sl (List.map (cS cI) needs))), (1, (vI a)), (2, (.sl (List.map c_Change a2))), (7, (vI s103)), (8, (.ptr 8 0)), (9, (.sl (List.map c_Change a2))), (10, (vI (a2.length : Int))), (11, (vI s103)), (20, (.ptr 8 0)), (21, (vI x153.Step)), (22, (.sl (List.map (cS cI) needs))), (23, (vI (needs.length : Int))), (24, (vB false)), (27, (.ptr 8 1)), (28, (vI x153.Station)), (29, (vB false)), (32, (.ptr 8 1)), (33, (vI x153.Station)), (34, (vI a)), (35, (vB b0)), (37, (vB b0))], [(8, .box [(vI x153.Step), (vI x153.Station), (vI x153.Pair)])]⟩) (by as_aux_lemma => kernel_rfl) (fun hb => ?_) (fun hb => ?_)
              · replace h := iteT hb h
                refine evs_run 9 (by as_aux_lemma => kernel_rfl) ?_
                refine evs_endS (by as_aux_lemma => kernel_rfl) (fun τ hτ => ?_)
                obtain rfl := Option.some.inj h
                exact leafC hτ (subR_prep [] [(8, 500000)] (by as_aux_lemma => kernel_rfl) rfl rfl (by as_aux_lemma => kernel_rfl))
              · replace h := iteF hb h
                refine evs_run 5 (by as_aux_lemma => kernel_rfl) ?_
                refine evs_split (decide (x153.Pair < 0)) (fun b0 => ⟨[(0, (.sl (List.map (cS cI) needs))), (1, (vI a)), (2, (.sl (List.map c_Change a2))), (7, (vI s103)), (8, (.ptr 8 0)), (9, (.sl (List.map c_Change a2))), (10, (vI (a2.length : Int))), (11, (vI s103)), (20, (.ptr 8 0)), (21, (vI x153.Step)), (22, (.sl (List.map (cS cI) needs))), (23, (vI (needs.length : Int))), (24, (vB false)), (27, (.ptr 8 1)), (28, (vI x153.Station)), (29, (vB false)), (32, (.ptr 8 1)), (33, (vI x153.Station)), (34, (vI a)), (35, (vB false)), (38, (.ptr 8 2)), (39, (vI x153.Pair)), (40, (vB b0)), (42, (vB b0))], [(8, .box [(vI x153.Step), (vI x153.Station), (vI x153.Pair)])]⟩) (by as_aux_lemma => kernel_rfl) (fun hb => ?_) (fun hb => ?_)
                · replace h := iteT hb h
                  refine evs_run 4 (by as_aux_lemma => kernel_rfl) ?_
                  refine evs_endS (by as_aux_lemma => kernel_rfl) (fun τ hτ => ?_)
                  obtain rfl := Option.some.inj h
                  exact leafC hτ (subR_prep [] [(8, 500000)] (by as_aux_lemma => kernel_rfl) rfl rfl (by as_aux_lemma => kernel_rfl))
                · replace h := iteF hb h
                  refine evs_run 4 (by as_aux_lemma => kernel_rfl) ?_
                  refine evs_endS (by as_aux_lemma => kernel_rfl) (fun τ hτ => ?_)
                  obtain rfl := Option.some.inj h
                  exact leafC hτ (subR_prep [] [(8, 500000)] (by as_aux_lemma => kernel_rfl) rfl rfl (by as_aux_lemma => kernel_rfl))
      refine th_normalS hτ ⟨[(0, (.sl (List.map (cS cI) needs))), (1, (vI a)), (2, (.sl (List.map c_Change a2))), (7, (vI s103)), (8, (.ptr 500000 0)), (9, (.sl (List.map c_Change a2))), (10, (vI (a2.length : Int))), (11, (vI s103)), (46, (vB j155))], [(500000, .box [(vI x153.Step), (vI x153.Station), (vI x153.Pair)])]⟩ (here (by as_aux_lemma => kernel_rfl)) ?_
      refine sem_cond j155 (by as_aux_lemma => kernel_rfl) (by as_aux_lemma => kernel_rfl) (fun hb => ?_) (fun hb => ?_)
      · replace h := iteT hb h
        refine sem_seq (by as_aux_lemma => kernel_rfl) ?_
        refine sem_region (by as_aux_lemma => kernel_rfl) ?_
        refine evs_run 1 (by as_aux_lemma => kernel_rfl) ?_
        refine evs_endS (by as_aux_lemma => kernel_rfl) (fun τ hτ => ?_)
        refine th_normalS hτ ⟨[(6, (vB false))], []⟩ (here (by as_aux_lemma => kernel_rfl)) ?_
        refine sem_retS (by as_aux_lemma => kernel_rfl) (fun τ hτ => ?_)
        refine th_ret ?_
        refine bl_ret ?_
        refine th_ret ?_
        obtain rfl := Option.some.inj h
        exact lk_outS hτ rfl (here (by as_aux_lemma => kernel_rfl))
      · replace h := iteF hb h
        refine sem_skipS (by as_aux_lemma => kernel_rfl) (fun τ hτ => ?_)
        refine th_normalS hτ ⟨[(0, (.sl (List.map (cS cI) needs))), (1, (vI a)), (2, (.sl (List.map c_Change a2))), (7, (vI s103)), (8, (.ptr 500000 0)), (9, (.sl (List.map c_Change a2))), (10, (vI (a2.length : Int))), (11, (vI s103))], [(500000, .box [(vI x153.Step), (vI x153.Station), (vI x153.Pair)])]⟩ (here (by as_aux_lemma => kernel_rfl)) ?_
        refine sem_seq (by as_aux_lemma => kernel_rfl) ?_
        refine sem_seq (by as_aux_lemma => kernel_rfl) ?_
        obtain ⟨j162, hj162, h⟩ := bindS h
        refine sem_drawC ⟨[(0, (.sl (List.map (cS cI) needs))), (1, (vI a)), (2, (.sl (List.map c_Change a2))), (7, (vI s103)), (8, (.ptr 500000 0)), (9, (.sl (List.map c_Change a2))), (10, (vI (a2.length : Int))), (11, (vI s103)), (59, (vB j162))], [(500000, .box [(vI x153.Step), (vI x153.Station), (vI x153.Pair)])]⟩ [] [] [] [] [] 11 (by as_aux_lemma => kernel_rfl) (by as_aux_lemma => kernel_rfl) [] (by as_aux_lemma => kernel_rfl) (by as_aux_lemma => kernel_rfl) ?_ (fun τ hτ => ?_)
        · replace h := hj162
          refine evd_run 3 (by as_aux_lemma => kernel_rfl) ?_
          refine evd_split (decide (s103 > 0)) (fun b0 => ⟨[(49, (vB b0)), (48, (vB b0)), (47, (vI s103)), (0, (.sl (List.map (cS cI) needs))), (1, (vI a)), (2, (.sl (List.map c_Change a2))), (7, (vI s103)), (8, (.ptr 500000 0)), (9, (.sl (List.map c_Change a2))), (10, (vI (a2.length : Int))), (11, (vI s103))], [(500000, .box [(vI x153.Step), (vI x153.Station), (vI x153.Pair)])]⟩) (by as_aux_lemma => kernel_rfl) (fun hb => ?_) (fun hb => ?_)
          · replace h := iteT hb h
            refine evd_run 3 (by as_aux_lemma => kernel_rfl) ?_
            obtain ⟨x163, hx163, h⟩ := bindS h
            refine evd_val (by as_aux_lemma => kernel_rfl) (st_idx (c := c_Change) (l := a2) (i := (isub s103 1)) (kd := .i64) (sz := 3) (by as_aux_lemma => kernel_rfl) hx163 rfl) (by as_aux_lemma => kernel_rfl) (by as_aux_lemma => kernel_rfl) ?_
            refine evd_run 4 (by as_aux_lemma => kernel_rfl) ?_
            refine evd_end (by as_aux_lemma => kernel_rfl) ?_
            refine evo_run 2 (by as_aux_lemma => kernel_rfl) ?_
            refine evo_endS (by as_aux_lemma => kernel_rfl) (fun τ hτ => ?_)
            obtain rfl := Option.some.inj h
            exact leafC hτ (here (by as_aux_lemma => kernel_rfl))
          · replace h := iteF hb h
            refine evd_run 8 (by as_aux_lemma => kernel_rfl) ?_
            refine evd_end (by as_aux_lemma => kernel_rfl) ?_
            refine evo_run 2 (by as_aux_lemma => kernel_rfl) ?_
            refine evo_endS (by as_aux_lemma => kernel_rfl) (fun τ hτ => ?_)
            obtain rfl := Option.some.inj h
            exact leafC hτ (here (by as_aux_lemma => kernel_rfl))
        refine th_normalS hτ ⟨[(0, (.sl (List.map (cS cI) needs))), (1, (vI a)), (2, (.sl (List.map c_Change a2))), (7, (vI s103)), (8, (.ptr 500000 0)), (9, (.sl (List.map c_Change a2))), (10, (vI (a2.length : Int))), (11, (vI s103)), (59, (vB j162))], [(500000, .box [(vI x153.Step), (vI x153.Station), (vI x153.Pair)])]⟩ (here (by as_aux_lemma => kernel_rfl)) ?_
        refine sem_cond j162 (by as_aux_lemma => kernel_rfl) (by as_aux_lemma => kernel_rfl) (fun hb => ?_) (fun hb => ?_)
        · replace h := iteT hb h
          refine sem_seq (by as_aux_lemma => kernel_rfl) ?_
          refine sem_region (by as_aux_lemma => kernel_rfl) ?_
          refine evs_run 1 (by as_aux_lemma => kernel_rfl) ?_
          refine evs_endS (by as_aux_lemma => kernel_rfl) (fun τ hτ => ?_)
          refine th_normalS hτ ⟨[(6, (vB false))], []⟩ (here (by as_aux_lemma => kernel_rfl)) ?_
          refine sem_retS (by as_aux_lemma => kernel_rfl) (fun τ hτ => ?_)
          refine th_ret ?_
          refine bl_ret ?_
          refine th_ret ?_
          obtain rfl := Option.some.inj h
          exact lk_outS hτ rfl (here (by as_aux_lemma => kernel_rfl))
        · replace h := iteF hb h
          refine sem_skipS (by as_aux_lemma => kernel_rfl) (fun τ hτ => ?_)
          refine th_normalS hτ ⟨[(0, (.sl (List.map (cS cI) needs))), (1, (vI a)), (2, (.sl (List.map c_Change a2))), (7, (vI s103)), (8, (.ptr 500000 0)), (9, (.sl (List.map c_Change a2))), (10, (vI (a2.length : Int))), (11, (vI s103))], [(500000, .box [(vI x153.Step), (vI x153.Station), (vI x153.Pair)])]⟩ (here (by as_aux_lemma => kernel_rfl)) ?_
          refine sem_seq (by as_aux_lemma => kernel_rfl) ?_
          refine sem_region (by as_aux_lemma => kernel_rfl) ?_
          refine evs_run 2 (by as_aux_lemma => kernel_rfl) ?_
          obtain ⟨l166, hl166, h⟩ := bindS h
          refine evs_op (st_slH (c := c_Change) (l := a2) (sz := 3) (hi := s103) (k2 := .i64) (by as_aux_lemma => kernel_rfl) hl166) ?_
          refine evs_run 1 (by as_aux_lemma => kernel_rfl) ?_
          obtain ⟨r167, hr167, h⟩ := bindS h
          refine evs_callS [] [] [500000] (by as_aux_lemma => kernel_rfl) (W.slices_ContainsFunc_Lapi_Change_api_Change__setup_inOrder_1_ok hr167) (by as_aux_lemma => kernel_rfl) (by as_aux_lemma => kernel_rfl) (.inr ⟨rfl, fun _ _ => ind_nil⟩) ?_
          refine evs_endS (by as_aux_lemma => kernel_rfl) (fun τ hτ => ?_)
          refine th_normalS hτ ⟨[(0, (.sl (List.map (cS cI) needs))), (1, (vI a)), (2, (.sl (List.map c_Change a2))), (9, (.sl (List.map c_Change a2))), (10, (vI (a2.length : Int))), (11, (vI s103)), (64, (vB r167))], []⟩ (here (by as_aux_lemma => kernel_rfl)) ?_
          refine sem_cond r167 (by as_aux_lemma => kernel_rfl) (by as_aux_lemma => kernel_rfl) (fun hb => ?_) (fun hb => ?_)
          · replace h := iteT hb h
            refine sem_seq (by as_aux_lemma => kernel_rfl) ?_
            refine sem_region (by as_aux_lemma => kernel_rfl) ?_
            refine evs_run 1 (by as_aux_lemma => kernel_rfl) ?_
            refine evs_endS (by as_aux_lemma => kernel_rfl) (fun τ hτ => ?_)
            refine th_normalS hτ ⟨[(6, (vB false))], []⟩ (here (by as_aux_lemma => kernel_rfl)) ?_
            refine sem_retS (by as_aux_lemma => kernel_rfl) (fun τ hτ => ?_)
            refine bl_ret ?_
            refine th_ret ?_
            obtain rfl := Option.some.inj h
            exact lk_outS hτ rfl (here (by as_aux_lemma => kernel_rfl))
          · replace h := iteF hb h
            refine sem_skipS (by as_aux_lemma => kernel_rfl) (fun τ hτ => ?_)
            refine bl_normal ?_
            refine th_normalS hτ ⟨[(0, (.sl (List.map (cS cI) needs))), (1, (vI a)), (2, (.sl (List.map c_Change a2))), (9, (.sl (List.map c_Change a2))), (10, (vI (a2.length : Int))), (11, (vI s103))], []⟩ (here (by as_aux_lemma => kernel_rfl)) ?_
            refine sem_region (by as_aux_lemma => kernel_rfl) ?_
            refine evs_run 2 (by as_aux_lemma => kernel_rfl) ?_
            refine evs_endS (by as_aux_lemma => kernel_rfl) (fun τ hτ => ?_)
            obtain rfl := Option.some.inj h
            exact lk_nextS hτ (here (by as_aux_lemma => kernel_rfl))
    · replace h := iteF hb h
      refine sem_exitS 0 (by as_aux_lemma => kernel_rfl) rfl (fun τ hτ => ?_)
      refine th_exit ?_
      obtain rfl := Option.some.inj h
      exact lk_outS hτ rfl (here (by as_aux_lemma => kernel_rfl))
  · intro x
    rcases x with _ | _ <;> rfl
  · intro τ hτ
    rcases x168 with j169 | j170
    · refine bl_ret ?_
      refine th_ret ?_
      obtain rfl := Option.some.inj h
      exact rk_ret hτ [(6, (vB false))] (here (by as_aux_lemma => kernel_rfl)) (by as_aux_lemma => kernel_rfl)
    · refine bl_hit (by as_aux_lemma => kernel_rfl) ?_
      refine th_normalS hτ ⟨[], []⟩ (here (by as_aux_lemma => kernel_rfl)) ?_
      refine sem_seq (by as_aux_lemma => kernel_rfl) ?_
      refine sem_region (by as_aux_lemma => kernel_rfl) ?_
      refine evs_run 1 (by as_aux_lemma => kernel_rfl) ?_
      refine evs_endS (by as_aux_lemma => kernel_rfl) (fun τ hτ => ?_)
      refine th_normalS hτ ⟨[(6, (vB true))], []⟩ (here (by as_aux_lemma => kernel_rfl)) ?_
      refine sem_retS (by as_aux_lemma => kernel_rfl) (fun τ hτ => ?_)
      obtain rfl := Option.some.inj h
      exact rk_ret hτ [(6, (vB true))] (here (by as_aux_lemma => kernel_rfl)) (by as_aux_lemma => kernel_rfl)
theorem W.bits_Mul64_ok {x0 : Int} {y : Int} {r : Int × Int} (h : bits_Mul64 x0 y = some r) : PC G.P 95 [(vK .u64 x0), (vK .u64 y)] [] (.tup [(vK .u64 r.1), (vK .u64 r.2)]) [] := by
  refine pc_of G (fn := Try.f95) Try.func95 (by as_aux_lemma => kernel_rfl) (by as_aux_lemma => kernel_rfl) (by as_aux_lemma => kernel_rfl) (by as_aux_lemma => kernel_rfl) (by as_aux_lemma => kernel_rfl) ?_
  refine sem_set ⟨[(0, (vK .u64 x0)), (1, (vK .u64 y))], []⟩ (by as_aux_lemma => kernel_rfl) ?_
  refine sem_seq (by as_aux_lemma => kernel_rfl) ?_
  refine sem_region (by as_aux_lemma => kernel_rfl) ?_
  refine evs_run 2 (by as_aux_lemma => kernel_rfl) ?_
  refine evs_endS (by as_aux_lemma => kernel_rfl) (fun τ hτ => ?_)
  refine th_normalS hτ ⟨[(0, (vK .u64 x0)), (1, (vK .u64 y))], []⟩ (here (by as_aux_lemma => kernel_rfl)) ?_
  refine sem_seq (by as_aux_lemma => kernel_rfl) ?_
  refine sem_region (by as_aux_lemma => kernel_rfl) ?_
  refine evs_run 3 (by as_aux_lemma => kernel_rfl) ?_
  refine evs_endS (by as_aux_lemma => kernel_rfl) (fun τ hτ => ?_)
  refine th_normalS hτ ⟨[(0, (vK .u64 x0)), (1, (vK .u64 y)), (6, (vK .u64 (kand .u64 x0 4294967295)))], []⟩ (here (by as_aux_lemma => kernel_rfl)) ?_
  refine sem_seq (by as_aux_lemma => kernel_rfl) ?_
  refine sem_region (by as_aux_lemma => kernel_rfl) ?_
  refine evs_run 3 (by as_aux_lemma => kernel_rfl) ?_
  refine evs_endS (by as_aux_lemma => kernel_rfl) (fun τ hτ => ?_)
  refine th_normalS hτ ⟨[(0, (vK .u64 x0)), (1, (vK .u64 y)), (6, (vK .u64 (kand .u64 x0 4294967295))), (7, (vK .u64 (Int.fdiv x0 (2 ^ (min (Int.toNat 32) 64)))))], []⟩ (here (by as_aux_lemma => kernel_rfl)) ?_
  refine sem_seq (by as_aux_lemma => kernel_rfl) ?_
  refine sem_region (by as_aux_lemma => kernel_rfl) ?_
  refine evs_run 3 (by as_aux_lemma => kernel_rfl) ?_
  refine evs_endS (by as_aux_lemma => kernel_rfl) (fun τ hτ => ?_)
  refine th_normalS hτ ⟨[(0, (vK .u64 x0)), (1, (vK .u64 y)), (6, (vK .u64 (kand .u64 x0 4294967295))), (7, (vK .u64 (Int.fdiv x0 (2 ^ (min (Int.toNat 32) 64))))), (8, (vK .u64 (kand .u64 y 4294967295)))], []⟩ (here (by as_aux_lemma => kernel_rfl)) ?_
  refine sem_seq (by as_aux_lemma => kernel_rfl) ?_
  refine sem_region (by as_aux_lemma => kernel_rfl) ?_
  refine evs_run 3 (by as_aux_lemma => kernel_rfl) ?_
  refine evs_endS (by as_aux_lemma => kernel_rfl) (fun τ hτ => ?_)
  refine th_normalS hτ ⟨[(0, (vK .u64 x0)), (1, (vK .u64 y)), (6, (vK .u64 (kand .u64 x0 4294967295))), (7, (vK .u64 (Int.fdiv x0 (2 ^ (min (Int.toNat 32) 64))))), (8, (vK .u64 (kand .u64 y 4294967295))), (9, (vK .u64 (Int.fdiv y (2 ^ (min (Int.toNat 32) 64)))))], []⟩ (here (by as_aux_lemma => kernel_rfl)) ?_
  refine sem_seq (by as_aux_lemma => kernel_rfl) ?_
  refine sem_region (by as_aux_lemma => kernel_rfl) ?_
  refine evs_run 4 (by as_aux_lemma => kernel_rfl) ?_
  refine evs_endS (by as_aux_lemma => kernel_rfl) (fun τ hτ => ?_)
  refine th_normalS hτ ⟨[(0, (vK .u64 x0)), (1, (vK .u64 y)), (6, (vK .u64 (kand .u64 x0 4294967295))), (7, (vK .u64 (Int.fdiv x0 (2 ^ (min (Int.toNat 32) 64))))), (8, (vK .u64 (kand .u64 y 4294967295))), (9, (vK .u64 (Int.fdiv y (2 ^ (min (Int.toNat 32) 64))))), (10, (vK .u64 (IntKind.wrap .u64 ((kand .u64 x0 4294967295) * (kand .u64 y 4294967295)))))], []⟩ (here (by as_aux_lemma => kernel_rfl)) ?_
  refine sem_seq (by as_aux_lemma => kernel_rfl) ?_
  refine sem_region (by as_aux_lemma => kernel_rfl) ?_
  refine evs_run 7 (by as_aux_lemma => kernel_rfl) ?_
  refine evs_endS (by as_aux_lemma => kernel_rfl) (fun τ hτ => ?_)
  refine th_normalS hτ ⟨[(0, (vK .u64 x0)), (1, (vK .u64 y)), (6, (vK .u64 (kand .u64 x0 4294967295))), (7, (vK .u64 (Int.fdiv x0 (2 ^ (min (Int.toNat 32) 64))))), (9, (vK .u64 (Int.fdiv y (2 ^ (min (Int.toNat 32) 64))))), (11, (vK .u64 (IntKind.wrap .u64 ((IntKind.wrap .u64 ((Int.fdiv x0 (2 ^ (min (Int.toNat 32) 64))) * (kand .u64 y 4294967295))) + (Int.fdiv (IntKind.wrap .u64 ((kand .u64 x0 4294967295) * (kand .u64 y 4294967295))) (2 ^ (min (Int.toNat 32) 64)))))))], []⟩ (here (by as_aux_lemma => kernel_rfl)) ?_
  refine sem_seq (by as_aux_lemma => kernel_rfl) ?_
  refine sem_region (by as_aux_lemma => kernel_rfl) ?_
  refine evs_run 3 (by as_aux_lemma => kernel_rfl) ?_
  refine evs_endS (by as_aux_lemma => kernel_rfl) (fun τ hτ => ?_)
  refine th_normalS hτ ⟨[(0, (vK .u64 x0)), (1, (vK .u64 y)), (6, (vK .u64 (kand .u64 x0 4294967295))), (7, (vK .u64 (Int.fdiv x0 (2 ^ (min (Int.toNat 32) 64))))), (9, (vK .u64 (Int.fdiv y (2 ^ (min (Int.toNat 32) 64))))), (11, (vK .u64 (IntKind.wrap .u64 ((IntKind.wrap .u64 ((Int.fdiv x0 (2 ^ (min (Int.toNat 32) 64))) * (kand .u64 y 4294967295))) + (Int.fdiv (IntKind.wrap .u64 ((kand .u64 x0 4294967295) * (kand .u64 y 4294967295))) (2 ^ (min (Int.toNat 32) 64))))))), (12, (vK .u64 (kand .u64 (IntKind.wrap .u64 ((IntKind.wrap .u64 ((Int.fdiv x0 (2 ^ (min (Int.toNat 32) 64))) * (kand .u64 y 4294967295))) + (Int.fdiv (IntKind.wrap .u64 ((kand .u64 x0 4294967295) * (kand .u64 y 4294967295))) (2 ^ (min (Int.toNat 32) 64))))) 4294967295)))], []⟩ (here (by as_aux_lemma => kernel_rfl)) ?_
  refine sem_seq (by as_aux_lemma => kernel_rfl) ?_
  refine sem_region (by as_aux_lemma => kernel_rfl) ?_
  refine evs_run 3 (by as_aux_lemma => kernel_rfl) ?_
  refine evs_endS (by as_aux_lemma => kernel_rfl) (fun τ hτ => ?_)
  refine th_normalS hτ ⟨[(0, (vK .u64 x0)), (1, (vK .u64 y)), (6, (vK .u64 (kand .u64 x0 4294967295))), (7, (vK .u64 (Int.fdiv x0 (2 ^ (min (Int.toNat 32) 64))))), (9, (vK .u64 (Int.fdiv y (2 ^ (min (Int.toNat 32) 64))))), (12, (vK .u64 (kand .u64 (IntKind.wrap .u64 ((IntKind.wrap .u64 ((Int.fdiv x0 (2 ^ (min (Int.toNat 32) 64))) * (kand .u64 y 4294967295))) + (Int.fdiv (IntKind.wrap .u64 ((kand .u64 x0 4294967295) * (kand .u64 y 4294967295))) (2 ^ (min (Int.toNat 32) 64))))) 4294967295))), (13, (vK .u64 (Int.fdiv (IntKind.wrap .u64 ((IntKind.wrap .u64 ((Int.fdiv x0 (2 ^ (min (Int.toNat 32) 64))) * (kand .u64 y 4294967295))) + (Int.fdiv (IntKind.wrap .u64 ((kand .u64 x0 4294967295) * (kand .u64 y 4294967295))) (2 ^ (min (Int.toNat 32) 64))))) (2 ^ (min (Int.toNat 32) 64)))))], []⟩ (here (by as_aux_lemma => kernel_rfl)) ?_
  refine sem_seq (by as_aux_lemma => kernel_rfl) ?_
  refine sem_region (by as_aux_lemma => kernel_rfl) ?_
  refine evs_run 6 (by as_aux_lemma => kernel_rfl) ?_
  refine evs_endS (by as_aux_lemma => kernel_rfl) (fun τ hτ => ?_)
  refine th_normalS hτ ⟨[(0, (vK .u64 x0)), (1, (vK .u64 y)), (7, (vK .u64 (Int.fdiv x0 (2 ^ (min (Int.toNat 32) 64))))), (9, (vK .u64 (Int.fdiv y (2 ^ (min (Int.toNat 32) 64))))), (12, (vK .u64 (IntKind.wrap .u64 ((kand .u64 (IntKind.wrap .u64 ((IntKind.wrap .u64 ((Int.fdiv x0 (2 ^ (min (Int.toNat 32) 64))) * (kand .u64 y 4294967295))) + (Int.fdiv (IntKind.wrap .u64 ((kand .u64 x0 4294967295) * (kand .u64 y 4294967295))) (2 ^ (min (Int.toNat 32) 64))))) 4294967295) + (IntKind.wrap .u64 ((kand .u64 x0 4294967295) * (Int.fdiv y (2 ^ (min (Int.toNat 32) 64))))))))), (13, (vK .u64 (Int.fdiv (IntKind.wrap .u64 ((IntKind.wrap .u64 ((Int.fdiv x0 (2 ^ (min (Int.toNat 32) 64))) * (kand .u64 y 4294967295))) + (Int.fdiv (IntKind.wrap .u64 ((kand .u64 x0 4294967295) * (kand .u64 y 4294967295))) (2 ^ (min (Int.toNat 32) 64))))) (2 ^ (min (Int.toNat 32) 64)))))], []⟩ (here (by as_aux_lemma => kernel_rfl)) ?_
  refine sem_seq (by as_aux_lemma => kernel_rfl) ?_
  refine sem_region (by as_aux_lemma => kernel_rfl) ?_
  refine evs_run 9 (by as_aux_lemma => kernel_rfl) ?_
  refine evs_endS (by as_aux_lemma => kernel_rfl) (fun τ hτ => ?_)
  refine th_normalS hτ ⟨[(0, (vK .u64 x0)), (1, (vK .u64 y)), (4, (vK .u64 (IntKind.wrap .u64 ((IntKind.wrap .u64 ((IntKind.wrap .u64 ((Int.fdiv x0 (2 ^ (min (Int.toNat 32) 64))) * (Int.fdiv y (2 ^ (min (Int.toNat 32) 64))))) + (Int.fdiv (IntKind.wrap .u64 ((IntKind.wrap .u64 ((Int.fdiv x0 (2 ^ (min (Int.toNat 32) 64))) * (kand .u64 y 4294967295))) + (Int.fdiv (IntKind.wrap .u64 ((kand .u64 x0 4294967295) * (kand .u64 y 4294967295))) (2 ^ (min (Int.toNat 32) 64))))) (2 ^ (min (Int.toNat 32) 64))))) + (Int.fdiv (IntKind.wrap .u64 ((kand .u64 (IntKind.wrap .u64 ((IntKind.wrap .u64 ((Int.fdiv x0 (2 ^ (min (Int.toNat 32) 64))) * (kand .u64 y 4294967295))) + (Int.fdiv (IntKind.wrap .u64 ((kand .u64 x0 4294967295) * (kand .u64 y 4294967295))) (2 ^ (min (Int.toNat 32) 64))))) 4294967295) + (IntKind.wrap .u64 ((kand .u64 x0 4294967295) * (Int.fdiv y (2 ^ (min (Int.toNat 32) 64))))))) (2 ^ (min (Int.toNat 32) 64)))))))], []⟩ (here (by as_aux_lemma => kernel_rfl)) ?_
  refine sem_seq (by as_aux_lemma => kernel_rfl) ?_
  refine sem_region (by as_aux_lemma => kernel_rfl) ?_
  refine evs_run 4 (by as_aux_lemma => kernel_rfl) ?_
  refine evs_endS (by as_aux_lemma => kernel_rfl) (fun τ hτ => ?_)
  refine th_normalS hτ ⟨[(4, (vK .u64 (IntKind.wrap .u64 ((IntKind.wrap .u64 ((IntKind.wrap .u64 ((Int.fdiv x0 (2 ^ (min (Int.toNat 32) 64))) * (Int.fdiv y (2 ^ (min (Int.toNat 32) 64))))) + (Int.fdiv (IntKind.wrap .u64 ((IntKind.wrap .u64 ((Int.fdiv x0 (2 ^ (min (Int.toNat 32) 64))) * (kand .u64 y 4294967295))) + (Int.fdiv (IntKind.wrap .u64 ((kand .u64 x0 4294967295) * (kand .u64 y 4294967295))) (2 ^ (min (Int.toNat 32) 64))))) (2 ^ (min (Int.toNat 32) 64))))) + (Int.fdiv (IntKind.wrap .u64 ((kand .u64 (IntKind.wrap .u64 ((IntKind.wrap .u64 ((Int.fdiv x0 (2 ^ (min (Int.toNat 32) 64))) * (kand .u64 y 4294967295))) + (Int.fdiv (IntKind.wrap .u64 ((kand .u64 x0 4294967295) * (kand .u64 y 4294967295))) (2 ^ (min (Int.toNat 32) 64))))) 4294967295) + (IntKind.wrap .u64 ((kand .u64 x0 4294967295) * (Int.fdiv y (2 ^ (min (Int.toNat 32) 64))))))) (2 ^ (min (Int.toNat 32) 64))))))), (5, (vK .u64 (IntKind.wrap .u64 (x0 * y))))], []⟩ (here (by as_aux_lemma => kernel_rfl)) ?_
  refine sem_retS (by as_aux_lemma => kernel_rfl) (fun τ hτ => ?_)
  obtain rfl := Option.some.inj h
  exact rk_ret hτ [(4, (vK .u64 (IntKind.wrap .u64 ((IntKind.wrap .u64 ((IntKind.wrap .u64 ((Int.fdiv x0 (2 ^ (min (Int.toNat 32) 64))) * (Int.fdiv y (2 ^ (min (Int.toNat 32) 64))))) + (Int.fdiv (IntKind.wrap .u64 ((IntKind.wrap .u64 ((Int.fdiv x0 (2 ^ (min (Int.toNat 32) 64))) * (kand .u64 y 4294967295))) + (Int.fdiv (IntKind.wrap .u64 ((kand .u64 x0 4294967295) * (kand .u64 y 4294967295))) (2 ^ (min (Int.toNat 32) 64))))) (2 ^ (min (Int.toNat 32) 64))))) + (Int.fdiv (IntKind.wrap .u64 ((kand .u64 (IntKind.wrap .u64 ((IntKind.wrap .u64 ((Int.fdiv x0 (2 ^ (min (Int.toNat 32) 64))) * (kand .u64 y 4294967295))) + (Int.fdiv (IntKind.wrap .u64 ((kand .u64 x0 4294967295) * (kand .u64 y 4294967295))) (2 ^ (min (Int.toNat 32) 64))))) 4294967295) + (IntKind.wrap .u64 ((kand .u64 x0 4294967295) * (Int.fdiv y (2 ^ (min (Int.toNat 32) 64))))))) (2 ^ (min (Int.toNat 32) 64))))))), (5, (vK .u64 (IntKind.wrap .u64 (x0 * y))))] (here (by as_aux_lemma => kernel_rfl)) (by as_aux_lemma => kernel_rfl)
theorem W.bits_Mul_ok {x0 : Int} {y : Int} {r : Int × Int} (h : bits_Mul x0 y = some r) : PC G.P 85 [(vK .u64 x0), (vK .u64 y)] [] (.tup [(vK .u64 r.1), (vK .u64 r.2)]) [] := by
  refine pc_of G (fn := Try.f85) Try.func85 (by as_aux_lemma => kernel_rfl) (by as_aux_lemma => kernel_rfl) (by as_aux_lemma => kernel_rfl) (by as_aux_lemma => kernel_rfl) (by as_aux_lemma => kernel_rfl) ?_
  refine sem_set ⟨[(0, (vK .u64 x0)), (1, (vK .u64 y))], []⟩ (by as_aux_lemma => kernel_rfl) ?_
  refine sem_seq (by as_aux_lemma => kernel_rfl) ?_
  refine sem_region (by as_aux_lemma => kernel_rfl) ?_
  refine evs_run 2 (by as_aux_lemma => kernel_rfl) ?_
  refine evs_endS (by as_aux_lemma => kernel_rfl) (fun τ hτ => ?_)
  refine th_normalS hτ ⟨[(0, (vK .u64 x0)), (1, (vK .u64 y))], []⟩ (here (by as_aux_lemma => kernel_rfl)) ?_
  refine sem_seq (by as_aux_lemma => kernel_rfl) ?_
  refine sem_condF (by as_aux_lemma => kernel_rfl) (by as_aux_lemma => kernel_rfl) ?_
  refine sem_skipS (by as_aux_lemma => kernel_rfl) (fun τ hτ => ?_)
  refine th_normalS hτ ⟨[(0, (vK .u64 x0)), (1, (vK .u64 y))], []⟩ (here (by as_aux_lemma => kernel_rfl)) ?_
  refine sem_seq (by as_aux_lemma => kernel_rfl) ?_
  refine sem_region (by as_aux_lemma => kernel_rfl) ?_
  refine evs_run 2 (by as_aux_lemma => kernel_rfl) ?_
  obtain ⟨r2, hr2, h⟩ := bindS h
  refine evs_callS [] [] [] (by as_aux_lemma => kernel_rfl) (W.bits_Mul64_ok hr2) (by as_aux_lemma => kernel_rfl) (by as_aux_lemma => kernel_rfl) (.inl rfl) ?_
  refine evs_run 5 (by as_aux_lemma => kernel_rfl) ?_
  refine evs_endS (by as_aux_lemma => kernel_rfl) (fun τ hτ => ?_)
  refine th_normalS hτ ⟨[(8, (vK .u64 r2.1)), (9, (vK .u64 r2.2))], []⟩ (here (by as_aux_lemma => kernel_rfl)) ?_
  refine sem_seq (by as_aux_lemma => kernel_rfl) ?_
  refine sem_region (by as_aux_lemma => kernel_rfl) ?_
  refine evs_run 4 (by as_aux_lemma => kernel_rfl) ?_
  refine evs_endS (by as_aux_lemma => kernel_rfl) (fun τ hτ => ?_)
  refine th_normalS hτ ⟨[(4, (vK .u64 r2.1)), (5, (vK .u64 r2.2))], []⟩ (here (by as_aux_lemma => kernel_rfl)) ?_
  refine sem_retS (by as_aux_lemma => kernel_rfl) (fun τ hτ => ?_)
  obtain rfl := Option.some.inj h
  exact rk_ret hτ [(4, (vK .u64 r2.1)), (5, (vK .u64 r2.2))] (here (by as_aux_lemma => kernel_rfl)) (by as_aux_lemma => kernel_rfl)
theorem W.slices_Repeat_Lint_int_ok {x0 : (List Int)} {count : Int} {r : (List Int)} (h : slices_Repeat_Lint_int x0 count = some r) : PC G.P 74 [(.sl (List.map cI x0)), (vI count)] [] (.row (.top 0) 3) [(0, .row 3 [] (List.map cI r))] := by
  refine pc_of G (fn := Try.f74) Try.func74 (by as_aux_lemma => kernel_rfl) (by as_aux_lemma => kernel_rfl) (by as_aux_lemma => kernel_rfl) (by as_aux_lemma => kernel_rfl) (by as_aux_lemma => kernel_rfl) ?_
  refine sem_set ⟨[(0, (.sl (List.map cI x0))), (1, (vI count))], []⟩ (by as_aux_lemma => kernel_rfl) ?_
  refine sem_seq (by as_aux_lemma => kernel_rfl) ?_
  refine sem_region (by as_aux_lemma => kernel_rfl) ?_
  refine evs_run 1 (by as_aux_lemma => kernel_rfl) ?_
  refine evs_endS (by as_aux_lemma => kernel_rfl) (fun τ hτ => ?_)
  refine th_normalS hτ ⟨[(0, (.sl (List.map cI x0))), (1, (vI count))], []⟩ (here (by as_aux_lemma => kernel_rfl)) ?_
  refine sem_seq (by as_aux_lemma => kernel_rfl) ?_
  refine sem_seq (by as_aux_lemma => kernel_rfl) ?_
  refine sem_region (by as_aux_lemma => kernel_rfl) ?_
  refine evs_run 2 (by as_aux_lemma => kernel_rfl) ?_
  refine evs_endS (by as_aux_lemma => kernel_rfl) (fun τ hτ => ?_)
  refine th_normalS hτ ⟨[(0, (.sl (List.map cI x0))), (1, (vI count)), (10, (vB (decide (count < 0))))], []⟩ (here (by as_aux_lemma => kernel_rfl)) ?_
  refine sem_cond (decide (count < 0)) (by as_aux_lemma => kernel_rfl) (by as_aux_lemma => kernel_rfl) (fun hb => ?_) (fun hb => ?_)
  · replace h := iteT hb h
    refine sem_region (by as_aux_lemma => kernel_rfl) ?_
    exact nomatch h
  · replace h := iteF hb h
    refine sem_skipS (by as_aux_lemma => kernel_rfl) (fun τ hτ => ?_)
    refine th_normalS hτ ⟨[(0, (.sl (List.map cI x0))), (1, (vI count))], []⟩ (here (by as_aux_lemma => kernel_rfl)) ?_
    refine sem_seq (by as_aux_lemma => kernel_rfl) ?_
    refine sem_region (by as_aux_lemma => kernel_rfl) ?_
    refine evs_run 1 (by as_aux_lemma => kernel_rfl) ?_
    refine evs_op (st_len (c := cI) (l := x0) (x := (.sl (List.map cI x0))) (by as_aux_lemma => kernel_rfl) (by as_aux_lemma => kernel_rfl)) ?_
    refine evs_run 3 (by as_aux_lemma => kernel_rfl) ?_
    obtain ⟨r2, hr2, h⟩ := bindS h
    refine evs_callS [] [] [] (by as_aux_lemma => kernel_rfl) (W.bits_Mul_ok hr2) (by as_aux_lemma => kernel_rfl) (by as_aux_lemma => kernel_rfl) (.inl rfl) ?_
    refine evs_run 5 (by as_aux_lemma => kernel_rfl) ?_
    refine evs_endS (by as_aux_lemma => kernel_rfl) (fun τ hτ => ?_)
    refine th_normalS hτ ⟨[(0, (.sl (List.map cI x0))), (5, (vK .u64 r2.1)), (6, (vK .u64 r2.2))], []⟩ (here (by as_aux_lemma => kernel_rfl)) ?_
    refine sem_seq (by as_aux_lemma => kernel_rfl) ?_
    refine sem_seq (by as_aux_lemma => kernel_rfl) ?_
    obtain ⟨j4, hj4, h⟩ := bindS h
    refine sem_regionC ⟨[(0, (.sl (List.map cI x0))), (6, (vK .u64 r2.2)), (26, (vB j4))], []⟩ (by as_aux_lemma => kernel_rfl) ?_ (fun τ hτ => ?_)
    · replace h := hj4
      refine evs_run 3 (by as_aux_lemma => kernel_rfl) ?_
      refine evs_split (decide (r2.1 > 0)) (fun b0 => ⟨[(0, (.sl (List.map cI x0))), (6, (vK .u64 r2.2)), (23, (vB b0))], []⟩) (by as_aux_lemma => kernel_rfl) (fun hb => ?_) (fun hb => ?_)
      · replace h := iteT hb h
        refine evs_run 3 (by as_aux_lemma => kernel_rfl) ?_
        refine evs_endS (by as_aux_lemma => kernel_rfl) (fun τ hτ => ?_)
        obtain rfl := Option.some.inj h
        exact leafC hτ (here (by as_aux_lemma => kernel_rfl))
      · replace h := iteF hb h
        refine evs_run 3 (by as_aux_lemma => kernel_rfl) ?_
        refine evs_endS (by as_aux_lemma => kernel_rfl) (fun τ hτ => ?_)
        obtain rfl := Option.some.inj h
        exact leafC hτ (here (by as_aux_lemma => kernel_rfl))
    refine th_normalS hτ ⟨[(0, (.sl (List.map cI x0))), (6, (vK .u64 r2.2)), (26, (vB j4))], []⟩ (here (by as_aux_lemma => kernel_rfl)) ?_
    refine sem_cond j4 (by as_aux_lemma => kernel_rfl) (by as_aux_lemma => kernel_rfl) (fun hb => ?_) (fun hb => ?_)
    · replace h := iteT hb h
      refine sem_region (by as_aux_lemma => kernel_rfl) ?_
      exact nomatch h
    · replace h := iteF hb h
      refine sem_skipS (by as_aux_lemma => kernel_rfl) (fun τ hτ => ?_)
      refine th_normalS hτ ⟨[(0, (.sl (List.map cI x0))), (6, (vK .u64 r2.2))], []⟩ (here (by as_aux_lemma => kernel_rfl)) ?_
      refine sem_seq (by as_aux_lemma => kernel_rfl) ?_
      refine sem_region (by as_aux_lemma => kernel_rfl) ?_
      refine evs_run 2 (by as_aux_lemma => kernel_rfl) ?_
      obtain ⟨l6, hl6, h⟩ := bindS h
      refine evs_op (st_mk (c := cI) (z := 0) (n := (IntKind.wrap .i64 r2.2)) (e := 3) (d := 30) (zs := [(vI 0)]) (k1 := .i64) (k2 := .i64) (by as_aux_lemma => kernel_rfl) rfl hl6) ?_
      refine evs_run 1 (by as_aux_lemma => kernel_rfl) ?_
      refine evs_endS (by as_aux_lemma => kernel_rfl) (fun τ hτ => ?_)
      refine th_normalS hτ ⟨[(0, (.sl (List.map cI x0))), (7, (.row (.top 30) 3))], [(30, .row 3 [] (List.map cI l6))]⟩ (here (by as_aux_lemma => kernel_rfl)) ?_
      refine sem_seq (by as_aux_lemma => kernel_rfl) ?_
      refine sem_region (by as_aux_lemma => kernel_rfl) ?_
      refine evs_run 2 (by as_aux_lemma => kernel_rfl) ?_
      refine evs_at (at_copy (c := cI) (l := l6) (l2 := x0) (d := (.row (.top 30) 3)) (x := (.sl (List.map cI x0))) (e := 3) (sz := 1) (g := 30) (lo := 0) (n := l6.length) (by as_aux_lemma => kernel_rfl) (by as_aux_lemma => kernel_rfl) (by as_aux_lemma => kernel_rfl) (Nat.le_of_eq (Nat.zero_add _)) (by as_aux_lemma => kernel_rfl) (by as_aux_lemma => kernel_rfl) (fun _ => rfl)) ?_
      refine evs_run 1 (by as_aux_lemma => kernel_rfl) ?_
      refine evs_endS (by as_aux_lemma => kernel_rfl) (fun τ hτ => ?_)
      refine th_normalS hτ ⟨[(7, (.row (.top 30) 3)), (8, (vI (((min x0.length (l6.length)) : Nat) : Int)))], [(30, .row 3 [] (List.map cI (cpy l6 (0) (List.take (min x0.length (l6.length)) x0))))]⟩ (here (by as_aux_lemma => kernel_rfl)) ?_
      refine sem_seq (by as_aux_lemma => kernel_rfl) ?_
      refine sem_block (by as_aux_lemma => kernel_rfl) ?_
      obtain ⟨x12, hx12, h⟩ := bindS h
      refine sem_loopS (fun (s11 : Int × (List Int)) => ⟨[(7, (.row (.top 500000) 3)), (8, (vI s11.1))], [(500000, .row 3 [] (List.map cI s11.2))]⟩) (fun (x12 : (List Int)) => (.exit 0, ⟨[(7, (.row (.top 500000) 3))], [(500000, .row 3 [] (List.map cI x12))]⟩)) (slices_Repeat_Lint_int_l1) ((((min x0.length (l6.length)) : Nat) : Int), (cpy l6 (0) (List.take (min x0.length (l6.length)) x0))) x12 (by as_aux_lemma => kernel_rfl) (subR_prep [] [(30, 500000)] (by as_aux_lemma => kernel_rfl) rfl rfl (by as_aux_lemma => kernel_rfl)) hx12 ?_ ?_ ?_
      · intro s11 r h
        refine sem_seq (by as_aux_lemma => kernel_rfl) ?_
        refine sem_seq (by as_aux_lemma => kernel_rfl) ?_
        refine sem_region (by as_aux_lemma => kernel_rfl) ?_
        refine evs_run 2 (by as_aux_lemma => kernel_rfl) ?_
        refine evs_op (st_len (c := cI) (l := s11.2) (x := (.row (.top 500000) 3)) (by as_aux_lemma => kernel_rfl) (by as_aux_lemma => kernel_rfl)) ?_
        refine evs_run 1 (by as_aux_lemma => kernel_rfl) ?_
        refine evs_endS (by as_aux_lemma => kernel_rfl) (fun τ hτ => ?_)
        refine th_normalS hτ ⟨[(7, (.row (.top 500000) 3)), (8, (vI s11.1)), (37, (vB (decide (s11.1 < (s11.2.length : Int)))))], [(500000, .row 3 [] (List.map cI s11.2))]⟩ (here (by as_aux_lemma => kernel_rfl)) ?_
        refine sem_cond (decide (s11.1 < (s11.2.length : Int))) (by as_aux_lemma => kernel_rfl) (by as_aux_lemma => kernel_rfl) (fun hb => ?_) (fun hb => ?_)
        · replace h := iteT hb h
          refine sem_skipS (by as_aux_lemma => kernel_rfl) (fun τ hτ => ?_)
          refine th_normalS hτ ⟨[(7, (.row (.top 500000) 3)), (8, (vI s11.1))], [(500000, .row 3 [] (List.map cI s11.2))]⟩ (here (by as_aux_lemma => kernel_rfl)) ?_
          refine sem_block (by as_aux_lemma => kernel_rfl) ?_
          refine sem_draw [(7, [500000])] [] [] [(0, [500000])] [] 8 (by as_aux_lemma => kernel_rfl) (by as_aux_lemma => kernel_rfl) [] (by as_aux_lemma => kernel_rfl) (by as_aux_lemma => kernel_rfl) ?_
          refine evd_run 3 (by as_aux_lemma => kernel_rfl) ?_
          obtain ⟨hp3, h⟩ := iteN h
          refine evd_val (by as_aux_lemma => kernel_rfl) (st_slPL (c := cI) (l := s11.2) (kk := (.top 500000)) (e := 3) (sz := 1) (lo := s11.1) (k1 := .i64) (by as_aux_lemma => kernel_rfl) (by as_aux_lemma => kernel_rfl) (fun _ => rfl) hp3) (by as_aux_lemma => kernel_rfl) (by as_aux_lemma => kernel_rfl) ?_
          refine evd_run 2 (by as_aux_lemma => kernel_rfl) ?_
          obtain ⟨hp6, h⟩ := iteN h
          refine evd_val (by as_aux_lemma => kernel_rfl) (st_slPH (c := cI) (l := s11.2) (kk := (.top 500000)) (e := 3) (sz := 1) (hi := s11.1) (k2 := .i64) (by as_aux_lemma => kernel_rfl) (by as_aux_lemma => kernel_rfl) (fun _ => rfl) hp6) (by as_aux_lemma => kernel_rfl) (by as_aux_lemma => kernel_rfl) ?_
          refine evd_copy (c := cI) (l := s11.2) (l2 := (List.take (Int.toNat s11.1 - Int.toNat 0) (List.drop (Int.toNat 0) s11.2))) (d := (.part (.top 500000) 3 (Int.toNat s11.1) (Int.toNat (s11.2.length : Int) - Int.toNat s11.1))) (x := (.part (.top 500000) 3 (Int.toNat 0) (Int.toNat s11.1 - Int.toNat 0))) (e := 3) (sz := 1) (g := 500000) (lo := (Int.toNat s11.1)) (n := (Int.toNat (s11.2.length : Int) - Int.toNat s11.1)) (by as_aux_lemma => kernel_rfl) (by as_aux_lemma => kernel_rfl) (by as_aux_lemma => kernel_rfl) (by as_aux_lemma => kernel_rfl) (part_fit hp3) (elems_part (by as_aux_lemma => kernel_rfl) (part_fit hp6)) (by as_aux_lemma => kernel_rfl) (fun _ => rfl) (by as_aux_lemma => kernel_rfl) (by as_aux_lemma => kernel_rfl) (by as_aux_lemma => kernel_rfl) ?_
          refine evd_end (by as_aux_lemma => kernel_rfl) ?_
          refine evo_run 2 (by as_aux_lemma => kernel_rfl) ?_
          refine evo_endS (by as_aux_lemma => kernel_rfl) (fun τ hτ => ?_)
          refine bl_normal ?_
          obtain rfl := Option.some.inj h
          exact lk_nextS hτ (here (by as_aux_lemma => kernel_rfl))
        · replace h := iteF hb h
          refine sem_exitS 0 (by as_aux_lemma => kernel_rfl) rfl (fun τ hτ => ?_)
          refine th_exit ?_
          obtain rfl := Option.some.inj h
          exact lk_outS hτ rfl (here (by as_aux_lemma => kernel_rfl))
      · intro x
        rfl
      · intro τ hτ
        refine bl_hit (by as_aux_lemma => kernel_rfl) ?_
        refine th_normalS hτ ⟨[(7, (.row (.top 500000) 3))], [(500000, .row 3 [] (List.map cI x12))]⟩ (here (by as_aux_lemma => kernel_rfl)) ?_
        refine sem_seq (by as_aux_lemma => kernel_rfl) ?_
        refine sem_region (by as_aux_lemma => kernel_rfl) ?_
        refine evs_run 2 (by as_aux_lemma => kernel_rfl) ?_
        refine evs_endS (by as_aux_lemma => kernel_rfl) (fun τ hτ => ?_)
        refine th_normalS hτ ⟨[(4, (.row (.top 500000) 3))], [(500000, .row 3 [] (List.map cI x12))]⟩ (here (by as_aux_lemma => kernel_rfl)) ?_
        refine sem_retS (by as_aux_lemma => kernel_rfl) (fun τ hτ => ?_)
        obtain rfl := Option.some.inj h
        exact rk_ret hτ [(4, (.row (.top 0) 3))] (subR_prep [] [(500000, 0)] (by as_aux_lemma => kernel_rfl) rfl rfl (by as_aux_lemma => kernel_rfl)) (by as_aux_lemma => kernel_rfl)
theorem W.setup_mounted_ok {stations : Int} {l : (List Change)} {step : Int} {r : (List Int)} (h : setup_mounted stations l step = some r) : PC G.P 69 [(vI stations), (.sl (List.map c_Change l)), (vI step)] [] (.row (.top 0) 3) [(0, .row 3 [] (List.map cI r))] := by
  refine pc_of G (fn := Try.f69) Try.func69 (by as_aux_lemma => kernel_rfl) (by as_aux_lemma => kernel_rfl) (by as_aux_lemma => kernel_rfl) (by as_aux_lemma => kernel_rfl) (by as_aux_lemma => kernel_rfl) ?_
  refine sem_set ⟨[(0, (vI stations)), (1, (.sl (List.map c_Change l))), (2, (vI step))], []⟩ (by as_aux_lemma => kernel_rfl) ?_
  refine sem_seq (by as_aux_lemma => kernel_rfl) ?_
  refine sem_region (by as_aux_lemma => kernel_rfl) ?_
  refine evs_run 1 (by as_aux_lemma => kernel_rfl) ?_
  refine evs_endS (by as_aux_lemma => kernel_rfl) (fun τ hτ => ?_)
  refine th_normalS hτ ⟨[(0, (vI stations)), (1, (.sl (List.map c_Change l))), (2, (vI step))], []⟩ (here (by as_aux_lemma => kernel_rfl)) ?_
  refine sem_seq (by as_aux_lemma => kernel_rfl) ?_
  refine sem_region (by as_aux_lemma => kernel_rfl) ?_
  refine evs_run 2 (by as_aux_lemma => kernel_rfl) ?_
  obtain ⟨r2, hr2, h⟩ := bindS h
  refine evs_callS [] [(0, 700100)] [] (by as_aux_lemma => kernel_rfl) (W.slices_Repeat_Lint_int_ok hr2) (by as_aux_lemma => kernel_rfl) (by as_aux_lemma => kernel_rfl) (.inl rfl) ?_
  refine evs_run 1 (by as_aux_lemma => kernel_rfl) ?_
  refine evs_endS (by as_aux_lemma => kernel_rfl) (fun τ hτ => ?_)
  refine th_normalS hτ ⟨[(1, (.sl (List.map c_Change l))), (2, (vI step)), (7, (.row (.top 700100) 3))], [(700100, .row 3 [] (List.map cI r2))]⟩ (here (by as_aux_lemma => kernel_rfl)) ?_
  refine sem_seq (by as_aux_lemma => kernel_rfl) ?_
  refine sem_seq (by as_aux_lemma => kernel_rfl) ?_
  refine sem_region (by as_aux_lemma => kernel_rfl) ?_
  refine evs_run 1 (by as_aux_lemma => kernel_rfl) ?_
  refine evs_op (st_len (c := c_Change) (l := l) (x := (.sl (List.map c_Change l))) (by as_aux_lemma => kernel_rfl) (by as_aux_lemma => kernel_rfl)) ?_
  refine evs_run 1 (by as_aux_lemma => kernel_rfl) ?_
  refine evs_endS (by as_aux_lemma => kernel_rfl) (fun τ hτ => ?_)
  refine th_normalS hτ ⟨[(2, (vI step)), (7, (.row (.top 700100) 3)), (13, (.sl (List.map c_Change l))), (14, (vI (l.length : Int))), (15, (vI 0))], [(700100, .row 3 [] (List.map cI r2))]⟩ (here (by as_aux_lemma => kernel_rfl)) ?_
  refine sem_block (by as_aux_lemma => kernel_rfl) ?_
  obtain ⟨x62, hx62, h⟩ := bindS h
  refine sem_loopS (fun (s43 : Int × (List Int)) => ⟨[(2, (vI step)), (7, (.row (.top 500000) 3)), (13, (.sl (List.map c_Change l))), (14, (vI (l.length : Int))), (15, (vI s43.1))], [(500000, .row 3 [] (List.map cI s43.2))]⟩) (fun (x62 : (List Int)) => (.exit 0, ⟨[(7, (.row (.top 500000) 3))], [(500000, .row 3 [] (List.map cI x62))]⟩)) (setup_mounted_l2 l step) (0, r2) x62 (by as_aux_lemma => kernel_rfl) (subR_prep [] [(700100, 500000)] (by as_aux_lemma => kernel_rfl) rfl rfl (by as_aux_lemma => kernel_rfl)) hx62 ?_ ?_ ?_
  · intro s43 r h
    refine sem_seq (by as_aux_lemma => kernel_rfl) ?_
    refine sem_region (by as_aux_lemma => kernel_rfl) ?_
    refine evs_run 1 (by as_aux_lemma => kernel_rfl) ?_
    refine evs_endS (by as_aux_lemma => kernel_rfl) (fun τ hτ => ?_)
    refine th_normalS hτ ⟨[(2, (vI step)), (7, (.row (.top 500000) 3)), (13, (.sl (List.map c_Change l))), (14, (vI (l.length : Int))), (15, (vI s43.1)), (16, (vB (decide (s43.1 < (l.length : Int)))))], [(500000, .row 3 [] (List.map cI s43.2))]⟩ (here (by as_aux_lemma => kernel_rfl)) ?_
    refine sem_seq (by as_aux_lemma => kernel_rfl) ?_
    refine sem_cond (decide (s43.1 < (l.length : Int))) (by as_aux_lemma => kernel_rfl) (by as_aux_lemma => kernel_rfl) (fun hb => ?_) (fun hb => ?_)
    · replace h := iteT hb h
      refine sem_skipS (by as_aux_lemma => kernel_rfl) (fun τ hτ => ?_)
      refine th_normalS hτ ⟨[(2, (vI step)), (7, (.row (.top 500000) 3)), (13, (.sl (List.map c_Change l))), (14, (vI (l.length : Int))), (15, (vI s43.1))], [(500000, .row 3 [] (List.map cI s43.2))]⟩ (here (by as_aux_lemma => kernel_rfl)) ?_
      refine sem_seqJ (fun (j57 : (List Int)) => ⟨[(2, (vI step)), (7, (.row (.top 500000) 3)), (13, (.sl (List.map c_Change l))), (14, (vI (l.length : Int))), (15, (vI s43.1))], [(500000, .row 3 [] (List.map cI j57))]⟩) (setup_mounted_k1 s43) r (by as_aux_lemma => kernel_rfl) (fun j57 h => ?_) ?_
      · refine sem_region (by as_aux_lemma => kernel_rfl) ?_
        refine evs_run 2 (by as_aux_lemma => kernel_rfl) ?_
        refine evs_endS (by as_aux_lemma => kernel_rfl) (fun τ hτ => ?_)
        obtain rfl := Option.some.inj h
        exact lk_nextS hτ (here (by as_aux_lemma => kernel_rfl))
      refine sem_block (by as_aux_lemma => kernel_rfl) ?_
      refine sem_seq (by as_aux_lemma => kernel_rfl) ?_
      refine sem_region (by as_aux_lemma => kernel_rfl) ?_
      obtain ⟨x59, hx59, h⟩ := bindS h
      refine evs_op (st_idx (c := c_Change) (l := l) (i := s43.1) (kd := .i64) (sz := 3) (by as_aux_lemma => kernel_rfl) hx59 rfl) ?_
      refine evs_run 3 (by as_aux_lemma => kernel_rfl) ?_
      refine evs_endS (by as_aux_lemma => kernel_rfl) (fun τ hτ => ?_)
      refine th_normalS hτ ⟨[(2, (vI step)), (7, (.row (.top 500000) 3)), (9, (.ptr 9 0)), (13, (.sl (List.map c_Change l))), (14, (vI (l.length : Int))), (15, (vI s43.1))], [(9, .box [(vI x59.Step), (vI x59.Station), (vI x59.Pair)]), (500000, .row 3 [] (List.map cI s43.2))]⟩ (here (by as_aux_lemma => kernel_rfl)) ?_
      refine sem_seq (by as_aux_lemma => kernel_rfl) ?_
      refine sem_region (by as_aux_lemma => kernel_rfl) ?_
      refine evs_run 4 (by as_aux_lemma => kernel_rfl) ?_
      refine evs_endS (by as_aux_lemma => kernel_rfl) (fun τ hτ => ?_)
      refine th_normalS hτ ⟨[(2, (vI step)), (7, (.row (.top 500000) 3)), (9, (.ptr 9 0)), (13, (.sl (List.map c_Change l))), (14, (vI (l.length : Int))), (15, (vI s43.1)), (22, (vB (decide (x59.Step ≤ step))))], [(9, .box [(vI x59.Step), (vI x59.Station), (vI x59.Pair)]), (500000, .row 3 [] (List.map cI s43.2))]⟩ (here (by as_aux_lemma => kernel_rfl)) ?_
      refine sem_cond (decide (x59.Step ≤ step)) (by as_aux_lemma => kernel_rfl) (by as_aux_lemma => kernel_rfl) (fun hb => ?_) (fun hb => ?_)
      · replace h := iteT hb h
        refine sem_region (by as_aux_lemma => kernel_rfl) ?_
        refine evs_run 5 (by as_aux_lemma => kernel_rfl) ?_
        obtain ⟨x61, hx61, h⟩ := bindS h
        refine evs_op (st_idxO (c := cI) (l := s43.2) (i := x59.Station) (kd := .i64) (kk := (.top 500000)) (e := 3) (sz := 1) (by as_aux_lemma => kernel_rfl) (by as_aux_lemma => kernel_rfl) hx61 rfl) ?_
        refine evs_op (st_stO (c := cI) (l := s43.2) (i := (Int.toNat x59.Station)) (x := x61) (x' := x59.Pair) (v := (vI x59.Pair)) (agg := false) (sz := 1) (kk := (.top 500000)) (e := 3) (off := 0) (J := []) (o := .row 3 [] (List.map cI (List.set s43.2 (Int.toNat x59.Station) x59.Pair))) (by as_aux_lemma => kernel_rfl) (by as_aux_lemma => kernel_rfl) (by as_aux_lemma => kernel_rfl) ((idxS hx61).2) (by as_aux_lemma => kernel_rfl) (by as_aux_lemma => kernel_rfl) (by as_aux_lemma => kernel_rfl)) ?_
        refine evs_endS (by as_aux_lemma => kernel_rfl) (fun τ hτ => ?_)
        refine bl_normal ?_
        exact jk_normal (List.set s43.2 (Int.toNat x59.Station) x59.Pair) h hτ (here (by as_aux_lemma => kernel_rfl))
      · replace h := iteF hb h
        refine sem_skipS (by as_aux_lemma => kernel_rfl) (fun τ hτ => ?_)
        refine bl_normal ?_
        exact jk_normal s43.2 h hτ (here (by as_aux_lemma => kernel_rfl))
    · replace h := iteF hb h
      refine sem_exitS 0 (by as_aux_lemma => kernel_rfl) rfl (fun τ hτ => ?_)
      refine th_exit ?_
      obtain rfl := Option.some.inj h
      exact lk_outS hτ rfl (here (by as_aux_lemma => kernel_rfl))
  · intro x
    rfl
  · intro τ hτ
    refine bl_hit (by as_aux_lemma => kernel_rfl) ?_
    refine th_normalS hτ ⟨[(7, (.row (.top 500000) 3))], [(500000, .row 3 [] (List.map cI x62))]⟩ (here (by as_aux_lemma => kernel_rfl)) ?_
    refine sem_seq (by as_aux_lemma => kernel_rfl) ?_
    refine sem_region (by as_aux_lemma => kernel_rfl) ?_
    refine evs_run 2 (by as_aux_lemma => kernel_rfl) ?_
    refine evs_endS (by as_aux_lemma => kernel_rfl) (fun τ hτ => ?_)
    refine th_normalS hτ ⟨[(6, (.row (.top 500000) 3))], [(500000, .row 3 [] (List.map cI x62))]⟩ (here (by as_aux_lemma => kernel_rfl)) ?_
    refine sem_retS (by as_aux_lemma => kernel_rfl) (fun τ hτ => ?_)
    obtain rfl := Option.some.inj h
    exact rk_ret hτ [(6, (.row (.top 0) 3))] (subR_prep [] [(500000, 0)] (by as_aux_lemma => kernel_rfl) rfl rfl (by as_aux_lemma => kernel_rfl)) (by as_aux_lemma => kernel_rfl)
theorem W.setup_Mounted_ok {needs : (List (List Int))} {stations : Int} {l : (List Change)} {step : Int} {r : (List Int) × Int} (h : setup_Mounted needs stations l step = some r) : PC G.P 35 [(.sl (List.map (cS cI) needs)), (vI stations), (.sl (List.map c_Change l)), (vI step)] [] (.tup [(.row (.top 0) 3), (vI r.2)]) [(0, .row 3 [] (List.map cI r.1))] := by
  refine pc_of G (fn := Try.f35) Try.func35 (by as_aux_lemma => kernel_rfl) (by as_aux_lemma => kernel_rfl) (by as_aux_lemma => kernel_rfl) (by as_aux_lemma => kernel_rfl) (by as_aux_lemma => kernel_rfl) ?_
  refine sem_set ⟨[(0, (.sl (List.map (cS cI) needs))), (1, (vI stations)), (2, (.sl (List.map c_Change l))), (3, (vI step))], []⟩ (by as_aux_lemma => kernel_rfl) ?_
  refine sem_seq (by as_aux_lemma => kernel_rfl) ?_
  refine sem_region (by as_aux_lemma => kernel_rfl) ?_
  refine evs_run 2 (by as_aux_lemma => kernel_rfl) ?_
  refine evs_endS (by as_aux_lemma => kernel_rfl) (fun τ hτ => ?_)
  refine th_normalS hτ ⟨[(0, (.sl (List.map (cS cI) needs))), (1, (vI stations)), (2, (.sl (List.map c_Change l))), (3, (vI step))], []⟩ (here (by as_aux_lemma => kernel_rfl)) ?_
  refine sem_seq (by as_aux_lemma => kernel_rfl) ?_
  refine sem_seq (by as_aux_lemma => kernel_rfl) ?_
  refine sem_region (by as_aux_lemma => kernel_rfl) ?_
  refine evs_run 2 (by as_aux_lemma => kernel_rfl) ?_
  obtain ⟨r4, hr4, h⟩ := bindS h
  refine evs_callS [] [] [] (by as_aux_lemma => kernel_rfl) (W.setup_check_ok hr4) (by as_aux_lemma => kernel_rfl) (by as_aux_lemma => kernel_rfl) (.inl rfl) ?_
  refine evs_run 1 (by as_aux_lemma => kernel_rfl) ?_
  refine evs_endS (by as_aux_lemma => kernel_rfl) (fun τ hτ => ?_)
  refine th_normalS hτ ⟨[(0, (.sl (List.map (cS cI) needs))), (1, (vI stations)), (2, (.sl (List.map c_Change l))), (3, (vI step)), (10, (vI r4))], []⟩ (here (by as_aux_lemma => kernel_rfl)) ?_
  refine sem_seq (by as_aux_lemma => kernel_rfl) ?_
  refine sem_region (by as_aux_lemma => kernel_rfl) ?_
  refine evs_run 2 (by as_aux_lemma => kernel_rfl) ?_
  refine evs_endS (by as_aux_lemma => kernel_rfl) (fun τ hτ => ?_)
  refine th_normalS hτ ⟨[(0, (.sl (List.map (cS cI) needs))), (1, (vI stations)), (2, (.sl (List.map c_Change l))), (3, (vI step)), (10, (vI r4)), (15, (vB (r4 != 0)))], []⟩ (here (by as_aux_lemma => kernel_rfl)) ?_
  refine sem_cond (r4 != 0) (by as_aux_lemma => kernel_rfl) (by as_aux_lemma => kernel_rfl) (fun hb => ?_) (fun hb => ?_)
  · replace h := iteT hb h
    refine sem_seq (by as_aux_lemma => kernel_rfl) ?_
    refine sem_region (by as_aux_lemma => kernel_rfl) ?_
    refine evs_run 3 (by as_aux_lemma => kernel_rfl) ?_
    refine evs_endS (by as_aux_lemma => kernel_rfl) (fun τ hτ => ?_)
    refine th_normalS hτ ⟨[(8, (.row (.top 8) 3)), (9, (vI r4))], [(8, .row 3 [] (List.map cI []))]⟩ (here (by as_aux_lemma => kernel_rfl)) ?_
    refine sem_retS (by as_aux_lemma => kernel_rfl) (fun τ hτ => ?_)
    refine th_ret ?_
    obtain rfl := Option.some.inj h
    exact rk_ret hτ [(8, (.row (.top 0) 3)), (9, (vI r4))] (subR_prep [] [(8, 0)] (by as_aux_lemma => kernel_rfl) rfl rfl (by as_aux_lemma => kernel_rfl)) (by as_aux_lemma => kernel_rfl)
  · replace h := iteF hb h
    refine sem_skipS (by as_aux_lemma => kernel_rfl) (fun τ hτ => ?_)
    refine th_normalS hτ ⟨[(0, (.sl (List.map (cS cI) needs))), (1, (vI stations)), (2, (.sl (List.map c_Change l))), (3, (vI step))], []⟩ (here (by as_aux_lemma => kernel_rfl)) ?_
    refine sem_seq (by as_aux_lemma => kernel_rfl) ?_
    refine sem_seq (by as_aux_lemma => kernel_rfl) ?_
    refine sem_region (by as_aux_lemma => kernel_rfl) ?_
    refine evs_run 3 (by as_aux_lemma => kernel_rfl) ?_
    obtain ⟨r8, hr8, h⟩ := bindS h
    refine evs_callS [] [] [] (by as_aux_lemma => kernel_rfl) (W.setup_inOrder_ok hr8) (by as_aux_lemma => kernel_rfl) (by as_aux_lemma => kernel_rfl) (.inl rfl) ?_
    refine evs_run 1 (by as_aux_lemma => kernel_rfl) ?_
    refine evs_endS (by as_aux_lemma => kernel_rfl) (fun τ hτ => ?_)
    refine th_normalS hτ ⟨[(0, (.sl (List.map (cS cI) needs))), (1, (vI stations)), (2, (.sl (List.map c_Change l))), (3, (vI step)), (21, (vB (!r8)))], []⟩ (here (by as_aux_lemma => kernel_rfl)) ?_
    refine sem_cond (!r8) (by as_aux_lemma => kernel_rfl) (by as_aux_lemma => kernel_rfl) (fun hb => ?_) (fun hb => ?_)
    · replace h := iteT hb h
      refine sem_seq (by as_aux_lemma => kernel_rfl) ?_
      refine sem_region (by as_aux_lemma => kernel_rfl) ?_
      refine evs_run 2 (by as_aux_lemma => kernel_rfl) ?_
      refine evs_endS (by as_aux_lemma => kernel_rfl) (fun τ hτ => ?_)
      refine th_normalS hτ ⟨[(8, (.row (.top 8) 3)), (9, (vI 12))], [(8, .row 3 [] (List.map cI []))]⟩ (here (by as_aux_lemma => kernel_rfl)) ?_
      refine sem_retS (by as_aux_lemma => kernel_rfl) (fun τ hτ => ?_)
      refine th_ret ?_
      obtain rfl := Option.some.inj h
      exact rk_ret hτ [(8, (.row (.top 0) 3)), (9, (vI 12))] (subR_prep [] [(8, 0)] (by as_aux_lemma => kernel_rfl) rfl rfl (by as_aux_lemma => kernel_rfl)) (by as_aux_lemma => kernel_rfl)
    · replace h := iteF hb h
      refine sem_skipS (by as_aux_lemma => kernel_rfl) (fun τ hτ => ?_)
      refine th_normalS hτ ⟨[(0, (.sl (List.map (cS cI) needs))), (1, (vI stations)), (2, (.sl (List.map c_Change l))), (3, (vI step))], []⟩ (here (by as_aux_lemma => kernel_rfl)) ?_
      refine sem_seq (by as_aux_lemma => kernel_rfl) ?_
      refine sem_seq (by as_aux_lemma => kernel_rfl) ?_
      obtain ⟨j10, hj10, h⟩ := bindS h
      refine sem_regionC ⟨[(1, (vI stations)), (2, (.sl (List.map c_Change l))), (3, (vI step)), (29, (vB j10))], []⟩ (by as_aux_lemma => kernel_rfl) ?_ (fun τ hτ => ?_)
      · replace h := hj10
        refine evs_run 3 (by as_aux_lemma => kernel_rfl) ?_
        refine evs_split (decide (step < 0)) (fun b0 => ⟨[(0, (.sl (List.map (cS cI) needs))), (1, (vI stations)), (2, (.sl (List.map c_Change l))), (3, (vI step)), (24, (vB b0))], []⟩) (by as_aux_lemma => kernel_rfl) (fun hb => ?_) (fun hb => ?_)
        · replace h := iteT hb h
          refine evs_run 5 (by as_aux_lemma => kernel_rfl) ?_
          refine evs_endS (by as_aux_lemma => kernel_rfl) (fun τ hτ => ?_)
          obtain rfl := Option.some.inj h
          exact leafC hτ (here (by as_aux_lemma => kernel_rfl))
        · replace h := iteF hb h
          refine evs_run 2 (by as_aux_lemma => kernel_rfl) ?_
          refine evs_op (st_len (c := (cS cI)) (l := needs) (x := (.sl (List.map (cS cI) needs))) (by as_aux_lemma => kernel_rfl) (by as_aux_lemma => kernel_rfl)) ?_
          refine evs_run 2 (by as_aux_lemma => kernel_rfl) ?_
          refine evs_endS (by as_aux_lemma => kernel_rfl) (fun τ hτ => ?_)
          obtain rfl := Option.some.inj h
          exact leafC hτ (here (by as_aux_lemma => kernel_rfl))
      refine th_normalS hτ ⟨[(1, (vI stations)), (2, (.sl (List.map c_Change l))), (3, (vI step)), (29, (vB j10))], []⟩ (here (by as_aux_lemma => kernel_rfl)) ?_
      refine sem_cond j10 (by as_aux_lemma => kernel_rfl) (by as_aux_lemma => kernel_rfl) (fun hb => ?_) (fun hb => ?_)
      · replace h := iteT hb h
        refine sem_seq (by as_aux_lemma => kernel_rfl) ?_
        refine sem_region (by as_aux_lemma => kernel_rfl) ?_
        refine evs_run 2 (by as_aux_lemma => kernel_rfl) ?_
        refine evs_endS (by as_aux_lemma => kernel_rfl) (fun τ hτ => ?_)
        refine th_normalS hτ ⟨[(8, (.row (.top 8) 3)), (9, (vI 1))], [(8, .row 3 [] (List.map cI []))]⟩ (here (by as_aux_lemma => kernel_rfl)) ?_
        refine sem_retS (by as_aux_lemma => kernel_rfl) (fun τ hτ => ?_)
        refine th_ret ?_
        obtain rfl := Option.some.inj h
        exact rk_ret hτ [(8, (.row (.top 0) 3)), (9, (vI 1))] (subR_prep [] [(8, 0)] (by as_aux_lemma => kernel_rfl) rfl rfl (by as_aux_lemma => kernel_rfl)) (by as_aux_lemma => kernel_rfl)
      · replace h := iteF hb h
        refine sem_skipS (by as_aux_lemma => kernel_rfl) (fun τ hτ => ?_)
        refine th_normalS hτ ⟨[(1, (vI stations)), (2, (.sl (List.map c_Change l))), (3, (vI step))], []⟩ (here (by as_aux_lemma => kernel_rfl)) ?_
        refine sem_seq (by as_aux_lemma => kernel_rfl) ?_
        refine sem_region (by as_aux_lemma => kernel_rfl) ?_
        refine evs_run 3 (by as_aux_lemma => kernel_rfl) ?_
        obtain ⟨r12, hr12, h⟩ := bindS h
        refine evs_callS [] [(0, 700150)] [] (by as_aux_lemma => kernel_rfl) (W.setup_mounted_ok hr12) (by as_aux_lemma => kernel_rfl) (by as_aux_lemma => kernel_rfl) (.inl rfl) ?_
        refine evs_run 2 (by as_aux_lemma => kernel_rfl) ?_
        refine evs_endS (by as_aux_lemma => kernel_rfl) (fun τ hτ => ?_)
        refine th_normalS hτ ⟨[(8, (.row (.top 700150) 3)), (9, (vI 0))], [(700150, .row 3 [] (List.map cI r12))]⟩ (here (by as_aux_lemma => kernel_rfl)) ?_
        refine sem_retS (by as_aux_lemma => kernel_rfl) (fun τ hτ => ?_)
        obtain rfl := Option.some.inj h
        exact rk_ret hτ [(8, (.row (.top 0) 3)), (9, (vI 0))] (subR_prep [] [(700150, 0)] (by as_aux_lemma => kernel_rfl) rfl rfl (by as_aux_lemma => kernel_rfl)) (by as_aux_lemma => kernel_rfl)
theorem W.sheetmetalref05_ordered_ok {needs : (List (List Int))} {a : Int} {a2 : (List Change)} {r : Bool} (h : sheetmetalref05_ordered needs a a2 = some r) : PC G.P 70 [(.sl (List.map (cS cI) needs)), (vI a), (.sl (List.map c_Change a2))] [] (vB r) [] := by
  refine pc_of G (fn := Try.f70) Try.func70 (by as_aux_lemma => kernel_rfl) (by as_aux_lemma => kernel_rfl) (by as_aux_lemma => kernel_rfl) (by as_aux_lemma => kernel_rfl) (by as_aux_lemma => kernel_rfl) ?_
  refine sem_set ⟨[(0, (.sl (List.map (cS cI) needs))), (1, (vI a)), (2, (.sl (List.map c_Change a2)))], []⟩ (by as_aux_lemma => kernel_rfl) ?_
  refine sem_seq (by as_aux_lemma => kernel_rfl) ?_
  refine sem_region (by as_aux_lemma => kernel_rfl) ?_
  refine evs_run 1 (by as_aux_lemma => kernel_rfl) ?_
  refine evs_endS (by as_aux_lemma => kernel_rfl) (fun τ hτ => ?_)
  refine th_normalS hτ ⟨[(0, (.sl (List.map (cS cI) needs))), (1, (vI a)), (2, (.sl (List.map c_Change a2)))], []⟩ (here (by as_aux_lemma => kernel_rfl)) ?_
  refine sem_seq (by as_aux_lemma => kernel_rfl) ?_
  refine sem_seq (by as_aux_lemma => kernel_rfl) ?_
  refine sem_region (by as_aux_lemma => kernel_rfl) ?_
  refine evs_run 1 (by as_aux_lemma => kernel_rfl) ?_
  refine evs_endS (by as_aux_lemma => kernel_rfl) (fun τ hτ => ?_)
  refine th_normalS hτ ⟨[(0, (.sl (List.map (cS cI) needs))), (1, (vI a)), (2, (.sl (List.map c_Change a2))), (7, (vI 0))], []⟩ (here (by as_aux_lemma => kernel_rfl)) ?_
  refine sem_block (by as_aux_lemma => kernel_rfl) ?_
  obtain ⟨x728, hx728, h⟩ := bindS h
  refine sem_loopS (fun (s403 : Int) => ⟨[(0, (.sl (List.map (cS cI) needs))), (1, (vI a)), (2, (.sl (List.map c_Change a2))), (7, (vI s403))], []⟩) (fun (x728 : Unit ⊕ Unit) => match x728 with | .inl j729 => (.ret, ⟨[(6, (vB false))], []⟩) | .inr j730 => (.exit 0, ⟨[], []⟩)) (sheetmetalref05_ordered_l2 needs a a2) 0 x728 (by as_aux_lemma => kernel_rfl) (here (by as_aux_lemma => kernel_rfl)) hx728 ?_ ?_ ?_
  · intro s403 r h
    refine sem_seq (by as_aux_lemma => kernel_rfl) ?_
    refine sem_seq (by as_aux_lemma => kernel_rfl) ?_
    refine sem_region (by as_aux_lemma => kernel_rfl) ?_
    refine evs_run 2 (by as_aux_lemma => kernel_rfl) ?_
    refine evs_op (st_len (c := c_Change) (l := a2) (x := (.sl (List.map c_Change a2))) (by as_aux_lemma => kernel_rfl) (by as_aux_lemma => kernel_rfl)) ?_
    refine evs_run 1 (by as_aux_lemma => kernel_rfl) ?_
    refine evs_endS (by as_aux_lemma => kernel_rfl) (fun τ hτ => ?_)
    refine th_normalS hτ ⟨[(0, (.sl (List.map (cS cI) needs))), (1, (vI a)), (2, (.sl (List.map c_Change a2))), (7, (vI s403)), (13, (vB (decide (s403 < (a2.length : Int)))))], []⟩ (here (by as_aux_lemma => kernel_rfl)) ?_
    refine sem_cond (decide (s403 < (a2.length : Int))) (by as_aux_lemma => kernel_rfl) (by as_aux_lemma => kernel_rfl) (fun hb => ?_) (fun hb => ?_)
    · replace h := iteT hb h
      refine sem_skipS (by as_aux_lemma => kernel_rfl) (fun τ hτ => ?_)
      refine th_normalS hτ ⟨[(0, (.sl (List.map (cS cI) needs))), (1, (vI a)), (2, (.sl (List.map c_Change a2))), (7, (vI s403))], []⟩ (here (by as_aux_lemma => kernel_rfl)) ?_
      refine sem_seq (by as_aux_lemma => kernel_rfl) ?_
      refine sem_block (by as_aux_lemma => kernel_rfl) ?_
      refine sem_seq (by as_aux_lemma => kernel_rfl) ?_
      refine sem_region (by as_aux_lemma => kernel_rfl) ?_
      refine evs_run 2 (by as_aux_lemma => kernel_rfl) ?_
      obtain ⟨x648, hx648, h⟩ := bindS h
      refine evs_op (st_idx (c := c_Change) (l := a2) (i := s403) (kd := .i64) (sz := 3) (by as_aux_lemma => kernel_rfl) hx648 rfl) ?_
      refine evs_run 3 (by as_aux_lemma => kernel_rfl) ?_
      refine evs_endS (by as_aux_lemma => kernel_rfl) (fun τ hτ => ?_)
      refine th_normalS hτ ⟨[(0, (.sl (List.map (cS cI) needs))), (1, (vI a)), (2, (.sl (List.map c_Change a2))), (7, (vI s403)), (8, (.ptr 8 0))], [(8, .box [(vI x648.Step), (vI x648.Station), (vI x648.Pair)])]⟩ (here (by as_aux_lemma => kernel_rfl)) ?_
      refine sem_seq (by as_aux_lemma => kernel_rfl) ?_
      refine sem_seq (by as_aux_lemma => kernel_rfl) ?_
      obtain ⟨j659, hj659, h⟩ := bindS h
      refine sem_regionC ⟨[(0, (.sl (List.map (cS cI) needs))), (1, (vI a)), (2, (.sl (List.map c_Change a2))), (7, (vI s403)), (8, (.ptr 500000 0)), (40, (vB j659))], [(500000, .box [(vI x648.Step), (vI x648.Station), (vI x648.Pair)])]⟩ (by as_aux_lemma => kernel_rfl) ?_ (fun τ hτ => ?_)
      · replace h := hj659
        refine evs_run 3 (by as_aux_lemma => kernel_rfl) ?_
        refine evs_op (st_len (c := (cS cI)) (l := needs) (x := (.sl (List.map (cS cI) needs))) (by as_aux_lemma => kernel_rfl) (by as_aux_lemma => kernel_rfl)) ?_
        refine evs_run 1 (by as_aux_lemma => kernel_rfl) ?_
        obtain ⟨r660, hr660, h⟩ := bindS h
        refine evs_callS [] [] [] (by as_aux_lemma => kernel_rfl) (W.sheetmetalref05_within_ok hr660) (by as_aux_lemma => kernel_rfl) (by as_aux_lemma => kernel_rfl) (.inl rfl) ?_
        refine evs_run 2 (by as_aux_lemma => kernel_rfl) ?_
        refine evs_split r660 (fun b0 => ⟨[(0, (.sl (List.map (cS cI) needs))), (1, (vI a)), (2, (.sl (List.map c_Change a2))), (7, (vI s403)), (8, (.ptr 8 0)), (27, (vB (!b0)))], [(8, .box [(vI x648.Step), (vI x648.Station), (vI x648.Pair)])]⟩) (by as_aux_lemma => kernel_rfl) (fun hb => ?_) (fun hb => ?_)
        · replace h := iteT hb h
          refine evs_run 4 (by as_aux_lemma => kernel_rfl) ?_
          obtain ⟨r661, hr661, h⟩ := bindS h
          refine evs_callS [] [] [] (by as_aux_lemma => kernel_rfl) (W.sheetmetalref05_within_ok hr661) (by as_aux_lemma => kernel_rfl) (by as_aux_lemma => kernel_rfl) (.inl rfl) ?_
          refine evs_run 3 (by as_aux_lemma => kernel_rfl) ?_
          refine evs_split r661 (fun b0 => ⟨[(0, (.sl (List.map (cS cI) needs))), (1, (vI a)), (2, (.sl (List.map c_Change a2))), (7, (vI s403)), (8, (.ptr 8 0)), (28, (.ptr 8 1)), (29, (vI x648.Station)), (30, (vI a)), (31, (vI (isub a 1))), (32, (vB b0)), (33, (vB (!b0))), (35, (vB (!b0)))], [(8, .box [(vI x648.Step), (vI x648.Station), (vI x648.Pair)])]⟩) (by as_aux_lemma => kernel_rfl) (fun hb => ?_) (fun hb => ?_)
          · replace h := iteT hb h
            refine evs_run 2 (by as_aux_lemma => kernel_rfl) ?_
            obtain ⟨r662, hr662, h⟩ := bindS h
            refine evs_callS [] [] [] (by as_aux_lemma => kernel_rfl) (W.sheetmetalref05_within_ok hr662) (by as_aux_lemma => kernel_rfl) (by as_aux_lemma => kernel_rfl) (.inl rfl) ?_
            refine evs_run 2 (by as_aux_lemma => kernel_rfl) ?_
            refine evs_endS (by as_aux_lemma => kernel_rfl) (fun τ hτ => ?_)
            obtain rfl := Option.some.inj h
            exact leafC hτ (subR_prep [] [(8, 500000)] (by as_aux_lemma => kernel_rfl) rfl rfl (by as_aux_lemma => kernel_rfl))
          · replace h := iteF hb h
            refine evs_run 5 (by as_aux_lemma => kernel_rfl) ?_
            refine evs_endS (by as_aux_lemma => kernel_rfl) (fun τ hτ => ?_)
            obtain rfl := Option.some.inj h
            exact leafC hτ (subR_prep [] [(8, 500000)] (by as_aux_lemma => kernel_rfl) rfl rfl (by as_aux_lemma => kernel_rfl))
        · replace h := iteF hb h
          refine evs_run 13 (by as_aux_lemma => kernel_rfl) ?_
          refine evs_endS (by as_aux_lemma => kernel_rfl) (fun τ hτ => ?_)
          obtain rfl := Option.some.inj h
          exact leafC hτ (subR_prep [] [(8, 500000)] (by as_aux_lemma => kernel_rfl) rfl rfl (by as_aux_lemma => kernel_rfl))
      refine th_normalS hτ ⟨[(0, (.sl (List.map (cS cI) needs))), (1, (vI a)), (2, (.sl (List.map c_Change a2))), (7, (vI s403)), (8, (.ptr 500000 0)), (40, (vB j659))], [(500000, .box [(vI x648.Step), (vI x648.Station), (vI x648.Pair)])]⟩ (here (by as_aux_lemma => kernel_rfl)) ?_
      refine sem_cond j659 (by as_aux_lemma => kernel_rfl) (by as_aux_lemma => kernel_rfl) (fun hb => ?_) (fun hb => ?_)
      · replace h := iteT hb h
        refine sem_seq (by as_aux_lemma => kernel_rfl) ?_
        refine sem_region (by as_aux_lemma => kernel_rfl) ?_
        refine evs_run 1 (by as_aux_lemma => kernel_rfl) ?_
        refine evs_endS (by as_aux_lemma => kernel_rfl) (fun τ hτ => ?_)
        refine th_normalS hτ ⟨[(6, (vB false))], []⟩ (here (by as_aux_lemma => kernel_rfl)) ?_
        refine sem_retS (by as_aux_lemma => kernel_rfl) (fun τ hτ => ?_)
        refine th_ret ?_
        refine bl_ret ?_
        refine th_ret ?_
        obtain rfl := Option.some.inj h
        exact lk_outS hτ rfl (here (by as_aux_lemma => kernel_rfl))
      · replace h := iteF hb h
        refine sem_skipS (by as_aux_lemma => kernel_rfl) (fun τ hτ => ?_)
        refine th_normalS hτ ⟨[(0, (.sl (List.map (cS cI) needs))), (1, (vI a)), (2, (.sl (List.map c_Change a2))), (7, (vI s403)), (8, (.ptr 500000 0))], [(500000, .box [(vI x648.Step), (vI x648.Station), (vI x648.Pair)])]⟩ (here (by as_aux_lemma => kernel_rfl)) ?_
        refine sem_seq (by as_aux_lemma => kernel_rfl) ?_
        refine sem_region (by as_aux_lemma => kernel_rfl) ?_
        refine evs_run 1 (by as_aux_lemma => kernel_rfl) ?_
        refine evs_endS (by as_aux_lemma => kernel_rfl) (fun τ hτ => ?_)
        refine th_normalS hτ ⟨[(0, (.sl (List.map (cS cI) needs))), (1, (vI a)), (2, (.sl (List.map c_Change a2))), (7, (vI s403)), (8, (.ptr 500000 0)), (9, (vI 0))], [(500000, .box [(vI x648.Step), (vI x648.Station), (vI x648.Pair)])]⟩ (here (by as_aux_lemma => kernel_rfl)) ?_
        refine sem_block (by as_aux_lemma => kernel_rfl) ?_
        obtain ⟨x725, hx725, h⟩ := bindS h
        refine sem_loopS (fun (s684 : Int) => ⟨[(0, (.sl (List.map (cS cI) needs))), (1, (vI a)), (2, (.sl (List.map c_Change a2))), (7, (vI s403)), (8, (.ptr 500000 0)), (9, (vI s684))], [(500000, .box [(vI x648.Step), (vI x648.Station), (vI x648.Pair)])]⟩) (fun (x725 : Unit ⊕ Unit) => match x725 with | .inl j726 => (.ret, ⟨[(6, (vB false))], []⟩) | .inr j727 => (.exit 2, ⟨[(0, (.sl (List.map (cS cI) needs))), (1, (vI a)), (2, (.sl (List.map c_Change a2))), (7, (vI s403))], []⟩)) (sheetmetalref05_ordered_l1 a2 s403 x648) 0 x725 (by as_aux_lemma => kernel_rfl) (here (by as_aux_lemma => kernel_rfl)) hx725 ?_ ?_ ?_
        · intro s684 r h
          refine sem_seq (by as_aux_lemma => kernel_rfl) ?_
          refine sem_seq (by as_aux_lemma => kernel_rfl) ?_
          refine sem_region (by as_aux_lemma => kernel_rfl) ?_
          refine evs_run 3 (by as_aux_lemma => kernel_rfl) ?_
          refine evs_endS (by as_aux_lemma => kernel_rfl) (fun τ hτ => ?_)
          refine th_normalS hτ ⟨[(0, (.sl (List.map (cS cI) needs))), (1, (vI a)), (2, (.sl (List.map c_Change a2))), (7, (vI s403)), (8, (.ptr 500000 0)), (9, (vI s684)), (43, (vB (decide (s684 < s403))))], [(500000, .box [(vI x648.Step), (vI x648.Station), (vI x648.Pair)])]⟩ (here (by as_aux_lemma => kernel_rfl)) ?_
          refine sem_cond (decide (s684 < s403)) (by as_aux_lemma => kernel_rfl) (by as_aux_lemma => kernel_rfl) (fun hb => ?_) (fun hb => ?_)
          · replace h := iteT hb h
            refine sem_skipS (by as_aux_lemma => kernel_rfl) (fun τ hτ => ?_)
            refine th_normalS hτ ⟨[(0, (.sl (List.map (cS cI) needs))), (1, (vI a)), (2, (.sl (List.map c_Change a2))), (7, (vI s403)), (8, (.ptr 500000 0)), (9, (vI s684))], [(500000, .box [(vI x648.Step), (vI x648.Station), (vI x648.Pair)])]⟩ (here (by as_aux_lemma => kernel_rfl)) ?_
            refine sem_seq (by as_aux_lemma => kernel_rfl) ?_
            refine sem_block (by as_aux_lemma => kernel_rfl) ?_
            refine sem_seq (by as_aux_lemma => kernel_rfl) ?_
            obtain ⟨j721, hj721, h⟩ := bindS h
            refine sem_drawC ⟨[(0, (.sl (List.map (cS cI) needs))), (1, (vI a)), (2, (.sl (List.map c_Change a2))), (7, (vI s403)), (8, (.ptr 500000 0)), (9, (vI s684)), (73, (vB j721))], [(500000, .box [(vI x648.Step), (vI x648.Station), (vI x648.Pair)])]⟩ [] [] [] [] [] 25 (by as_aux_lemma => kernel_rfl) (by as_aux_lemma => kernel_rfl) [] (by as_aux_lemma => kernel_rfl) (by as_aux_lemma => kernel_rfl) ?_ (fun τ hτ => ?_)
            · replace h := hj721
              refine evd_run 2 (by as_aux_lemma => kernel_rfl) ?_
              obtain ⟨x722, hx722, h⟩ := bindS h
              refine evd_val (by as_aux_lemma => kernel_rfl) (st_idx (c := c_Change) (l := a2) (i := s684) (kd := .i64) (sz := 3) (by as_aux_lemma => kernel_rfl) hx722 rfl) (by as_aux_lemma => kernel_rfl) (by as_aux_lemma => kernel_rfl) ?_
              refine evd_run 6 (by as_aux_lemma => kernel_rfl) ?_
              refine evd_split (decide (x722.Step > x648.Step)) (fun b0 => ⟨[(54, (vB b0)), (53, (vB b0)), (52, (vI x648.Step)), (51, (.ptr 500000 0)), (50, (vI x722.Step)), (49, (.vptr [(vI x722.Step), (vI x722.Station), (vI x722.Pair)] 0)), (48, (.vptr [(vI x722.Step), (vI x722.Station), (vI x722.Pair)] 0)), (47, (vI s684)), (46, (.sl (List.map c_Change a2))), (0, (.sl (List.map (cS cI) needs))), (1, (vI a)), (2, (.sl (List.map c_Change a2))), (7, (vI s403)), (8, (.ptr 500000 0)), (9, (vI s684))], [(500000, .box [(vI x648.Step), (vI x648.Station), (vI x648.Pair)])]⟩) (by as_aux_lemma => kernel_rfl) (fun hb => ?_) (fun hb => ?_)
              · replace h := iteT hb h
                refine evd_run 16 (by as_aux_lemma => kernel_rfl) ?_
                refine evd_end (by as_aux_lemma => kernel_rfl) ?_
                refine evo_run 3 (by as_aux_lemma => kernel_rfl) ?_
                refine evo_endS (by as_aux_lemma => kernel_rfl) (fun τ hτ => ?_)
                obtain rfl := Option.some.inj h
                exact leafC hτ (here (by as_aux_lemma => kernel_rfl))
              · replace h := iteF hb h
                refine evd_run 2 (by as_aux_lemma => kernel_rfl) ?_
                obtain ⟨x723, hx723, h⟩ := bindS h
                refine evd_val (by as_aux_lemma => kernel_rfl) (st_idx (c := c_Change) (l := a2) (i := s684) (kd := .i64) (sz := 3) (by as_aux_lemma => kernel_rfl) hx723 rfl) (by as_aux_lemma => kernel_rfl) (by as_aux_lemma => kernel_rfl) ?_
                refine evd_run 6 (by as_aux_lemma => kernel_rfl) ?_
                refine evd_split (x723.Step == x648.Step) (fun b0 => ⟨[(63, (vB b0)), (62, (vB b0)), (61, (vI x648.Step)), (60, (.ptr 500000 0)), (59, (vI x723.Step)), (58, (.vptr [(vI x723.Step), (vI x723.Station), (vI x723.Pair)] 0)), (57, (.vptr [(vI x723.Step), (vI x723.Station), (vI x723.Pair)] 0)), (56, (vI s684)), (55, (.sl (List.map c_Change a2))), (54, (vB false)), (53, (vB false)), (52, (vI x648.Step)), (51, (.ptr 500000 0)), (50, (vI x722.Step)), (49, (.vptr [(vI x722.Step), (vI x722.Station), (vI x722.Pair)] 0)), (48, (.vptr [(vI x722.Step), (vI x722.Station), (vI x722.Pair)] 0)), (47, (vI s684)), (46, (.sl (List.map c_Change a2))), (0, (.sl (List.map (cS cI) needs))), (1, (vI a)), (2, (.sl (List.map c_Change a2))), (7, (vI s403)), (8, (.ptr 500000 0)), (9, (vI s684))], [(500000, .box [(vI x648.Step), (vI x648.Station), (vI x648.Pair)])]⟩) (by as_aux_lemma => kernel_rfl) (fun hb => ?_) (fun hb => ?_)
                · replace h := iteT hb h
                  refine evd_run 2 (by as_aux_lemma => kernel_rfl) ?_
                  obtain ⟨x724, hx724, h⟩ := bindS h
                  refine evd_val (by as_aux_lemma => kernel_rfl) (st_idx (c := c_Change) (l := a2) (i := s684) (kd := .i64) (sz := 3) (by as_aux_lemma => kernel_rfl) hx724 rfl) (by as_aux_lemma => kernel_rfl) (by as_aux_lemma => kernel_rfl) ?_
                  refine evd_run 4 (by as_aux_lemma => kernel_rfl) ?_
                  refine evd_end (by as_aux_lemma => kernel_rfl) ?_
                  refine evo_run 3 (by as_aux_lemma => kernel_rfl) ?_
                  refine evo_endS (by as_aux_lemma => kernel_rfl) (fun τ hτ => ?_)
                  obtain rfl := Option.some.inj h
                  exact leafC hτ (here (by as_aux_lemma => kernel_rfl))
                · replace h := iteF hb h
                  refine evd_run 7 (by as_aux_lemma => kernel_rfl) ?_
                  refine evd_end (by as_aux_lemma => kernel_rfl) ?_
                  refine evo_run 3 (by as_aux_lemma => kernel_rfl) ?_
                  refine evo_endS (by as_aux_lemma => kernel_rfl) (fun τ hτ => ?_)
                  obtain rfl := Option.some.inj h
                  exact leafC hτ (here (by as_aux_lemma => kernel_rfl))
            refine th_normalS hτ ⟨[(0, (.sl (List.map (cS cI) needs))), (1, (vI a)), (2, (.sl (List.map c_Change a2))), (7, (vI s403)), (8, (.ptr 500000 0)), (9, (vI s684)), (73, (vB j721))], [(500000, .box [(vI x648.Step), (vI x648.Station), (vI x648.Pair)])]⟩ (here (by as_aux_lemma => kernel_rfl)) ?_
            refine sem_cond j721 (by as_aux_lemma => kernel_rfl) (by as_aux_lemma => kernel_rfl) (fun hb => ?_) (fun hb => ?_)
            · replace h := iteT hb h
              refine sem_seq (by as_aux_lemma => kernel_rfl) ?_
              refine sem_region (by as_aux_lemma => kernel_rfl) ?_
              refine evs_run 1 (by as_aux_lemma => kernel_rfl) ?_
              refine evs_endS (by as_aux_lemma => kernel_rfl) (fun τ hτ => ?_)
              refine th_normalS hτ ⟨[(6, (vB false))], []⟩ (here (by as_aux_lemma => kernel_rfl)) ?_
              refine sem_retS (by as_aux_lemma => kernel_rfl) (fun τ hτ => ?_)
              refine bl_ret ?_
              refine th_ret ?_
              obtain rfl := Option.some.inj h
              exact lk_outS hτ rfl (here (by as_aux_lemma => kernel_rfl))
            · replace h := iteF hb h
              refine sem_skipS (by as_aux_lemma => kernel_rfl) (fun τ hτ => ?_)
              refine bl_normal ?_
              refine th_normalS hτ ⟨[(0, (.sl (List.map (cS cI) needs))), (1, (vI a)), (2, (.sl (List.map c_Change a2))), (7, (vI s403)), (8, (.ptr 500000 0)), (9, (vI s684))], [(500000, .box [(vI x648.Step), (vI x648.Station), (vI x648.Pair)])]⟩ (here (by as_aux_lemma => kernel_rfl)) ?_
              refine sem_region (by as_aux_lemma => kernel_rfl) ?_
              refine evs_run 3 (by as_aux_lemma => kernel_rfl) ?_
              refine evs_endS (by as_aux_lemma => kernel_rfl) (fun τ hτ => ?_)
              obtain rfl := Option.some.inj h
              exact lk_nextS hτ (here (by as_aux_lemma => kernel_rfl))
          · replace h := iteF hb h
            refine sem_exitS 2 (by as_aux_lemma => kernel_rfl) rfl (fun τ hτ => ?_)
            refine th_exit ?_
            obtain rfl := Option.some.inj h
            exact lk_outS hτ rfl (here (by as_aux_lemma => kernel_rfl))
        · intro x
          rcases x with _ | _ <;> rfl
        · intro τ hτ
          rcases x725 with j726 | j727
          · refine bl_ret ?_
            refine bl_ret ?_
            refine th_ret ?_
            obtain rfl := Option.some.inj h
            exact lk_outS hτ rfl (here (by as_aux_lemma => kernel_rfl))
          · refine bl_hit (by as_aux_lemma => kernel_rfl) ?_
            refine bl_normal ?_
            refine th_normalS hτ ⟨[(0, (.sl (List.map (cS cI) needs))), (1, (vI a)), (2, (.sl (List.map c_Change a2))), (7, (vI s403))], []⟩ (here (by as_aux_lemma => kernel_rfl)) ?_
            refine sem_region (by as_aux_lemma => kernel_rfl) ?_
            refine evs_run 3 (by as_aux_lemma => kernel_rfl) ?_
            refine evs_endS (by as_aux_lemma => kernel_rfl) (fun τ hτ => ?_)
            obtain rfl := Option.some.inj h
            exact lk_nextS hτ (here (by as_aux_lemma => kernel_rfl))
    · replace h := iteF hb h
      refine sem_exitS 0 (by as_aux_lemma => kernel_rfl) rfl (fun τ hτ => ?_)
      refine th_exit ?_
      obtain rfl := Option.some.inj h
      exact lk_outS hτ rfl (here (by as_aux_lemma => kernel_rfl))
  · intro x
    rcases x with _ | _ <;> rfl
  · intro τ hτ
    rcases x728 with j729 | j730
    · refine bl_ret ?_
      refine th_ret ?_
      obtain rfl := Option.some.inj h
      exact rk_ret hτ [(6, (vB false))] (here (by as_aux_lemma => kernel_rfl)) (by as_aux_lemma => kernel_rfl)
    · refine bl_hit (by as_aux_lemma => kernel_rfl) ?_
      refine th_normalS hτ ⟨[], []⟩ (here (by as_aux_lemma => kernel_rfl)) ?_
      refine sem_seq (by as_aux_lemma => kernel_rfl) ?_
      refine sem_region (by as_aux_lemma => kernel_rfl) ?_
      refine evs_run 1 (by as_aux_lemma => kernel_rfl) ?_
      refine evs_endS (by as_aux_lemma => kernel_rfl) (fun τ hτ => ?_)
      refine th_normalS hτ ⟨[(6, (vB true))], []⟩ (here (by as_aux_lemma => kernel_rfl)) ?_
      refine sem_retS (by as_aux_lemma => kernel_rfl) (fun τ hτ => ?_)
      obtain rfl := Option.some.inj h
      exact rk_ret hτ [(6, (vB true))] (here (by as_aux_lemma => kernel_rfl)) (by as_aux_lemma => kernel_rfl)
theorem W.sheetmetalref05_mounted_ok {stations : Int} {l : (List Change)} {step : Int} {r : (List Int)} (h : sheetmetalref05_mounted stations l step = some r) : PC G.P 71 [(vI stations), (.sl (List.map c_Change l)), (vI step)] [] (.row (.top 0) 3) [(0, .row 3 [] (List.map cI r))] := by
  refine pc_of G (fn := Try.f71) Try.func71 (by as_aux_lemma => kernel_rfl) (by as_aux_lemma => kernel_rfl) (by as_aux_lemma => kernel_rfl) (by as_aux_lemma => kernel_rfl) (by as_aux_lemma => kernel_rfl) ?_
  refine sem_set ⟨[(0, (vI stations)), (1, (.sl (List.map c_Change l))), (2, (vI step))], []⟩ (by as_aux_lemma => kernel_rfl) ?_
  refine sem_seq (by as_aux_lemma => kernel_rfl) ?_
  refine sem_region (by as_aux_lemma => kernel_rfl) ?_
  refine evs_run 1 (by as_aux_lemma => kernel_rfl) ?_
  refine evs_endS (by as_aux_lemma => kernel_rfl) (fun τ hτ => ?_)
  refine th_normalS hτ ⟨[(0, (vI stations)), (1, (.sl (List.map c_Change l))), (2, (vI step))], []⟩ (here (by as_aux_lemma => kernel_rfl)) ?_
  refine sem_seq (by as_aux_lemma => kernel_rfl) ?_
  refine sem_region (by as_aux_lemma => kernel_rfl) ?_
  refine evs_run 1 (by as_aux_lemma => kernel_rfl) ?_
  refine evs_endS (by as_aux_lemma => kernel_rfl) (fun τ hτ => ?_)
  refine th_normalS hτ ⟨[(0, (vI stations)), (1, (.sl (List.map c_Change l))), (2, (vI step)), (7, (.row (.top 7) 3))], [(7, .row 3 [] (List.map cI []))]⟩ (here (by as_aux_lemma => kernel_rfl)) ?_
  refine sem_seq (by as_aux_lemma => kernel_rfl) ?_
  refine sem_seq (by as_aux_lemma => kernel_rfl) ?_
  refine sem_region (by as_aux_lemma => kernel_rfl) ?_
  refine evs_run 1 (by as_aux_lemma => kernel_rfl) ?_
  refine evs_endS (by as_aux_lemma => kernel_rfl) (fun τ hτ => ?_)
  refine th_normalS hτ ⟨[(0, (vI stations)), (1, (.sl (List.map c_Change l))), (2, (vI step)), (7, (.row (.top 7) 3)), (8, (vI 0))], [(7, .row 3 [] (List.map cI []))]⟩ (here (by as_aux_lemma => kernel_rfl)) ?_
  refine sem_block (by as_aux_lemma => kernel_rfl) ?_
  obtain ⟨x1182, hx1182, h⟩ := bindS h
  refine sem_loopS (fun (s789 : Int × (List Int)) => ⟨[(0, (vI stations)), (1, (.sl (List.map c_Change l))), (2, (vI step)), (7, (.row (.top 500000) 3)), (8, (vI s789.1))], [(500000, .row 3 [] (List.map cI s789.2))]⟩) (fun (x1182 : (List Int)) => (.exit 0, ⟨[(7, (.row (.top 500000) 3))], [(500000, .row 3 [] (List.map cI x1182))]⟩)) (sheetmetalref05_mounted_l3 stations l step) (0, []) x1182 (by as_aux_lemma => kernel_rfl) (subR_prep [] [(7, 500000)] (by as_aux_lemma => kernel_rfl) rfl rfl (by as_aux_lemma => kernel_rfl)) hx1182 ?_ ?_ ?_
  · intro s789 r h
    refine sem_seq (by as_aux_lemma => kernel_rfl) ?_
    refine sem_seq (by as_aux_lemma => kernel_rfl) ?_
    refine sem_region (by as_aux_lemma => kernel_rfl) ?_
    refine evs_run 3 (by as_aux_lemma => kernel_rfl) ?_
    refine evs_endS (by as_aux_lemma => kernel_rfl) (fun τ hτ => ?_)
    refine th_normalS hτ ⟨[(0, (vI stations)), (1, (.sl (List.map c_Change l))), (2, (vI step)), (7, (.row (.top 500000) 3)), (8, (vI s789.1)), (13, (vB (decide (s789.1 < stations))))], [(500000, .row 3 [] (List.map cI s789.2))]⟩ (here (by as_aux_lemma => kernel_rfl)) ?_
    refine sem_cond (decide (s789.1 < stations)) (by as_aux_lemma => kernel_rfl) (by as_aux_lemma => kernel_rfl) (fun hb => ?_) (fun hb => ?_)
    · replace h := iteT hb h
      refine sem_skipS (by as_aux_lemma => kernel_rfl) (fun τ hτ => ?_)
      refine th_normalS hτ ⟨[(0, (vI stations)), (1, (.sl (List.map c_Change l))), (2, (vI step)), (7, (.row (.top 500000) 3)), (8, (vI s789.1))], [(500000, .row 3 [] (List.map cI s789.2))]⟩ (here (by as_aux_lemma => kernel_rfl)) ?_
      refine sem_seq (by as_aux_lemma => kernel_rfl) ?_
      refine sem_block (by as_aux_lemma => kernel_rfl) ?_
      refine sem_seq (by as_aux_lemma => kernel_rfl) ?_
      refine sem_region (by as_aux_lemma => kernel_rfl) ?_
      refine evs_run 1 (by as_aux_lemma => kernel_rfl) ?_
      refine evs_endS (by as_aux_lemma => kernel_rfl) (fun τ hτ => ?_)
      refine th_normalS hτ ⟨[(0, (vI stations)), (1, (.sl (List.map c_Change l))), (2, (vI step)), (7, (.row (.top 500000) 3)), (8, (vI s789.1)), (9, (vI (-1)))], [(500000, .row 3 [] (List.map cI s789.2))]⟩ (here (by as_aux_lemma => kernel_rfl)) ?_
      refine sem_seq (by as_aux_lemma => kernel_rfl) ?_
      refine sem_seq (by as_aux_lemma => kernel_rfl) ?_
      refine sem_region (by as_aux_lemma => kernel_rfl) ?_
      refine evs_run 1 (by as_aux_lemma => kernel_rfl) ?_
      refine evs_endS (by as_aux_lemma => kernel_rfl) (fun τ hτ => ?_)
      refine th_normalS hτ ⟨[(0, (vI stations)), (1, (.sl (List.map c_Change l))), (2, (vI step)), (7, (.row (.top 500000) 3)), (8, (vI s789.1)), (9, (vI (-1))), (10, (vI 0))], [(500000, .row 3 [] (List.map cI s789.2))]⟩ (here (by as_aux_lemma => kernel_rfl)) ?_
      refine sem_block (by as_aux_lemma => kernel_rfl) ?_
      obtain ⟨x1179, hx1179, h⟩ := bindS h
      refine sem_loopS (fun (s1148 : Int × Int) => ⟨[(0, (vI stations)), (1, (.sl (List.map c_Change l))), (2, (vI step)), (7, (.row (.top 500000) 3)), (8, (vI s789.1)), (9, (vI s1148.1)), (10, (vI s1148.2))], [(500000, .row 3 [] (List.map cI s789.2))]⟩) (fun (x1179 : Int) => (.exit 2, ⟨[(0, (vI stations)), (1, (.sl (List.map c_Change l))), (2, (vI step)), (7, (.row (.top 500000) 3)), (8, (vI s789.1)), (9, (vI x1179))], [(500000, .row 3 [] (List.map cI s789.2))]⟩)) (sheetmetalref05_mounted_l2 l step s789) ((-1), 0) x1179 (by as_aux_lemma => kernel_rfl) (here (by as_aux_lemma => kernel_rfl)) hx1179 ?_ ?_ ?_
      · intro s1148 r h
        refine sem_seq (by as_aux_lemma => kernel_rfl) ?_
        refine sem_seq (by as_aux_lemma => kernel_rfl) ?_
        refine sem_region (by as_aux_lemma => kernel_rfl) ?_
        refine evs_run 2 (by as_aux_lemma => kernel_rfl) ?_
        refine evs_op (st_len (c := c_Change) (l := l) (x := (.sl (List.map c_Change l))) (by as_aux_lemma => kernel_rfl) (by as_aux_lemma => kernel_rfl)) ?_
        refine evs_run 1 (by as_aux_lemma => kernel_rfl) ?_
        refine evs_endS (by as_aux_lemma => kernel_rfl) (fun τ hτ => ?_)
        refine th_normalS hτ ⟨[(0, (vI stations)), (1, (.sl (List.map c_Change l))), (2, (vI step)), (7, (.row (.top 500000) 3)), (8, (vI s789.1)), (9, (vI s1148.1)), (10, (vI s1148.2)), (19, (vB (decide (s1148.2 < (l.length : Int)))))], [(500000, .row 3 [] (List.map cI s789.2))]⟩ (here (by as_aux_lemma => kernel_rfl)) ?_
        refine sem_cond (decide (s1148.2 < (l.length : Int))) (by as_aux_lemma => kernel_rfl) (by as_aux_lemma => kernel_rfl) (fun hb => ?_) (fun hb => ?_)
        · replace h := iteT hb h
          refine sem_skipS (by as_aux_lemma => kernel_rfl) (fun τ hτ => ?_)
          refine th_normalS hτ ⟨[(0, (vI stations)), (1, (.sl (List.map c_Change l))), (2, (vI step)), (7, (.row (.top 500000) 3)), (8, (vI s789.1)), (9, (vI s1148.1)), (10, (vI s1148.2))], [(500000, .row 3 [] (List.map cI s789.2))]⟩ (here (by as_aux_lemma => kernel_rfl)) ?_
          refine sem_seqJ (fun (j1171 : Int) => ⟨[(0, (vI stations)), (1, (.sl (List.map c_Change l))), (2, (vI step)), (7, (.row (.top 500000) 3)), (8, (vI s789.1)), (9, (vI j1171)), (10, (vI s1148.2))], [(500000, .row 3 [] (List.map cI s789.2))]⟩) (sheetmetalref05_mounted_k1 s1148) r (by as_aux_lemma => kernel_rfl) (fun j1171 h => ?_) ?_
          · refine sem_region (by as_aux_lemma => kernel_rfl) ?_
            refine evs_run 3 (by as_aux_lemma => kernel_rfl) ?_
            refine evs_endS (by as_aux_lemma => kernel_rfl) (fun τ hτ => ?_)
            obtain rfl := Option.some.inj h
            exact lk_nextS hτ (here (by as_aux_lemma => kernel_rfl))
          refine sem_block (by as_aux_lemma => kernel_rfl) ?_
          refine sem_seq (by as_aux_lemma => kernel_rfl) ?_
          obtain ⟨j1174, hj1174, h⟩ := bindS h
          refine sem_regionC ⟨[(0, (vI stations)), (1, (.sl (List.map c_Change l))), (2, (vI step)), (7, (.row (.top 500000) 3)), (8, (vI s789.1)), (9, (vI s1148.1)), (10, (vI s1148.2)), (37, (vB j1174))], [(500000, .row 3 [] (List.map cI s789.2))]⟩ (by as_aux_lemma => kernel_rfl) ?_ (fun τ hτ => ?_)
          · replace h := hj1174
            refine evs_run 2 (by as_aux_lemma => kernel_rfl) ?_
            obtain ⟨x1175, hx1175, h⟩ := bindS h
            refine evs_op (st_idx (c := c_Change) (l := l) (i := s1148.2) (kd := .i64) (sz := 3) (by as_aux_lemma => kernel_rfl) hx1175 rfl) ?_
            refine evs_run 5 (by as_aux_lemma => kernel_rfl) ?_
            refine evs_split (decide (x1175.Step ≤ step)) (fun b0 => ⟨[(0, (vI stations)), (1, (.sl (List.map c_Change l))), (2, (vI step)), (7, (.row (.top 500000) 3)), (8, (vI s789.1)), (9, (vI s1148.1)), (10, (vI s1148.2)), (29, (vB b0))], [(500000, .row 3 [] (List.map cI s789.2))]⟩) (by as_aux_lemma => kernel_rfl) (fun hb => ?_) (fun hb => ?_)
            · replace h := iteT hb h
              refine evs_run 2 (by as_aux_lemma => kernel_rfl) ?_
              obtain ⟨x1176, hx1176, h⟩ := bindS h
              refine evs_op (st_idx (c := c_Change) (l := l) (i := s1148.2) (kd := .i64) (sz := 3) (by as_aux_lemma => kernel_rfl) hx1176 rfl) ?_
              refine evs_run 5 (by as_aux_lemma => kernel_rfl) ?_
              refine evs_endS (by as_aux_lemma => kernel_rfl) (fun τ hτ => ?_)
              obtain rfl := Option.some.inj h
              exact leafC hτ (here (by as_aux_lemma => kernel_rfl))
            · replace h := iteF hb h
              refine evs_run 8 (by as_aux_lemma => kernel_rfl) ?_
              refine evs_endS (by as_aux_lemma => kernel_rfl) (fun τ hτ => ?_)
              obtain rfl := Option.some.inj h
              exact leafC hτ (here (by as_aux_lemma => kernel_rfl))
          refine th_normalS hτ ⟨[(0, (vI stations)), (1, (.sl (List.map c_Change l))), (2, (vI step)), (7, (.row (.top 500000) 3)), (8, (vI s789.1)), (9, (vI s1148.1)), (10, (vI s1148.2)), (37, (vB j1174))], [(500000, .row 3 [] (List.map cI s789.2))]⟩ (here (by as_aux_lemma => kernel_rfl)) ?_
          refine sem_cond j1174 (by as_aux_lemma => kernel_rfl) (by as_aux_lemma => kernel_rfl) (fun hb => ?_) (fun hb => ?_)
          · replace h := iteT hb h
            refine sem_region (by as_aux_lemma => kernel_rfl) ?_
            refine evs_run 2 (by as_aux_lemma => kernel_rfl) ?_
            obtain ⟨x1178, hx1178, h⟩ := bindS h
            refine evs_op (st_idx (c := c_Change) (l := l) (i := s1148.2) (kd := .i64) (sz := 3) (by as_aux_lemma => kernel_rfl) hx1178 rfl) ?_
            refine evs_run 3 (by as_aux_lemma => kernel_rfl) ?_
            refine evs_endS (by as_aux_lemma => kernel_rfl) (fun τ hτ => ?_)
            refine bl_normal ?_
            exact jk_normal x1178.Pair h hτ (here (by as_aux_lemma => kernel_rfl))
          · replace h := iteF hb h
            refine sem_skipS (by as_aux_lemma => kernel_rfl) (fun τ hτ => ?_)
            refine bl_normal ?_
            exact jk_normal s1148.1 h hτ (here (by as_aux_lemma => kernel_rfl))
        · replace h := iteF hb h
          refine sem_exitS 2 (by as_aux_lemma => kernel_rfl) rfl (fun τ hτ => ?_)
          refine th_exit ?_
          obtain rfl := Option.some.inj h
          exact lk_outS hτ rfl (here (by as_aux_lemma => kernel_rfl))
      · intro x
        rfl
      · intro τ hτ
        refine bl_hit (by as_aux_lemma => kernel_rfl) ?_
        refine th_normalS hτ ⟨[(0, (vI stations)), (1, (.sl (List.map c_Change l))), (2, (vI step)), (7, (.row (.top 500000) 3)), (8, (vI s789.1)), (9, (vI x1179))], [(500000, .row 3 [] (List.map cI s789.2))]⟩ (here (by as_aux_lemma => kernel_rfl)) ?_
        refine sem_region (by as_aux_lemma => kernel_rfl) ?_
        refine evs_run 3 (by as_aux_lemma => kernel_rfl) ?_
        obtain ⟨l1181, hl1181, h⟩ := bindS h
        refine evs_op (st_app (c := cI) (l := s789.2) (l2 := [x1179]) (x := (.sl (List.map cI [x1179]))) (g := 500000) (e := 3) (sz := 1) (d := 46) (by as_aux_lemma => kernel_rfl) (by as_aux_lemma => kernel_rfl) (by as_aux_lemma => kernel_rfl) (by as_aux_lemma => kernel_rfl) (fun _ => rfl) rfl hl1181) ?_
        refine evs_run 1 (by as_aux_lemma => kernel_rfl) ?_
        refine evs_endS (by as_aux_lemma => kernel_rfl) (fun τ hτ => ?_)
        refine bl_normal ?_
        refine th_normalS hτ ⟨[(0, (vI stations)), (1, (.sl (List.map c_Change l))), (2, (vI step)), (7, (.row (.top 500000) 3)), (8, (vI s789.1))], [(500000, .row 3 [] (List.map cI l1181))]⟩ (here (by as_aux_lemma => kernel_rfl)) ?_
        refine sem_region (by as_aux_lemma => kernel_rfl) ?_
        refine evs_run 3 (by as_aux_lemma => kernel_rfl) ?_
        refine evs_endS (by as_aux_lemma => kernel_rfl) (fun τ hτ => ?_)
        obtain rfl := Option.some.inj h
        exact lk_nextS hτ (here (by as_aux_lemma => kernel_rfl))
    · replace h := iteF hb h
      refine sem_exitS 0 (by as_aux_lemma => kernel_rfl) rfl (fun τ hτ => ?_)
      refine th_exit ?_
      obtain rfl := Option.some.inj h
      exact lk_outS hτ rfl (here (by as_aux_lemma => kernel_rfl))
  · intro x
    rfl
  · intro τ hτ
    refine bl_hit (by as_aux_lemma => kernel_rfl) ?_
    refine th_normalS hτ ⟨[(7, (.row (.top 500000) 3))], [(500000, .row 3 [] (List.map cI x1182))]⟩ (here (by as_aux_lemma => kernel_rfl)) ?_
    refine sem_seq (by as_aux_lemma => kernel_rfl) ?_
    refine sem_region (by as_aux_lemma => kernel_rfl) ?_
    refine evs_run 2 (by as_aux_lemma => kernel_rfl) ?_
    refine evs_endS (by as_aux_lemma => kernel_rfl) (fun τ hτ => ?_)
    refine th_normalS hτ ⟨[(6, (.row (.top 500000) 3))], [(500000, .row 3 [] (List.map cI x1182))]⟩ (here (by as_aux_lemma => kernel_rfl)) ?_
    refine sem_retS (by as_aux_lemma => kernel_rfl) (fun τ hτ => ?_)
    obtain rfl := Option.some.inj h
    exact rk_ret hτ [(6, (.row (.top 0) 3))] (subR_prep [] [(500000, 0)] (by as_aux_lemma => kernel_rfl) rfl rfl (by as_aux_lemma => kernel_rfl)) (by as_aux_lemma => kernel_rfl)
theorem W.sheetmetalref05_Mounted_ok {needs : (List (List Int))} {stations : Int} {l : (List Change)} {step : Int} {r : (List Int) × Int} (h : sheetmetalref05_Mounted needs stations l step = some r) : PC G.P 36 [(.sl (List.map (cS cI) needs)), (vI stations), (.sl (List.map c_Change l)), (vI step)] [] (.tup [(.row (.top 0) 3), (vI r.2)]) [(0, .row 3 [] (List.map cI r.1))] := by
  refine pc_of G (fn := Try.f36) Try.func36 (by as_aux_lemma => kernel_rfl) (by as_aux_lemma => kernel_rfl) (by as_aux_lemma => kernel_rfl) (by as_aux_lemma => kernel_rfl) (by as_aux_lemma => kernel_rfl) ?_
  refine sem_set ⟨[(0, (.sl (List.map (cS cI) needs))), (1, (vI stations)), (2, (.sl (List.map c_Change l))), (3, (vI step))], []⟩ (by as_aux_lemma => kernel_rfl) ?_
  refine sem_seq (by as_aux_lemma => kernel_rfl) ?_
  refine sem_region (by as_aux_lemma => kernel_rfl) ?_
  refine evs_run 2 (by as_aux_lemma => kernel_rfl) ?_
  refine evs_endS (by as_aux_lemma => kernel_rfl) (fun τ hτ => ?_)
  refine th_normalS hτ ⟨[(0, (.sl (List.map (cS cI) needs))), (1, (vI stations)), (2, (.sl (List.map c_Change l))), (3, (vI step))], []⟩ (here (by as_aux_lemma => kernel_rfl)) ?_
  refine sem_seq (by as_aux_lemma => kernel_rfl) ?_
  refine sem_seq (by as_aux_lemma => kernel_rfl) ?_
  refine sem_region (by as_aux_lemma => kernel_rfl) ?_
  refine evs_run 2 (by as_aux_lemma => kernel_rfl) ?_
  obtain ⟨r4, hr4, h⟩ := bindS h
  refine evs_callS [] [] [] (by as_aux_lemma => kernel_rfl) (W.sheetmetalref05_Check0_ok hr4) (by as_aux_lemma => kernel_rfl) (by as_aux_lemma => kernel_rfl) (.inl rfl) ?_
  refine evs_run 1 (by as_aux_lemma => kernel_rfl) ?_
  refine evs_endS (by as_aux_lemma => kernel_rfl) (fun τ hτ => ?_)
  refine th_normalS hτ ⟨[(0, (.sl (List.map (cS cI) needs))), (1, (vI stations)), (2, (.sl (List.map c_Change l))), (3, (vI step)), (10, (vI r4))], []⟩ (here (by as_aux_lemma => kernel_rfl)) ?_
  refine sem_seq (by as_aux_lemma => kernel_rfl) ?_
  refine sem_region (by as_aux_lemma => kernel_rfl) ?_
  refine evs_run 2 (by as_aux_lemma => kernel_rfl) ?_
  refine evs_endS (by as_aux_lemma => kernel_rfl) (fun τ hτ => ?_)
  refine th_normalS hτ ⟨[(0, (.sl (List.map (cS cI) needs))), (1, (vI stations)), (2, (.sl (List.map c_Change l))), (3, (vI step)), (10, (vI r4)), (15, (vB (r4 != 0)))], []⟩ (here (by as_aux_lemma => kernel_rfl)) ?_
  refine sem_cond (r4 != 0) (by as_aux_lemma => kernel_rfl) (by as_aux_lemma => kernel_rfl) (fun hb => ?_) (fun hb => ?_)
  · replace h := iteT hb h
    refine sem_seq (by as_aux_lemma => kernel_rfl) ?_
    refine sem_region (by as_aux_lemma => kernel_rfl) ?_
    refine evs_run 3 (by as_aux_lemma => kernel_rfl) ?_
    refine evs_endS (by as_aux_lemma => kernel_rfl) (fun τ hτ => ?_)
    refine th_normalS hτ ⟨[(8, (.row (.top 8) 3)), (9, (vI r4))], [(8, .row 3 [] (List.map cI []))]⟩ (here (by as_aux_lemma => kernel_rfl)) ?_
    refine sem_retS (by as_aux_lemma => kernel_rfl) (fun τ hτ => ?_)
    refine th_ret ?_
    obtain rfl := Option.some.inj h
    exact rk_ret hτ [(8, (.row (.top 0) 3)), (9, (vI r4))] (subR_prep [] [(8, 0)] (by as_aux_lemma => kernel_rfl) rfl rfl (by as_aux_lemma => kernel_rfl)) (by as_aux_lemma => kernel_rfl)
  · replace h := iteF hb h
    refine sem_skipS (by as_aux_lemma => kernel_rfl) (fun τ hτ => ?_)
    refine th_normalS hτ ⟨[(0, (.sl (List.map (cS cI) needs))), (1, (vI stations)), (2, (.sl (List.map c_Change l))), (3, (vI step))], []⟩ (here (by as_aux_lemma => kernel_rfl)) ?_
    refine sem_seq (by as_aux_lemma => kernel_rfl) ?_
    refine sem_seq (by as_aux_lemma => kernel_rfl) ?_
    refine sem_region (by as_aux_lemma => kernel_rfl) ?_
    refine evs_run 3 (by as_aux_lemma => kernel_rfl) ?_
    obtain ⟨r8, hr8, h⟩ := bindS h
    refine evs_callS [] [] [] (by as_aux_lemma => kernel_rfl) (W.sheetmetalref05_ordered_ok hr8) (by as_aux_lemma => kernel_rfl) (by as_aux_lemma => kernel_rfl) (.inl rfl) ?_
    refine evs_run 1 (by as_aux_lemma => kernel_rfl) ?_
    refine evs_endS (by as_aux_lemma => kernel_rfl) (fun τ hτ => ?_)
    refine th_normalS hτ ⟨[(0, (.sl (List.map (cS cI) needs))), (1, (vI stations)), (2, (.sl (List.map c_Change l))), (3, (vI step)), (21, (vB (!r8)))], []⟩ (here (by as_aux_lemma => kernel_rfl)) ?_
    refine sem_cond (!r8) (by as_aux_lemma => kernel_rfl) (by as_aux_lemma => kernel_rfl) (fun hb => ?_) (fun hb => ?_)
    · replace h := iteT hb h
      refine sem_seq (by as_aux_lemma => kernel_rfl) ?_
      refine sem_region (by as_aux_lemma => kernel_rfl) ?_
      refine evs_run 2 (by as_aux_lemma => kernel_rfl) ?_
      refine evs_endS (by as_aux_lemma => kernel_rfl) (fun τ hτ => ?_)
      refine th_normalS hτ ⟨[(8, (.row (.top 8) 3)), (9, (vI 12))], [(8, .row 3 [] (List.map cI []))]⟩ (here (by as_aux_lemma => kernel_rfl)) ?_
      refine sem_retS (by as_aux_lemma => kernel_rfl) (fun τ hτ => ?_)
      refine th_ret ?_
      obtain rfl := Option.some.inj h
      exact rk_ret hτ [(8, (.row (.top 0) 3)), (9, (vI 12))] (subR_prep [] [(8, 0)] (by as_aux_lemma => kernel_rfl) rfl rfl (by as_aux_lemma => kernel_rfl)) (by as_aux_lemma => kernel_rfl)
    · replace h := iteF hb h
      refine sem_skipS (by as_aux_lemma => kernel_rfl) (fun τ hτ => ?_)
      refine th_normalS hτ ⟨[(0, (.sl (List.map (cS cI) needs))), (1, (vI stations)), (2, (.sl (List.map c_Change l))), (3, (vI step))], []⟩ (here (by as_aux_lemma => kernel_rfl)) ?_
      refine sem_seq (by as_aux_lemma => kernel_rfl) ?_
      refine sem_seq (by as_aux_lemma => kernel_rfl) ?_
      refine sem_region (by as_aux_lemma => kernel_rfl) ?_
      refine evs_run 2 (by as_aux_lemma => kernel_rfl) ?_
      refine evs_op (st_len (c := (cS cI)) (l := needs) (x := (.sl (List.map (cS cI) needs))) (by as_aux_lemma => kernel_rfl) (by as_aux_lemma => kernel_rfl)) ?_
      refine evs_run 1 (by as_aux_lemma => kernel_rfl) ?_
      obtain ⟨r12, hr12, h⟩ := bindS h
      refine evs_callS [] [] [] (by as_aux_lemma => kernel_rfl) (W.sheetmetalref05_within_ok hr12) (by as_aux_lemma => kernel_rfl) (by as_aux_lemma => kernel_rfl) (.inl rfl) ?_
      refine evs_run 1 (by as_aux_lemma => kernel_rfl) ?_
      refine evs_endS (by as_aux_lemma => kernel_rfl) (fun τ hτ => ?_)
      refine th_normalS hτ ⟨[(1, (vI stations)), (2, (.sl (List.map c_Change l))), (3, (vI step)), (27, (vB (!r12)))], []⟩ (here (by as_aux_lemma => kernel_rfl)) ?_
      refine sem_cond (!r12) (by as_aux_lemma => kernel_rfl) (by as_aux_lemma => kernel_rfl) (fun hb => ?_) (fun hb => ?_)
      · replace h := iteT hb h
        refine sem_seq (by as_aux_lemma => kernel_rfl) ?_
        refine sem_region (by as_aux_lemma => kernel_rfl) ?_
        refine evs_run 2 (by as_aux_lemma => kernel_rfl) ?_
        refine evs_endS (by as_aux_lemma => kernel_rfl) (fun τ hτ => ?_)
        refine th_normalS hτ ⟨[(8, (.row (.top 8) 3)), (9, (vI 1))], [(8, .row 3 [] (List.map cI []))]⟩ (here (by as_aux_lemma => kernel_rfl)) ?_
        refine sem_retS (by as_aux_lemma => kernel_rfl) (fun τ hτ => ?_)
        refine th_ret ?_
        obtain rfl := Option.some.inj h
        exact rk_ret hτ [(8, (.row (.top 0) 3)), (9, (vI 1))] (subR_prep [] [(8, 0)] (by as_aux_lemma => kernel_rfl) rfl rfl (by as_aux_lemma => kernel_rfl)) (by as_aux_lemma => kernel_rfl)
      · replace h := iteF hb h
        refine sem_skipS (by as_aux_lemma => kernel_rfl) (fun τ hτ => ?_)
        refine th_normalS hτ ⟨[(1, (vI stations)), (2, (.sl (List.map c_Change l))), (3, (vI step))], []⟩ (here (by as_aux_lemma => kernel_rfl)) ?_
        refine sem_seq (by as_aux_lemma => kernel_rfl) ?_
        refine sem_region (by as_aux_lemma => kernel_rfl) ?_
        refine evs_run 3 (by as_aux_lemma => kernel_rfl) ?_
        obtain ⟨r14, hr14, h⟩ := bindS h
        refine evs_callS [] [(0, 700150)] [] (by as_aux_lemma => kernel_rfl) (W.sheetmetalref05_mounted_ok hr14) (by as_aux_lemma => kernel_rfl) (by as_aux_lemma => kernel_rfl) (.inl rfl) ?_
        refine evs_run 2 (by as_aux_lemma => kernel_rfl) ?_
        refine evs_endS (by as_aux_lemma => kernel_rfl) (fun τ hτ => ?_)
        refine th_normalS hτ ⟨[(8, (.row (.top 700150) 3)), (9, (vI 0))], [(700150, .row 3 [] (List.map cI r14))]⟩ (here (by as_aux_lemma => kernel_rfl)) ?_
        refine sem_retS (by as_aux_lemma => kernel_rfl) (fun τ hτ => ?_)
        obtain rfl := Option.some.inj h
        exact rk_ret hτ [(8, (.row (.top 0) 3)), (9, (vI 0))] (subR_prep [] [(700150, 0)] (by as_aux_lemma => kernel_rfl) rfl rfl (by as_aux_lemma => kernel_rfl)) (by as_aux_lemma => kernel_rfl)
theorem W.sheetmetalref01_SameInts_ok {a : (List Int)} {b : (List Int)} {r : Bool} (h : sheetmetalref01_SameInts a b = some r) : PC G.P 34 [(.sl (List.map cI a)), (.sl (List.map cI b))] [] (vB r) [] := by
  refine pc_of G (fn := Try.f34) Try.func34 (by as_aux_lemma => kernel_rfl) (by as_aux_lemma => kernel_rfl) (by as_aux_lemma => kernel_rfl) (by as_aux_lemma => kernel_rfl) (by as_aux_lemma => kernel_rfl) ?_
  refine sem_set ⟨[(0, (.sl (List.map cI a))), (1, (.sl (List.map cI b)))], []⟩ (by as_aux_lemma => kernel_rfl) ?_
  refine sem_seq (by as_aux_lemma => kernel_rfl) ?_
  refine sem_region (by as_aux_lemma => kernel_rfl) ?_
  refine evs_run 1 (by as_aux_lemma => kernel_rfl) ?_
  refine evs_endS (by as_aux_lemma => kernel_rfl) (fun τ hτ => ?_)
  refine th_normalS hτ ⟨[(0, (.sl (List.map cI a))), (1, (.sl (List.map cI b)))], []⟩ (here (by as_aux_lemma => kernel_rfl)) ?_
  refine sem_seq (by as_aux_lemma => kernel_rfl) ?_
  refine sem_seq (by as_aux_lemma => kernel_rfl) ?_
  refine sem_region (by as_aux_lemma => kernel_rfl) ?_
  refine evs_run 1 (by as_aux_lemma => kernel_rfl) ?_
  refine evs_op (st_len (c := cI) (l := a) (x := (.sl (List.map cI a))) (by as_aux_lemma => kernel_rfl) (by as_aux_lemma => kernel_rfl)) ?_
  refine evs_run 1 (by as_aux_lemma => kernel_rfl) ?_
  refine evs_op (st_len (c := cI) (l := b) (x := (.sl (List.map cI b))) (by as_aux_lemma => kernel_rfl) (by as_aux_lemma => kernel_rfl)) ?_
  refine evs_run 1 (by as_aux_lemma => kernel_rfl) ?_
  refine evs_endS (by as_aux_lemma => kernel_rfl) (fun τ hτ => ?_)
  refine th_normalS hτ ⟨[(0, (.sl (List.map cI a))), (1, (.sl (List.map cI b))), (10, (vB ((a.length : Int) != (b.length : Int))))], []⟩ (here (by as_aux_lemma => kernel_rfl)) ?_
  refine sem_cond ((a.length : Int) != (b.length : Int)) (by as_aux_lemma => kernel_rfl) (by as_aux_lemma => kernel_rfl) (fun hb => ?_) (fun hb => ?_)
  · replace h := iteT hb h
    refine sem_seq (by as_aux_lemma => kernel_rfl) ?_
    refine sem_region (by as_aux_lemma => kernel_rfl) ?_
    refine evs_run 1 (by as_aux_lemma => kernel_rfl) ?_
    refine evs_endS (by as_aux_lemma => kernel_rfl) (fun τ hτ => ?_)
    refine th_normalS hτ ⟨[(4, (vB false))], []⟩ (here (by as_aux_lemma => kernel_rfl)) ?_
    refine sem_retS (by as_aux_lemma => kernel_rfl) (fun τ hτ => ?_)
    refine th_ret ?_
    obtain rfl := Option.some.inj h
    exact rk_ret hτ [(4, (vB false))] (here (by as_aux_lemma => kernel_rfl)) (by as_aux_lemma => kernel_rfl)
  · replace h := iteF hb h
    refine sem_skipS (by as_aux_lemma => kernel_rfl) (fun τ hτ => ?_)
    refine th_normalS hτ ⟨[(0, (.sl (List.map cI a))), (1, (.sl (List.map cI b)))], []⟩ (here (by as_aux_lemma => kernel_rfl)) ?_
    refine sem_seq (by as_aux_lemma => kernel_rfl) ?_
    refine sem_seq (by as_aux_lemma => kernel_rfl) ?_
    refine sem_region (by as_aux_lemma => kernel_rfl) ?_
    refine evs_run 1 (by as_aux_lemma => kernel_rfl) ?_
    refine evs_endS (by as_aux_lemma => kernel_rfl) (fun τ hτ => ?_)
    refine th_normalS hτ ⟨[(0, (.sl (List.map cI a))), (1, (.sl (List.map cI b))), (5, (vI 0))], []⟩ (here (by as_aux_lemma => kernel_rfl)) ?_
    refine sem_block (by as_aux_lemma => kernel_rfl) ?_
    obtain ⟨x80, hx80, h⟩ := bindS h
    refine sem_loopS (fun (s55 : Int) => ⟨[(0, (.sl (List.map cI a))), (1, (.sl (List.map cI b))), (5, (vI s55))], []⟩) (fun (x80 : Unit ⊕ Unit) => match x80 with | .inl j81 => (.ret, ⟨[(4, (vB false))], []⟩) | .inr j82 => (.exit 0, ⟨[], []⟩)) (sheetmetalref01_SameInts_l1 a b) 0 x80 (by as_aux_lemma => kernel_rfl) (here (by as_aux_lemma => kernel_rfl)) hx80 ?_ ?_ ?_
    · intro s55 r h
      refine sem_seq (by as_aux_lemma => kernel_rfl) ?_
      refine sem_seq (by as_aux_lemma => kernel_rfl) ?_
      refine sem_region (by as_aux_lemma => kernel_rfl) ?_
      refine evs_run 2 (by as_aux_lemma => kernel_rfl) ?_
      refine evs_op (st_len (c := cI) (l := a) (x := (.sl (List.map cI a))) (by as_aux_lemma => kernel_rfl) (by as_aux_lemma => kernel_rfl)) ?_
      refine evs_run 1 (by as_aux_lemma => kernel_rfl) ?_
      refine evs_endS (by as_aux_lemma => kernel_rfl) (fun τ hτ => ?_)
      refine th_normalS hτ ⟨[(0, (.sl (List.map cI a))), (1, (.sl (List.map cI b))), (5, (vI s55)), (14, (vB (decide (s55 < (a.length : Int)))))], []⟩ (here (by as_aux_lemma => kernel_rfl)) ?_
      refine sem_cond (decide (s55 < (a.length : Int))) (by as_aux_lemma => kernel_rfl) (by as_aux_lemma => kernel_rfl) (fun hb => ?_) (fun hb => ?_)
      · replace h := iteT hb h
        refine sem_skipS (by as_aux_lemma => kernel_rfl) (fun τ hτ => ?_)
        refine th_normalS hτ ⟨[(0, (.sl (List.map cI a))), (1, (.sl (List.map cI b))), (5, (vI s55))], []⟩ (here (by as_aux_lemma => kernel_rfl)) ?_
        refine sem_seq (by as_aux_lemma => kernel_rfl) ?_
        refine sem_block (by as_aux_lemma => kernel_rfl) ?_
        refine sem_seq (by as_aux_lemma => kernel_rfl) ?_
        refine sem_draw [] [] [] [] [] 8 (by as_aux_lemma => kernel_rfl) (by as_aux_lemma => kernel_rfl) [] (by as_aux_lemma => kernel_rfl) (by as_aux_lemma => kernel_rfl) ?_
        refine evd_run 2 (by as_aux_lemma => kernel_rfl) ?_
        obtain ⟨x78, hx78, h⟩ := bindS h
        refine evd_val (by as_aux_lemma => kernel_rfl) (st_idx (c := cI) (l := a) (i := s55) (kd := .i64) (sz := 1) (by as_aux_lemma => kernel_rfl) hx78 rfl) (by as_aux_lemma => kernel_rfl) (by as_aux_lemma => kernel_rfl) ?_
        refine evd_run 3 (by as_aux_lemma => kernel_rfl) ?_
        obtain ⟨x79, hx79, h⟩ := bindS h
        refine evd_val (by as_aux_lemma => kernel_rfl) (st_idx (c := cI) (l := b) (i := s55) (kd := .i64) (sz := 1) (by as_aux_lemma => kernel_rfl) hx79 rfl) (by as_aux_lemma => kernel_rfl) (by as_aux_lemma => kernel_rfl) ?_
        refine evd_run 1 (by as_aux_lemma => kernel_rfl) ?_
        refine evd_end (by as_aux_lemma => kernel_rfl) ?_
        refine evo_run 1 (by as_aux_lemma => kernel_rfl) ?_
        refine evo_endS (by as_aux_lemma => kernel_rfl) (fun τ hτ => ?_)
        refine th_normalS hτ ⟨[(0, (.sl (List.map cI a))), (1, (.sl (List.map cI b))), (5, (vI s55)), (25, (vB (x78 != x79)))], []⟩ (here (by as_aux_lemma => kernel_rfl)) ?_
        refine sem_cond (x78 != x79) (by as_aux_lemma => kernel_rfl) (by as_aux_lemma => kernel_rfl) (fun hb => ?_) (fun hb => ?_)
        · replace h := iteT hb h
          refine sem_seq (by as_aux_lemma => kernel_rfl) ?_
          refine sem_region (by as_aux_lemma => kernel_rfl) ?_
          refine evs_run 1 (by as_aux_lemma => kernel_rfl) ?_
          refine evs_endS (by as_aux_lemma => kernel_rfl) (fun τ hτ => ?_)
          refine th_normalS hτ ⟨[(4, (vB false))], []⟩ (here (by as_aux_lemma => kernel_rfl)) ?_
          refine sem_retS (by as_aux_lemma => kernel_rfl) (fun τ hτ => ?_)
          refine bl_ret ?_
          refine th_ret ?_
          obtain rfl := Option.some.inj h
          exact lk_outS hτ rfl (here (by as_aux_lemma => kernel_rfl))
        · replace h := iteF hb h
          refine sem_skipS (by as_aux_lemma => kernel_rfl) (fun τ hτ => ?_)
          refine bl_normal ?_
          refine th_normalS hτ ⟨[(0, (.sl (List.map cI a))), (1, (.sl (List.map cI b))), (5, (vI s55))], []⟩ (here (by as_aux_lemma => kernel_rfl)) ?_
          refine sem_region (by as_aux_lemma => kernel_rfl) ?_
          refine evs_run 3 (by as_aux_lemma => kernel_rfl) ?_
          refine evs_endS (by as_aux_lemma => kernel_rfl) (fun τ hτ => ?_)
          obtain rfl := Option.some.inj h
          exact lk_nextS hτ (here (by as_aux_lemma => kernel_rfl))
      · replace h := iteF hb h
        refine sem_exitS 0 (by as_aux_lemma => kernel_rfl) rfl (fun τ hτ => ?_)
        refine th_exit ?_
        obtain rfl := Option.some.inj h
        exact lk_outS hτ rfl (here (by as_aux_lemma => kernel_rfl))
    · intro x
      rcases x with _ | _ <;> rfl
    · intro τ hτ
      rcases x80 with j81 | j82
      · refine bl_ret ?_
        refine th_ret ?_
        obtain rfl := Option.some.inj h
        exact rk_ret hτ [(4, (vB false))] (here (by as_aux_lemma => kernel_rfl)) (by as_aux_lemma => kernel_rfl)
      · refine bl_hit (by as_aux_lemma => kernel_rfl) ?_
        refine th_normalS hτ ⟨[], []⟩ (here (by as_aux_lemma => kernel_rfl)) ?_
        refine sem_seq (by as_aux_lemma => kernel_rfl) ?_
        refine sem_region (by as_aux_lemma => kernel_rfl) ?_
        refine evs_run 1 (by as_aux_lemma => kernel_rfl) ?_
        refine evs_endS (by as_aux_lemma => kernel_rfl) (fun τ hτ => ?_)
        refine th_normalS hτ ⟨[(4, (vB true))], []⟩ (here (by as_aux_lemma => kernel_rfl)) ?_
        refine sem_retS (by as_aux_lemma => kernel_rfl) (fun τ hτ => ?_)
        obtain rfl := Option.some.inj h
        exact rk_ret hτ [(4, (vB true))] (here (by as_aux_lemma => kernel_rfl)) (by as_aux_lemma => kernel_rfl)
theorem W.sheetmetallaw05_SetupMounts_ok {x0 : sheetmetallaw05_Rig} {l : (List Change)} {step : Int} {r : Bool} (h : sheetmetallaw05_SetupMounts x0 l step = some r) : PC G.P 9 [(.agg [(.sl (List.map (cS cI) x0.Needs)), (vI x0.Stations)]), (.sl (List.map c_Change l)), (vI step)] [] (vB r) [] := by
  refine pc_of G (fn := Try.f9) Try.func9 (by as_aux_lemma => kernel_rfl) (by as_aux_lemma => kernel_rfl) (by as_aux_lemma => kernel_rfl) (by as_aux_lemma => kernel_rfl) (by as_aux_lemma => kernel_rfl) ?_
  refine sem_set ⟨[(0, (.agg [(.sl (List.map (cS cI) x0.Needs)), (vI x0.Stations)])), (1, (.sl (List.map c_Change l))), (2, (vI step))], []⟩ (by as_aux_lemma => kernel_rfl) ?_
  refine sem_seq (by as_aux_lemma => kernel_rfl) ?_
  refine sem_region (by as_aux_lemma => kernel_rfl) ?_
  refine evs_run 2 (by as_aux_lemma => kernel_rfl) ?_
  refine evs_endS (by as_aux_lemma => kernel_rfl) (fun τ hτ => ?_)
  refine th_normalS hτ ⟨[(1, (.sl (List.map c_Change l))), (2, (vI step)), (3, (.ptr 3 0))], [(3, .box [(.sl (List.map (cS cI) x0.Needs)), (vI x0.Stations)])]⟩ (here (by as_aux_lemma => kernel_rfl)) ?_
  refine sem_seq (by as_aux_lemma => kernel_rfl) ?_
  refine sem_draw [] [] [] [] [] 5 (by as_aux_lemma => kernel_rfl) (by as_aux_lemma => kernel_rfl) [] (by as_aux_lemma => kernel_rfl) (by as_aux_lemma => kernel_rfl) ?_
  refine evd_run 5 (by as_aux_lemma => kernel_rfl) ?_
  refine evd_end (by as_aux_lemma => kernel_rfl) ?_
  refine evo_run 1 (by as_aux_lemma => kernel_rfl) ?_
  refine evo_endS (by as_aux_lemma => kernel_rfl) (fun τ hτ => ?_)
  refine th_normalS hτ ⟨[(1, (.sl (List.map c_Change l))), (2, (vI step)), (7, (.sl (List.map (cS cI) x0.Needs))), (8, (vI x0.Stations))], []⟩ (here (by as_aux_lemma => kernel_rfl)) ?_
  refine sem_seq (by as_aux_lemma => kernel_rfl) ?_
  refine sem_seq (by as_aux_lemma => kernel_rfl) ?_
  obtain ⟨j7, hj7, h⟩ := bindS h
  refine sem_regionC ⟨[(1, (.sl (List.map c_Change l))), (2, (vI step)), (7, (.sl (List.map (cS cI) x0.Needs))), (8, (vI x0.Stations)), (23, (vB j7))], []⟩ (by as_aux_lemma => kernel_rfl) ?_ (fun τ hτ => ?_)
  · replace h := hj7
    refine evs_run 1 (by as_aux_lemma => kernel_rfl) ?_
    obtain ⟨r8, hr8, h⟩ := bindS h
    refine evs_callS [] [] [] (by as_aux_lemma => kernel_rfl) (W.sheetmetallaw05_Long_ok hr8) (by as_aux_lemma => kernel_rfl) (by as_aux_lemma => kernel_rfl) (.inl rfl) ?_
    refine evs_run 1 (by as_aux_lemma => kernel_rfl) ?_
    refine evs_split r8 (fun b0 => ⟨[(1, (.sl (List.map c_Change l))), (2, (vI step)), (7, (.sl (List.map (cS cI) x0.Needs))), (8, (vI x0.Stations)), (19, (vB b0))], []⟩) (by as_aux_lemma => kernel_rfl) (fun hb => ?_) (fun hb => ?_)
    · replace h := iteT hb h
      refine evs_run 4 (by as_aux_lemma => kernel_rfl) ?_
      refine evs_endS (by as_aux_lemma => kernel_rfl) (fun τ hτ => ?_)
      obtain rfl := Option.some.inj h
      exact leafC hτ (here (by as_aux_lemma => kernel_rfl))
    · replace h := iteF hb h
      refine evs_run 1 (by as_aux_lemma => kernel_rfl) ?_
      refine evs_op (st_len (c := c_Change) (l := l) (x := (.sl (List.map c_Change l))) (by as_aux_lemma => kernel_rfl) (by as_aux_lemma => kernel_rfl)) ?_
      refine evs_run 2 (by as_aux_lemma => kernel_rfl) ?_
      refine evs_endS (by as_aux_lemma => kernel_rfl) (fun τ hτ => ?_)
      obtain rfl := Option.some.inj h
      exact leafC hτ (here (by as_aux_lemma => kernel_rfl))
  refine th_normalS hτ ⟨[(1, (.sl (List.map c_Change l))), (2, (vI step)), (7, (.sl (List.map (cS cI) x0.Needs))), (8, (vI x0.Stations)), (23, (vB j7))], []⟩ (here (by as_aux_lemma => kernel_rfl)) ?_
  refine sem_cond j7 (by as_aux_lemma => kernel_rfl) (by as_aux_lemma => kernel_rfl) (fun hb => ?_) (fun hb => ?_)
  · replace h := iteT hb h
    refine sem_seq (by as_aux_lemma => kernel_rfl) ?_
    refine sem_region (by as_aux_lemma => kernel_rfl) ?_
    obtain ⟨r10, hr10, h⟩ := bindS h
    refine evs_callS [] [] [] (by as_aux_lemma => kernel_rfl) (W.sheetmetallaw05_known_ok hr10) (by as_aux_lemma => kernel_rfl) (by as_aux_lemma => kernel_rfl) (.inl rfl) ?_
    refine evs_run 1 (by as_aux_lemma => kernel_rfl) ?_
    refine evs_endS (by as_aux_lemma => kernel_rfl) (fun τ hτ => ?_)
    refine th_normalS hτ ⟨[(6, (vB r10))], []⟩ (here (by as_aux_lemma => kernel_rfl)) ?_
    refine sem_retS (by as_aux_lemma => kernel_rfl) (fun τ hτ => ?_)
    refine th_ret ?_
    obtain rfl := Option.some.inj h
    exact rk_ret hτ [(6, (vB r10))] (here (by as_aux_lemma => kernel_rfl)) (by as_aux_lemma => kernel_rfl)
  · replace h := iteF hb h
    refine sem_skipS (by as_aux_lemma => kernel_rfl) (fun τ hτ => ?_)
    refine th_normalS hτ ⟨[(1, (.sl (List.map c_Change l))), (2, (vI step)), (7, (.sl (List.map (cS cI) x0.Needs))), (8, (vI x0.Stations))], []⟩ (here (by as_aux_lemma => kernel_rfl)) ?_
    refine sem_seq (by as_aux_lemma => kernel_rfl) ?_
    refine sem_region (by as_aux_lemma => kernel_rfl) ?_
    refine evs_run 4 (by as_aux_lemma => kernel_rfl) ?_
    obtain ⟨r12, hr12, h⟩ := bindS h
    refine evs_callS [] [(0, 700200)] [] (by as_aux_lemma => kernel_rfl) (W.setup_Mounted_ok hr12) (by as_aux_lemma => kernel_rfl) (by as_aux_lemma => kernel_rfl) (.inl rfl) ?_
    refine evs_run 5 (by as_aux_lemma => kernel_rfl) ?_
    refine evs_endS (by as_aux_lemma => kernel_rfl) (fun τ hτ => ?_)
    refine th_normalS hτ ⟨[(1, (.sl (List.map c_Change l))), (2, (vI step)), (7, (.sl (List.map (cS cI) x0.Needs))), (8, (vI x0.Stations)), (9, (.row (.top 700200) 3)), (10, (vI r12.2))], [(700200, .row 3 [] (List.map cI r12.1))]⟩ (here (by as_aux_lemma => kernel_rfl)) ?_
    refine sem_seq (by as_aux_lemma => kernel_rfl) ?_
    refine sem_region (by as_aux_lemma => kernel_rfl) ?_
    refine evs_run 4 (by as_aux_lemma => kernel_rfl) ?_
    obtain ⟨r14, hr14, h⟩ := bindS h
    refine evs_callS [] [(0, 700201)] [] (by as_aux_lemma => kernel_rfl) (W.sheetmetalref05_Mounted_ok hr14) (by as_aux_lemma => kernel_rfl) (by as_aux_lemma => kernel_rfl) (.inl rfl) ?_
    refine evs_run 5 (by as_aux_lemma => kernel_rfl) ?_
    refine evs_endS (by as_aux_lemma => kernel_rfl) (fun τ hτ => ?_)
    refine th_normalS hτ ⟨[(7, (.sl (List.map (cS cI) x0.Needs))), (9, (.row (.top 700200) 3)), (10, (vI r12.2)), (11, (.row (.top 700201) 3)), (12, (vI r14.2))], [(700200, .row 3 [] (List.map cI r12.1)), (700201, .row 3 [] (List.map cI r14.1))]⟩ (here (by as_aux_lemma => kernel_rfl)) ?_
    refine sem_seq (by as_aux_lemma => kernel_rfl) ?_
    obtain ⟨j19, hj19, h⟩ := bindS h
    refine sem_regionC ⟨[(6, (vB j19))], []⟩ (by as_aux_lemma => kernel_rfl) ?_ (fun τ hτ => ?_)
    · replace h := hj19
      refine evs_run 1 (by as_aux_lemma => kernel_rfl) ?_
      obtain ⟨r20, hr20, h⟩ := bindS h
      refine evs_callS [] [] [] (by as_aux_lemma => kernel_rfl) (W.setup_Validate_ok hr20) (by as_aux_lemma => kernel_rfl) (by as_aux_lemma => kernel_rfl) (.inl rfl) ?_
      refine evs_run 1 (by as_aux_lemma => kernel_rfl) ?_
      obtain ⟨r21, hr21, h⟩ := bindS h
      refine evs_callS [] [] [] (by as_aux_lemma => kernel_rfl) (W.sheetmetalref05_Validate_ok hr21) (by as_aux_lemma => kernel_rfl) (by as_aux_lemma => kernel_rfl) (.inl rfl) ?_
      refine evs_run 2 (by as_aux_lemma => kernel_rfl) ?_
      refine evs_split (r20 == r21) (fun b0 => ⟨[(9, (.row (.top 700200) 3)), (10, (vI r12.2)), (11, (.row (.top 700201) 3)), (12, (vI r14.2)), (46, (vB b0))], [(700200, .row 3 [] (List.map cI r12.1)), (700201, .row 3 [] (List.map cI r14.1))]⟩) (by as_aux_lemma => kernel_rfl) (fun hb => ?_) (fun hb => ?_)
      · replace h := iteT hb h
        refine evs_run 5 (by as_aux_lemma => kernel_rfl) ?_
        refine evs_split (r12.2 == r14.2) (fun b0 => ⟨[(9, (.row (.top 700200) 3)), (11, (.row (.top 700201) 3)), (51, (vB b0))], [(700200, .row 3 [] (List.map cI r12.1)), (700201, .row 3 [] (List.map cI r14.1))]⟩) (by as_aux_lemma => kernel_rfl) (fun hb => ?_) (fun hb => ?_)
        · replace h := iteT hb h
          refine evs_run 2 (by as_aux_lemma => kernel_rfl) ?_
          obtain ⟨r22, hr22, h⟩ := bindS h
          refine evs_callS [] [] [700200, 700201] (by as_aux_lemma => kernel_rfl) (W.sheetmetalref01_SameInts_ok hr22) (by as_aux_lemma => kernel_rfl) (by as_aux_lemma => kernel_rfl) (.inr ⟨rfl, fun _ _ => ind_nil⟩) ?_
          refine evs_run 2 (by as_aux_lemma => kernel_rfl) ?_
          refine evs_split r22 (fun b0 => ⟨[(56, (vB b0))], []⟩) (by as_aux_lemma => kernel_rfl) (fun hb => ?_) (fun hb => ?_)
          · replace h := iteT hb h
            obtain ⟨r23, hr23, h⟩ := bindS h
            refine evs_callS [] [] [] (by as_aux_lemma => kernel_rfl) (W.sheetmetallaw05_known_ok hr23) (by as_aux_lemma => kernel_rfl) (by as_aux_lemma => kernel_rfl) (.inl rfl) ?_
            refine evs_run 2 (by as_aux_lemma => kernel_rfl) ?_
            refine evs_endS (by as_aux_lemma => kernel_rfl) (fun τ hτ => ?_)
            obtain rfl := Option.some.inj h
            exact leafC hτ (here (by as_aux_lemma => kernel_rfl))
          · replace h := iteF hb h
            refine evs_run 3 (by as_aux_lemma => kernel_rfl) ?_
            refine evs_endS (by as_aux_lemma => kernel_rfl) (fun τ hτ => ?_)
            obtain rfl := Option.some.inj h
            exact leafC hτ (here (by as_aux_lemma => kernel_rfl))
        · replace h := iteF hb h
          refine evs_run 8 (by as_aux_lemma => kernel_rfl) ?_
          refine evs_endS (by as_aux_lemma => kernel_rfl) (fun τ hτ => ?_)
          obtain rfl := Option.some.inj h
          exact leafC hτ (here (by as_aux_lemma => kernel_rfl))
      · replace h := iteF hb h
        refine evs_run 13 (by as_aux_lemma => kernel_rfl) ?_
        refine evs_endS (by as_aux_lemma => kernel_rfl) (fun τ hτ => ?_)
        obtain rfl := Option.some.inj h
        exact leafC hτ (here (by as_aux_lemma => kernel_rfl))
    refine th_normalS hτ ⟨[(6, (vB j19))], []⟩ (here (by as_aux_lemma => kernel_rfl)) ?_
    refine sem_retS (by as_aux_lemma => kernel_rfl) (fun τ hτ => ?_)
    obtain rfl := Option.some.inj h
    exact rk_ret hτ [(6, (vB j19))] (here (by as_aux_lemma => kernel_rfl)) (by as_aux_lemma => kernel_rfl)
theorem W.setup_Check_ok {needs : (List (List Int))} {stations : Int} {l : (List Change)} {r : Int} (h : setup_Check needs stations l = some r) : PC G.P 40 [(.sl (List.map (cS cI) needs)), (vI stations), (.sl (List.map c_Change l))] [] (vI r) [] := by
  refine pc_of G (fn := Try.f40) Try.func40 (by as_aux_lemma => kernel_rfl) (by as_aux_lemma => kernel_rfl) (by as_aux_lemma => kernel_rfl) (by as_aux_lemma => kernel_rfl) (by as_aux_lemma => kernel_rfl) ?_
  refine sem_set ⟨[(0, (.sl (List.map (cS cI) needs))), (1, (vI stations)), (2, (.sl (List.map c_Change l)))], []⟩ (by as_aux_lemma => kernel_rfl) ?_
  refine sem_seq (by as_aux_lemma => kernel_rfl) ?_
  refine sem_region (by as_aux_lemma => kernel_rfl) ?_
  refine evs_run 1 (by as_aux_lemma => kernel_rfl) ?_
  refine evs_endS (by as_aux_lemma => kernel_rfl) (fun τ hτ => ?_)
  refine th_normalS hτ ⟨[(0, (.sl (List.map (cS cI) needs))), (1, (vI stations)), (2, (.sl (List.map c_Change l)))], []⟩ (here (by as_aux_lemma => kernel_rfl)) ?_
  refine sem_seq (by as_aux_lemma => kernel_rfl) ?_
  refine sem_seq (by as_aux_lemma => kernel_rfl) ?_
  refine sem_region (by as_aux_lemma => kernel_rfl) ?_
  refine evs_run 2 (by as_aux_lemma => kernel_rfl) ?_
  obtain ⟨r4, hr4, h⟩ := bindS h
  refine evs_callS [] [] [] (by as_aux_lemma => kernel_rfl) (W.setup_check_ok hr4) (by as_aux_lemma => kernel_rfl) (by as_aux_lemma => kernel_rfl) (.inl rfl) ?_
  refine evs_run 1 (by as_aux_lemma => kernel_rfl) ?_
  refine evs_endS (by as_aux_lemma => kernel_rfl) (fun τ hτ => ?_)
  refine th_normalS hτ ⟨[(0, (.sl (List.map (cS cI) needs))), (1, (vI stations)), (2, (.sl (List.map c_Change l))), (7, (vI r4))], []⟩ (here (by as_aux_lemma => kernel_rfl)) ?_
  refine sem_seq (by as_aux_lemma => kernel_rfl) ?_
  refine sem_region (by as_aux_lemma => kernel_rfl) ?_
  refine evs_run 2 (by as_aux_lemma => kernel_rfl) ?_
  refine evs_endS (by as_aux_lemma => kernel_rfl) (fun τ hτ => ?_)
  refine th_normalS hτ ⟨[(0, (.sl (List.map (cS cI) needs))), (1, (vI stations)), (2, (.sl (List.map c_Change l))), (7, (vI r4)), (14, (vB (r4 != 0)))], []⟩ (here (by as_aux_lemma => kernel_rfl)) ?_
  refine sem_cond (r4 != 0) (by as_aux_lemma => kernel_rfl) (by as_aux_lemma => kernel_rfl) (fun hb => ?_) (fun hb => ?_)
  · replace h := iteT hb h
    refine sem_seq (by as_aux_lemma => kernel_rfl) ?_
    refine sem_region (by as_aux_lemma => kernel_rfl) ?_
    refine evs_run 2 (by as_aux_lemma => kernel_rfl) ?_
    refine evs_endS (by as_aux_lemma => kernel_rfl) (fun τ hτ => ?_)
    refine th_normalS hτ ⟨[(6, (vI r4))], []⟩ (here (by as_aux_lemma => kernel_rfl)) ?_
    refine sem_retS (by as_aux_lemma => kernel_rfl) (fun τ hτ => ?_)
    refine th_ret ?_
    obtain rfl := Option.some.inj h
    exact rk_ret hτ [(6, (vI r4))] (here (by as_aux_lemma => kernel_rfl)) (by as_aux_lemma => kernel_rfl)
  · replace h := iteF hb h
    refine sem_skipS (by as_aux_lemma => kernel_rfl) (fun τ hτ => ?_)
    refine th_normalS hτ ⟨[(0, (.sl (List.map (cS cI) needs))), (1, (vI stations)), (2, (.sl (List.map c_Change l)))], []⟩ (here (by as_aux_lemma => kernel_rfl)) ?_
    refine sem_seq (by as_aux_lemma => kernel_rfl) ?_
    refine sem_seq (by as_aux_lemma => kernel_rfl) ?_
    refine sem_region (by as_aux_lemma => kernel_rfl) ?_
    refine evs_run 3 (by as_aux_lemma => kernel_rfl) ?_
    obtain ⟨r8, hr8, h⟩ := bindS h
    refine evs_callS [] [] [] (by as_aux_lemma => kernel_rfl) (W.setup_inOrder_ok hr8) (by as_aux_lemma => kernel_rfl) (by as_aux_lemma => kernel_rfl) (.inl rfl) ?_
    refine evs_run 1 (by as_aux_lemma => kernel_rfl) ?_
    refine evs_endS (by as_aux_lemma => kernel_rfl) (fun τ hτ => ?_)
    refine th_normalS hτ ⟨[(0, (.sl (List.map (cS cI) needs))), (1, (vI stations)), (2, (.sl (List.map c_Change l))), (20, (vB (!r8)))], []⟩ (here (by as_aux_lemma => kernel_rfl)) ?_
    refine sem_cond (!r8) (by as_aux_lemma => kernel_rfl) (by as_aux_lemma => kernel_rfl) (fun hb => ?_) (fun hb => ?_)
    · replace h := iteT hb h
      refine sem_seq (by as_aux_lemma => kernel_rfl) ?_
      refine sem_region (by as_aux_lemma => kernel_rfl) ?_
      refine evs_run 1 (by as_aux_lemma => kernel_rfl) ?_
      refine evs_endS (by as_aux_lemma => kernel_rfl) (fun τ hτ => ?_)
      refine th_normalS hτ ⟨[(6, (vI 12))], []⟩ (here (by as_aux_lemma => kernel_rfl)) ?_
      refine sem_retS (by as_aux_lemma => kernel_rfl) (fun τ hτ => ?_)
      refine th_ret ?_
      obtain rfl := Option.some.inj h
      exact rk_ret hτ [(6, (vI 12))] (here (by as_aux_lemma => kernel_rfl)) (by as_aux_lemma => kernel_rfl)
    · replace h := iteF hb h
      refine sem_skipS (by as_aux_lemma => kernel_rfl) (fun τ hτ => ?_)
      refine th_normalS hτ ⟨[(0, (.sl (List.map (cS cI) needs))), (1, (vI stations)), (2, (.sl (List.map c_Change l)))], []⟩ (here (by as_aux_lemma => kernel_rfl)) ?_
      refine sem_seq (by as_aux_lemma => kernel_rfl) ?_
      refine sem_seq (by as_aux_lemma => kernel_rfl) ?_
      refine sem_region (by as_aux_lemma => kernel_rfl) ?_
      refine evs_run 1 (by as_aux_lemma => kernel_rfl) ?_
      refine evs_op (st_len (c := (cS cI)) (l := needs) (x := (.sl (List.map (cS cI) needs))) (by as_aux_lemma => kernel_rfl) (by as_aux_lemma => kernel_rfl)) ?_
      refine evs_run 1 (by as_aux_lemma => kernel_rfl) ?_
      refine evs_endS (by as_aux_lemma => kernel_rfl) (fun τ hτ => ?_)
      refine th_normalS hτ ⟨[(1, (vI stations)), (2, (.sl (List.map c_Change l))), (21, (.sl (List.map (cS cI) needs))), (22, (vI (needs.length : Int))), (23, (vI 0))], []⟩ (here (by as_aux_lemma => kernel_rfl)) ?_
      refine sem_block (by as_aux_lemma => kernel_rfl) ?_
      obtain ⟨x88, hx88, h⟩ := bindS h
      refine sem_loopS (fun (s63 : Int) => ⟨[(1, (vI stations)), (2, (.sl (List.map c_Change l))), (21, (.sl (List.map (cS cI) needs))), (22, (vI (needs.length : Int))), (23, (vI s63))], []⟩) (fun (x88 : Unit ⊕ Unit) => match x88 with | .inl j89 => (.ret, ⟨[(6, (vI 11))], []⟩) | .inr j90 => (.exit 0, ⟨[], []⟩)) (setup_Check_l1 needs stations l) 0 x88 (by as_aux_lemma => kernel_rfl) (here (by as_aux_lemma => kernel_rfl)) hx88 ?_ ?_ ?_
      · intro s63 r h
        refine sem_seq (by as_aux_lemma => kernel_rfl) ?_
        refine sem_region (by as_aux_lemma => kernel_rfl) ?_
        refine evs_run 1 (by as_aux_lemma => kernel_rfl) ?_
        refine evs_endS (by as_aux_lemma => kernel_rfl) (fun τ hτ => ?_)
        refine th_normalS hτ ⟨[(1, (vI stations)), (2, (.sl (List.map c_Change l))), (21, (.sl (List.map (cS cI) needs))), (22, (vI (needs.length : Int))), (23, (vI s63)), (24, (vB (decide (s63 < (needs.length : Int)))))], []⟩ (here (by as_aux_lemma => kernel_rfl)) ?_
        refine sem_seq (by as_aux_lemma => kernel_rfl) ?_
        refine sem_cond (decide (s63 < (needs.length : Int))) (by as_aux_lemma => kernel_rfl) (by as_aux_lemma => kernel_rfl) (fun hb => ?_) (fun hb => ?_)
        · replace h := iteT hb h
          refine sem_skipS (by as_aux_lemma => kernel_rfl) (fun τ hτ => ?_)
          refine th_normalS hτ ⟨[(1, (vI stations)), (2, (.sl (List.map c_Change l))), (21, (.sl (List.map (cS cI) needs))), (22, (vI (needs.length : Int))), (23, (vI s63))], []⟩ (here (by as_aux_lemma => kernel_rfl)) ?_
          refine sem_seq (by as_aux_lemma => kernel_rfl) ?_
          refine sem_block (by as_aux_lemma => kernel_rfl) ?_
          refine sem_seq (by as_aux_lemma => kernel_rfl) ?_
          refine sem_region (by as_aux_lemma => kernel_rfl) ?_
          refine evs_run 1 (by as_aux_lemma => kernel_rfl) ?_
          obtain ⟨x83, hx83, h⟩ := bindS h
          refine evs_op (st_idx (c := (cS cI)) (l := needs) (i := s63) (kd := .i64) (sz := 1) (by as_aux_lemma => kernel_rfl) hx83 rfl) ?_
          refine evs_run 3 (by as_aux_lemma => kernel_rfl) ?_
          refine evs_endS (by as_aux_lemma => kernel_rfl) (fun τ hτ => ?_)
          refine th_normalS hτ ⟨[(1, (vI stations)), (2, (.sl (List.map c_Change l))), (8, (vI s63)), (9, (.sl (List.map cI x83))), (21, (.sl (List.map (cS cI) needs))), (22, (vI (needs.length : Int))), (23, (vI s63))], []⟩ (here (by as_aux_lemma => kernel_rfl)) ?_
          refine sem_seq (by as_aux_lemma => kernel_rfl) ?_
          refine sem_region (by as_aux_lemma => kernel_rfl) ?_
          refine evs_run 3 (by as_aux_lemma => kernel_rfl) ?_
          obtain ⟨r86, hr86, h⟩ := bindS h
          refine evs_callS [] [(0, 700150)] [] (by as_aux_lemma => kernel_rfl) (W.setup_mounted_ok hr86) (by as_aux_lemma => kernel_rfl) (by as_aux_lemma => kernel_rfl) (.inl rfl) ?_
          refine evs_run 1 (by as_aux_lemma => kernel_rfl) ?_
          obtain ⟨r87, hr87, h⟩ := bindS h
          refine evs_callS [] [] [700150] (by as_aux_lemma => kernel_rfl) (W.setup_meets_ok hr87) (by as_aux_lemma => kernel_rfl) (by as_aux_lemma => kernel_rfl) (.inr ⟨rfl, fun _ _ => ind_nil⟩) ?_
          refine evs_run 1 (by as_aux_lemma => kernel_rfl) ?_
          refine evs_endS (by as_aux_lemma => kernel_rfl) (fun τ hτ => ?_)
          refine th_normalS hτ ⟨[(1, (vI stations)), (2, (.sl (List.map c_Change l))), (21, (.sl (List.map (cS cI) needs))), (22, (vI (needs.length : Int))), (23, (vI s63)), (34, (vB (!r87)))], []⟩ (here (by as_aux_lemma => kernel_rfl)) ?_
          refine sem_cond (!r87) (by as_aux_lemma => kernel_rfl) (by as_aux_lemma => kernel_rfl) (fun hb => ?_) (fun hb => ?_)
          · replace h := iteT hb h
            refine sem_seq (by as_aux_lemma => kernel_rfl) ?_
            refine sem_region (by as_aux_lemma => kernel_rfl) ?_
            refine evs_run 1 (by as_aux_lemma => kernel_rfl) ?_
            refine evs_endS (by as_aux_lemma => kernel_rfl) (fun τ hτ => ?_)
            refine th_normalS hτ ⟨[(6, (vI 11))], []⟩ (here (by as_aux_lemma => kernel_rfl)) ?_
            refine sem_retS (by as_aux_lemma => kernel_rfl) (fun τ hτ => ?_)
            refine bl_ret ?_
            refine th_ret ?_
            obtain rfl := Option.some.inj h
            exact lk_outS hτ rfl (here (by as_aux_lemma => kernel_rfl))
          · replace h := iteF hb h
            refine sem_skipS (by as_aux_lemma => kernel_rfl) (fun τ hτ => ?_)
            refine bl_normal ?_
            refine th_normalS hτ ⟨[(1, (vI stations)), (2, (.sl (List.map c_Change l))), (21, (.sl (List.map (cS cI) needs))), (22, (vI (needs.length : Int))), (23, (vI s63))], []⟩ (here (by as_aux_lemma => kernel_rfl)) ?_
            refine sem_region (by as_aux_lemma => kernel_rfl) ?_
            refine evs_run 2 (by as_aux_lemma => kernel_rfl) ?_
            refine evs_endS (by as_aux_lemma => kernel_rfl) (fun τ hτ => ?_)
            obtain rfl := Option.some.inj h
            exact lk_nextS hτ (here (by as_aux_lemma => kernel_rfl))
        · replace h := iteF hb h
          refine sem_exitS 0 (by as_aux_lemma => kernel_rfl) rfl (fun τ hτ => ?_)
          refine th_exit ?_
          obtain rfl := Option.some.inj h
          exact lk_outS hτ rfl (here (by as_aux_lemma => kernel_rfl))
      · intro x
        rcases x with _ | _ <;> rfl
      · intro τ hτ
        rcases x88 with j89 | j90
        · refine bl_ret ?_
          refine th_ret ?_
          obtain rfl := Option.some.inj h
          exact rk_ret hτ [(6, (vI 11))] (here (by as_aux_lemma => kernel_rfl)) (by as_aux_lemma => kernel_rfl)
        · refine bl_hit (by as_aux_lemma => kernel_rfl) ?_
          refine th_normalS hτ ⟨[], []⟩ (here (by as_aux_lemma => kernel_rfl)) ?_
          refine sem_seq (by as_aux_lemma => kernel_rfl) ?_
          refine sem_region (by as_aux_lemma => kernel_rfl) ?_
          refine evs_run 1 (by as_aux_lemma => kernel_rfl) ?_
          refine evs_endS (by as_aux_lemma => kernel_rfl) (fun τ hτ => ?_)
          refine th_normalS hτ ⟨[(6, (vI 0))], []⟩ (here (by as_aux_lemma => kernel_rfl)) ?_
          refine sem_retS (by as_aux_lemma => kernel_rfl) (fun τ hτ => ?_)
          obtain rfl := Option.some.inj h
          exact rk_ret hτ [(6, (vI 0))] (here (by as_aux_lemma => kernel_rfl)) (by as_aux_lemma => kernel_rfl)
end Go.Proofs.Ytppmnjiibmomoaa
