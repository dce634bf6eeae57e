/- Each Go function does what its model says; written by a program out of the translation. -/
import Derived.Test.YtppmnjiibmomoaaWJ
import Derived.Test.YtppmnjiibmomoaaSeMJ
set_option linter.unusedVariables false
set_option linter.unusedSimpArgs false
set_option linter.unusedSectionVars false
namespace Go.Proofs.Ytppmnjiibmomoaa
open Go Go.VI Go.SM Go.Proofs
set_option maxRecDepth 100000
set_option maxHeartbeats 4000000
theorem W.slices_Contains_Lint_int_ok {s0 : (List Int)} {v : Int} {r : Bool} (h : slices_Contains_Lint_int s0 v = some r) : PC G.P 64 [(.sl (List.map cI s0)), (vI v)] [] (vB r) [] := by
  refine pc_of G (fn := Try.f64) Try.func64 (by kernel_rfl) (by kernel_rfl) (by kernel_rfl) (by kernel_rfl) (by kernel_rfl) ?_
  refine sem_set ⟨[(0, (.sl (List.map cI s0))), (1, (vI v))], []⟩ (by kernel_rfl) ?_
  refine sem_seq (by kernel_rfl) ?_
  refine sem_region (by kernel_rfl) ?_
  refine evs_run 1 (by kernel_rfl) ?_
  refine evs_endS (by kernel_rfl) (fun τ hτ => ?_)
  refine th_normalS hτ ⟨[(0, (.sl (List.map cI s0))), (1, (vI v))], []⟩ (here (by kernel_rfl)) ?_
  refine sem_seq (by kernel_rfl) ?_
  refine sem_region (by kernel_rfl) ?_
  refine evs_run 2 (by kernel_rfl) ?_
  obtain ⟨r2, hr2, h⟩ := bindS h
  refine evs_callS [] [] [] (by kernel_rfl) (W.slices_Index_Lint_int_ok hr2) (by kernel_rfl) (by kernel_rfl) (.inl rfl) ?_
  refine evs_run 2 (by kernel_rfl) ?_
  refine evs_endS (by kernel_rfl) (fun τ hτ => ?_)
  refine th_normalS hτ ⟨[(4, (vB (decide (r2 ≥ 0))))], []⟩ (here (by kernel_rfl)) ?_
  refine sem_retS (by kernel_rfl) (fun τ hτ => ?_)
  obtain rfl := Option.some.inj h
  exact rk_ret hτ [(4, (vB (decide (r2 ≥ 0))))] (here (by kernel_rfl)) (by kernel_rfl)
theorem W.sheetmetallaw05_wide_ok {jobs : (List (List (List Int)))} {r : Bool} (h : sheetmetallaw05_wide jobs = some r) : PC G.P 27 [(.sl (List.map (cS (cS cI)) jobs))] [] (vB r) [] := by
  refine pc_of G (fn := Try.f27) Try.func27 (by kernel_rfl) (by kernel_rfl) (by kernel_rfl) (by kernel_rfl) (by kernel_rfl) ?_
  refine sem_set ⟨[(0, (.sl (List.map (cS (cS cI)) jobs)))], []⟩ (by kernel_rfl) ?_
  refine sem_seq (by kernel_rfl) ?_
  refine sem_region (by kernel_rfl) ?_
  refine evs_run 1 (by kernel_rfl) ?_
  refine evs_endS (by kernel_rfl) (fun τ hτ => ?_)
  refine th_normalS hτ ⟨[(0, (.sl (List.map (cS (cS cI)) jobs)))], []⟩ (here (by kernel_rfl)) ?_
  refine sem_seq (by kernel_rfl) ?_
  refine sem_seq (by kernel_rfl) ?_
  refine sem_region (by kernel_rfl) ?_
  refine evs_run 1 (by kernel_rfl) ?_
  refine evs_op (st_len (c := (cS (cS cI))) (l := jobs) (x := (.sl (List.map (cS (cS cI)) jobs))) (by kernel_rfl) (by kernel_rfl)) ?_
  refine evs_run 1 (by kernel_rfl) ?_
  refine evs_endS (by kernel_rfl) (fun τ hτ => ?_)
  refine th_normalS hτ ⟨[(0, (.sl (List.map (cS (cS cI)) jobs))), (6, (vB (decide ((jobs.length : Int) > 20))))], []⟩ (here (by kernel_rfl)) ?_
  refine sem_cond (decide ((jobs.length : Int) > 20)) (by kernel_rfl) (by kernel_rfl) (fun hb => ?_) (fun hb => ?_)
  · replace h := iteT hb h
    refine sem_seq (by kernel_rfl) ?_
    refine sem_region (by kernel_rfl) ?_
    refine evs_run 1 (by kernel_rfl) ?_
    refine evs_endS (by kernel_rfl) (fun τ hτ => ?_)
    refine th_normalS hτ ⟨[(2, (vB true))], []⟩ (here (by kernel_rfl)) ?_
    refine sem_retS (by kernel_rfl) (fun τ hτ => ?_)
    refine th_ret ?_
    obtain rfl := Option.some.inj h
    exact rk_ret hτ [(2, (vB true))] (here (by kernel_rfl)) (by kernel_rfl)
  · replace h := iteF hb h
    refine sem_skipS (by kernel_rfl) (fun τ hτ => ?_)
    refine th_normalS hτ ⟨[(0, (.sl (List.map (cS (cS cI)) jobs)))], []⟩ (here (by kernel_rfl)) ?_
    refine sem_seq (by kernel_rfl) ?_
    refine sem_seq (by kernel_rfl) ?_
    refine sem_region (by kernel_rfl) ?_
    refine evs_run 1 (by kernel_rfl) ?_
    refine evs_endS (by kernel_rfl) (fun τ hτ => ?_)
    refine th_normalS hτ ⟨[(0, (.sl (List.map (cS (cS cI)) jobs))), (3, (vI 0))], []⟩ (here (by kernel_rfl)) ?_
    refine sem_block (by kernel_rfl) ?_
    obtain ⟨x56, hx56, h⟩ := bindS h
    refine sem_loopS (fun (s39 : Int) => ⟨[(0, (.sl (List.map (cS (cS cI)) jobs))), (3, (vI s39))], []⟩) (fun (x56 : Unit ⊕ Unit) => match x56 with | .inl j57 => (.ret, ⟨[(2, (vB true))], []⟩) | .inr j58 => (.exit 0, ⟨[], []⟩)) (sheetmetallaw05_wide_l1 jobs) 0 x56 (by kernel_rfl) (here (by kernel_rfl)) hx56 ?_ ?_ ?_
    · intro s39 r h
      refine sem_seq (by kernel_rfl) ?_
      refine sem_seq (by kernel_rfl) ?_
      refine sem_region (by kernel_rfl) ?_
      refine evs_run 2 (by kernel_rfl) ?_
      refine evs_op (st_len (c := (cS (cS cI))) (l := jobs) (x := (.sl (List.map (cS (cS cI)) jobs))) (by kernel_rfl) (by kernel_rfl)) ?_
      refine evs_run 1 (by kernel_rfl) ?_
      refine evs_endS (by kernel_rfl) (fun τ hτ => ?_)
      refine th_normalS hτ ⟨[(0, (.sl (List.map (cS (cS cI)) jobs))), (3, (vI s39)), (10, (vB (decide (s39 < (jobs.length : Int)))))], []⟩ (here (by kernel_rfl)) ?_
      refine sem_cond (decide (s39 < (jobs.length : Int))) (by kernel_rfl) (by kernel_rfl) (fun hb => ?_) (fun hb => ?_)
      · replace h := iteT hb h
        refine sem_skipS (by kernel_rfl) (fun τ hτ => ?_)
        refine th_normalS hτ ⟨[(0, (.sl (List.map (cS (cS cI)) jobs))), (3, (vI s39))], []⟩ (here (by kernel_rfl)) ?_
        refine sem_seq (by kernel_rfl) ?_
        refine sem_block (by kernel_rfl) ?_
        refine sem_seq (by kernel_rfl) ?_
        refine sem_region (by kernel_rfl) ?_
        refine evs_run 2 (by kernel_rfl) ?_
        obtain ⟨x54, hx54, h⟩ := bindS h
        refine evs_op (st_idx (c := (cS (cS cI))) (l := jobs) (i := s39) (kd := .i64) (sz := 1) (by kernel_rfl) hx54 rfl) ?_
        refine evs_run 1 (by kernel_rfl) ?_
        obtain ⟨r55, hr55, h⟩ := bindS h
        refine evs_callS [] [] [] (by kernel_rfl) (W.sheetmetallaw05_Long_ok hr55) (by kernel_rfl) (by kernel_rfl) (.inl rfl) ?_
        refine evs_endS (by kernel_rfl) (fun τ hτ => ?_)
        refine th_normalS hτ ⟨[(0, (.sl (List.map (cS (cS cI)) jobs))), (3, (vI s39)), (17, (vB r55))], []⟩ (here (by kernel_rfl)) ?_
        refine sem_cond r55 (by kernel_rfl) (by kernel_rfl) (fun hb => ?_) (fun hb => ?_)
        · replace h := iteT hb h
          refine sem_seq (by kernel_rfl) ?_
          refine sem_region (by kernel_rfl) ?_
          refine evs_run 1 (by kernel_rfl) ?_
          refine evs_endS (by kernel_rfl) (fun τ hτ => ?_)
          refine th_normalS hτ ⟨[(2, (vB true))], []⟩ (here (by kernel_rfl)) ?_
          refine sem_retS (by kernel_rfl) (fun τ hτ => ?_)
          refine bl_ret ?_
          refine th_ret ?_
          obtain rfl := Option.some.inj h
          exact lk_outS hτ rfl (here (by kernel_rfl))
        · replace h := iteF hb h
          refine sem_skipS (by kernel_rfl) (fun τ hτ => ?_)
          refine bl_normal ?_
          refine th_normalS hτ ⟨[(0, (.sl (List.map (cS (cS cI)) jobs))), (3, (vI s39))], []⟩ (here (by kernel_rfl)) ?_
          refine sem_region (by kernel_rfl) ?_
          refine evs_run 3 (by kernel_rfl) ?_
          refine evs_endS (by kernel_rfl) (fun τ hτ => ?_)
          obtain rfl := Option.some.inj h
          exact lk_nextS hτ (here (by kernel_rfl))
      · replace h := iteF hb h
        refine sem_exitS 0 (by kernel_rfl) rfl (fun τ hτ => ?_)
        refine th_exit ?_
        obtain rfl := Option.some.inj h
        exact lk_outS hτ rfl (here (by kernel_rfl))
    · intro x
      rcases x with _ | _ <;> rfl
    · intro τ hτ
      rcases x56 with j57 | j58
      · refine bl_ret ?_
        refine th_ret ?_
        obtain rfl := Option.some.inj h
        exact rk_ret hτ [(2, (vB true))] (here (by kernel_rfl)) (by kernel_rfl)
      · refine bl_hit (by kernel_rfl) ?_
        refine th_normalS hτ ⟨[], []⟩ (here (by kernel_rfl)) ?_
        refine sem_seq (by kernel_rfl) ?_
        refine sem_region (by kernel_rfl) ?_
        refine evs_run 1 (by kernel_rfl) ?_
        refine evs_endS (by kernel_rfl) (fun τ hτ => ?_)
        refine th_normalS hτ ⟨[(2, (vB false))], []⟩ (here (by kernel_rfl)) ?_
        refine sem_retS (by kernel_rfl) (fun τ hτ => ?_)
        obtain rfl := Option.some.inj h
        exact rk_ret hτ [(2, (vB false))] (here (by kernel_rfl)) (by kernel_rfl)
theorem W.setup_checkJobs_ok {jobs : (List (List (List Int)))} {r : Int} (h : setup_checkJobs jobs = some r) : PC G.P 55 [(.sl (List.map (cS (cS cI)) jobs))] [] (vI r) [] := by
  refine pc_of G (fn := Try.f55) Try.func55 (by kernel_rfl) (by kernel_rfl) (by kernel_rfl) (by kernel_rfl) (by kernel_rfl) ?_
  refine sem_set ⟨[(0, (.sl (List.map (cS (cS cI)) jobs)))], []⟩ (by kernel_rfl) ?_
  refine sem_seq (by kernel_rfl) ?_
  refine sem_region (by kernel_rfl) ?_
  refine evs_run 1 (by kernel_rfl) ?_
  refine evs_endS (by kernel_rfl) (fun τ hτ => ?_)
  refine th_normalS hτ ⟨[(0, (.sl (List.map (cS (cS cI)) jobs)))], []⟩ (here (by kernel_rfl)) ?_
  refine sem_seq (by kernel_rfl) ?_
  refine sem_seq (by kernel_rfl) ?_
  refine sem_region (by kernel_rfl) ?_
  refine evs_run 1 (by kernel_rfl) ?_
  refine evs_op (st_len (c := (cS (cS cI))) (l := jobs) (x := (.sl (List.map (cS (cS cI)) jobs))) (by kernel_rfl) (by kernel_rfl)) ?_
  refine evs_run 1 (by kernel_rfl) ?_
  refine evs_endS (by kernel_rfl) (fun τ hτ => ?_)
  refine th_normalS hτ ⟨[(0, (.sl (List.map (cS (cS cI)) jobs))), (8, (vB (decide ((jobs.length : Int) > 4))))], []⟩ (here (by kernel_rfl)) ?_
  refine sem_cond (decide ((jobs.length : Int) > 4)) (by kernel_rfl) (by kernel_rfl) (fun hb => ?_) (fun hb => ?_)
  · replace h := iteT hb h
    refine sem_seq (by kernel_rfl) ?_
    refine sem_region (by kernel_rfl) ?_
    refine evs_run 1 (by kernel_rfl) ?_
    refine evs_endS (by kernel_rfl) (fun τ hτ => ?_)
    refine th_normalS hτ ⟨[(2, (vI 4))], []⟩ (here (by kernel_rfl)) ?_
    refine sem_retS (by kernel_rfl) (fun τ hτ => ?_)
    refine th_ret ?_
    obtain rfl := Option.some.inj h
    exact rk_ret hτ [(2, (vI 4))] (here (by kernel_rfl)) (by kernel_rfl)
  · replace h := iteF hb h
    refine sem_skipS (by kernel_rfl) (fun τ hτ => ?_)
    refine th_normalS hτ ⟨[(0, (.sl (List.map (cS (cS cI)) jobs)))], []⟩ (here (by kernel_rfl)) ?_
    refine sem_seq (by kernel_rfl) ?_
    refine sem_seq (by kernel_rfl) ?_
    refine sem_region (by kernel_rfl) ?_
    refine evs_run 1 (by kernel_rfl) ?_
    refine evs_op (st_len (c := (cS (cS cI))) (l := jobs) (x := (.sl (List.map (cS (cS cI)) jobs))) (by kernel_rfl) (by kernel_rfl)) ?_
    refine evs_run 1 (by kernel_rfl) ?_
    refine evs_endS (by kernel_rfl) (fun τ hτ => ?_)
    refine th_normalS hτ ⟨[(9, (.sl (List.map (cS (cS cI)) jobs))), (10, (vI (jobs.length : Int))), (11, (vI 0))], []⟩ (here (by kernel_rfl)) ?_
    refine sem_block (by kernel_rfl) ?_
    obtain ⟨x56, hx56, h⟩ := bindS h
    refine sem_loopS (fun (s39 : Int) => ⟨[(9, (.sl (List.map (cS (cS cI)) jobs))), (10, (vI (jobs.length : Int))), (11, (vI s39))], []⟩) (fun (x56 : Int ⊕ Unit) => match x56 with | .inl j57 => (.ret, ⟨[(2, (vI j57))], []⟩) | .inr j58 => (.exit 0, ⟨[], []⟩)) (setup_checkJobs_l1 jobs) 0 x56 (by kernel_rfl) (here (by kernel_rfl)) hx56 ?_ ?_ ?_
    · intro s39 r h
      refine sem_seq (by kernel_rfl) ?_
      refine sem_region (by kernel_rfl) ?_
      refine evs_run 1 (by kernel_rfl) ?_
      refine evs_endS (by kernel_rfl) (fun τ hτ => ?_)
      refine th_normalS hτ ⟨[(9, (.sl (List.map (cS (cS cI)) jobs))), (10, (vI (jobs.length : Int))), (11, (vI s39)), (12, (vB (decide (s39 < (jobs.length : Int)))))], []⟩ (here (by kernel_rfl)) ?_
      refine sem_seq (by kernel_rfl) ?_
      refine sem_cond (decide (s39 < (jobs.length : Int))) (by kernel_rfl) (by kernel_rfl) (fun hb => ?_) (fun hb => ?_)
      · replace h := iteT hb h
        refine sem_skipS (by kernel_rfl) (fun τ hτ => ?_)
        refine th_normalS hτ ⟨[(9, (.sl (List.map (cS (cS cI)) jobs))), (10, (vI (jobs.length : Int))), (11, (vI s39))], []⟩ (here (by kernel_rfl)) ?_
        refine sem_seq (by kernel_rfl) ?_
        refine sem_block (by kernel_rfl) ?_
        refine sem_seq (by kernel_rfl) ?_
        refine sem_region (by kernel_rfl) ?_
        obtain ⟨x53, hx53, h⟩ := bindS h
        refine evs_op (st_idx (c := (cS (cS cI))) (l := jobs) (i := s39) (kd := .i64) (sz := 1) (by kernel_rfl) hx53 rfl) ?_
        refine evs_run 2 (by kernel_rfl) ?_
        refine evs_endS (by kernel_rfl) (fun τ hτ => ?_)
        refine th_normalS hτ ⟨[(4, (.sl (List.map (cS cI) x53))), (9, (.sl (List.map (cS (cS cI)) jobs))), (10, (vI (jobs.length : Int))), (11, (vI s39))], []⟩ (here (by kernel_rfl)) ?_
        refine sem_seq (by kernel_rfl) ?_
        refine sem_region (by kernel_rfl) ?_
        refine evs_run 1 (by kernel_rfl) ?_
        obtain ⟨r55, hr55, h⟩ := bindS h
        refine evs_callS [] [] [] (by kernel_rfl) (W.setup_Validate_ok hr55) (by kernel_rfl) (by kernel_rfl) (.inl rfl) ?_
        refine evs_run 1 (by kernel_rfl) ?_
        refine evs_endS (by kernel_rfl) (fun τ hτ => ?_)
        refine th_normalS hτ ⟨[(5, (vI r55)), (9, (.sl (List.map (cS (cS cI)) jobs))), (10, (vI (jobs.length : Int))), (11, (vI s39))], []⟩ (here (by kernel_rfl)) ?_
        refine sem_seq (by kernel_rfl) ?_
        refine sem_region (by kernel_rfl) ?_
        refine evs_run 2 (by kernel_rfl) ?_
        refine evs_endS (by kernel_rfl) (fun τ hτ => ?_)
        refine th_normalS hτ ⟨[(5, (vI r55)), (9, (.sl (List.map (cS (cS cI)) jobs))), (10, (vI (jobs.length : Int))), (11, (vI s39)), (18, (vB (r55 != 0)))], []⟩ (here (by kernel_rfl)) ?_
        refine sem_cond (r55 != 0) (by kernel_rfl) (by kernel_rfl) (fun hb => ?_) (fun hb => ?_)
        · replace h := iteT hb h
          refine sem_seq (by kernel_rfl) ?_
          refine sem_region (by kernel_rfl) ?_
          refine evs_run 2 (by kernel_rfl) ?_
          refine evs_endS (by kernel_rfl) (fun τ hτ => ?_)
          refine th_normalS hτ ⟨[(2, (vI r55))], []⟩ (here (by kernel_rfl)) ?_
          refine sem_retS (by kernel_rfl) (fun τ hτ => ?_)
          refine bl_ret ?_
          refine th_ret ?_
          obtain rfl := Option.some.inj h
          exact lk_outS hτ rfl (here (by kernel_rfl))
        · replace h := iteF hb h
          refine sem_skipS (by kernel_rfl) (fun τ hτ => ?_)
          refine bl_normal ?_
          refine th_normalS hτ ⟨[(9, (.sl (List.map (cS (cS cI)) jobs))), (10, (vI (jobs.length : Int))), (11, (vI s39))], []⟩ (here (by kernel_rfl)) ?_
          refine sem_region (by kernel_rfl) ?_
          refine evs_run 2 (by kernel_rfl) ?_
          refine evs_endS (by kernel_rfl) (fun τ hτ => ?_)
          obtain rfl := Option.some.inj h
          exact lk_nextS hτ (here (by kernel_rfl))
      · replace h := iteF hb h
        refine sem_exitS 0 (by kernel_rfl) rfl (fun τ hτ => ?_)
        refine th_exit ?_
        obtain rfl := Option.some.inj h
        exact lk_outS hτ rfl (here (by kernel_rfl))
    · intro x
      rcases x with _ | _ <;> rfl
    · intro τ hτ
      rcases x56 with j57 | j58
      · refine bl_ret ?_
        refine th_ret ?_
        obtain rfl := Option.some.inj h
        exact rk_ret hτ [(2, (vI j57))] (here (by kernel_rfl)) (by kernel_rfl)
      · refine bl_hit (by kernel_rfl) ?_
        refine th_normalS hτ ⟨[], []⟩ (here (by kernel_rfl)) ?_
        refine sem_seq (by kernel_rfl) ?_
        refine sem_region (by kernel_rfl) ?_
        refine evs_run 1 (by kernel_rfl) ?_
        refine evs_endS (by kernel_rfl) (fun τ hτ => ?_)
        refine th_normalS hτ ⟨[(2, (vI 0))], []⟩ (here (by kernel_rfl)) ?_
        refine sem_retS (by kernel_rfl) (fun τ hτ => ?_)
        obtain rfl := Option.some.inj h
        exact rk_ret hτ [(2, (vI 0))] (here (by kernel_rfl)) (by kernel_rfl)
theorem W.setup_isPermutation_ok {order : (List Int)} {n : Int} {r : Bool} (h : setup_isPermutation order n = some r) : PC G.P 56 [(.sl (List.map cI order)), (vI n)] [] (vB r) [] := by
  refine pc_of G (fn := Try.f56) Try.func56 (by kernel_rfl) (by kernel_rfl) (by kernel_rfl) (by kernel_rfl) (by kernel_rfl) ?_
  refine sem_set ⟨[(0, (.sl (List.map cI order))), (1, (vI n))], []⟩ (by kernel_rfl) ?_
  refine sem_seq (by kernel_rfl) ?_
  refine sem_region (by kernel_rfl) ?_
  refine evs_run 1 (by kernel_rfl) ?_
  refine evs_endS (by kernel_rfl) (fun τ hτ => ?_)
  refine th_normalS hτ ⟨[(0, (.sl (List.map cI order))), (1, (vI n))], []⟩ (here (by kernel_rfl)) ?_
  refine sem_seq (by kernel_rfl) ?_
  refine sem_seq (by kernel_rfl) ?_
  refine sem_region (by kernel_rfl) ?_
  refine evs_run 1 (by kernel_rfl) ?_
  refine evs_op (st_len (c := cI) (l := order) (x := (.sl (List.map cI order))) (by kernel_rfl) (by kernel_rfl)) ?_
  refine evs_run 2 (by kernel_rfl) ?_
  refine evs_endS (by kernel_rfl) (fun τ hτ => ?_)
  refine th_normalS hτ ⟨[(0, (.sl (List.map cI order))), (1, (vI n)), (10, (vB ((order.length : Int) != n)))], []⟩ (here (by kernel_rfl)) ?_
  refine sem_cond ((order.length : Int) != n) (by kernel_rfl) (by kernel_rfl) (fun hb => ?_) (fun hb => ?_)
  · replace h := iteT hb h
    refine sem_seq (by kernel_rfl) ?_
    refine sem_region (by kernel_rfl) ?_
    refine evs_run 1 (by kernel_rfl) ?_
    refine evs_endS (by kernel_rfl) (fun τ hτ => ?_)
    refine th_normalS hτ ⟨[(4, (vB false))], []⟩ (here (by kernel_rfl)) ?_
    refine sem_retS (by kernel_rfl) (fun τ hτ => ?_)
    refine th_ret ?_
    obtain rfl := Option.some.inj h
    exact rk_ret hτ [(4, (vB false))] (here (by kernel_rfl)) (by kernel_rfl)
  · replace h := iteF hb h
    refine sem_skipS (by kernel_rfl) (fun τ hτ => ?_)
    refine th_normalS hτ ⟨[(0, (.sl (List.map cI order))), (1, (vI n))], []⟩ (here (by kernel_rfl)) ?_
    refine sem_seq (by kernel_rfl) ?_
    refine sem_seq (by kernel_rfl) ?_
    refine sem_region (by kernel_rfl) ?_
    refine evs_run 1 (by kernel_rfl) ?_
    refine evs_op (st_len (c := cI) (l := order) (x := (.sl (List.map cI order))) (by kernel_rfl) (by kernel_rfl)) ?_
    refine evs_run 1 (by kernel_rfl) ?_
    refine evs_endS (by kernel_rfl) (fun τ hτ => ?_)
    refine th_normalS hτ ⟨[(0, (.sl (List.map cI order))), (1, (vI n)), (11, (.sl (List.map cI order))), (12, (vI (order.length : Int))), (13, (vI 0))], []⟩ (here (by kernel_rfl)) ?_
    refine sem_block (by kernel_rfl) ?_
    obtain ⟨x92, hx92, h⟩ := bindS h
    refine sem_loopS (fun (s63 : Int) => ⟨[(0, (.sl (List.map cI order))), (1, (vI n)), (11, (.sl (List.map cI order))), (12, (vI (order.length : Int))), (13, (vI s63))], []⟩) (fun (x92 : Unit ⊕ Unit) => match x92 with | .inl j93 => (.ret, ⟨[(4, (vB false))], []⟩) | .inr j94 => (.exit 0, ⟨[], []⟩)) (setup_isPermutation_l1 order n) 0 x92 (by kernel_rfl) (here (by kernel_rfl)) hx92 ?_ ?_ ?_
    · intro s63 r h
      refine sem_seq (by kernel_rfl) ?_
      refine sem_region (by kernel_rfl) ?_
      refine evs_run 1 (by kernel_rfl) ?_
      refine evs_endS (by kernel_rfl) (fun τ hτ => ?_)
      refine th_normalS hτ ⟨[(0, (.sl (List.map cI order))), (1, (vI n)), (11, (.sl (List.map cI order))), (12, (vI (order.length : Int))), (13, (vI s63)), (14, (vB (decide (s63 < (order.length : Int)))))], []⟩ (here (by kernel_rfl)) ?_
      refine sem_seq (by kernel_rfl) ?_
      refine sem_cond (decide (s63 < (order.length : Int))) (by kernel_rfl) (by kernel_rfl) (fun hb => ?_) (fun hb => ?_)
      · replace h := iteT hb h
        refine sem_skipS (by kernel_rfl) (fun τ hτ => ?_)
        refine th_normalS hτ ⟨[(0, (.sl (List.map cI order))), (1, (vI n)), (11, (.sl (List.map cI order))), (12, (vI (order.length : Int))), (13, (vI s63))], []⟩ (here (by kernel_rfl)) ?_
        refine sem_seq (by kernel_rfl) ?_
        refine sem_block (by kernel_rfl) ?_
        refine sem_seq (by kernel_rfl) ?_
        refine sem_region (by kernel_rfl) ?_
        refine evs_run 1 (by kernel_rfl) ?_
        obtain ⟨x86, hx86, h⟩ := bindS h
        refine evs_op (st_idx (c := cI) (l := order) (i := s63) (kd := .i64) (sz := 1) (by kernel_rfl) hx86 rfl) ?_
        refine evs_run 3 (by kernel_rfl) ?_
        refine evs_endS (by kernel_rfl) (fun τ hτ => ?_)
        refine th_normalS hτ ⟨[(0, (.sl (List.map cI order))), (1, (vI n)), (5, (vI s63)), (6, (vI x86)), (11, (.sl (List.map cI order))), (12, (vI (order.length : Int))), (13, (vI s63))], []⟩ (here (by kernel_rfl)) ?_
        refine sem_seq (by kernel_rfl) ?_
        obtain ⟨j89, hj89, h⟩ := bindS h
        refine sem_regionC ⟨[(0, (.sl (List.map cI order))), (1, (vI n)), (11, (.sl (List.map cI order))), (12, (vI (order.length : Int))), (13, (vI s63)), (31, (vB j89))], []⟩ (by kernel_rfl) ?_ (fun τ hτ => ?_)
        · replace h := hj89
          refine evs_run 3 (by kernel_rfl) ?_
          refine evs_split (decide (x86 < 0)) (fun b0 => ⟨[(0, (.sl (List.map cI order))), (1, (vI n)), (5, (vI s63)), (6, (vI x86)), (11, (.sl (List.map cI order))), (12, (vI (order.length : Int))), (13, (vI s63)), (20, (vB b0))], []⟩) (by kernel_rfl) (fun hb => ?_) (fun hb => ?_)
          · replace h := iteT hb h
            refine evs_run 11 (by kernel_rfl) ?_
            refine evs_endS (by kernel_rfl) (fun τ hτ => ?_)
            obtain rfl := Option.some.inj h
            exact leafC hτ (here (by kernel_rfl))
          · replace h := iteF hb h
            refine evs_run 5 (by kernel_rfl) ?_
            refine evs_split (decide (x86 ≥ n)) (fun b0 => ⟨[(0, (.sl (List.map cI order))), (1, (vI n)), (5, (vI s63)), (6, (vI x86)), (11, (.sl (List.map cI order))), (12, (vI (order.length : Int))), (13, (vI s63)), (21, (vI x86)), (22, (vI n)), (23, (vB b0)), (25, (vB b0))], []⟩) (by kernel_rfl) (fun hb => ?_) (fun hb => ?_)
            · replace h := iteT hb h
              refine evs_run 6 (by kernel_rfl) ?_
              refine evs_endS (by kernel_rfl) (fun τ hτ => ?_)
              obtain rfl := Option.some.inj h
              exact leafC hτ (here (by kernel_rfl))
            · replace h := iteF hb h
              refine evs_run 2 (by kernel_rfl) ?_
              obtain ⟨l90, hl90, h⟩ := bindS h
              refine evs_op (st_slH (c := cI) (l := order) (sz := 1) (hi := s63) (k2 := .i64) (by kernel_rfl) hl90) ?_
              refine evs_run 1 (by kernel_rfl) ?_
              obtain ⟨r91, hr91, h⟩ := bindS h
              refine evs_callS [] [] [] (by kernel_rfl) (W.slices_Contains_Lint_int_ok hr91) (by kernel_rfl) (by kernel_rfl) (.inl rfl) ?_
              refine evs_run 1 (by kernel_rfl) ?_
              refine evs_endS (by kernel_rfl) (fun τ hτ => ?_)
              obtain rfl := Option.some.inj h
              exact leafC hτ (here (by kernel_rfl))
        refine th_normalS hτ ⟨[(0, (.sl (List.map cI order))), (1, (vI n)), (11, (.sl (List.map cI order))), (12, (vI (order.length : Int))), (13, (vI s63)), (31, (vB j89))], []⟩ (here (by kernel_rfl)) ?_
        refine sem_cond j89 (by kernel_rfl) (by kernel_rfl) (fun hb => ?_) (fun hb => ?_)
        · replace h := iteT hb h
          refine sem_seq (by kernel_rfl) ?_
          refine sem_region (by kernel_rfl) ?_
          refine evs_run 1 (by kernel_rfl) ?_
          refine evs_endS (by kernel_rfl) (fun τ hτ => ?_)
          refine th_normalS hτ ⟨[(4, (vB false))], []⟩ (here (by kernel_rfl)) ?_
          refine sem_retS (by kernel_rfl) (fun τ hτ => ?_)
          refine bl_ret ?_
          refine th_ret ?_
          obtain rfl := Option.some.inj h
          exact lk_outS hτ rfl (here (by kernel_rfl))
        · replace h := iteF hb h
          refine sem_skipS (by kernel_rfl) (fun τ hτ => ?_)
          refine bl_normal ?_
          refine th_normalS hτ ⟨[(0, (.sl (List.map cI order))), (1, (vI n)), (11, (.sl (List.map cI order))), (12, (vI (order.length : Int))), (13, (vI s63))], []⟩ (here (by kernel_rfl)) ?_
          refine sem_region (by kernel_rfl) ?_
          refine evs_run 2 (by kernel_rfl) ?_
          refine evs_endS (by kernel_rfl) (fun τ hτ => ?_)
          obtain rfl := Option.some.inj h
          exact lk_nextS hτ (here (by kernel_rfl))
      · replace h := iteF hb h
        refine sem_exitS 0 (by kernel_rfl) rfl (fun τ hτ => ?_)
        refine th_exit ?_
        obtain rfl := Option.some.inj h
        exact lk_outS hτ rfl (here (by kernel_rfl))
    · intro x
      rcases x with _ | _ <;> rfl
    · intro τ hτ
      rcases x92 with j93 | j94
      · refine bl_ret ?_
        refine th_ret ?_
        obtain rfl := Option.some.inj h
        exact rk_ret hτ [(4, (vB false))] (here (by kernel_rfl)) (by kernel_rfl)
      · refine bl_hit (by kernel_rfl) ?_
        refine th_normalS hτ ⟨[], []⟩ (here (by kernel_rfl)) ?_
        refine sem_seq (by kernel_rfl) ?_
        refine sem_region (by kernel_rfl) ?_
        refine evs_run 1 (by kernel_rfl) ?_
        refine evs_endS (by kernel_rfl) (fun τ hτ => ?_)
        refine th_normalS hτ ⟨[(4, (vB true))], []⟩ (here (by kernel_rfl)) ?_
        refine sem_retS (by kernel_rfl) (fun τ hτ => ?_)
        obtain rfl := Option.some.inj h
        exact rk_ret hτ [(4, (vB true))] (here (by kernel_rfl)) (by kernel_rfl)
theorem W.setup_tooMany_ok {jobs : (List (List (List Int)))} {r : Bool} (h : setup_tooMany jobs = some r) : PC G.P 57 [(.sl (List.map (cS (cS cI)) jobs))] [] (vB r) [] := by
  refine pc_of G (fn := Try.f57) Try.func57 (by kernel_rfl) (by kernel_rfl) (by kernel_rfl) (by kernel_rfl) (by kernel_rfl) ?_
  refine sem_set ⟨[(0, (.sl (List.map (cS (cS cI)) jobs)))], []⟩ (by kernel_rfl) ?_
  refine sem_seq (by kernel_rfl) ?_
  refine sem_region (by kernel_rfl) ?_
  refine evs_run 1 (by kernel_rfl) ?_
  refine evs_endS (by kernel_rfl) (fun τ hτ => ?_)
  refine th_normalS hτ ⟨[(0, (.sl (List.map (cS (cS cI)) jobs)))], []⟩ (here (by kernel_rfl)) ?_
  refine sem_seq (by kernel_rfl) ?_
  refine sem_region (by kernel_rfl) ?_
  refine evs_run 1 (by kernel_rfl) ?_
  refine evs_endS (by kernel_rfl) (fun τ hτ => ?_)
  refine th_normalS hτ ⟨[(0, (.sl (List.map (cS (cS cI)) jobs))), (3, (vI 0))], []⟩ (here (by kernel_rfl)) ?_
  refine sem_seq (by kernel_rfl) ?_
  refine sem_seq (by kernel_rfl) ?_
  refine sem_region (by kernel_rfl) ?_
  refine evs_run 1 (by kernel_rfl) ?_
  refine evs_op (st_len (c := (cS (cS cI))) (l := jobs) (x := (.sl (List.map (cS (cS cI)) jobs))) (by kernel_rfl) (by kernel_rfl)) ?_
  refine evs_run 1 (by kernel_rfl) ?_
  refine evs_endS (by kernel_rfl) (fun τ hτ => ?_)
  refine th_normalS hτ ⟨[(3, (vI 0)), (6, (.sl (List.map (cS (cS cI)) jobs))), (7, (vI (jobs.length : Int))), (8, (vI 0))], []⟩ (here (by kernel_rfl)) ?_
  refine sem_block (by kernel_rfl) ?_
  obtain ⟨x30, hx30, h⟩ := bindS h
  refine sem_loopS (fun (s21 : Int × Int) => ⟨[(3, (vI s21.1)), (6, (.sl (List.map (cS (cS cI)) jobs))), (7, (vI (jobs.length : Int))), (8, (vI s21.2))], []⟩) (fun (x30 : Int) => (.exit 0, ⟨[(3, (vI x30))], []⟩)) (setup_tooMany_l1 jobs) (0, 0) x30 (by kernel_rfl) (here (by kernel_rfl)) hx30 ?_ ?_ ?_
  · intro s21 r h
    refine sem_seq (by kernel_rfl) ?_
    refine sem_region (by kernel_rfl) ?_
    refine evs_run 1 (by kernel_rfl) ?_
    refine evs_endS (by kernel_rfl) (fun τ hτ => ?_)
    refine th_normalS hτ ⟨[(3, (vI s21.1)), (6, (.sl (List.map (cS (cS cI)) jobs))), (7, (vI (jobs.length : Int))), (8, (vI s21.2)), (9, (vB (decide (s21.2 < (jobs.length : Int)))))], []⟩ (here (by kernel_rfl)) ?_
    refine sem_seq (by kernel_rfl) ?_
    refine sem_cond (decide (s21.2 < (jobs.length : Int))) (by kernel_rfl) (by kernel_rfl) (fun hb => ?_) (fun hb => ?_)
    · replace h := iteT hb h
      refine sem_skipS (by kernel_rfl) (fun τ hτ => ?_)
      refine th_normalS hτ ⟨[(3, (vI s21.1)), (6, (.sl (List.map (cS (cS cI)) jobs))), (7, (vI (jobs.length : Int))), (8, (vI s21.2))], []⟩ (here (by kernel_rfl)) ?_
      refine sem_seq (by kernel_rfl) ?_
      refine sem_block (by kernel_rfl) ?_
      refine sem_seq (by kernel_rfl) ?_
      refine sem_region (by kernel_rfl) ?_
      obtain ⟨x29, hx29, h⟩ := bindS h
      refine evs_op (st_idx (c := (cS (cS cI))) (l := jobs) (i := s21.2) (kd := .i64) (sz := 1) (by kernel_rfl) hx29 rfl) ?_
      refine evs_run 2 (by kernel_rfl) ?_
      refine evs_endS (by kernel_rfl) (fun τ hτ => ?_)
      refine th_normalS hτ ⟨[(3, (vI s21.1)), (5, (.sl (List.map (cS cI) x29))), (6, (.sl (List.map (cS (cS cI)) jobs))), (7, (vI (jobs.length : Int))), (8, (vI s21.2))], []⟩ (here (by kernel_rfl)) ?_
      refine sem_region (by kernel_rfl) ?_
      refine evs_run 2 (by kernel_rfl) ?_
      refine evs_op (st_len (c := (cS cI)) (l := x29) (x := (.sl (List.map (cS cI) x29))) (by kernel_rfl) (by kernel_rfl)) ?_
      refine evs_run 2 (by kernel_rfl) ?_
      refine evs_endS (by kernel_rfl) (fun τ hτ => ?_)
      refine bl_normal ?_
      refine th_normalS hτ ⟨[(3, (vI (iadd s21.1 (x29.length : Int)))), (6, (.sl (List.map (cS (cS cI)) jobs))), (7, (vI (jobs.length : Int))), (8, (vI s21.2))], []⟩ (here (by kernel_rfl)) ?_
      refine sem_region (by kernel_rfl) ?_
      refine evs_run 2 (by kernel_rfl) ?_
      refine evs_endS (by kernel_rfl) (fun τ hτ => ?_)
      obtain rfl := Option.some.inj h
      exact lk_nextS hτ (here (by kernel_rfl))
    · replace h := iteF hb h
      refine sem_exitS 0 (by kernel_rfl) rfl (fun τ hτ => ?_)
      refine th_exit ?_
      obtain rfl := Option.some.inj h
      exact lk_outS hτ rfl (here (by kernel_rfl))
  · intro x
    rfl
  · intro τ hτ
    refine bl_hit (by kernel_rfl) ?_
    refine th_normalS hτ ⟨[(3, (vI x30))], []⟩ (here (by kernel_rfl)) ?_
    refine sem_seq (by kernel_rfl) ?_
    refine sem_region (by kernel_rfl) ?_
    refine evs_run 3 (by kernel_rfl) ?_
    refine evs_endS (by kernel_rfl) (fun τ hτ => ?_)
    refine th_normalS hτ ⟨[(2, (vB (decide (x30 > 24))))], []⟩ (here (by kernel_rfl)) ?_
    refine sem_retS (by kernel_rfl) (fun τ hτ => ?_)
    obtain rfl := Option.some.inj h
    exact rk_ret hτ [(2, (vB (decide (x30 > 24))))] (here (by kernel_rfl)) (by kernel_rfl)
theorem W.slices_Clone_Lint_int_ok {s r : (List Int)} (h : slices_Clone_Lint_int s = some r) : PC G.P 65 [.sl (List.map cI s)] [] (.row (.top 0) 3) [(0, .row 3 [] (List.map cI r))] := by
  replace h : app [] s = some r := h
  refine pc_of G (fn := Try.f65) Try.func65 (by kernel_rfl) (by kernel_rfl) (by kernel_rfl) (by kernel_rfl) (by kernel_rfl) ?_
  refine sem_seq (by kernel_rfl) ?_
  refine sem_region (by kernel_rfl) ?_
  refine evs_run 1 (by kernel_rfl) ?_
  refine evs_endS (by kernel_rfl) (fun τ hτ => ?_)
  refine th_normalS hτ ⟨[(0, .sl (List.map cI s))], []⟩ (here (by kernel_rfl)) ?_
  refine sem_seq (by kernel_rfl) ?_
  refine sem_seq (by kernel_rfl) ?_
  refine sem_region (by kernel_rfl) ?_
  refine evs_run 1 (by kernel_rfl) ?_
  refine evs_isnil (es := List.map cI s) (by kernel_rfl) (fun hn => ?_) ?_
  · obtain rfl : s = [] := List.map_eq_nil_iff.1 hn
    obtain rfl : [] = r := Option.some.inj ((app_eq (by simp [LIM])).symm.trans h)
    refine evs_endS (by kernel_rfl) (fun τ hτ => ?_)
    refine th_normalS hτ ⟨[(0, .sl (List.map cI [])), (4, vB true)], []⟩ (here (by kernel_rfl)) ?_
    refine sem_condT (by kernel_rfl) (by kernel_rfl) ?_
    refine sem_seq (by kernel_rfl) ?_
    refine sem_region (by kernel_rfl) ?_
    refine evs_run 1 (by kernel_rfl) ?_
    refine evs_endS (by kernel_rfl) (fun τ hτ => ?_)
    refine th_normalS hτ ⟨[(2, .row (.top 2) 3)], [(2, .row 3 [] (List.map cI []))]⟩ (here (by kernel_rfl)) ?_
    refine sem_retS (by kernel_rfl) (fun τ hτ => ?_)
    refine th_ret ?_
    exact rk_ret hτ [(2, .row (.top 0) 3)] (subR_of [(2, 0)] rfl rfl (by kernel_rfl)) (by kernel_rfl)
  · refine evs_endS (by kernel_rfl) (fun τ hτ => ?_)
    refine th_normalS hτ ⟨[(0, .sl (List.map cI s)), (4, vB false)], []⟩ (here (by kernel_rfl)) ?_
    refine sem_condF (by kernel_rfl) (by kernel_rfl) ?_
    refine sem_skipS (by kernel_rfl) (fun τ hτ => ?_)
    refine th_normalS hτ ⟨[(0, .sl (List.map cI s))], []⟩ (here (by kernel_rfl)) ?_
    refine sem_seq (by kernel_rfl) ?_
    refine sem_region (by kernel_rfl) ?_
    refine evs_at (at_build (es := List.map cI []) (e := 3) (d := 5) (by kernel_rfl)) ?_
    refine evs_run 1 (by kernel_rfl) ?_
    refine evs_op (st_app (c := cI) (l := []) (l2 := s) (x := .sl (List.map cI s)) (g := 5) (e := 3) (sz := 1) (d := 7) (by kernel_rfl) (by kernel_rfl) (by kernel_rfl) (by kernel_rfl) (fun _ => rfl) rfl h) ?_
    refine evs_run 1 (by kernel_rfl) ?_
    refine evs_endS (by kernel_rfl) (fun τ hτ => ?_)
    refine th_normalS hτ ⟨[(2, .row (.top 5) 3)], [(5, .row 3 [] (List.map cI r))]⟩ (here (by kernel_rfl)) ?_
    refine sem_retS (by kernel_rfl) (fun τ hτ => ?_)
    exact rk_ret hτ [(2, .row (.top 0) 3)] (subR_of [(5, 0)] rfl rfl (by kernel_rfl)) (by kernel_rfl)
theorem W.setup_join_ok {jobs : (List (List (List Int)))} {order : (List Int)} {r : (List (List Int))} (h : setup_join jobs order = some r) : PC G.P 58 [(.sl (List.map (cS (cS cI)) jobs)), (.sl (List.map cI order))] [] (.row (.top 0) 38) [(0, .row 38 [(0, 3)] (List.map (cS cI) r))] := by
  refine pc_of G (fn := Try.f58) Try.func58 (by kernel_rfl) (by kernel_rfl) (by kernel_rfl) (by kernel_rfl) (by kernel_rfl) ?_
  refine sem_set ⟨[(0, (.sl (List.map (cS (cS cI)) jobs))), (1, (.sl (List.map cI order)))], []⟩ (by kernel_rfl) ?_
  refine sem_seq (by kernel_rfl) ?_
  refine sem_region (by kernel_rfl) ?_
  refine evs_run 1 (by kernel_rfl) ?_
  refine evs_endS (by kernel_rfl) (fun τ hτ => ?_)
  refine th_normalS hτ ⟨[(0, (.sl (List.map (cS (cS cI)) jobs))), (1, (.sl (List.map cI order)))], []⟩ (here (by kernel_rfl)) ?_
  refine sem_seq (by kernel_rfl) ?_
  refine sem_region (by kernel_rfl) ?_
  refine evs_run 1 (by kernel_rfl) ?_
  refine evs_endS (by kernel_rfl) (fun τ hτ => ?_)
  refine th_normalS hτ ⟨[(0, (.sl (List.map (cS (cS cI)) jobs))), (1, (.sl (List.map cI order))), (5, (.row (.top 5) 38))], [(5, .row 38 [] (List.map (cS cI) []))]⟩ (here (by kernel_rfl)) ?_
  refine sem_seq (by kernel_rfl) ?_
  refine sem_seq (by kernel_rfl) ?_
  refine sem_region (by kernel_rfl) ?_
  refine evs_run 1 (by kernel_rfl) ?_
  refine evs_op (st_len (c := cI) (l := order) (x := (.sl (List.map cI order))) (by kernel_rfl) (by kernel_rfl)) ?_
  refine evs_run 1 (by kernel_rfl) ?_
  refine evs_endS (by kernel_rfl) (fun τ hτ => ?_)
  refine th_normalS hτ ⟨[(0, (.sl (List.map (cS (cS cI)) jobs))), (5, (.row (.top 5) 38)), (10, (.sl (List.map cI order))), (11, (vI (order.length : Int))), (12, (vI 0))], [(5, .row 38 [] (List.map (cS cI) []))]⟩ (here (by kernel_rfl)) ?_
  refine sem_block (by kernel_rfl) ?_
  obtain ⟨x522, hx522, h⟩ := bindS h
  refine sem_loopS (fun (s349 : Int × (List (List Int))) => ⟨[(0, (.sl (List.map (cS (cS cI)) jobs))), (5, (.row (.top 500000) 38)), (10, (.sl (List.map cI order))), (11, (vI (order.length : Int))), (12, (vI s349.1))], [(500000, .row 38 [(0, 3)] (List.map (cS cI) s349.2))]⟩) (fun (x522 : (List (List Int))) => (.exit 0, ⟨[(5, (.row (.top 500000) 38))], [(500000, .row 38 [(0, 3)] (List.map (cS cI) x522))]⟩)) (setup_join_l2 jobs order) (0, []) x522 (by kernel_rfl) (subR_prep [.jrow 5 [(0, 3)]] [(5, 500000)] (by kernel_rfl) rfl rfl (by kernel_rfl)) hx522 ?_ ?_ ?_
  · intro s349 r h
    refine sem_seq (by kernel_rfl) ?_
    refine sem_region (by kernel_rfl) ?_
    refine evs_run 1 (by kernel_rfl) ?_
    refine evs_endS (by kernel_rfl) (fun τ hτ => ?_)
    refine th_normalS hτ ⟨[(0, (.sl (List.map (cS (cS cI)) jobs))), (5, (.row (.top 500000) 38)), (10, (.sl (List.map cI order))), (11, (vI (order.length : Int))), (12, (vI s349.1)), (13, (vB (decide (s349.1 < (order.length : Int)))))], [(500000, .row 38 [(0, 3)] (List.map (cS cI) s349.2))]⟩ (here (by kernel_rfl)) ?_
    refine sem_seq (by kernel_rfl) ?_
    refine sem_cond (decide (s349.1 < (order.length : Int))) (by kernel_rfl) (by kernel_rfl) (fun hb => ?_) (fun hb => ?_)
    · replace h := iteT hb h
      refine sem_skipS (by kernel_rfl) (fun τ hτ => ?_)
      refine th_normalS hτ ⟨[(0, (.sl (List.map (cS (cS cI)) jobs))), (5, (.row (.top 500000) 38)), (10, (.sl (List.map cI order))), (11, (vI (order.length : Int))), (12, (vI s349.1))], [(500000, .row 38 [(0, 3)] (List.map (cS cI) s349.2))]⟩ (here (by kernel_rfl)) ?_
      refine sem_seq (by kernel_rfl) ?_
      refine sem_block (by kernel_rfl) ?_
      refine sem_seq (by kernel_rfl) ?_
      refine sem_region (by kernel_rfl) ?_
      obtain ⟨x480, hx480, h⟩ := bindS h
      refine evs_op (st_idx (c := cI) (l := order) (i := s349.1) (kd := .i64) (sz := 1) (by kernel_rfl) hx480 rfl) ?_
      refine evs_run 2 (by kernel_rfl) ?_
      refine evs_endS (by kernel_rfl) (fun τ hτ => ?_)
      refine th_normalS hτ ⟨[(0, (.sl (List.map (cS (cS cI)) jobs))), (5, (.row (.top 500000) 38)), (7, (vI x480)), (10, (.sl (List.map cI order))), (11, (vI (order.length : Int))), (12, (vI s349.1))], [(500000, .row 38 [(0, 3)] (List.map (cS cI) s349.2))]⟩ (here (by kernel_rfl)) ?_
      refine sem_seq (by kernel_rfl) ?_
      refine sem_region (by kernel_rfl) ?_
      refine evs_run 2 (by kernel_rfl) ?_
      obtain ⟨x482, hx482, h⟩ := bindS h
      refine evs_op (st_idx (c := (cS (cS cI))) (l := jobs) (i := x480) (kd := .i64) (sz := 1) (by kernel_rfl) hx482 rfl) ?_
      refine evs_run 1 (by kernel_rfl) ?_
      refine evs_op (st_len (c := (cS cI)) (l := x482) (x := (.sl (List.map (cS cI) x482))) (by kernel_rfl) (by kernel_rfl)) ?_
      refine evs_run 1 (by kernel_rfl) ?_
      refine evs_endS (by kernel_rfl) (fun τ hτ => ?_)
      refine th_normalS hτ ⟨[(0, (.sl (List.map (cS (cS cI)) jobs))), (5, (.row (.top 500000) 38)), (10, (.sl (List.map cI order))), (11, (vI (order.length : Int))), (12, (vI s349.1)), (19, (.sl (List.map (cS cI) x482))), (20, (vI (x482.length : Int))), (21, (vI 0))], [(500000, .row 38 [(0, 3)] (List.map (cS cI) s349.2))]⟩ (here (by kernel_rfl)) ?_
      refine sem_block (by kernel_rfl) ?_
      obtain ⟨x521, hx521, h⟩ := bindS h
      refine sem_loopS (fun (s496 : Int × (List (List Int))) => ⟨[(0, (.sl (List.map (cS (cS cI)) jobs))), (5, (.row (.top 500000) 38)), (10, (.sl (List.map cI order))), (11, (vI (order.length : Int))), (12, (vI s349.1)), (19, (.sl (List.map (cS cI) x482))), (20, (vI (x482.length : Int))), (21, (vI s496.1))], [(500000, .row 38 [(0, 3)] (List.map (cS cI) s496.2))]⟩) (fun (x521 : (List (List Int))) => (.exit 2, ⟨[(0, (.sl (List.map (cS (cS cI)) jobs))), (5, (.row (.top 500000) 38)), (10, (.sl (List.map cI order))), (11, (vI (order.length : Int))), (12, (vI s349.1))], [(500000, .row 38 [(0, 3)] (List.map (cS cI) x521))]⟩)) (setup_join_l1 x482) (0, s349.2) x521 (by kernel_rfl) (here (by kernel_rfl)) hx521 ?_ ?_ ?_
      · intro s496 r h
        refine sem_seq (by kernel_rfl) ?_
        refine sem_region (by kernel_rfl) ?_
        refine evs_run 1 (by kernel_rfl) ?_
        refine evs_endS (by kernel_rfl) (fun τ hτ => ?_)
        refine th_normalS hτ ⟨[(0, (.sl (List.map (cS (cS cI)) jobs))), (5, (.row (.top 500000) 38)), (10, (.sl (List.map cI order))), (11, (vI (order.length : Int))), (12, (vI s349.1)), (19, (.sl (List.map (cS cI) x482))), (20, (vI (x482.length : Int))), (21, (vI s496.1)), (22, (vB (decide (s496.1 < (x482.length : Int)))))], [(500000, .row 38 [(0, 3)] (List.map (cS cI) s496.2))]⟩ (here (by kernel_rfl)) ?_
        refine sem_seq (by kernel_rfl) ?_
        refine sem_cond (decide (s496.1 < (x482.length : Int))) (by kernel_rfl) (by kernel_rfl) (fun hb => ?_) (fun hb => ?_)
        · replace h := iteT hb h
          refine sem_skipS (by kernel_rfl) (fun τ hτ => ?_)
          refine th_normalS hτ ⟨[(0, (.sl (List.map (cS (cS cI)) jobs))), (5, (.row (.top 500000) 38)), (10, (.sl (List.map cI order))), (11, (vI (order.length : Int))), (12, (vI s349.1)), (19, (.sl (List.map (cS cI) x482))), (20, (vI (x482.length : Int))), (21, (vI s496.1))], [(500000, .row 38 [(0, 3)] (List.map (cS cI) s496.2))]⟩ (here (by kernel_rfl)) ?_
          refine sem_seq (by kernel_rfl) ?_
          refine sem_block (by kernel_rfl) ?_
          refine sem_seq (by kernel_rfl) ?_
          refine sem_region (by kernel_rfl) ?_
          obtain ⟨x516, hx516, h⟩ := bindS h
          refine evs_op (st_idx (c := (cS cI)) (l := x482) (i := s496.1) (kd := .i64) (sz := 1) (by kernel_rfl) hx516 rfl) ?_
          refine evs_run 2 (by kernel_rfl) ?_
          refine evs_endS (by kernel_rfl) (fun τ hτ => ?_)
          refine th_normalS hτ ⟨[(0, (.sl (List.map (cS (cS cI)) jobs))), (5, (.row (.top 500000) 38)), (9, (.sl (List.map cI x516))), (10, (.sl (List.map cI order))), (11, (vI (order.length : Int))), (12, (vI s349.1)), (19, (.sl (List.map (cS cI) x482))), (20, (vI (x482.length : Int))), (21, (vI s496.1))], [(500000, .row 38 [(0, 3)] (List.map (cS cI) s496.2))]⟩ (here (by kernel_rfl)) ?_
          refine sem_region (by kernel_rfl) ?_
          refine evs_run 2 (by kernel_rfl) ?_
          obtain ⟨r519, hr519, h⟩ := bindS h
          refine evs_callS [] [(0, 700100)] [] (by kernel_rfl) (W.slices_Clone_Lint_int_ok hr519) (by kernel_rfl) (by kernel_rfl) (.inl rfl) ?_
          refine evs_at (at_buildJ (c := (cS cI)) (c2 := cI) (e := 38) (e' := 3) (d := 700100) (T := 28) (l := r519) (x := r519) (by kernel_rfl) (by kernel_rfl) (by kernel_rfl) rfl) ?_
          obtain ⟨l520, hl520, h⟩ := bindS h
          refine evs_at (at_appJ (c := (cS cI)) (l := s496.2) (l2 := [r519]) (g := 500000) (T := 28) (e := 38) (J := [(0, 3)]) (sz := 1) (d := 29) (by kernel_rfl) (by kernel_rfl) (by kernel_rfl) (by kernel_rfl) hl520) ?_
          refine evs_run 1 (by kernel_rfl) ?_
          refine evs_endS (by kernel_rfl) (fun τ hτ => ?_)
          refine bl_normal ?_
          refine th_normalS hτ ⟨[(0, (.sl (List.map (cS (cS cI)) jobs))), (5, (.row (.top 500000) 38)), (10, (.sl (List.map cI order))), (11, (vI (order.length : Int))), (12, (vI s349.1)), (19, (.sl (List.map (cS cI) x482))), (20, (vI (x482.length : Int))), (21, (vI s496.1))], [(500000, .row 38 [(0, 3)] (List.map (cS cI) l520))]⟩ (here (by kernel_rfl)) ?_
          refine sem_region (by kernel_rfl) ?_
          refine evs_run 2 (by kernel_rfl) ?_
          refine evs_endS (by kernel_rfl) (fun τ hτ => ?_)
          obtain rfl := Option.some.inj h
          exact lk_nextS hτ (here (by kernel_rfl))
        · replace h := iteF hb h
          refine sem_exitS 2 (by kernel_rfl) rfl (fun τ hτ => ?_)
          refine th_exit ?_
          obtain rfl := Option.some.inj h
          exact lk_outS hτ rfl (here (by kernel_rfl))
      · intro x
        rfl
      · intro τ hτ
        refine bl_hit (by kernel_rfl) ?_
        refine bl_normal ?_
        refine th_normalS hτ ⟨[(0, (.sl (List.map (cS (cS cI)) jobs))), (5, (.row (.top 500000) 38)), (10, (.sl (List.map cI order))), (11, (vI (order.length : Int))), (12, (vI s349.1))], [(500000, .row 38 [(0, 3)] (List.map (cS cI) x521))]⟩ (here (by kernel_rfl)) ?_
        refine sem_region (by kernel_rfl) ?_
        refine evs_run 2 (by kernel_rfl) ?_
        refine evs_endS (by kernel_rfl) (fun τ hτ => ?_)
        obtain rfl := Option.some.inj h
        exact lk_nextS hτ (here (by kernel_rfl))
    · replace h := iteF hb h
      refine sem_exitS 0 (by kernel_rfl) rfl (fun τ hτ => ?_)
      refine th_exit ?_
      obtain rfl := Option.some.inj h
      exact lk_outS hτ rfl (here (by kernel_rfl))
  · intro x
    rfl
  · intro τ hτ
    refine bl_hit (by kernel_rfl) ?_
    refine th_normalS hτ ⟨[(5, (.row (.top 500000) 38))], [(500000, .row 38 [(0, 3)] (List.map (cS cI) x522))]⟩ (here (by kernel_rfl)) ?_
    refine sem_seq (by kernel_rfl) ?_
    refine sem_region (by kernel_rfl) ?_
    refine evs_run 2 (by kernel_rfl) ?_
    refine evs_endS (by kernel_rfl) (fun τ hτ => ?_)
    refine th_normalS hτ ⟨[(4, (.row (.top 500000) 38))], [(500000, .row 38 [(0, 3)] (List.map (cS cI) x522))]⟩ (here (by kernel_rfl)) ?_
    refine sem_retS (by kernel_rfl) (fun τ hτ => ?_)
    obtain rfl := Option.some.inj h
    exact rk_ret hτ [(4, (.row (.top 0) 38))] (subR_prep [] [(500000, 0)] (by kernel_rfl) rfl rfl (by kernel_rfl)) (by kernel_rfl)
theorem W.setup_Join_ok {jobs : (List (List (List Int)))} {order : (List Int)} {r : (List (List Int)) × Int} (h : setup_Join jobs order = some r) : PC G.P 28 [(.sl (List.map (cS (cS cI)) jobs)), (.sl (List.map cI order))] [] (.tup [(.row (.top 0) 38), (vI r.2)]) [(0, .row 38 [(0, 3)] (List.map (cS cI) r.1))] := by
  refine pc_of G (fn := Try.f28) Try.func28 (by kernel_rfl) (by kernel_rfl) (by kernel_rfl) (by kernel_rfl) (by kernel_rfl) ?_
  refine sem_set ⟨[(0, (.sl (List.map (cS (cS cI)) jobs))), (1, (.sl (List.map cI order)))], []⟩ (by kernel_rfl) ?_
  refine sem_seq (by kernel_rfl) ?_
  refine sem_region (by kernel_rfl) ?_
  refine evs_run 2 (by kernel_rfl) ?_
  refine evs_endS (by kernel_rfl) (fun τ hτ => ?_)
  refine th_normalS hτ ⟨[(0, (.sl (List.map (cS (cS cI)) jobs))), (1, (.sl (List.map cI order)))], []⟩ (here (by kernel_rfl)) ?_
  refine sem_seq (by kernel_rfl) ?_
  refine sem_seq (by kernel_rfl) ?_
  refine sem_region (by kernel_rfl) ?_
  refine evs_run 1 (by kernel_rfl) ?_
  obtain ⟨r4, hr4, h⟩ := bindS h
  refine evs_callS [] [] [] (by kernel_rfl) (W.setup_checkJobs_ok hr4) (by kernel_rfl) (by kernel_rfl) (.inl rfl) ?_
  refine evs_run 1 (by kernel_rfl) ?_
  refine evs_endS (by kernel_rfl) (fun τ hτ => ?_)
  refine th_normalS hτ ⟨[(0, (.sl (List.map (cS (cS cI)) jobs))), (1, (.sl (List.map cI order))), (6, (vI r4))], []⟩ (here (by kernel_rfl)) ?_
  refine sem_seq (by kernel_rfl) ?_
  refine sem_region (by kernel_rfl) ?_
  refine evs_run 2 (by kernel_rfl) ?_
  refine evs_endS (by kernel_rfl) (fun τ hτ => ?_)
  refine th_normalS hτ ⟨[(0, (.sl (List.map (cS (cS cI)) jobs))), (1, (.sl (List.map cI order))), (6, (vI r4)), (10, (vB (r4 != 0)))], []⟩ (here (by kernel_rfl)) ?_
  refine sem_cond (r4 != 0) (by kernel_rfl) (by kernel_rfl) (fun hb => ?_) (fun hb => ?_)
  · replace h := iteT hb h
    refine sem_seq (by kernel_rfl) ?_
    refine sem_region (by kernel_rfl) ?_
    refine evs_run 3 (by kernel_rfl) ?_
    refine evs_endS (by kernel_rfl) (fun τ hτ => ?_)
    refine th_normalS hτ ⟨[(4, (.row (.top 4) 38)), (5, (vI r4))], [(4, .row 38 [] (List.map (cS cI) []))]⟩ (here (by kernel_rfl)) ?_
    refine sem_retS (by kernel_rfl) (fun τ hτ => ?_)
    refine th_ret ?_
    obtain rfl := Option.some.inj h
    exact rk_ret hτ [(4, (.row (.top 0) 38)), (5, (vI r4))] (subR_prep [.jrow 4 [(0, 3)]] [(4, 0)] (by kernel_rfl) rfl rfl (by kernel_rfl)) (by kernel_rfl)
  · replace h := iteF hb h
    refine sem_skipS (by kernel_rfl) (fun τ hτ => ?_)
    refine th_normalS hτ ⟨[(0, (.sl (List.map (cS (cS cI)) jobs))), (1, (.sl (List.map cI order)))], []⟩ (here (by kernel_rfl)) ?_
    refine sem_seq (by kernel_rfl) ?_
    refine sem_seq (by kernel_rfl) ?_
    refine sem_region (by kernel_rfl) ?_
    refine evs_run 2 (by kernel_rfl) ?_
    refine evs_op (st_len (c := (cS (cS cI))) (l := jobs) (x := (.sl (List.map (cS (cS cI)) jobs))) (by kernel_rfl) (by kernel_rfl)) ?_
    obtain ⟨r8, hr8, h⟩ := bindS h
    refine evs_callS [] [] [] (by kernel_rfl) (W.setup_isPermutation_ok hr8) (by kernel_rfl) (by kernel_rfl) (.inl rfl) ?_
    refine evs_run 1 (by kernel_rfl) ?_
    refine evs_endS (by kernel_rfl) (fun τ hτ => ?_)
    refine th_normalS hτ ⟨[(0, (.sl (List.map (cS (cS cI)) jobs))), (1, (.sl (List.map cI order))), (16, (vB (!r8)))], []⟩ (here (by kernel_rfl)) ?_
    refine sem_cond (!r8) (by kernel_rfl) (by kernel_rfl) (fun hb => ?_) (fun hb => ?_)
    · replace h := iteT hb h
      refine sem_seq (by kernel_rfl) ?_
      refine sem_region (by kernel_rfl) ?_
      refine evs_run 2 (by kernel_rfl) ?_
      refine evs_endS (by kernel_rfl) (fun τ hτ => ?_)
      refine th_normalS hτ ⟨[(4, (.row (.top 4) 38)), (5, (vI 1))], [(4, .row 38 [] (List.map (cS cI) []))]⟩ (here (by kernel_rfl)) ?_
      refine sem_retS (by kernel_rfl) (fun τ hτ => ?_)
      refine th_ret ?_
      obtain rfl := Option.some.inj h
      exact rk_ret hτ [(4, (.row (.top 0) 38)), (5, (vI 1))] (subR_prep [.jrow 4 [(0, 3)]] [(4, 0)] (by kernel_rfl) rfl rfl (by kernel_rfl)) (by kernel_rfl)
    · replace h := iteF hb h
      refine sem_skipS (by kernel_rfl) (fun τ hτ => ?_)
      refine th_normalS hτ ⟨[(0, (.sl (List.map (cS (cS cI)) jobs))), (1, (.sl (List.map cI order)))], []⟩ (here (by kernel_rfl)) ?_
      refine sem_seq (by kernel_rfl) ?_
      refine sem_seq (by kernel_rfl) ?_
      refine sem_region (by kernel_rfl) ?_
      refine evs_run 1 (by kernel_rfl) ?_
      obtain ⟨r12, hr12, h⟩ := bindS h
      refine evs_callS [] [] [] (by kernel_rfl) (W.setup_tooMany_ok hr12) (by kernel_rfl) (by kernel_rfl) (.inl rfl) ?_
      refine evs_endS (by kernel_rfl) (fun τ hτ => ?_)
      refine th_normalS hτ ⟨[(0, (.sl (List.map (cS (cS cI)) jobs))), (1, (.sl (List.map cI order))), (18, (vB r12))], []⟩ (here (by kernel_rfl)) ?_
      refine sem_cond r12 (by kernel_rfl) (by kernel_rfl) (fun hb => ?_) (fun hb => ?_)
      · replace h := iteT hb h
        refine sem_seq (by kernel_rfl) ?_
        refine sem_region (by kernel_rfl) ?_
        refine evs_run 2 (by kernel_rfl) ?_
        refine evs_endS (by kernel_rfl) (fun τ hτ => ?_)
        refine th_normalS hτ ⟨[(4, (.row (.top 4) 38)), (5, (vI 4))], [(4, .row 38 [] (List.map (cS cI) []))]⟩ (here (by kernel_rfl)) ?_
        refine sem_retS (by kernel_rfl) (fun τ hτ => ?_)
        refine th_ret ?_
        obtain rfl := Option.some.inj h
        exact rk_ret hτ [(4, (.row (.top 0) 38)), (5, (vI 4))] (subR_prep [.jrow 4 [(0, 3)]] [(4, 0)] (by kernel_rfl) rfl rfl (by kernel_rfl)) (by kernel_rfl)
      · replace h := iteF hb h
        refine sem_skipS (by kernel_rfl) (fun τ hτ => ?_)
        refine th_normalS hτ ⟨[(0, (.sl (List.map (cS (cS cI)) jobs))), (1, (.sl (List.map cI order)))], []⟩ (here (by kernel_rfl)) ?_
        refine sem_seq (by kernel_rfl) ?_
        refine sem_region (by kernel_rfl) ?_
        refine evs_run 2 (by kernel_rfl) ?_
        obtain ⟨r14, hr14, h⟩ := bindS h
        refine evs_callS [] [(0, 700100)] [] (by kernel_rfl) (W.setup_join_ok hr14) (by kernel_rfl) (by kernel_rfl) (.inl rfl) ?_
        refine evs_run 2 (by kernel_rfl) ?_
        refine evs_endS (by kernel_rfl) (fun τ hτ => ?_)
        refine th_normalS hτ ⟨[(4, (.row (.top 700100) 38)), (5, (vI 0))], [(700100, .row 38 [(0, 3)] (List.map (cS cI) r14))]⟩ (here (by kernel_rfl)) ?_
        refine sem_retS (by kernel_rfl) (fun τ hτ => ?_)
        obtain rfl := Option.some.inj h
        exact rk_ret hτ [(4, (.row (.top 0) 38)), (5, (vI 0))] (subR_prep [] [(700100, 0)] (by kernel_rfl) rfl rfl (by kernel_rfl)) (by kernel_rfl)
theorem W.sheetmetalref05_jobsError_ok {jobs : (List (List (List Int)))} {r : Int} (h : sheetmetalref05_jobsError jobs = some r) : PC G.P 59 [(.sl (List.map (cS (cS cI)) jobs))] [] (vI r) [] := by
  refine pc_of G (fn := Try.f59) Try.func59 (by kernel_rfl) (by kernel_rfl) (by kernel_rfl) (by kernel_rfl) (by kernel_rfl) ?_
  refine sem_set ⟨[(0, (.sl (List.map (cS (cS cI)) jobs)))], []⟩ (by kernel_rfl) ?_
  refine sem_seq (by kernel_rfl) ?_
  refine sem_region (by kernel_rfl) ?_
  refine evs_run 1 (by kernel_rfl) ?_
  refine evs_endS (by kernel_rfl) (fun τ hτ => ?_)
  refine th_normalS hτ ⟨[(0, (.sl (List.map (cS (cS cI)) jobs)))], []⟩ (here (by kernel_rfl)) ?_
  refine sem_seq (by kernel_rfl) ?_
  refine sem_seq (by kernel_rfl) ?_
  refine sem_region (by kernel_rfl) ?_
  refine evs_run 1 (by kernel_rfl) ?_
  refine evs_op (st_len (c := (cS (cS cI))) (l := jobs) (x := (.sl (List.map (cS (cS cI)) jobs))) (by kernel_rfl) (by kernel_rfl)) ?_
  refine evs_run 1 (by kernel_rfl) ?_
  refine evs_endS (by kernel_rfl) (fun τ hτ => ?_)
  refine th_normalS hτ ⟨[(0, (.sl (List.map (cS (cS cI)) jobs))), (7, (vB (decide ((jobs.length : Int) > 4))))], []⟩ (here (by kernel_rfl)) ?_
  refine sem_cond (decide ((jobs.length : Int) > 4)) (by kernel_rfl) (by kernel_rfl) (fun hb => ?_) (fun hb => ?_)
  · replace h := iteT hb h
    refine sem_seq (by kernel_rfl) ?_
    refine sem_region (by kernel_rfl) ?_
    refine evs_run 1 (by kernel_rfl) ?_
    refine evs_endS (by kernel_rfl) (fun τ hτ => ?_)
    refine th_normalS hτ ⟨[(2, (vI 4))], []⟩ (here (by kernel_rfl)) ?_
    refine sem_retS (by kernel_rfl) (fun τ hτ => ?_)
    refine th_ret ?_
    obtain rfl := Option.some.inj h
    exact rk_ret hτ [(2, (vI 4))] (here (by kernel_rfl)) (by kernel_rfl)
  · replace h := iteF hb h
    refine sem_skipS (by kernel_rfl) (fun τ hτ => ?_)
    refine th_normalS hτ ⟨[(0, (.sl (List.map (cS (cS cI)) jobs)))], []⟩ (here (by kernel_rfl)) ?_
    refine sem_seq (by kernel_rfl) ?_
    refine sem_seq (by kernel_rfl) ?_
    refine sem_region (by kernel_rfl) ?_
    refine evs_run 1 (by kernel_rfl) ?_
    refine evs_endS (by kernel_rfl) (fun τ hτ => ?_)
    refine th_normalS hτ ⟨[(0, (.sl (List.map (cS (cS cI)) jobs))), (3, (vI 0))], []⟩ (here (by kernel_rfl)) ?_
    refine sem_block (by kernel_rfl) ?_
    obtain ⟨x56, hx56, h⟩ := bindS h
    refine sem_loopS (fun (s39 : Int) => ⟨[(0, (.sl (List.map (cS (cS cI)) jobs))), (3, (vI s39))], []⟩) (fun (x56 : Int ⊕ Unit) => match x56 with | .inl j57 => (.ret, ⟨[(2, (vI j57))], []⟩) | .inr j58 => (.exit 0, ⟨[], []⟩)) (sheetmetalref05_jobsError_l1 jobs) 0 x56 (by kernel_rfl) (here (by kernel_rfl)) hx56 ?_ ?_ ?_
    · intro s39 r h
      refine sem_seq (by kernel_rfl) ?_
      refine sem_seq (by kernel_rfl) ?_
      refine sem_region (by kernel_rfl) ?_
      refine evs_run 2 (by kernel_rfl) ?_
      refine evs_op (st_len (c := (cS (cS cI))) (l := jobs) (x := (.sl (List.map (cS (cS cI)) jobs))) (by kernel_rfl) (by kernel_rfl)) ?_
      refine evs_run 1 (by kernel_rfl) ?_
      refine evs_endS (by kernel_rfl) (fun τ hτ => ?_)
      refine th_normalS hτ ⟨[(0, (.sl (List.map (cS (cS cI)) jobs))), (3, (vI s39)), (11, (vB (decide (s39 < (jobs.length : Int)))))], []⟩ (here (by kernel_rfl)) ?_
      refine sem_cond (decide (s39 < (jobs.length : Int))) (by kernel_rfl) (by kernel_rfl) (fun hb => ?_) (fun hb => ?_)
      · replace h := iteT hb h
        refine sem_skipS (by kernel_rfl) (fun τ hτ => ?_)
        refine th_normalS hτ ⟨[(0, (.sl (List.map (cS (cS cI)) jobs))), (3, (vI s39))], []⟩ (here (by kernel_rfl)) ?_
        refine sem_seq (by kernel_rfl) ?_
        refine sem_block (by kernel_rfl) ?_
        refine sem_seq (by kernel_rfl) ?_
        refine sem_region (by kernel_rfl) ?_
        refine evs_run 2 (by kernel_rfl) ?_
        obtain ⟨x54, hx54, h⟩ := bindS h
        refine evs_op (st_idx (c := (cS (cS cI))) (l := jobs) (i := s39) (kd := .i64) (sz := 1) (by kernel_rfl) hx54 rfl) ?_
        refine evs_run 1 (by kernel_rfl) ?_
        obtain ⟨r55, hr55, h⟩ := bindS h
        refine evs_callS [] [] [] (by kernel_rfl) (W.sheetmetalref05_Validate_ok hr55) (by kernel_rfl) (by kernel_rfl) (.inl rfl) ?_
        refine evs_run 1 (by kernel_rfl) ?_
        refine evs_endS (by kernel_rfl) (fun τ hτ => ?_)
        refine th_normalS hτ ⟨[(0, (.sl (List.map (cS (cS cI)) jobs))), (3, (vI s39)), (4, (vI r55))], []⟩ (here (by kernel_rfl)) ?_
        refine sem_seq (by kernel_rfl) ?_
        refine sem_region (by kernel_rfl) ?_
        refine evs_run 2 (by kernel_rfl) ?_
        refine evs_endS (by kernel_rfl) (fun τ hτ => ?_)
        refine th_normalS hτ ⟨[(0, (.sl (List.map (cS (cS cI)) jobs))), (3, (vI s39)), (4, (vI r55)), (20, (vB (r55 != 0)))], []⟩ (here (by kernel_rfl)) ?_
        refine sem_cond (r55 != 0) (by kernel_rfl) (by kernel_rfl) (fun hb => ?_) (fun hb => ?_)
        · replace h := iteT hb h
          refine sem_seq (by kernel_rfl) ?_
          refine sem_region (by kernel_rfl) ?_
          refine evs_run 2 (by kernel_rfl) ?_
          refine evs_endS (by kernel_rfl) (fun τ hτ => ?_)
          refine th_normalS hτ ⟨[(2, (vI r55))], []⟩ (here (by kernel_rfl)) ?_
          refine sem_retS (by kernel_rfl) (fun τ hτ => ?_)
          refine bl_ret ?_
          refine th_ret ?_
          obtain rfl := Option.some.inj h
          exact lk_outS hτ rfl (here (by kernel_rfl))
        · replace h := iteF hb h
          refine sem_skipS (by kernel_rfl) (fun τ hτ => ?_)
          refine bl_normal ?_
          refine th_normalS hτ ⟨[(0, (.sl (List.map (cS (cS cI)) jobs))), (3, (vI s39))], []⟩ (here (by kernel_rfl)) ?_
          refine sem_region (by kernel_rfl) ?_
          refine evs_run 3 (by kernel_rfl) ?_
          refine evs_endS (by kernel_rfl) (fun τ hτ => ?_)
          obtain rfl := Option.some.inj h
          exact lk_nextS hτ (here (by kernel_rfl))
      · replace h := iteF hb h
        refine sem_exitS 0 (by kernel_rfl) rfl (fun τ hτ => ?_)
        refine th_exit ?_
        obtain rfl := Option.some.inj h
        exact lk_outS hτ rfl (here (by kernel_rfl))
    · intro x
      rcases x with _ | _ <;> rfl
    · intro τ hτ
      rcases x56 with j57 | j58
      · refine bl_ret ?_
        refine th_ret ?_
        obtain rfl := Option.some.inj h
        exact rk_ret hτ [(2, (vI j57))] (here (by kernel_rfl)) (by kernel_rfl)
      · refine bl_hit (by kernel_rfl) ?_
        refine th_normalS hτ ⟨[], []⟩ (here (by kernel_rfl)) ?_
        refine sem_seq (by kernel_rfl) ?_
        refine sem_region (by kernel_rfl) ?_
        refine evs_run 1 (by kernel_rfl) ?_
        refine evs_endS (by kernel_rfl) (fun τ hτ => ?_)
        refine th_normalS hτ ⟨[(2, (vI 0))], []⟩ (here (by kernel_rfl)) ?_
        refine sem_retS (by kernel_rfl) (fun τ hτ => ?_)
        obtain rfl := Option.some.inj h
        exact rk_ret hτ [(2, (vI 0))] (here (by kernel_rfl)) (by kernel_rfl)
theorem W.sheetmetalref05_permutation_ok {order : (List Int)} {n : Int} {r : Bool} (h : sheetmetalref05_permutation order n = some r) : PC G.P 60 [(.sl (List.map cI order)), (vI n)] [] (vB r) [] := by
  refine pc_of G (fn := Try.f60) Try.func60 (by kernel_rfl) (by kernel_rfl) (by kernel_rfl) (by kernel_rfl) (by kernel_rfl) ?_
  refine sem_set ⟨[(0, (.sl (List.map cI order))), (1, (vI n))], []⟩ (by kernel_rfl) ?_
  refine sem_seq (by kernel_rfl) ?_
  refine sem_region (by kernel_rfl) ?_
  refine evs_run 1 (by kernel_rfl) ?_
  refine evs_endS (by kernel_rfl) (fun τ hτ => ?_)
  refine th_normalS hτ ⟨[(0, (.sl (List.map cI order))), (1, (vI n))], []⟩ (here (by kernel_rfl)) ?_
  refine sem_seq (by kernel_rfl) ?_
  refine sem_seq (by kernel_rfl) ?_
  refine sem_region (by kernel_rfl) ?_
  refine evs_run 1 (by kernel_rfl) ?_
  refine evs_op (st_len (c := cI) (l := order) (x := (.sl (List.map cI order))) (by kernel_rfl) (by kernel_rfl)) ?_
  refine evs_run 2 (by kernel_rfl) ?_
  refine evs_endS (by kernel_rfl) (fun τ hτ => ?_)
  refine th_normalS hτ ⟨[(0, (.sl (List.map cI order))), (1, (vI n)), (10, (vB ((order.length : Int) != n)))], []⟩ (here (by kernel_rfl)) ?_
  refine sem_cond ((order.length : Int) != n) (by kernel_rfl) (by kernel_rfl) (fun hb => ?_) (fun hb => ?_)
  · replace h := iteT hb h
    refine sem_seq (by kernel_rfl) ?_
    refine sem_region (by kernel_rfl) ?_
    refine evs_run 1 (by kernel_rfl) ?_
    refine evs_endS (by kernel_rfl) (fun τ hτ => ?_)
    refine th_normalS hτ ⟨[(4, (vB false))], []⟩ (here (by kernel_rfl)) ?_
    refine sem_retS (by kernel_rfl) (fun τ hτ => ?_)
    refine th_ret ?_
    obtain rfl := Option.some.inj h
    exact rk_ret hτ [(4, (vB false))] (here (by kernel_rfl)) (by kernel_rfl)
  · replace h := iteF hb h
    refine sem_skipS (by kernel_rfl) (fun τ hτ => ?_)
    refine th_normalS hτ ⟨[(0, (.sl (List.map cI order))), (1, (vI n))], []⟩ (here (by kernel_rfl)) ?_
    refine sem_seq (by kernel_rfl) ?_
    refine sem_region (by kernel_rfl) ?_
    refine evs_run 1 (by kernel_rfl) ?_
    obtain ⟨l2, hl2, h⟩ := bindS h
    refine evs_op (st_mk (c := cB) (z := false) (n := n) (e := 4) (d := 12) (zs := [(vB false)]) (k1 := .i64) (k2 := .i64) (by kernel_rfl) rfl hl2) ?_
    refine evs_run 1 (by kernel_rfl) ?_
    refine evs_endS (by kernel_rfl) (fun τ hτ => ?_)
    refine th_normalS hτ ⟨[(0, (.sl (List.map cI order))), (1, (vI n)), (5, (.row (.top 12) 4))], [(12, .row 4 [] (List.map cB l2))]⟩ (here (by kernel_rfl)) ?_
    refine sem_seq (by kernel_rfl) ?_
    refine sem_seq (by kernel_rfl) ?_
    refine sem_region (by kernel_rfl) ?_
    refine evs_run 1 (by kernel_rfl) ?_
    refine evs_endS (by kernel_rfl) (fun τ hτ => ?_)
    refine th_normalS hτ ⟨[(0, (.sl (List.map cI order))), (1, (vI n)), (5, (.row (.top 12) 4)), (6, (vI 0))], [(12, .row 4 [] (List.map cB l2))]⟩ (here (by kernel_rfl)) ?_
    refine sem_block (by kernel_rfl) ?_
    obtain ⟨x274, hx274, h⟩ := bindS h
    refine sem_loopS (fun (s185 : Int × (List Bool)) => ⟨[(0, (.sl (List.map cI order))), (1, (vI n)), (5, (.row (.top 500000) 4)), (6, (vI s185.1))], [(500000, .row 4 [] (List.map cB s185.2))]⟩) (fun (x274 : Unit ⊕ Unit) => match x274 with | .inl j275 => (.ret, ⟨[(4, (vB false))], []⟩) | .inr j276 => (.exit 0, ⟨[], []⟩)) (sheetmetalref05_permutation_l1 order n) (0, l2) x274 (by kernel_rfl) (subR_prep [] [(12, 500000)] (by kernel_rfl) rfl rfl (by kernel_rfl)) hx274 ?_ ?_ ?_
    · intro s185 r h
      refine sem_seq (by kernel_rfl) ?_
      refine sem_seq (by kernel_rfl) ?_
      refine sem_region (by kernel_rfl) ?_
      refine evs_run 3 (by kernel_rfl) ?_
      refine evs_endS (by kernel_rfl) (fun τ hτ => ?_)
      refine th_normalS hτ ⟨[(0, (.sl (List.map cI order))), (1, (vI n)), (5, (.row (.top 500000) 4)), (6, (vI s185.1)), (15, (vB (decide (s185.1 < n))))], [(500000, .row 4 [] (List.map cB s185.2))]⟩ (here (by kernel_rfl)) ?_
      refine sem_cond (decide (s185.1 < n)) (by kernel_rfl) (by kernel_rfl) (fun hb => ?_) (fun hb => ?_)
      · replace h := iteT hb h
        refine sem_skipS (by kernel_rfl) (fun τ hτ => ?_)
        refine th_normalS hτ ⟨[(0, (.sl (List.map cI order))), (1, (vI n)), (5, (.row (.top 500000) 4)), (6, (vI s185.1))], [(500000, .row 4 [] (List.map cB s185.2))]⟩ (here (by kernel_rfl)) ?_
        refine sem_seq (by kernel_rfl) ?_
        refine sem_block (by kernel_rfl) ?_
        refine sem_seq (by kernel_rfl) ?_
        refine sem_seq (by kernel_rfl) ?_
        obtain ⟨j265, hj265, h⟩ := bindS h
        refine sem_regionC ⟨[(0, (.sl (List.map cI order))), (1, (vI n)), (5, (.row (.top 500000) 4)), (6, (vI s185.1)), (34, (vB j265))], [(500000, .row 4 [] (List.map cB s185.2))]⟩ (by kernel_rfl) ?_ (fun τ hτ => ?_)
        · replace h := hj265
          refine evs_run 2 (by kernel_rfl) ?_
          obtain ⟨x266, hx266, h⟩ := bindS h
          refine evs_op (st_idx (c := cI) (l := order) (i := s185.1) (kd := .i64) (sz := 1) (by kernel_rfl) hx266 rfl) ?_
          refine evs_run 3 (by kernel_rfl) ?_
          obtain ⟨r267, hr267, h⟩ := bindS h
          refine evs_callS [] [] [] (by kernel_rfl) (W.sheetmetalref05_within_ok hr267) (by kernel_rfl) (by kernel_rfl) (.inl rfl) ?_
          refine evs_run 2 (by kernel_rfl) ?_
          refine evs_split r267 (fun b0 => ⟨[(0, (.sl (List.map cI order))), (1, (vI n)), (5, (.row (.top 500000) 4)), (6, (vI s185.1)), (26, (vB (!b0)))], [(500000, .row 4 [] (List.map cB s185.2))]⟩) (by kernel_rfl) (fun hb => ?_) (fun hb => ?_)
          · replace h := iteT hb h
            refine evs_run 3 (by kernel_rfl) ?_
            obtain ⟨x268, hx268, h⟩ := bindS h
            refine evs_op (st_idx (c := cI) (l := order) (i := s185.1) (kd := .i64) (sz := 1) (by kernel_rfl) hx268 rfl) ?_
            refine evs_run 1 (by kernel_rfl) ?_
            obtain ⟨x269, hx269, h⟩ := bindS h
            refine evs_op (st_idxO (c := cB) (l := s185.2) (i := x268) (kd := .i64) (kk := (.top 500000)) (e := 4) (sz := 1) (by kernel_rfl) (by kernel_rfl) hx269 rfl) ?_
            refine evs_op (st_ldO (c := cB) (l := s185.2) (i := (Int.toNat x268)) (v := (vB x269)) (agg := false) (sz := 1) (kk := (.top 500000)) (e := 4) (off := 0) (J := []) (by kernel_rfl) (by kernel_rfl) (by kernel_rfl) ((idxS hx269).2) (by kernel_rfl)) ?_
            refine evs_run 1 (by kernel_rfl) ?_
            refine evs_endS (by kernel_rfl) (fun τ hτ => ?_)
            obtain rfl := Option.some.inj h
            exact leafC hτ (here (by kernel_rfl))
          · replace h := iteF hb h
            refine evs_run 8 (by kernel_rfl) ?_
            refine evs_endS (by kernel_rfl) (fun τ hτ => ?_)
            obtain rfl := Option.some.inj h
            exact leafC hτ (here (by kernel_rfl))
        refine th_normalS hτ ⟨[(0, (.sl (List.map cI order))), (1, (vI n)), (5, (.row (.top 500000) 4)), (6, (vI s185.1)), (34, (vB j265))], [(500000, .row 4 [] (List.map cB s185.2))]⟩ (here (by kernel_rfl)) ?_
        refine sem_cond j265 (by kernel_rfl) (by kernel_rfl) (fun hb => ?_) (fun hb => ?_)
        · replace h := iteT hb h
          refine sem_seq (by kernel_rfl) ?_
          refine sem_region (by kernel_rfl) ?_
          refine evs_run 1 (by kernel_rfl) ?_
          refine evs_endS (by kernel_rfl) (fun τ hτ => ?_)
          refine th_normalS hτ ⟨[(4, (vB false))], []⟩ (here (by kernel_rfl)) ?_
          refine sem_retS (by kernel_rfl) (fun τ hτ => ?_)
          refine th_ret ?_
          refine bl_ret ?_
          refine th_ret ?_
          obtain rfl := Option.some.inj h
          exact lk_outS hτ rfl (here (by kernel_rfl))
        · replace h := iteF hb h
          refine sem_skipS (by kernel_rfl) (fun τ hτ => ?_)
          refine th_normalS hτ ⟨[(0, (.sl (List.map cI order))), (1, (vI n)), (5, (.row (.top 500000) 4)), (6, (vI s185.1))], [(500000, .row 4 [] (List.map cB s185.2))]⟩ (here (by kernel_rfl)) ?_
          refine sem_region (by kernel_rfl) ?_
          refine evs_run 3 (by kernel_rfl) ?_
          obtain ⟨x272, hx272, h⟩ := bindS h
          refine evs_op (st_idx (c := cI) (l := order) (i := s185.1) (kd := .i64) (sz := 1) (by kernel_rfl) hx272 rfl) ?_
          refine evs_run 1 (by kernel_rfl) ?_
          obtain ⟨x273, hx273, h⟩ := bindS h
          refine evs_op (st_idxO (c := cB) (l := s185.2) (i := x272) (kd := .i64) (kk := (.top 500000)) (e := 4) (sz := 1) (by kernel_rfl) (by kernel_rfl) hx273 rfl) ?_
          refine evs_op (st_stO (c := cB) (l := s185.2) (i := (Int.toNat x272)) (x := x273) (x' := true) (v := (vB true)) (agg := false) (sz := 1) (kk := (.top 500000)) (e := 4) (off := 0) (J := []) (o := .row 4 [] (List.map cB (List.set s185.2 (Int.toNat x272) true))) (by kernel_rfl) (by kernel_rfl) (by kernel_rfl) ((idxS hx273).2) (by kernel_rfl) (by kernel_rfl) (by kernel_rfl)) ?_
          refine evs_endS (by kernel_rfl) (fun τ hτ => ?_)
          refine bl_normal ?_
          refine th_normalS hτ ⟨[(0, (.sl (List.map cI order))), (1, (vI n)), (5, (.row (.top 500000) 4)), (6, (vI s185.1))], [(500000, .row 4 [] (List.map cB (List.set s185.2 (Int.toNat x272) true)))]⟩ (here (by kernel_rfl)) ?_
          refine sem_region (by kernel_rfl) ?_
          refine evs_run 3 (by kernel_rfl) ?_
          refine evs_endS (by kernel_rfl) (fun τ hτ => ?_)
          obtain rfl := Option.some.inj h
          exact lk_nextS hτ (here (by kernel_rfl))
      · replace h := iteF hb h
        refine sem_exitS 0 (by kernel_rfl) rfl (fun τ hτ => ?_)
        refine th_exit ?_
        obtain rfl := Option.some.inj h
        exact lk_outS hτ rfl (here (by kernel_rfl))
    · intro x
      rcases x with _ | _ <;> rfl
    · intro τ hτ
      rcases x274 with j275 | j276
      · refine bl_ret ?_
        refine th_ret ?_
        obtain rfl := Option.some.inj h
        exact rk_ret hτ [(4, (vB false))] (here (by kernel_rfl)) (by kernel_rfl)
      · refine bl_hit (by kernel_rfl) ?_
        refine th_normalS hτ ⟨[], []⟩ (here (by kernel_rfl)) ?_
        refine sem_seq (by kernel_rfl) ?_
        refine sem_region (by kernel_rfl) ?_
        refine evs_run 1 (by kernel_rfl) ?_
        refine evs_endS (by kernel_rfl) (fun τ hτ => ?_)
        refine th_normalS hτ ⟨[(4, (vB true))], []⟩ (here (by kernel_rfl)) ?_
        refine sem_retS (by kernel_rfl) (fun τ hτ => ?_)
        obtain rfl := Option.some.inj h
        exact rk_ret hτ [(4, (vB true))] (here (by kernel_rfl)) (by kernel_rfl)
theorem W.sheetmetalref05_total_ok {jobs : (List (List (List Int)))} {r : Int} (h : sheetmetalref05_total jobs = some r) : PC G.P 61 [(.sl (List.map (cS (cS cI)) jobs))] [] (vI r) [] := by
  refine pc_of G (fn := Try.f61) Try.func61 (by kernel_rfl) (by kernel_rfl) (by kernel_rfl) (by kernel_rfl) (by kernel_rfl) ?_
  refine sem_set ⟨[(0, (.sl (List.map (cS (cS cI)) jobs)))], []⟩ (by kernel_rfl) ?_
  refine sem_seq (by kernel_rfl) ?_
  refine sem_region (by kernel_rfl) ?_
  refine evs_run 1 (by kernel_rfl) ?_
  refine evs_endS (by kernel_rfl) (fun τ hτ => ?_)
  refine th_normalS hτ ⟨[(0, (.sl (List.map (cS (cS cI)) jobs)))], []⟩ (here (by kernel_rfl)) ?_
  refine sem_seq (by kernel_rfl) ?_
  refine sem_region (by kernel_rfl) ?_
  refine evs_run 1 (by kernel_rfl) ?_
  refine evs_endS (by kernel_rfl) (fun τ hτ => ?_)
  refine th_normalS hτ ⟨[(0, (.sl (List.map (cS (cS cI)) jobs))), (3, (vI 0))], []⟩ (here (by kernel_rfl)) ?_
  refine sem_seq (by kernel_rfl) ?_
  refine sem_seq (by kernel_rfl) ?_
  refine sem_region (by kernel_rfl) ?_
  refine evs_run 1 (by kernel_rfl) ?_
  refine evs_endS (by kernel_rfl) (fun τ hτ => ?_)
  refine th_normalS hτ ⟨[(0, (.sl (List.map (cS (cS cI)) jobs))), (3, (vI 0)), (4, (vI 0))], []⟩ (here (by kernel_rfl)) ?_
  refine sem_block (by kernel_rfl) ?_
  obtain ⟨x30, hx30, h⟩ := bindS h
  refine sem_loopS (fun (s21 : Int × Int) => ⟨[(0, (.sl (List.map (cS (cS cI)) jobs))), (3, (vI s21.1)), (4, (vI s21.2))], []⟩) (fun (x30 : Int) => (.exit 0, ⟨[(3, (vI x30))], []⟩)) (sheetmetalref05_total_l1 jobs) (0, 0) x30 (by kernel_rfl) (here (by kernel_rfl)) hx30 ?_ ?_ ?_
  · intro s21 r h
    refine sem_seq (by kernel_rfl) ?_
    refine sem_seq (by kernel_rfl) ?_
    refine sem_region (by kernel_rfl) ?_
    refine evs_run 2 (by kernel_rfl) ?_
    refine evs_op (st_len (c := (cS (cS cI))) (l := jobs) (x := (.sl (List.map (cS (cS cI)) jobs))) (by kernel_rfl) (by kernel_rfl)) ?_
    refine evs_run 1 (by kernel_rfl) ?_
    refine evs_endS (by kernel_rfl) (fun τ hτ => ?_)
    refine th_normalS hτ ⟨[(0, (.sl (List.map (cS (cS cI)) jobs))), (3, (vI s21.1)), (4, (vI s21.2)), (8, (vB (decide (s21.2 < (jobs.length : Int)))))], []⟩ (here (by kernel_rfl)) ?_
    refine sem_cond (decide (s21.2 < (jobs.length : Int))) (by kernel_rfl) (by kernel_rfl) (fun hb => ?_) (fun hb => ?_)
    · replace h := iteT hb h
      refine sem_skipS (by kernel_rfl) (fun τ hτ => ?_)
      refine th_normalS hτ ⟨[(0, (.sl (List.map (cS (cS cI)) jobs))), (3, (vI s21.1)), (4, (vI s21.2))], []⟩ (here (by kernel_rfl)) ?_
      refine sem_seq (by kernel_rfl) ?_
      refine sem_block (by kernel_rfl) ?_
      refine sem_region (by kernel_rfl) ?_
      refine evs_run 3 (by kernel_rfl) ?_
      obtain ⟨x29, hx29, h⟩ := bindS h
      refine evs_op (st_idx (c := (cS (cS cI))) (l := jobs) (i := s21.2) (kd := .i64) (sz := 1) (by kernel_rfl) hx29 rfl) ?_
      refine evs_run 1 (by kernel_rfl) ?_
      refine evs_op (st_len (c := (cS cI)) (l := x29) (x := (.sl (List.map (cS cI) x29))) (by kernel_rfl) (by kernel_rfl)) ?_
      refine evs_run 2 (by kernel_rfl) ?_
      refine evs_endS (by kernel_rfl) (fun τ hτ => ?_)
      refine bl_normal ?_
      refine th_normalS hτ ⟨[(0, (.sl (List.map (cS (cS cI)) jobs))), (3, (vI (iadd s21.1 (x29.length : Int)))), (4, (vI s21.2))], []⟩ (here (by kernel_rfl)) ?_
      refine sem_region (by kernel_rfl) ?_
      refine evs_run 3 (by kernel_rfl) ?_
      refine evs_endS (by kernel_rfl) (fun τ hτ => ?_)
      obtain rfl := Option.some.inj h
      exact lk_nextS hτ (here (by kernel_rfl))
    · replace h := iteF hb h
      refine sem_exitS 0 (by kernel_rfl) rfl (fun τ hτ => ?_)
      refine th_exit ?_
      obtain rfl := Option.some.inj h
      exact lk_outS hτ rfl (here (by kernel_rfl))
  · intro x
    rfl
  · intro τ hτ
    refine bl_hit (by kernel_rfl) ?_
    refine th_normalS hτ ⟨[(3, (vI x30))], []⟩ (here (by kernel_rfl)) ?_
    refine sem_seq (by kernel_rfl) ?_
    refine sem_region (by kernel_rfl) ?_
    refine evs_run 2 (by kernel_rfl) ?_
    refine evs_endS (by kernel_rfl) (fun τ hτ => ?_)
    refine th_normalS hτ ⟨[(2, (vI x30))], []⟩ (here (by kernel_rfl)) ?_
    refine sem_retS (by kernel_rfl) (fun τ hτ => ?_)
    obtain rfl := Option.some.inj h
    exact rk_ret hτ [(2, (vI x30))] (here (by kernel_rfl)) (by kernel_rfl)
theorem W.sheetmetalref05_CopySet_ok {l : (List Int)} {r : (List Int)} (h : sheetmetalref05_CopySet l = some r) : PC G.P 80 [(.sl (List.map cI l))] [] (.row (.top 0) 3) [(0, .row 3 [] (List.map cI r))] := by
  refine pc_of G (fn := Try.f80) Try.func80 (by kernel_rfl) (by kernel_rfl) (by kernel_rfl) (by kernel_rfl) (by kernel_rfl) ?_
  refine sem_set ⟨[(0, (.sl (List.map cI l)))], []⟩ (by kernel_rfl) ?_
  refine sem_seq (by kernel_rfl) ?_
  refine sem_region (by kernel_rfl) ?_
  refine evs_run 1 (by kernel_rfl) ?_
  refine evs_endS (by kernel_rfl) (fun τ hτ => ?_)
  refine th_normalS hτ ⟨[(0, (.sl (List.map cI l)))], []⟩ (here (by kernel_rfl)) ?_
  refine sem_seq (by kernel_rfl) ?_
  refine sem_region (by kernel_rfl) ?_
  refine evs_run 1 (by kernel_rfl) ?_
  refine evs_endS (by kernel_rfl) (fun τ hτ => ?_)
  refine th_normalS hτ ⟨[(0, (.sl (List.map cI l))), (3, (.row (.top 3) 3))], [(3, .row 3 [] (List.map cI []))]⟩ (here (by kernel_rfl)) ?_
  refine sem_seq (by kernel_rfl) ?_
  refine sem_seq (by kernel_rfl) ?_
  refine sem_region (by kernel_rfl) ?_
  refine evs_run 1 (by kernel_rfl) ?_
  refine evs_endS (by kernel_rfl) (fun τ hτ => ?_)
  refine th_normalS hτ ⟨[(0, (.sl (List.map cI l))), (3, (.row (.top 3) 3)), (4, (vI 0))], [(3, .row 3 [] (List.map cI []))]⟩ (here (by kernel_rfl)) ?_
  refine sem_block (by kernel_rfl) ?_
  obtain ⟨x54, hx54, h⟩ := bindS h
  refine sem_loopS (fun (s37 : Int × (List Int)) => ⟨[(0, (.sl (List.map cI l))), (3, (.row (.top 500000) 3)), (4, (vI s37.1))], [(500000, .row 3 [] (List.map cI s37.2))]⟩) (fun (x54 : (List Int)) => (.exit 0, ⟨[(3, (.row (.top 500000) 3))], [(500000, .row 3 [] (List.map cI x54))]⟩)) (sheetmetalref05_CopySet_l1 l) (0, []) x54 (by kernel_rfl) (subR_prep [] [(3, 500000)] (by kernel_rfl) rfl rfl (by kernel_rfl)) hx54 ?_ ?_ ?_
  · intro s37 r h
    refine sem_seq (by kernel_rfl) ?_
    refine sem_seq (by kernel_rfl) ?_
    refine sem_region (by kernel_rfl) ?_
    refine evs_run 2 (by kernel_rfl) ?_
    refine evs_op (st_len (c := cI) (l := l) (x := (.sl (List.map cI l))) (by kernel_rfl) (by kernel_rfl)) ?_
    refine evs_run 1 (by kernel_rfl) ?_
    refine evs_endS (by kernel_rfl) (fun τ hτ => ?_)
    refine th_normalS hτ ⟨[(0, (.sl (List.map cI l))), (3, (.row (.top 500000) 3)), (4, (vI s37.1)), (8, (vB (decide (s37.1 < (l.length : Int)))))], [(500000, .row 3 [] (List.map cI s37.2))]⟩ (here (by kernel_rfl)) ?_
    refine sem_cond (decide (s37.1 < (l.length : Int))) (by kernel_rfl) (by kernel_rfl) (fun hb => ?_) (fun hb => ?_)
    · replace h := iteT hb h
      refine sem_skipS (by kernel_rfl) (fun τ hτ => ?_)
      refine th_normalS hτ ⟨[(0, (.sl (List.map cI l))), (3, (.row (.top 500000) 3)), (4, (vI s37.1))], [(500000, .row 3 [] (List.map cI s37.2))]⟩ (here (by kernel_rfl)) ?_
      refine sem_seq (by kernel_rfl) ?_
      refine sem_block (by kernel_rfl) ?_
      refine sem_region (by kernel_rfl) ?_
      refine evs_run 3 (by kernel_rfl) ?_
      obtain ⟨x52, hx52, h⟩ := bindS h
      refine evs_op (st_idx (c := cI) (l := l) (i := s37.1) (kd := .i64) (sz := 1) (by kernel_rfl) hx52 rfl) ?_
      refine evs_run 2 (by kernel_rfl) ?_
      obtain ⟨l53, hl53, h⟩ := bindS h
      refine evs_op (st_app (c := cI) (l := s37.2) (l2 := [x52]) (x := (.sl (List.map cI [x52]))) (g := 500000) (e := 3) (sz := 1) (d := 17) (by kernel_rfl) (by kernel_rfl) (by kernel_rfl) (by kernel_rfl) (fun _ => rfl) rfl hl53) ?_
      refine evs_run 1 (by kernel_rfl) ?_
      refine evs_endS (by kernel_rfl) (fun τ hτ => ?_)
      refine bl_normal ?_
      refine th_normalS hτ ⟨[(0, (.sl (List.map cI l))), (3, (.row (.top 500000) 3)), (4, (vI s37.1))], [(500000, .row 3 [] (List.map cI l53))]⟩ (here (by kernel_rfl)) ?_
      refine sem_region (by kernel_rfl) ?_
      refine evs_run 3 (by kernel_rfl) ?_
      refine evs_endS (by kernel_rfl) (fun τ hτ => ?_)
      obtain rfl := Option.some.inj h
      exact lk_nextS hτ (here (by kernel_rfl))
    · replace h := iteF hb h
      refine sem_exitS 0 (by kernel_rfl) rfl (fun τ hτ => ?_)
      refine th_exit ?_
      obtain rfl := Option.some.inj h
      exact lk_outS hτ rfl (here (by kernel_rfl))
  · intro x
    rfl
  · intro τ hτ
    refine bl_hit (by kernel_rfl) ?_
    refine th_normalS hτ ⟨[(3, (.row (.top 500000) 3))], [(500000, .row 3 [] (List.map cI x54))]⟩ (here (by kernel_rfl)) ?_
    refine sem_seq (by kernel_rfl) ?_
    refine sem_region (by kernel_rfl) ?_
    refine evs_run 2 (by kernel_rfl) ?_
    refine evs_endS (by kernel_rfl) (fun τ hτ => ?_)
    refine th_normalS hτ ⟨[(2, (.row (.top 500000) 3))], [(500000, .row 3 [] (List.map cI x54))]⟩ (here (by kernel_rfl)) ?_
    refine sem_retS (by kernel_rfl) (fun τ hτ => ?_)
    obtain rfl := Option.some.inj h
    exact rk_ret hτ [(2, (.row (.top 0) 3))] (subR_prep [] [(500000, 0)] (by kernel_rfl) rfl rfl (by kernel_rfl)) (by kernel_rfl)
theorem W.sheetmetalref05_join_ok {jobs : (List (List (List Int)))} {order : (List Int)} {r : (List (List Int))} (h : sheetmetalref05_join jobs order = some r) : PC G.P 62 [(.sl (List.map (cS (cS cI)) jobs)), (.sl (List.map cI order))] [] (.row (.top 0) 38) [(0, .row 38 [] (List.map (cS cI) r))] := by
  refine pc_of G (fn := Try.f62) Try.func62 (by kernel_rfl) (by kernel_rfl) (by kernel_rfl) (by kernel_rfl) (by kernel_rfl) ?_
  refine sem_set ⟨[(0, (.sl (List.map (cS (cS cI)) jobs))), (1, (.sl (List.map cI order)))], []⟩ (by kernel_rfl) ?_
  refine sem_seq (by kernel_rfl) ?_
  refine sem_region (by kernel_rfl) ?_
  refine evs_run 1 (by kernel_rfl) ?_
  refine evs_endS (by kernel_rfl) (fun τ hτ => ?_)
  refine th_normalS hτ ⟨[(0, (.sl (List.map (cS (cS cI)) jobs))), (1, (.sl (List.map cI order)))], []⟩ (here (by kernel_rfl)) ?_
  refine sem_seq (by kernel_rfl) ?_
  refine sem_region (by kernel_rfl) ?_
  refine evs_run 1 (by kernel_rfl) ?_
  refine evs_endS (by kernel_rfl) (fun τ hτ => ?_)
  refine th_normalS hτ ⟨[(0, (.sl (List.map (cS (cS cI)) jobs))), (1, (.sl (List.map cI order))), (5, (.row (.top 5) 38))], [(5, .row 38 [] (List.map (cS cI) []))]⟩ (here (by kernel_rfl)) ?_
  refine sem_seq (by kernel_rfl) ?_
  refine sem_seq (by kernel_rfl) ?_
  refine sem_region (by kernel_rfl) ?_
  refine evs_run 1 (by kernel_rfl) ?_
  refine evs_endS (by kernel_rfl) (fun τ hτ => ?_)
  refine th_normalS hτ ⟨[(0, (.sl (List.map (cS (cS cI)) jobs))), (1, (.sl (List.map cI order))), (5, (.row (.top 5) 38)), (6, (vI 0))], [(5, .row 38 [] (List.map (cS cI) []))]⟩ (here (by kernel_rfl)) ?_
  refine sem_block (by kernel_rfl) ?_
  obtain ⟨x522, hx522, h⟩ := bindS h
  refine sem_loopS (fun (s349 : Int × (List (List Int))) => ⟨[(0, (.sl (List.map (cS (cS cI)) jobs))), (1, (.sl (List.map cI order))), (5, (.row (.top 500000) 38)), (6, (vI s349.1))], [(500000, .row 38 [] (List.map (cS cI) s349.2))]⟩) (fun (x522 : (List (List Int))) => (.exit 0, ⟨[(5, (.row (.top 500000) 38))], [(500000, .row 38 [] (List.map (cS cI) x522))]⟩)) (sheetmetalref05_join_l2 jobs order) (0, []) x522 (by kernel_rfl) (subR_prep [] [(5, 500000)] (by kernel_rfl) rfl rfl (by kernel_rfl)) hx522 ?_ ?_ ?_
  · intro s349 r h
    refine sem_seq (by kernel_rfl) ?_
    refine sem_seq (by kernel_rfl) ?_
    refine sem_region (by kernel_rfl) ?_
    refine evs_run 2 (by kernel_rfl) ?_
    refine evs_op (st_len (c := cI) (l := order) (x := (.sl (List.map cI order))) (by kernel_rfl) (by kernel_rfl)) ?_
    refine evs_run 1 (by kernel_rfl) ?_
    refine evs_endS (by kernel_rfl) (fun τ hτ => ?_)
    refine th_normalS hτ ⟨[(0, (.sl (List.map (cS (cS cI)) jobs))), (1, (.sl (List.map cI order))), (5, (.row (.top 500000) 38)), (6, (vI s349.1)), (12, (vB (decide (s349.1 < (order.length : Int)))))], [(500000, .row 38 [] (List.map (cS cI) s349.2))]⟩ (here (by kernel_rfl)) ?_
    refine sem_cond (decide (s349.1 < (order.length : Int))) (by kernel_rfl) (by kernel_rfl) (fun hb => ?_) (fun hb => ?_)
    · replace h := iteT hb h
      refine sem_skipS (by kernel_rfl) (fun τ hτ => ?_)
      refine th_normalS hτ ⟨[(0, (.sl (List.map (cS (cS cI)) jobs))), (1, (.sl (List.map cI order))), (5, (.row (.top 500000) 38)), (6, (vI s349.1))], [(500000, .row 38 [] (List.map (cS cI) s349.2))]⟩ (here (by kernel_rfl)) ?_
      refine sem_seq (by kernel_rfl) ?_
      refine sem_block (by kernel_rfl) ?_
      refine sem_seq (by kernel_rfl) ?_
      refine sem_region (by kernel_rfl) ?_
      refine evs_run 3 (by kernel_rfl) ?_
      obtain ⟨x481, hx481, h⟩ := bindS h
      refine evs_op (st_idx (c := cI) (l := order) (i := s349.1) (kd := .i64) (sz := 1) (by kernel_rfl) hx481 rfl) ?_
      refine evs_run 1 (by kernel_rfl) ?_
      obtain ⟨x482, hx482, h⟩ := bindS h
      refine evs_op (st_idx (c := (cS (cS cI))) (l := jobs) (i := x481) (kd := .i64) (sz := 1) (by kernel_rfl) hx482 rfl) ?_
      refine evs_run 2 (by kernel_rfl) ?_
      refine evs_endS (by kernel_rfl) (fun τ hτ => ?_)
      refine th_normalS hτ ⟨[(0, (.sl (List.map (cS (cS cI)) jobs))), (1, (.sl (List.map cI order))), (5, (.row (.top 500000) 38)), (6, (vI s349.1)), (7, (.sl (List.map (cS cI) x482)))], [(500000, .row 38 [] (List.map (cS cI) s349.2))]⟩ (here (by kernel_rfl)) ?_
      refine sem_seq (by kernel_rfl) ?_
      refine sem_region (by kernel_rfl) ?_
      refine evs_run 1 (by kernel_rfl) ?_
      refine evs_endS (by kernel_rfl) (fun τ hτ => ?_)
      refine th_normalS hτ ⟨[(0, (.sl (List.map (cS (cS cI)) jobs))), (1, (.sl (List.map cI order))), (5, (.row (.top 500000) 38)), (6, (vI s349.1)), (7, (.sl (List.map (cS cI) x482))), (8, (vI 0))], [(500000, .row 38 [] (List.map (cS cI) s349.2))]⟩ (here (by kernel_rfl)) ?_
      refine sem_block (by kernel_rfl) ?_
      obtain ⟨x521, hx521, h⟩ := bindS h
      refine sem_loopS (fun (s496 : Int × (List (List Int))) => ⟨[(0, (.sl (List.map (cS (cS cI)) jobs))), (1, (.sl (List.map cI order))), (5, (.row (.top 500000) 38)), (6, (vI s349.1)), (7, (.sl (List.map (cS cI) x482))), (8, (vI s496.1))], [(500000, .row 38 [] (List.map (cS cI) s496.2))]⟩) (fun (x521 : (List (List Int))) => (.exit 2, ⟨[(0, (.sl (List.map (cS (cS cI)) jobs))), (1, (.sl (List.map cI order))), (5, (.row (.top 500000) 38)), (6, (vI s349.1))], [(500000, .row 38 [] (List.map (cS cI) x521))]⟩)) (sheetmetalref05_join_l1 x482) (0, s349.2) x521 (by kernel_rfl) (here (by kernel_rfl)) hx521 ?_ ?_ ?_
      · intro s496 r h
        refine sem_seq (by kernel_rfl) ?_
        refine sem_seq (by kernel_rfl) ?_
        refine sem_region (by kernel_rfl) ?_
        refine evs_run 2 (by kernel_rfl) ?_
        refine evs_op (st_len (c := (cS cI)) (l := x482) (x := (.sl (List.map (cS cI) x482))) (by kernel_rfl) (by kernel_rfl)) ?_
        refine evs_run 1 (by kernel_rfl) ?_
        refine evs_endS (by kernel_rfl) (fun τ hτ => ?_)
        refine th_normalS hτ ⟨[(0, (.sl (List.map (cS (cS cI)) jobs))), (1, (.sl (List.map cI order))), (5, (.row (.top 500000) 38)), (6, (vI s349.1)), (7, (.sl (List.map (cS cI) x482))), (8, (vI s496.1)), (25, (vB (decide (s496.1 < (x482.length : Int)))))], [(500000, .row 38 [] (List.map (cS cI) s496.2))]⟩ (here (by kernel_rfl)) ?_
        refine sem_cond (decide (s496.1 < (x482.length : Int))) (by kernel_rfl) (by kernel_rfl) (fun hb => ?_) (fun hb => ?_)
        · replace h := iteT hb h
          refine sem_skipS (by kernel_rfl) (fun τ hτ => ?_)
          refine th_normalS hτ ⟨[(0, (.sl (List.map (cS (cS cI)) jobs))), (1, (.sl (List.map cI order))), (5, (.row (.top 500000) 38)), (6, (vI s349.1)), (7, (.sl (List.map (cS cI) x482))), (8, (vI s496.1))], [(500000, .row 38 [] (List.map (cS cI) s496.2))]⟩ (here (by kernel_rfl)) ?_
          refine sem_seq (by kernel_rfl) ?_
          refine sem_block (by kernel_rfl) ?_
          refine sem_region (by kernel_rfl) ?_
          refine evs_run 3 (by kernel_rfl) ?_
          obtain ⟨x518, hx518, h⟩ := bindS h
          refine evs_op (st_idx (c := (cS cI)) (l := x482) (i := s496.1) (kd := .i64) (sz := 1) (by kernel_rfl) hx518 rfl) ?_
          refine evs_run 1 (by kernel_rfl) ?_
          obtain ⟨r519, hr519, h⟩ := bindS h
          refine evs_callS [] [(0, 700250)] [] (by kernel_rfl) (W.sheetmetalref05_CopySet_ok hr519) (by kernel_rfl) (by kernel_rfl) (.inl rfl) ?_
          refine evs_prep [.frz 700250] (by kernel_rfl) ?_
          refine evs_run 1 (by kernel_rfl) ?_
          obtain ⟨l520, hl520, h⟩ := bindS h
          refine evs_op (st_app (c := (cS cI)) (l := s496.2) (l2 := [r519]) (x := (.sl (List.map (cS cI) [r519]))) (g := 500000) (e := 38) (sz := 1) (d := 35) (by kernel_rfl) (by kernel_rfl) (by kernel_rfl) (by kernel_rfl) (fun _ => rfl) rfl hl520) ?_
          refine evs_run 1 (by kernel_rfl) ?_
          refine evs_endS (by kernel_rfl) (fun τ hτ => ?_)
          refine bl_normal ?_
          refine th_normalS hτ ⟨[(0, (.sl (List.map (cS (cS cI)) jobs))), (1, (.sl (List.map cI order))), (5, (.row (.top 500000) 38)), (6, (vI s349.1)), (7, (.sl (List.map (cS cI) x482))), (8, (vI s496.1))], [(500000, .row 38 [] (List.map (cS cI) l520))]⟩ (here (by kernel_rfl)) ?_
          refine sem_region (by kernel_rfl) ?_
          refine evs_run 3 (by kernel_rfl) ?_
          refine evs_endS (by kernel_rfl) (fun τ hτ => ?_)
          obtain rfl := Option.some.inj h
          exact lk_nextS hτ (here (by kernel_rfl))
        · replace h := iteF hb h
          refine sem_exitS 2 (by kernel_rfl) rfl (fun τ hτ => ?_)
          refine th_exit ?_
          obtain rfl := Option.some.inj h
          exact lk_outS hτ rfl (here (by kernel_rfl))
      · intro x
        rfl
      · intro τ hτ
        refine bl_hit (by kernel_rfl) ?_
        refine bl_normal ?_
        refine th_normalS hτ ⟨[(0, (.sl (List.map (cS (cS cI)) jobs))), (1, (.sl (List.map cI order))), (5, (.row (.top 500000) 38)), (6, (vI s349.1))], [(500000, .row 38 [] (List.map (cS cI) x521))]⟩ (here (by kernel_rfl)) ?_
        refine sem_region (by kernel_rfl) ?_
        refine evs_run 3 (by kernel_rfl) ?_
        refine evs_endS (by kernel_rfl) (fun τ hτ => ?_)
        obtain rfl := Option.some.inj h
        exact lk_nextS hτ (here (by kernel_rfl))
    · replace h := iteF hb h
      refine sem_exitS 0 (by kernel_rfl) rfl (fun τ hτ => ?_)
      refine th_exit ?_
      obtain rfl := Option.some.inj h
      exact lk_outS hτ rfl (here (by kernel_rfl))
  · intro x
    rfl
  · intro τ hτ
    refine bl_hit (by kernel_rfl) ?_
    refine th_normalS hτ ⟨[(5, (.row (.top 500000) 38))], [(500000, .row 38 [] (List.map (cS cI) x522))]⟩ (here (by kernel_rfl)) ?_
    refine sem_seq (by kernel_rfl) ?_
    refine sem_region (by kernel_rfl) ?_
    refine evs_run 2 (by kernel_rfl) ?_
    refine evs_endS (by kernel_rfl) (fun τ hτ => ?_)
    refine th_normalS hτ ⟨[(4, (.row (.top 500000) 38))], [(500000, .row 38 [] (List.map (cS cI) x522))]⟩ (here (by kernel_rfl)) ?_
    refine sem_retS (by kernel_rfl) (fun τ hτ => ?_)
    obtain rfl := Option.some.inj h
    exact rk_ret hτ [(4, (.row (.top 0) 38))] (subR_prep [] [(500000, 0)] (by kernel_rfl) rfl rfl (by kernel_rfl)) (by kernel_rfl)
theorem W.sheetmetalref05_Join_ok {jobs : (List (List (List Int)))} {order : (List Int)} {r : (List (List Int)) × Int} (h : sheetmetalref05_Join jobs order = some r) : PC G.P 29 [(.sl (List.map (cS (cS cI)) jobs)), (.sl (List.map cI order))] [] (.tup [(.row (.top 0) 38), (vI r.2)]) [(0, .row 38 [] (List.map (cS cI) r.1))] := by
  refine pc_of G (fn := Try.f29) Try.func29 (by kernel_rfl) (by kernel_rfl) (by kernel_rfl) (by kernel_rfl) (by kernel_rfl) ?_
  refine sem_set ⟨[(0, (.sl (List.map (cS (cS cI)) jobs))), (1, (.sl (List.map cI order)))], []⟩ (by kernel_rfl) ?_
  refine sem_seq (by kernel_rfl) ?_
  refine sem_region (by kernel_rfl) ?_
  refine evs_run 2 (by kernel_rfl) ?_
  refine evs_endS (by kernel_rfl) (fun τ hτ => ?_)
  refine th_normalS hτ ⟨[(0, (.sl (List.map (cS (cS cI)) jobs))), (1, (.sl (List.map cI order)))], []⟩ (here (by kernel_rfl)) ?_
  refine sem_seq (by kernel_rfl) ?_
  refine sem_seq (by kernel_rfl) ?_
  refine sem_region (by kernel_rfl) ?_
  refine evs_run 1 (by kernel_rfl) ?_
  obtain ⟨r4, hr4, h⟩ := bindS h
  refine evs_callS [] [] [] (by kernel_rfl) (W.sheetmetalref05_jobsError_ok hr4) (by kernel_rfl) (by kernel_rfl) (.inl rfl) ?_
  refine evs_run 1 (by kernel_rfl) ?_
  refine evs_endS (by kernel_rfl) (fun τ hτ => ?_)
  refine th_normalS hτ ⟨[(0, (.sl (List.map (cS (cS cI)) jobs))), (1, (.sl (List.map cI order))), (6, (vI r4))], []⟩ (here (by kernel_rfl)) ?_
  refine sem_seq (by kernel_rfl) ?_
  refine sem_region (by kernel_rfl) ?_
  refine evs_run 2 (by kernel_rfl) ?_
  refine evs_endS (by kernel_rfl) (fun τ hτ => ?_)
  refine th_normalS hτ ⟨[(0, (.sl (List.map (cS (cS cI)) jobs))), (1, (.sl (List.map cI order))), (6, (vI r4)), (10, (vB (r4 != 0)))], []⟩ (here (by kernel_rfl)) ?_
  refine sem_cond (r4 != 0) (by kernel_rfl) (by kernel_rfl) (fun hb => ?_) (fun hb => ?_)
  · replace h := iteT hb h
    refine sem_seq (by kernel_rfl) ?_
    refine sem_region (by kernel_rfl) ?_
    refine evs_run 3 (by kernel_rfl) ?_
    refine evs_endS (by kernel_rfl) (fun τ hτ => ?_)
    refine th_normalS hτ ⟨[(4, (.row (.top 4) 38)), (5, (vI r4))], [(4, .row 38 [] (List.map (cS cI) []))]⟩ (here (by kernel_rfl)) ?_
    refine sem_retS (by kernel_rfl) (fun τ hτ => ?_)
    refine th_ret ?_
    obtain rfl := Option.some.inj h
    exact rk_ret hτ [(4, (.row (.top 0) 38)), (5, (vI r4))] (subR_prep [] [(4, 0)] (by kernel_rfl) rfl rfl (by kernel_rfl)) (by kernel_rfl)
  · replace h := iteF hb h
    refine sem_skipS (by kernel_rfl) (fun τ hτ => ?_)
    refine th_normalS hτ ⟨[(0, (.sl (List.map (cS (cS cI)) jobs))), (1, (.sl (List.map cI order)))], []⟩ (here (by kernel_rfl)) ?_
    refine sem_seq (by kernel_rfl) ?_
    refine sem_seq (by kernel_rfl) ?_
    refine sem_region (by kernel_rfl) ?_
    refine evs_run 2 (by kernel_rfl) ?_
    refine evs_op (st_len (c := (cS (cS cI))) (l := jobs) (x := (.sl (List.map (cS (cS cI)) jobs))) (by kernel_rfl) (by kernel_rfl)) ?_
    obtain ⟨r8, hr8, h⟩ := bindS h
    refine evs_callS [] [] [] (by kernel_rfl) (W.sheetmetalref05_permutation_ok hr8) (by kernel_rfl) (by kernel_rfl) (.inl rfl) ?_
    refine evs_run 1 (by kernel_rfl) ?_
    refine evs_endS (by kernel_rfl) (fun τ hτ => ?_)
    refine th_normalS hτ ⟨[(0, (.sl (List.map (cS (cS cI)) jobs))), (1, (.sl (List.map cI order))), (16, (vB (!r8)))], []⟩ (here (by kernel_rfl)) ?_
    refine sem_cond (!r8) (by kernel_rfl) (by kernel_rfl) (fun hb => ?_) (fun hb => ?_)
    · replace h := iteT hb h
      refine sem_seq (by kernel_rfl) ?_
      refine sem_region (by kernel_rfl) ?_
      refine evs_run 2 (by kernel_rfl) ?_
      refine evs_endS (by kernel_rfl) (fun τ hτ => ?_)
      refine th_normalS hτ ⟨[(4, (.row (.top 4) 38)), (5, (vI 1))], [(4, .row 38 [] (List.map (cS cI) []))]⟩ (here (by kernel_rfl)) ?_
      refine sem_retS (by kernel_rfl) (fun τ hτ => ?_)
      refine th_ret ?_
      obtain rfl := Option.some.inj h
      exact rk_ret hτ [(4, (.row (.top 0) 38)), (5, (vI 1))] (subR_prep [] [(4, 0)] (by kernel_rfl) rfl rfl (by kernel_rfl)) (by kernel_rfl)
    · replace h := iteF hb h
      refine sem_skipS (by kernel_rfl) (fun τ hτ => ?_)
      refine th_normalS hτ ⟨[(0, (.sl (List.map (cS (cS cI)) jobs))), (1, (.sl (List.map cI order)))], []⟩ (here (by kernel_rfl)) ?_
      refine sem_seq (by kernel_rfl) ?_
      refine sem_seq (by kernel_rfl) ?_
      refine sem_region (by kernel_rfl) ?_
      refine evs_run 1 (by kernel_rfl) ?_
      obtain ⟨r12, hr12, h⟩ := bindS h
      refine evs_callS [] [] [] (by kernel_rfl) (W.sheetmetalref05_total_ok hr12) (by kernel_rfl) (by kernel_rfl) (.inl rfl) ?_
      refine evs_run 1 (by kernel_rfl) ?_
      refine evs_endS (by kernel_rfl) (fun τ hτ => ?_)
      refine th_normalS hτ ⟨[(0, (.sl (List.map (cS (cS cI)) jobs))), (1, (.sl (List.map cI order))), (19, (vB (decide (r12 > 24))))], []⟩ (here (by kernel_rfl)) ?_
      refine sem_cond (decide (r12 > 24)) (by kernel_rfl) (by kernel_rfl) (fun hb => ?_) (fun hb => ?_)
      · replace h := iteT hb h
        refine sem_seq (by kernel_rfl) ?_
        refine sem_region (by kernel_rfl) ?_
        refine evs_run 2 (by kernel_rfl) ?_
        refine evs_endS (by kernel_rfl) (fun τ hτ => ?_)
        refine th_normalS hτ ⟨[(4, (.row (.top 4) 38)), (5, (vI 4))], [(4, .row 38 [] (List.map (cS cI) []))]⟩ (here (by kernel_rfl)) ?_
        refine sem_retS (by kernel_rfl) (fun τ hτ => ?_)
        refine th_ret ?_
        obtain rfl := Option.some.inj h
        exact rk_ret hτ [(4, (.row (.top 0) 38)), (5, (vI 4))] (subR_prep [] [(4, 0)] (by kernel_rfl) rfl rfl (by kernel_rfl)) (by kernel_rfl)
      · replace h := iteF hb h
        refine sem_skipS (by kernel_rfl) (fun τ hτ => ?_)
        refine th_normalS hτ ⟨[(0, (.sl (List.map (cS (cS cI)) jobs))), (1, (.sl (List.map cI order)))], []⟩ (here (by kernel_rfl)) ?_
        refine sem_seq (by kernel_rfl) ?_
        refine sem_region (by kernel_rfl) ?_
        refine evs_run 2 (by kernel_rfl) ?_
        obtain ⟨r14, hr14, h⟩ := bindS h
        refine evs_callS [] [(0, 700100)] [] (by kernel_rfl) (W.sheetmetalref05_join_ok hr14) (by kernel_rfl) (by kernel_rfl) (.inl rfl) ?_
        refine evs_run 2 (by kernel_rfl) ?_
        refine evs_endS (by kernel_rfl) (fun τ hτ => ?_)
        refine th_normalS hτ ⟨[(4, (.row (.top 700100) 38)), (5, (vI 0))], [(700100, .row 38 [] (List.map (cS cI) r14))]⟩ (here (by kernel_rfl)) ?_
        refine sem_retS (by kernel_rfl) (fun τ hτ => ?_)
        obtain rfl := Option.some.inj h
        exact rk_ret hτ [(4, (.row (.top 0) 38)), (5, (vI 0))] (subR_prep [] [(700100, 0)] (by kernel_rfl) rfl rfl (by kernel_rfl)) (by kernel_rfl)
theorem W.sheetmetalref05_SameNeeds_ok {a : (List (List Int))} {b : (List (List Int))} {r : Bool} (h : sheetmetalref05_SameNeeds a b = some r) : PC G.P 30 [(.sl (List.map (cS cI) a)), (.sl (List.map (cS cI) b))] [] (vB r) [] := by
  refine pc_of G (fn := Try.f30) Try.func30 (by kernel_rfl) (by kernel_rfl) (by kernel_rfl) (by kernel_rfl) (by kernel_rfl) ?_
  refine sem_set ⟨[(0, (.sl (List.map (cS cI) a))), (1, (.sl (List.map (cS cI) b)))], []⟩ (by kernel_rfl) ?_
  refine sem_seq (by kernel_rfl) ?_
  refine sem_region (by kernel_rfl) ?_
  refine evs_run 1 (by kernel_rfl) ?_
  refine evs_endS (by kernel_rfl) (fun τ hτ => ?_)
  refine th_normalS hτ ⟨[(0, (.sl (List.map (cS cI) a))), (1, (.sl (List.map (cS cI) b)))], []⟩ (here (by kernel_rfl)) ?_
  refine sem_seq (by kernel_rfl) ?_
  refine sem_seq (by kernel_rfl) ?_
  refine sem_region (by kernel_rfl) ?_
  refine evs_run 1 (by kernel_rfl) ?_
  refine evs_op (st_len (c := (cS cI)) (l := a) (x := (.sl (List.map (cS cI) a))) (by kernel_rfl) (by kernel_rfl)) ?_
  refine evs_run 1 (by kernel_rfl) ?_
  refine evs_op (st_len (c := (cS cI)) (l := b) (x := (.sl (List.map (cS cI) b))) (by kernel_rfl) (by kernel_rfl)) ?_
  refine evs_run 1 (by kernel_rfl) ?_
  refine evs_endS (by kernel_rfl) (fun τ hτ => ?_)
  refine th_normalS hτ ⟨[(0, (.sl (List.map (cS cI) a))), (1, (.sl (List.map (cS cI) b))), (11, (vB ((a.length : Int) != (b.length : Int))))], []⟩ (here (by kernel_rfl)) ?_
  refine sem_cond ((a.length : Int) != (b.length : Int)) (by kernel_rfl) (by kernel_rfl) (fun hb => ?_) (fun hb => ?_)
  · replace h := iteT hb h
    refine sem_seq (by kernel_rfl) ?_
    refine sem_region (by kernel_rfl) ?_
    refine evs_run 1 (by kernel_rfl) ?_
    refine evs_endS (by kernel_rfl) (fun τ hτ => ?_)
    refine th_normalS hτ ⟨[(4, (vB false))], []⟩ (here (by kernel_rfl)) ?_
    refine sem_retS (by kernel_rfl) (fun τ hτ => ?_)
    refine th_ret ?_
    obtain rfl := Option.some.inj h
    exact rk_ret hτ [(4, (vB false))] (here (by kernel_rfl)) (by kernel_rfl)
  · replace h := iteF hb h
    refine sem_skipS (by kernel_rfl) (fun τ hτ => ?_)
    refine th_normalS hτ ⟨[(0, (.sl (List.map (cS cI) a))), (1, (.sl (List.map (cS cI) b)))], []⟩ (here (by kernel_rfl)) ?_
    refine sem_seq (by kernel_rfl) ?_
    refine sem_seq (by kernel_rfl) ?_
    refine sem_region (by kernel_rfl) ?_
    refine evs_run 1 (by kernel_rfl) ?_
    refine evs_endS (by kernel_rfl) (fun τ hτ => ?_)
    refine th_normalS hτ ⟨[(0, (.sl (List.map (cS cI) a))), (1, (.sl (List.map (cS cI) b))), (5, (vI 0))], []⟩ (here (by kernel_rfl)) ?_
    refine sem_block (by kernel_rfl) ?_
    obtain ⟨x1220, hx1220, h⟩ := bindS h
    refine sem_loopS (fun (s815 : Int) => ⟨[(0, (.sl (List.map (cS cI) a))), (1, (.sl (List.map (cS cI) b))), (5, (vI s815))], []⟩) (fun (x1220 : Unit ⊕ Unit) => match x1220 with | .inl j1221 => (.ret, ⟨[(4, (vB false))], []⟩) | .inr j1222 => (.exit 0, ⟨[], []⟩)) (sheetmetalref05_SameNeeds_l2 a b) 0 x1220 (by kernel_rfl) (here (by kernel_rfl)) hx1220 ?_ ?_ ?_
    · intro s815 r h
      refine sem_seq (by kernel_rfl) ?_
      refine sem_seq (by kernel_rfl) ?_
      refine sem_region (by kernel_rfl) ?_
      refine evs_run 2 (by kernel_rfl) ?_
      refine evs_op (st_len (c := (cS cI)) (l := a) (x := (.sl (List.map (cS cI) a))) (by kernel_rfl) (by kernel_rfl)) ?_
      refine evs_run 1 (by kernel_rfl) ?_
      refine evs_endS (by kernel_rfl) (fun τ hτ => ?_)
      refine th_normalS hτ ⟨[(0, (.sl (List.map (cS cI) a))), (1, (.sl (List.map (cS cI) b))), (5, (vI s815)), (15, (vB (decide (s815 < (a.length : Int)))))], []⟩ (here (by kernel_rfl)) ?_
      refine sem_cond (decide (s815 < (a.length : Int))) (by kernel_rfl) (by kernel_rfl) (fun hb => ?_) (fun hb => ?_)
      · replace h := iteT hb h
        refine sem_skipS (by kernel_rfl) (fun τ hτ => ?_)
        refine th_normalS hτ ⟨[(0, (.sl (List.map (cS cI) a))), (1, (.sl (List.map (cS cI) b))), (5, (vI s815))], []⟩ (here (by kernel_rfl)) ?_
        refine sem_seq (by kernel_rfl) ?_
        refine sem_block (by kernel_rfl) ?_
        refine sem_seq (by kernel_rfl) ?_
        refine sem_seq (by kernel_rfl) ?_
        refine sem_draw [] [] [] [] [] 10 (by kernel_rfl) (by kernel_rfl) [] (by kernel_rfl) (by kernel_rfl) ?_
        refine evd_run 2 (by kernel_rfl) ?_
        obtain ⟨x1129, hx1129, h⟩ := bindS h
        refine evd_val (by kernel_rfl) (st_idx (c := (cS cI)) (l := a) (i := s815) (kd := .i64) (sz := 1) (by kernel_rfl) hx1129 rfl) (by kernel_rfl) (by kernel_rfl) ?_
        refine evd_run 1 (by kernel_rfl) ?_
        refine evd_val (by kernel_rfl) (st_len (c := cI) (l := x1129) (x := (.sl (List.map cI x1129))) (by kernel_rfl) (by kernel_rfl)) (by kernel_rfl) (by kernel_rfl) ?_
        refine evd_run 2 (by kernel_rfl) ?_
        obtain ⟨x1130, hx1130, h⟩ := bindS h
        refine evd_val (by kernel_rfl) (st_idx (c := (cS cI)) (l := b) (i := s815) (kd := .i64) (sz := 1) (by kernel_rfl) hx1130 rfl) (by kernel_rfl) (by kernel_rfl) ?_
        refine evd_run 1 (by kernel_rfl) ?_
        refine evd_val (by kernel_rfl) (st_len (c := cI) (l := x1130) (x := (.sl (List.map cI x1130))) (by kernel_rfl) (by kernel_rfl)) (by kernel_rfl) (by kernel_rfl) ?_
        refine evd_end (by kernel_rfl) ?_
        refine evo_run 1 (by kernel_rfl) ?_
        refine evo_endS (by kernel_rfl) (fun τ hτ => ?_)
        refine th_normalS hτ ⟨[(0, (.sl (List.map (cS cI) a))), (1, (.sl (List.map (cS cI) b))), (5, (vI s815)), (28, (vB ((x1129.length : Int) != (x1130.length : Int))))], []⟩ (here (by kernel_rfl)) ?_
        refine sem_cond ((x1129.length : Int) != (x1130.length : Int)) (by kernel_rfl) (by kernel_rfl) (fun hb => ?_) (fun hb => ?_)
        · replace h := iteT hb h
          refine sem_seq (by kernel_rfl) ?_
          refine sem_region (by kernel_rfl) ?_
          refine evs_run 1 (by kernel_rfl) ?_
          refine evs_endS (by kernel_rfl) (fun τ hτ => ?_)
          refine th_normalS hτ ⟨[(4, (vB false))], []⟩ (here (by kernel_rfl)) ?_
          refine sem_retS (by kernel_rfl) (fun τ hτ => ?_)
          refine th_ret ?_
          refine bl_ret ?_
          refine th_ret ?_
          obtain rfl := Option.some.inj h
          exact lk_outS hτ rfl (here (by kernel_rfl))
        · replace h := iteF hb h
          refine sem_skipS (by kernel_rfl) (fun τ hτ => ?_)
          refine th_normalS hτ ⟨[(0, (.sl (List.map (cS cI) a))), (1, (.sl (List.map (cS cI) b))), (5, (vI s815))], []⟩ (here (by kernel_rfl)) ?_
          refine sem_seq (by kernel_rfl) ?_
          refine sem_region (by kernel_rfl) ?_
          refine evs_run 1 (by kernel_rfl) ?_
          refine evs_endS (by kernel_rfl) (fun τ hτ => ?_)
          refine th_normalS hτ ⟨[(0, (.sl (List.map (cS cI) a))), (1, (.sl (List.map (cS cI) b))), (5, (vI s815)), (6, (vI 0))], []⟩ (here (by kernel_rfl)) ?_
          refine sem_block (by kernel_rfl) ?_
          obtain ⟨x1217, hx1217, h⟩ := bindS h
          refine sem_loopS (fun (s1160 : Int) => ⟨[(0, (.sl (List.map (cS cI) a))), (1, (.sl (List.map (cS cI) b))), (5, (vI s815)), (6, (vI s1160))], []⟩) (fun (x1217 : Unit ⊕ Unit) => match x1217 with | .inl j1218 => (.ret, ⟨[(4, (vB false))], []⟩) | .inr j1219 => (.exit 2, ⟨[(0, (.sl (List.map (cS cI) a))), (1, (.sl (List.map (cS cI) b))), (5, (vI s815))], []⟩)) (sheetmetalref05_SameNeeds_l1 a b s815) 0 x1217 (by kernel_rfl) (here (by kernel_rfl)) hx1217 ?_ ?_ ?_
          · intro s1160 r h
            refine sem_seq (by kernel_rfl) ?_
            refine sem_seq (by kernel_rfl) ?_
            refine sem_region (by kernel_rfl) ?_
            refine evs_run 3 (by kernel_rfl) ?_
            obtain ⟨x1192, hx1192, h⟩ := bindS h
            refine evs_op (st_idx (c := (cS cI)) (l := a) (i := s815) (kd := .i64) (sz := 1) (by kernel_rfl) hx1192 rfl) ?_
            refine evs_run 1 (by kernel_rfl) ?_
            refine evs_op (st_len (c := cI) (l := x1192) (x := (.sl (List.map cI x1192))) (by kernel_rfl) (by kernel_rfl)) ?_
            refine evs_run 1 (by kernel_rfl) ?_
            refine evs_endS (by kernel_rfl) (fun τ hτ => ?_)
            refine th_normalS hτ ⟨[(0, (.sl (List.map (cS cI) a))), (1, (.sl (List.map (cS cI) b))), (5, (vI s815)), (6, (vI s1160)), (35, (vB (decide (s1160 < (x1192.length : Int)))))], []⟩ (here (by kernel_rfl)) ?_
            refine sem_cond (decide (s1160 < (x1192.length : Int))) (by kernel_rfl) (by kernel_rfl) (fun hb => ?_) (fun hb => ?_)
            · replace h := iteT hb h
              refine sem_skipS (by kernel_rfl) (fun τ hτ => ?_)
              refine th_normalS hτ ⟨[(0, (.sl (List.map (cS cI) a))), (1, (.sl (List.map (cS cI) b))), (5, (vI s815)), (6, (vI s1160))], []⟩ (here (by kernel_rfl)) ?_
              refine sem_seq (by kernel_rfl) ?_
              refine sem_block (by kernel_rfl) ?_
              refine sem_seq (by kernel_rfl) ?_
              refine sem_draw [] [] [] [] [] 14 (by kernel_rfl) (by kernel_rfl) [] (by kernel_rfl) (by kernel_rfl) ?_
              refine evd_run 2 (by kernel_rfl) ?_
              obtain ⟨x1213, hx1213, h⟩ := bindS h
              refine evd_val (by kernel_rfl) (st_idx (c := (cS cI)) (l := a) (i := s815) (kd := .i64) (sz := 1) (by kernel_rfl) hx1213 rfl) (by kernel_rfl) (by kernel_rfl) ?_
              refine evd_run 2 (by kernel_rfl) ?_
              obtain ⟨x1214, hx1214, h⟩ := bindS h
              refine evd_val (by kernel_rfl) (st_idx (c := cI) (l := x1213) (i := s1160) (kd := .i64) (sz := 1) (by kernel_rfl) hx1214 rfl) (by kernel_rfl) (by kernel_rfl) ?_
              refine evd_run 3 (by kernel_rfl) ?_
              obtain ⟨x1215, hx1215, h⟩ := bindS h
              refine evd_val (by kernel_rfl) (st_idx (c := (cS cI)) (l := b) (i := s815) (kd := .i64) (sz := 1) (by kernel_rfl) hx1215 rfl) (by kernel_rfl) (by kernel_rfl) ?_
              refine evd_run 2 (by kernel_rfl) ?_
              obtain ⟨x1216, hx1216, h⟩ := bindS h
              refine evd_val (by kernel_rfl) (st_idx (c := cI) (l := x1215) (i := s1160) (kd := .i64) (sz := 1) (by kernel_rfl) hx1216 rfl) (by kernel_rfl) (by kernel_rfl) ?_
              refine evd_run 1 (by kernel_rfl) ?_
              refine evd_end (by kernel_rfl) ?_
              refine evo_run 1 (by kernel_rfl) ?_
              refine evo_endS (by kernel_rfl) (fun τ hτ => ?_)
              refine th_normalS hτ ⟨[(0, (.sl (List.map (cS cI) a))), (1, (.sl (List.map (cS cI) b))), (5, (vI s815)), (6, (vI s1160)), (52, (vB (x1214 != x1216)))], []⟩ (here (by kernel_rfl)) ?_
              refine sem_cond (x1214 != x1216) (by kernel_rfl) (by kernel_rfl) (fun hb => ?_) (fun hb => ?_)
              · replace h := iteT hb h
                refine sem_seq (by kernel_rfl) ?_
                refine sem_region (by kernel_rfl) ?_
                refine evs_run 1 (by kernel_rfl) ?_
                refine evs_endS (by kernel_rfl) (fun τ hτ => ?_)
                refine th_normalS hτ ⟨[(4, (vB false))], []⟩ (here (by kernel_rfl)) ?_
                refine sem_retS (by kernel_rfl) (fun τ hτ => ?_)
                refine bl_ret ?_
                refine th_ret ?_
                obtain rfl := Option.some.inj h
                exact lk_outS hτ rfl (here (by kernel_rfl))
              · replace h := iteF hb h
                refine sem_skipS (by kernel_rfl) (fun τ hτ => ?_)
                refine bl_normal ?_
                refine th_normalS hτ ⟨[(0, (.sl (List.map (cS cI) a))), (1, (.sl (List.map (cS cI) b))), (5, (vI s815)), (6, (vI s1160))], []⟩ (here (by kernel_rfl)) ?_
                refine sem_region (by kernel_rfl) ?_
                refine evs_run 3 (by kernel_rfl) ?_
                refine evs_endS (by kernel_rfl) (fun τ hτ => ?_)
                obtain rfl := Option.some.inj h
                exact lk_nextS hτ (here (by kernel_rfl))
            · replace h := iteF hb h
              refine sem_exitS 2 (by kernel_rfl) rfl (fun τ hτ => ?_)
              refine th_exit ?_
              obtain rfl := Option.some.inj h
              exact lk_outS hτ rfl (here (by kernel_rfl))
          · intro x
            rcases x with _ | _ <;> rfl
          · intro τ hτ
            rcases x1217 with j1218 | j1219
            · refine bl_ret ?_
              refine bl_ret ?_
              refine th_ret ?_
              obtain rfl := Option.some.inj h
              exact lk_outS hτ rfl (here (by kernel_rfl))
            · refine bl_hit (by kernel_rfl) ?_
              refine bl_normal ?_
              refine th_normalS hτ ⟨[(0, (.sl (List.map (cS cI) a))), (1, (.sl (List.map (cS cI) b))), (5, (vI s815))], []⟩ (here (by kernel_rfl)) ?_
              refine sem_region (by kernel_rfl) ?_
              refine evs_run 3 (by kernel_rfl) ?_
              refine evs_endS (by kernel_rfl) (fun τ hτ => ?_)
              obtain rfl := Option.some.inj h
              exact lk_nextS hτ (here (by kernel_rfl))
      · replace h := iteF hb h
        refine sem_exitS 0 (by kernel_rfl) rfl (fun τ hτ => ?_)
        refine th_exit ?_
        obtain rfl := Option.some.inj h
        exact lk_outS hτ rfl (here (by kernel_rfl))
    · intro x
      rcases x with _ | _ <;> rfl
    · intro τ hτ
      rcases x1220 with j1221 | j1222
      · refine bl_ret ?_
        refine th_ret ?_
        obtain rfl := Option.some.inj h
        exact rk_ret hτ [(4, (vB false))] (here (by kernel_rfl)) (by kernel_rfl)
      · refine bl_hit (by kernel_rfl) ?_
        refine th_normalS hτ ⟨[], []⟩ (here (by kernel_rfl)) ?_
        refine sem_seq (by kernel_rfl) ?_
        refine sem_region (by kernel_rfl) ?_
        refine evs_run 1 (by kernel_rfl) ?_
        refine evs_endS (by kernel_rfl) (fun τ hτ => ?_)
        refine th_normalS hτ ⟨[(4, (vB true))], []⟩ (here (by kernel_rfl)) ?_
        refine sem_retS (by kernel_rfl) (fun τ hτ => ?_)
        obtain rfl := Option.some.inj h
        exact rk_ret hτ [(4, (vB true))] (here (by kernel_rfl)) (by kernel_rfl)
theorem W.sheetmetallaw05_SetupJoins_ok {jobs : (List (List (List Int)))} {order : (List Int)} {r : Bool} (h : sheetmetallaw05_SetupJoins jobs order = some r) : PC G.P 7 [(.sl (List.map (cS (cS cI)) jobs)), (.sl (List.map cI order))] [] (vB r) [] := by
  refine pc_of G (fn := Try.f7) Try.func7 (by kernel_rfl) (by kernel_rfl) (by kernel_rfl) (by kernel_rfl) (by kernel_rfl) ?_
  refine sem_set ⟨[(0, (.sl (List.map (cS (cS cI)) jobs))), (1, (.sl (List.map cI order)))], []⟩ (by kernel_rfl) ?_
  refine sem_seq (by kernel_rfl) ?_
  refine sem_region (by kernel_rfl) ?_
  refine evs_run 1 (by kernel_rfl) ?_
  refine evs_endS (by kernel_rfl) (fun τ hτ => ?_)
  refine th_normalS hτ ⟨[(0, (.sl (List.map (cS (cS cI)) jobs))), (1, (.sl (List.map cI order)))], []⟩ (here (by kernel_rfl)) ?_
  refine sem_seq (by kernel_rfl) ?_
  refine sem_seq (by kernel_rfl) ?_
  obtain ⟨j7, hj7, h⟩ := bindS h
  refine sem_regionC ⟨[(0, (.sl (List.map (cS (cS cI)) jobs))), (1, (.sl (List.map cI order))), (20, (vB j7))], []⟩ (by kernel_rfl) ?_ (fun τ hτ => ?_)
  · replace h := hj7
    refine evs_run 1 (by kernel_rfl) ?_
    obtain ⟨r8, hr8, h⟩ := bindS h
    refine evs_callS [] [] [] (by kernel_rfl) (W.sheetmetallaw05_wide_ok hr8) (by kernel_rfl) (by kernel_rfl) (.inl rfl) ?_
    refine evs_run 1 (by kernel_rfl) ?_
    refine evs_split r8 (fun b0 => ⟨[(0, (.sl (List.map (cS (cS cI)) jobs))), (1, (.sl (List.map cI order))), (16, (vB b0))], []⟩) (by kernel_rfl) (fun hb => ?_) (fun hb => ?_)
    · replace h := iteT hb h
      refine evs_run 4 (by kernel_rfl) ?_
      refine evs_endS (by kernel_rfl) (fun τ hτ => ?_)
      obtain rfl := Option.some.inj h
      exact leafC hτ (here (by kernel_rfl))
    · replace h := iteF hb h
      refine evs_run 1 (by kernel_rfl) ?_
      refine evs_op (st_len (c := cI) (l := order) (x := (.sl (List.map cI order))) (by kernel_rfl) (by kernel_rfl)) ?_
      refine evs_run 2 (by kernel_rfl) ?_
      refine evs_endS (by kernel_rfl) (fun τ hτ => ?_)
      obtain rfl := Option.some.inj h
      exact leafC hτ (here (by kernel_rfl))
  refine th_normalS hτ ⟨[(0, (.sl (List.map (cS (cS cI)) jobs))), (1, (.sl (List.map cI order))), (20, (vB j7))], []⟩ (here (by kernel_rfl)) ?_
  refine sem_cond j7 (by kernel_rfl) (by kernel_rfl) (fun hb => ?_) (fun hb => ?_)
  · replace h := iteT hb h
    refine sem_seq (by kernel_rfl) ?_
    refine sem_region (by kernel_rfl) ?_
    obtain ⟨r10, hr10, h⟩ := bindS h
    refine evs_callS [] [] [] (by kernel_rfl) (W.sheetmetallaw05_known_ok hr10) (by kernel_rfl) (by kernel_rfl) (.inl rfl) ?_
    refine evs_run 1 (by kernel_rfl) ?_
    refine evs_endS (by kernel_rfl) (fun τ hτ => ?_)
    refine th_normalS hτ ⟨[(4, (vB r10))], []⟩ (here (by kernel_rfl)) ?_
    refine sem_retS (by kernel_rfl) (fun τ hτ => ?_)
    refine th_ret ?_
    obtain rfl := Option.some.inj h
    exact rk_ret hτ [(4, (vB r10))] (here (by kernel_rfl)) (by kernel_rfl)
  · replace h := iteF hb h
    refine sem_skipS (by kernel_rfl) (fun τ hτ => ?_)
    refine th_normalS hτ ⟨[(0, (.sl (List.map (cS (cS cI)) jobs))), (1, (.sl (List.map cI order)))], []⟩ (here (by kernel_rfl)) ?_
    refine sem_seq (by kernel_rfl) ?_
    refine sem_region (by kernel_rfl) ?_
    refine evs_run 2 (by kernel_rfl) ?_
    obtain ⟨r12, hr12, h⟩ := bindS h
    refine evs_callS [] [(0, 700100)] [] (by kernel_rfl) (W.setup_Join_ok hr12) (by kernel_rfl) (by kernel_rfl) (.inl rfl) ?_
    refine evs_run 5 (by kernel_rfl) ?_
    refine evs_endS (by kernel_rfl) (fun τ hτ => ?_)
    refine th_normalS hτ ⟨[(0, (.sl (List.map (cS (cS cI)) jobs))), (1, (.sl (List.map cI order))), (5, (.row (.top 700100) 38)), (6, (vI r12.2))], [(700100, .row 38 [(0, 3)] (List.map (cS cI) r12.1))]⟩ (here (by kernel_rfl)) ?_
    refine sem_seq (by kernel_rfl) ?_
    refine sem_region (by kernel_rfl) ?_
    refine evs_run 2 (by kernel_rfl) ?_
    obtain ⟨r14, hr14, h⟩ := bindS h
    refine evs_callS [] [(0, 700101)] [] (by kernel_rfl) (W.sheetmetalref05_Join_ok hr14) (by kernel_rfl) (by kernel_rfl) (.inl rfl) ?_
    refine evs_run 5 (by kernel_rfl) ?_
    refine evs_endS (by kernel_rfl) (fun τ hτ => ?_)
    refine th_normalS hτ ⟨[(0, (.sl (List.map (cS (cS cI)) jobs))), (1, (.sl (List.map cI order))), (5, (.row (.top 700100) 38)), (6, (vI r12.2)), (7, (.row (.top 700101) 38)), (8, (vI r14.2))], [(700100, .row 38 [(0, 3)] (List.map (cS cI) r12.1)), (700101, .row 38 [] (List.map (cS cI) r14.1))]⟩ (here (by kernel_rfl)) ?_
    refine sem_seq (by kernel_rfl) ?_
    obtain ⟨j16, hj16, h⟩ := bindS h
    refine sem_regionC ⟨[(0, (.sl (List.map (cS (cS cI)) jobs))), (1, (.sl (List.map cI order))), (5, (.row (.top 500000) 38)), (7, (.row (.top 500001) 38)), (8, (vI r14.2)), (9, (vB j16))], [(500000, .row 38 [(0, 3)] (List.map (cS cI) r12.1)), (500001, .row 38 [] (List.map (cS cI) r14.1))]⟩ (by kernel_rfl) ?_ (fun τ hτ => ?_)
    · replace h := hj16
      refine evs_run 4 (by kernel_rfl) ?_
      refine evs_split (r12.2 == r14.2) (fun b0 => ⟨[(0, (.sl (List.map (cS (cS cI)) jobs))), (1, (.sl (List.map cI order))), (5, (.row (.top 700100) 38)), (7, (.row (.top 700101) 38)), (8, (vI r14.2)), (37, (vB b0))], [(700100, .row 38 [(0, 3)] (List.map (cS cI) r12.1)), (700101, .row 38 [] (List.map (cS cI) r14.1))]⟩) (by kernel_rfl) (fun hb => ?_) (fun hb => ?_)
      · replace h := iteT hb h
        refine evs_run 2 (by kernel_rfl) ?_
        obtain ⟨r17, hr17, h⟩ := bindS h
        refine evs_callS [] [] [700100, 700101] (by kernel_rfl) (W.sheetmetalref05_SameNeeds_ok hr17) (by kernel_rfl) (by kernel_rfl) (.inr ⟨rfl, fun _ _ => ind_nil⟩) ?_
        refine evs_run 2 (by kernel_rfl) ?_
        refine evs_endS (by kernel_rfl) (fun τ hτ => ?_)
        obtain rfl := Option.some.inj h
        exact leafC hτ (subR_prep [] [(700100, 500000), (700101, 500001)] (by kernel_rfl) rfl rfl (by kernel_rfl))
      · replace h := iteF hb h
        refine evs_run 5 (by kernel_rfl) ?_
        refine evs_endS (by kernel_rfl) (fun τ hτ => ?_)
        obtain rfl := Option.some.inj h
        exact leafC hτ (subR_prep [] [(700100, 500000), (700101, 500001)] (by kernel_rfl) rfl rfl (by kernel_rfl))
    refine th_normalS hτ ⟨[(0, (.sl (List.map (cS (cS cI)) jobs))), (1, (.sl (List.map cI order))), (5, (.row (.top 500000) 38)), (7, (.row (.top 500001) 38)), (8, (vI r14.2)), (9, (vB j16))], [(500000, .row 38 [(0, 3)] (List.map (cS cI) r12.1)), (500001, .row 38 [] (List.map (cS cI) r14.1))]⟩ (here (by kernel_rfl)) ?_
    refine sem_seq (by kernel_rfl) ?_
    refine sem_seq (by kernel_rfl) ?_
    refine sem_region (by kernel_rfl) ?_
    refine evs_run 1 (by kernel_rfl) ?_
    refine evs_endS (by kernel_rfl) (fun τ hτ => ?_)
    refine th_normalS hτ ⟨[(0, (.sl (List.map (cS (cS cI)) jobs))), (1, (.sl (List.map cI order))), (5, (.row (.top 500000) 38)), (7, (.row (.top 500001) 38)), (8, (vI r14.2)), (9, (vB j16)), (10, (vI 0))], [(500000, .row 38 [(0, 3)] (List.map (cS cI) r12.1)), (500001, .row 38 [] (List.map (cS cI) r14.1))]⟩ (here (by kernel_rfl)) ?_
    refine sem_block (by kernel_rfl) ?_
    obtain ⟨x491, hx491, h⟩ := bindS h
    refine sem_loopS (fun (s334 : Int × (List (List Int))) => ⟨[(0, (.sl (List.map (cS (cS cI)) jobs))), (1, (.sl (List.map cI order))), (5, (.row (.top 500000) 38)), (7, (.row (.top 500001) 38)), (8, (vI r14.2)), (9, (vB j16)), (10, (vI s334.1))], [(500000, .row 38 [(0, 3)] (List.map (cS cI) s334.2)), (500001, .row 38 [] (List.map (cS cI) r14.1))]⟩) (fun (x491 : Unit) => (.exit 0, ⟨[(0, (.sl (List.map (cS (cS cI)) jobs))), (1, (.sl (List.map cI order))), (7, (.row (.top 500000) 38)), (8, (vI r14.2)), (9, (vB j16))], [(500000, .row 38 [] (List.map (cS cI) r14.1))]⟩)) (sheetmetallaw05_SetupJoins_l2) (0, r12.1) x491 (by kernel_rfl) (here (by kernel_rfl)) hx491 ?_ ?_ ?_
    · intro s334 r h
      refine sem_seq (by kernel_rfl) ?_
      refine sem_seq (by kernel_rfl) ?_
      refine sem_region (by kernel_rfl) ?_
      refine evs_run 2 (by kernel_rfl) ?_
      refine evs_op (st_len (c := (cS cI)) (l := s334.2) (x := (.row (.top 500000) 38)) (by kernel_rfl) (by kernel_rfl)) ?_
      refine evs_run 1 (by kernel_rfl) ?_
      refine evs_endS (by kernel_rfl) (fun τ hτ => ?_)
      refine th_normalS hτ ⟨[(0, (.sl (List.map (cS (cS cI)) jobs))), (1, (.sl (List.map cI order))), (5, (.row (.top 500000) 38)), (7, (.row (.top 500001) 38)), (8, (vI r14.2)), (9, (vB j16)), (10, (vI s334.1)), (45, (vB (decide (s334.1 < (s334.2.length : Int)))))], [(500000, .row 38 [(0, 3)] (List.map (cS cI) s334.2)), (500001, .row 38 [] (List.map (cS cI) r14.1))]⟩ (here (by kernel_rfl)) ?_
      refine sem_cond (decide (s334.1 < (s334.2.length : Int))) (by kernel_rfl) (by kernel_rfl) (fun hb => ?_) (fun hb => ?_)
      · replace h := iteT hb h
        refine sem_skipS (by kernel_rfl) (fun τ hτ => ?_)
        refine th_normalS hτ ⟨[(0, (.sl (List.map (cS (cS cI)) jobs))), (1, (.sl (List.map cI order))), (5, (.row (.top 500000) 38)), (7, (.row (.top 500001) 38)), (8, (vI r14.2)), (9, (vB j16)), (10, (vI s334.1))], [(500000, .row 38 [(0, 3)] (List.map (cS cI) s334.2)), (500001, .row 38 [] (List.map (cS cI) r14.1))]⟩ (here (by kernel_rfl)) ?_
        refine sem_seq (by kernel_rfl) ?_
        refine sem_block (by kernel_rfl) ?_
        refine sem_seq (by kernel_rfl) ?_
        refine sem_region (by kernel_rfl) ?_
        refine evs_run 1 (by kernel_rfl) ?_
        refine evs_endS (by kernel_rfl) (fun τ hτ => ?_)
        refine th_normalS hτ ⟨[(0, (.sl (List.map (cS (cS cI)) jobs))), (1, (.sl (List.map cI order))), (5, (.row (.top 500000) 38)), (7, (.row (.top 500001) 38)), (8, (vI r14.2)), (9, (vB j16)), (10, (vI s334.1)), (11, (vI 0))], [(500000, .row 38 [(0, 3)] (List.map (cS cI) s334.2)), (500001, .row 38 [] (List.map (cS cI) r14.1))]⟩ (here (by kernel_rfl)) ?_
        refine sem_block (by kernel_rfl) ?_
        obtain ⟨x490, hx490, h⟩ := bindS h
        refine sem_loopS (fun (s465 : Int × (List (List Int))) => ⟨[(0, (.sl (List.map (cS (cS cI)) jobs))), (1, (.sl (List.map cI order))), (5, (.row (.top 500000) 38)), (7, (.row (.top 500001) 38)), (8, (vI r14.2)), (9, (vB j16)), (10, (vI s334.1)), (11, (vI s465.1))], [(500000, .row 38 [(0, 3)] (List.map (cS cI) s465.2)), (500001, .row 38 [] (List.map (cS cI) r14.1))]⟩) (fun (x490 : (List (List Int))) => (.exit 2, ⟨[(0, (.sl (List.map (cS (cS cI)) jobs))), (1, (.sl (List.map cI order))), (5, (.row (.top 500000) 38)), (7, (.row (.top 500001) 38)), (8, (vI r14.2)), (9, (vB j16)), (10, (vI s334.1))], [(500000, .row 38 [(0, 3)] (List.map (cS cI) x490)), (500001, .row 38 [] (List.map (cS cI) r14.1))]⟩)) (sheetmetallaw05_SetupJoins_l1 s334) (0, s334.2) x490 (by kernel_rfl) (here (by kernel_rfl)) hx490 ?_ ?_ ?_
        · intro s465 r h
          refine sem_seq (by kernel_rfl) ?_
          refine sem_seq (by kernel_rfl) ?_
          refine sem_region (by kernel_rfl) ?_
          refine evs_run 3 (by kernel_rfl) ?_
          obtain ⟨x481, hx481, h⟩ := bindS h
          refine evs_op (st_idxO (c := (cS cI)) (l := s465.2) (i := s334.1) (kd := .i64) (kk := (.top 500000)) (e := 38) (sz := 1) (by kernel_rfl) (by kernel_rfl) hx481 rfl) ?_
          refine evs_op (st_ldO (c := (cS cI)) (l := s465.2) (i := (Int.toNat s334.1)) (v := (.row (.sub 500000 (Int.toNat s334.1) 0) 3)) (agg := false) (sz := 1) (kk := (.top 500000)) (e := 38) (off := 0) (J := [(0, 3)]) (by kernel_rfl) (by kernel_rfl) (by kernel_rfl) ((idxS hx481).2) (by kernel_rfl)) ?_
          refine evs_op (st_len (c := cI) (l := x481) (x := (.row (.sub 500000 (Int.toNat s334.1) 0) 3)) (by kernel_rfl) (elems_sub (g := 500000) (i := (Int.toNat s334.1)) (j := 0) (c := (cS cI)) (c2 := cI) (e := 38) (J := [(0, 3)]) (l := s465.2) (x := x481) (l2 := x481) (by kernel_rfl) rfl ((idxS hx481).2) rfl)) ?_
          refine evs_run 1 (by kernel_rfl) ?_
          refine evs_endS (by kernel_rfl) (fun τ hτ => ?_)
          refine th_normalS hτ ⟨[(0, (.sl (List.map (cS (cS cI)) jobs))), (1, (.sl (List.map cI order))), (5, (.row (.top 500000) 38)), (7, (.row (.top 500001) 38)), (8, (vI r14.2)), (9, (vB j16)), (10, (vI s334.1)), (11, (vI s465.1)), (54, (vB (decide (s465.1 < (x481.length : Int)))))], [(500000, .row 38 [(0, 3)] (List.map (cS cI) s465.2)), (500001, .row 38 [] (List.map (cS cI) r14.1))]⟩ (here (by kernel_rfl)) ?_
          refine sem_cond (decide (s465.1 < (x481.length : Int))) (by kernel_rfl) (by kernel_rfl) (fun hb => ?_) (fun hb => ?_)
          · replace h := iteT hb h
            refine sem_skipS (by kernel_rfl) (fun τ hτ => ?_)
            refine th_normalS hτ ⟨[(0, (.sl (List.map (cS (cS cI)) jobs))), (1, (.sl (List.map cI order))), (5, (.row (.top 500000) 38)), (7, (.row (.top 500001) 38)), (8, (vI r14.2)), (9, (vB j16)), (10, (vI s334.1)), (11, (vI s465.1))], [(500000, .row 38 [(0, 3)] (List.map (cS cI) s465.2)), (500001, .row 38 [] (List.map (cS cI) r14.1))]⟩ (here (by kernel_rfl)) ?_
            refine sem_seq (by kernel_rfl) ?_
            refine sem_block (by kernel_rfl) ?_
            refine sem_region (by kernel_rfl) ?_
            refine evs_run 2 (by kernel_rfl) ?_
            obtain ⟨x488, hx488, h⟩ := bindS h
            refine evs_op (st_idxO (c := (cS cI)) (l := s465.2) (i := s334.1) (kd := .i64) (kk := (.top 500000)) (e := 38) (sz := 1) (by kernel_rfl) (by kernel_rfl) hx488 rfl) ?_
            refine evs_op (st_ldO (c := (cS cI)) (l := s465.2) (i := (Int.toNat s334.1)) (v := (.row (.sub 500000 (Int.toNat s334.1) 0) 3)) (agg := false) (sz := 1) (kk := (.top 500000)) (e := 38) (off := 0) (J := [(0, 3)]) (by kernel_rfl) (by kernel_rfl) (by kernel_rfl) ((idxS hx488).2) (by kernel_rfl)) ?_
            refine evs_run 1 (by kernel_rfl) ?_
            obtain ⟨x489, hx489, h⟩ := bindS h
            refine evs_op (st_idxO (c := cI) (l := x488) (i := s465.1) (kd := .i64) (kk := (.sub 500000 (Int.toNat s334.1) 0)) (e := 3) (sz := 1) (by kernel_rfl) (rowAt_sub (g := 500000) (i := (Int.toNat s334.1)) (j := 0) (c := (cS cI)) (c2 := cI) (e := 38) (J := [(0, 3)]) (l := s465.2) (x := x488) (l2 := x488) (by kernel_rfl) rfl ((idxS hx488).2) rfl) hx489 rfl) ?_
            refine evs_op (st_stO (c := cI) (l := x488) (i := (Int.toNat s465.1)) (x := x489) (x' := 77) (v := (vI 77)) (agg := false) (sz := 1) (kk := (.sub 500000 (Int.toNat s334.1) 0)) (e := 3) (off := 0) (J := []) (o := .row 38 [(0, 3)] (List.map (cS cI) (List.set s465.2 (Int.toNat s334.1) (List.set x488 (Int.toNat s465.1) 77)))) (by kernel_rfl) (rowAt_sub (g := 500000) (i := (Int.toNat s334.1)) (j := 0) (c := (cS cI)) (c2 := cI) (e := 38) (J := [(0, 3)]) (l := s465.2) (x := x488) (l2 := x488) (by kernel_rfl) rfl ((idxS hx488).2) rfl) (by kernel_rfl) ((idxS hx489).2) (by kernel_rfl) (by kernel_rfl) (rowSet_sub (g := 500000) (i := (Int.toNat s334.1)) (j := 0) (c := (cS cI)) (e := 38) (J := [(0, 3)]) (l := s465.2) (x := x488) (x' := (List.set x488 (Int.toNat s465.1) 77)) (by kernel_rfl) ((idxS hx488).2) rfl)) ?_
            refine evs_endS (by kernel_rfl) (fun τ hτ => ?_)
            refine bl_normal ?_
            refine th_normalS hτ ⟨[(0, (.sl (List.map (cS (cS cI)) jobs))), (1, (.sl (List.map cI order))), (5, (.row (.top 500000) 38)), (7, (.row (.top 500001) 38)), (8, (vI r14.2)), (9, (vB j16)), (10, (vI s334.1)), (11, (vI s465.1))], [(500000, .row 38 [(0, 3)] (List.map (cS cI) (List.set s465.2 (Int.toNat s334.1) (List.set x488 (Int.toNat s465.1) 77)))), (500001, .row 38 [] (List.map (cS cI) r14.1))]⟩ (here (by kernel_rfl)) ?_
            refine sem_region (by kernel_rfl) ?_
            refine evs_run 3 (by kernel_rfl) ?_
            refine evs_endS (by kernel_rfl) (fun τ hτ => ?_)
            obtain rfl := Option.some.inj h
            exact lk_nextS hτ (here (by kernel_rfl))
          · replace h := iteF hb h
            refine sem_exitS 2 (by kernel_rfl) rfl (fun τ hτ => ?_)
            refine th_exit ?_
            obtain rfl := Option.some.inj h
            exact lk_outS hτ rfl (here (by kernel_rfl))
        · intro x
          rfl
        · intro τ hτ
          refine bl_hit (by kernel_rfl) ?_
          refine bl_normal ?_
          refine th_normalS hτ ⟨[(0, (.sl (List.map (cS (cS cI)) jobs))), (1, (.sl (List.map cI order))), (5, (.row (.top 500000) 38)), (7, (.row (.top 500001) 38)), (8, (vI r14.2)), (9, (vB j16)), (10, (vI s334.1))], [(500000, .row 38 [(0, 3)] (List.map (cS cI) x490)), (500001, .row 38 [] (List.map (cS cI) r14.1))]⟩ (here (by kernel_rfl)) ?_
          refine sem_region (by kernel_rfl) ?_
          refine evs_run 3 (by kernel_rfl) ?_
          refine evs_endS (by kernel_rfl) (fun τ hτ => ?_)
          obtain rfl := Option.some.inj h
          exact lk_nextS hτ (here (by kernel_rfl))
      · replace h := iteF hb h
        refine sem_exitS 0 (by kernel_rfl) rfl (fun τ hτ => ?_)
        refine th_exit ?_
        obtain rfl := Option.some.inj h
        exact lk_outS hτ rfl (subR_prep [] [(500001, 500000)] (by kernel_rfl) rfl rfl (by kernel_rfl))
    · intro x
      rfl
    · intro τ hτ
      refine bl_hit (by kernel_rfl) ?_
      refine th_normalS hτ ⟨[(0, (.sl (List.map (cS (cS cI)) jobs))), (1, (.sl (List.map cI order))), (7, (.row (.top 500000) 38)), (8, (vI r14.2)), (9, (vB j16))], [(500000, .row 38 [] (List.map (cS cI) r14.1))]⟩ (here (by kernel_rfl)) ?_
      refine sem_seq (by kernel_rfl) ?_
      refine sem_region (by kernel_rfl) ?_
      refine evs_run 2 (by kernel_rfl) ?_
      obtain ⟨r493, hr493, h⟩ := bindS h
      refine evs_callS [] [(0, 700100)] [] (by kernel_rfl) (W.sheetmetalref05_Join_ok hr493) (by kernel_rfl) (by kernel_rfl) (.inl rfl) ?_
      refine evs_run 5 (by kernel_rfl) ?_
      refine evs_endS (by kernel_rfl) (fun τ hτ => ?_)
      refine th_normalS hτ ⟨[(7, (.row (.top 500000) 38)), (8, (vI r14.2)), (9, (vB j16)), (12, (.row (.top 700100) 38)), (13, (vI r493.2))], [(500000, .row 38 [] (List.map (cS cI) r14.1)), (700100, .row 38 [] (List.map (cS cI) r493.1))]⟩ (here (by kernel_rfl)) ?_
      refine sem_seq (by kernel_rfl) ?_
      obtain ⟨j496, hj496, h⟩ := bindS h
      refine sem_regionC ⟨[(4, (vB j496))], []⟩ (by kernel_rfl) ?_ (fun τ hτ => ?_)
      · replace h := hj496
        refine evs_run 2 (by kernel_rfl) ?_
        refine evs_split j16 (fun b0 => ⟨[(7, (.row (.top 500000) 38)), (8, (vI r14.2)), (12, (.row (.top 700100) 38)), (13, (vI r493.2)), (70, (vB b0))], [(500000, .row 38 [] (List.map (cS cI) r14.1)), (700100, .row 38 [] (List.map (cS cI) r493.1))]⟩) (by kernel_rfl) (fun hb => ?_) (fun hb => ?_)
        · replace h := iteT hb h
          refine evs_run 5 (by kernel_rfl) ?_
          refine evs_split (r493.2 == r14.2) (fun b0 => ⟨[(7, (.row (.top 500000) 38)), (12, (.row (.top 700100) 38)), (75, (vB b0))], [(500000, .row 38 [] (List.map (cS cI) r14.1)), (700100, .row 38 [] (List.map (cS cI) r493.1))]⟩) (by kernel_rfl) (fun hb => ?_) (fun hb => ?_)
          · replace h := iteT hb h
            refine evs_run 2 (by kernel_rfl) ?_
            obtain ⟨r497, hr497, h⟩ := bindS h
            refine evs_callS [] [] [500000, 700100] (by kernel_rfl) (W.sheetmetalref05_SameNeeds_ok hr497) (by kernel_rfl) (by kernel_rfl) (.inr ⟨rfl, fun _ _ => ind_nil⟩) ?_
            refine evs_run 2 (by kernel_rfl) ?_
            refine evs_split r497 (fun b0 => ⟨[(80, (vB b0))], []⟩) (by kernel_rfl) (fun hb => ?_) (fun hb => ?_)
            · replace h := iteT hb h
              obtain ⟨r498, hr498, h⟩ := bindS h
              refine evs_callS [] [] [] (by kernel_rfl) (W.sheetmetallaw05_known_ok hr498) (by kernel_rfl) (by kernel_rfl) (.inl rfl) ?_
              refine evs_run 2 (by kernel_rfl) ?_
              refine evs_endS (by kernel_rfl) (fun τ hτ => ?_)
              obtain rfl := Option.some.inj h
              exact leafC hτ (here (by kernel_rfl))
            · replace h := iteF hb h
              refine evs_run 3 (by kernel_rfl) ?_
              refine evs_endS (by kernel_rfl) (fun τ hτ => ?_)
              obtain rfl := Option.some.inj h
              exact leafC hτ (here (by kernel_rfl))
          · replace h := iteF hb h
            refine evs_run 8 (by kernel_rfl) ?_
            refine evs_endS (by kernel_rfl) (fun τ hτ => ?_)
            obtain rfl := Option.some.inj h
            exact leafC hτ (here (by kernel_rfl))
        · replace h := iteF hb h
          refine evs_run 13 (by kernel_rfl) ?_
          refine evs_endS (by kernel_rfl) (fun τ hτ => ?_)
          obtain rfl := Option.some.inj h
          exact leafC hτ (here (by kernel_rfl))
      refine th_normalS hτ ⟨[(4, (vB j496))], []⟩ (here (by kernel_rfl)) ?_
      refine sem_retS (by kernel_rfl) (fun τ hτ => ?_)
      obtain rfl := Option.some.inj h
      exact rk_ret hτ [(4, (vB j496))] (here (by kernel_rfl)) (by kernel_rfl)
end Go.Proofs.Ytppmnjiibmomoaa
