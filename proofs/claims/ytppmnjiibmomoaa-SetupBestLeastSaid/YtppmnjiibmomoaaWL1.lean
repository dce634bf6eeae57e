/- Each Go function does what its model says; written by a program out of the translation. -/
import Derived.Test.YtppmnjiibmomoaaWL
import Derived.Test.YtppmnjiibmomoaaSeML
set_option linter.unusedVariables false
set_option linter.unusedSimpArgs false
set_option linter.unusedSectionVars false
namespace Go.Proofs.Ytppmnjiibmomoaa
open Go Go.VI Go.SM Go.Proofs
set_option maxRecDepth 100000
set_option maxHeartbeats 4000000
theorem W.setup_isPermutation_ok {order : (List Int)} {n : Int} {r : Bool} (h : setup_isPermutation order n = some r) : PC G.P 56 [(.sl (List.map cI order)), (vI n)] [] (vB r) [] := by
  refine pc_of G (fn := Try.f56) Try.func56 (by kernel_rfl) (by kernel_rfl) (by kernel_rfl) (by kernel_rfl) (by kernel_rfl) ?_
  refine sem_set ⟨[(0, (.sl (List.map cI order))), (1, (vI n))], []⟩ (by kernel_rfl) ?_
  refine sem_seq (by kernel_rfl) ?_
  refine sem_region (by kernel_rfl) ?_
  refine evs_run 1 (by kernel_rfl) ?_
  refine evs_endS (by kernel_rfl) (fun τ hτ => ?_)
  refine th_normalS hτ ⟨[(0, (.sl (List.map cI order))), (1, (vI n))], []⟩ (here (by kernel_rfl)) ?_
  refine sem_seq (by kernel_rfl) ?_
  refine sem_seq (by kernel_rfl) ?_
  refine sem_region (by kernel_rfl) ?_
  refine evs_run 1 (by kernel_rfl) ?_
  refine evs_op (st_len (c := cI) (l := order) (x := (.sl (List.map cI order))) (by kernel_rfl) (by kernel_rfl)) ?_
  refine evs_run 2 (by kernel_rfl) ?_
  refine evs_endS (by kernel_rfl) (fun τ hτ => ?_)
  refine th_normalS hτ ⟨[(0, (.sl (List.map cI order))), (1, (vI n)), (10, (vB ((order.length : Int) != n)))], []⟩ (here (by kernel_rfl)) ?_
  refine sem_cond ((order.length : Int) != n) (by kernel_rfl) (by kernel_rfl) (fun hb => ?_) (fun hb => ?_)
  · replace h := iteT hb h
    refine sem_seq (by kernel_rfl) ?_
    refine sem_region (by kernel_rfl) ?_
    refine evs_run 1 (by kernel_rfl) ?_
    refine evs_endS (by kernel_rfl) (fun τ hτ => ?_)
    refine th_normalS hτ ⟨[(4, (vB false))], []⟩ (here (by kernel_rfl)) ?_
    refine sem_retS (by kernel_rfl) (fun τ hτ => ?_)
    refine th_ret ?_
    obtain rfl := Option.some.inj h
    exact rk_ret hτ [(4, (vB false))] (here (by kernel_rfl)) (by kernel_rfl)
  · replace h := iteF hb h
    refine sem_skipS (by kernel_rfl) (fun τ hτ => ?_)
    refine th_normalS hτ ⟨[(0, (.sl (List.map cI order))), (1, (vI n))], []⟩ (here (by kernel_rfl)) ?_
    refine sem_seq (by kernel_rfl) ?_
    refine sem_seq (by kernel_rfl) ?_
    refine sem_region (by kernel_rfl) ?_
    refine evs_run 1 (by kernel_rfl) ?_
    refine evs_op (st_len (c := cI) (l := order) (x := (.sl (List.map cI order))) (by kernel_rfl) (by kernel_rfl)) ?_
    refine evs_run 1 (by kernel_rfl) ?_
    refine evs_endS (by kernel_rfl) (fun τ hτ => ?_)
    refine th_normalS hτ ⟨[(0, (.sl (List.map cI order))), (1, (vI n)), (11, (.sl (List.map cI order))), (12, (vI (order.length : Int))), (13, (vI 0))], []⟩ (here (by kernel_rfl)) ?_
    refine sem_block (by kernel_rfl) ?_
    obtain ⟨x92, hx92, h⟩ := bindS h
    refine sem_loopS (fun (s63 : Int) => ⟨[(0, (.sl (List.map cI order))), (1, (vI n)), (11, (.sl (List.map cI order))), (12, (vI (order.length : Int))), (13, (vI s63))], []⟩) (fun (x92 : Unit ⊕ Unit) => match x92 with | .inl j93 => (.ret, ⟨[(4, (vB false))], []⟩) | .inr j94 => (.exit 0, ⟨[], []⟩)) (setup_isPermutation_l1 order n) 0 x92 (by kernel_rfl) (here (by kernel_rfl)) hx92 ?_ ?_ ?_
    · intro s63 r h
      refine sem_seq (by kernel_rfl) ?_
      refine sem_region (by kernel_rfl) ?_
      refine evs_run 1 (by kernel_rfl) ?_
      refine evs_endS (by kernel_rfl) (fun τ hτ => ?_)
      refine th_normalS hτ ⟨[(0, (.sl (List.map cI order))), (1, (vI n)), (11, (.sl (List.map cI order))), (12, (vI (order.length : Int))), (13, (vI s63)), (14, (vB (decide (s63 < (order.length : Int)))))], []⟩ (here (by kernel_rfl)) ?_
      refine sem_seq (by kernel_rfl) ?_
      refine sem_cond (decide (s63 < (order.length : Int))) (by kernel_rfl) (by kernel_rfl) (fun hb => ?_) (fun hb => ?_)
      · replace h := iteT hb h
        refine sem_skipS (by kernel_rfl) (fun τ hτ => ?_)
        refine th_normalS hτ ⟨[(0, (.sl (List.map cI order))), (1, (vI n)), (11, (.sl (List.map cI order))), (12, (vI (order.length : Int))), (13, (vI s63))], []⟩ (here (by kernel_rfl)) ?_
        refine sem_seq (by kernel_rfl) ?_
        refine sem_block (by kernel_rfl) ?_
        refine sem_seq (by kernel_rfl) ?_
        refine sem_region (by kernel_rfl) ?_
        refine evs_run 1 (by kernel_rfl) ?_
        obtain ⟨x86, hx86, h⟩ := bindS h
        refine evs_op (st_idx (c := cI) (l := order) (i := s63) (kd := .i64) (sz := 1) (by kernel_rfl) hx86 rfl) ?_
        refine evs_run 3 (by kernel_rfl) ?_
        refine evs_endS (by kernel_rfl) (fun τ hτ => ?_)
        refine th_normalS hτ ⟨[(0, (.sl (List.map cI order))), (1, (vI n)), (5, (vI s63)), (6, (vI x86)), (11, (.sl (List.map cI order))), (12, (vI (order.length : Int))), (13, (vI s63))], []⟩ (here (by kernel_rfl)) ?_
        refine sem_seq (by kernel_rfl) ?_
        obtain ⟨j89, hj89, h⟩ := bindS h
        refine sem_regionC ⟨[(0, (.sl (List.map cI order))), (1, (vI n)), (11, (.sl (List.map cI order))), (12, (vI (order.length : Int))), (13, (vI s63)), (31, (vB j89))], []⟩ (by kernel_rfl) ?_ (fun τ hτ => ?_)
        · replace h := hj89
          refine evs_run 3 (by kernel_rfl) ?_
          refine evs_split (decide (x86 < 0)) (fun b0 => ⟨[(0, (.sl (List.map cI order))), (1, (vI n)), (5, (vI s63)), (6, (vI x86)), (11, (.sl (List.map cI order))), (12, (vI (order.length : Int))), (13, (vI s63)), (20, (vB b0))], []⟩) (by kernel_rfl) (fun hb => ?_) (fun hb => ?_)
          · replace h := iteT hb h
            refine evs_run 11 (by kernel_rfl) ?_
            refine evs_endS (by kernel_rfl) (fun τ hτ => ?_)
            obtain rfl := Option.some.inj h
            exact leafC hτ (here (by kernel_rfl))
          · replace h := iteF hb h
            refine evs_run 5 (by kernel_rfl) ?_
            refine evs_split (decide (x86 ≥ n)) (fun b0 => ⟨[(0, (.sl (List.map cI order))), (1, (vI n)), (5, (vI s63)), (6, (vI x86)), (11, (.sl (List.map cI order))), (12, (vI (order.length : Int))), (13, (vI s63)), (21, (vI x86)), (22, (vI n)), (23, (vB b0)), (25, (vB b0))], []⟩) (by kernel_rfl) (fun hb => ?_) (fun hb => ?_)
            · replace h := iteT hb h
              refine evs_run 6 (by kernel_rfl) ?_
              refine evs_endS (by kernel_rfl) (fun τ hτ => ?_)
              obtain rfl := Option.some.inj h
              exact leafC hτ (here (by kernel_rfl))
            · replace h := iteF hb h
              refine evs_run 2 (by kernel_rfl) ?_
              obtain ⟨l90, hl90, h⟩ := bindS h
              refine evs_op (st_slH (c := cI) (l := order) (sz := 1) (hi := s63) (k2 := .i64) (by kernel_rfl) hl90) ?_
              refine evs_run 1 (by kernel_rfl) ?_
              obtain ⟨r91, hr91, h⟩ := bindS h
              refine evs_callP [] (by kernel_rfl) (W.slices_Contains_Lint_int_ok hr91) (by kernel_rfl) (.inl rfl) (by kernel_rfl) ?_
              refine evs_run 1 (by kernel_rfl) ?_
              refine evs_endS (by kernel_rfl) (fun τ hτ => ?_)
              obtain rfl := Option.some.inj h
              exact leafC hτ (here (by kernel_rfl))
        refine th_normalS hτ ⟨[(0, (.sl (List.map cI order))), (1, (vI n)), (11, (.sl (List.map cI order))), (12, (vI (order.length : Int))), (13, (vI s63)), (31, (vB j89))], []⟩ (here (by kernel_rfl)) ?_
        refine sem_cond j89 (by kernel_rfl) (by kernel_rfl) (fun hb => ?_) (fun hb => ?_)
        · replace h := iteT hb h
          refine sem_seq (by kernel_rfl) ?_
          refine sem_region (by kernel_rfl) ?_
          refine evs_run 1 (by kernel_rfl) ?_
          refine evs_endS (by kernel_rfl) (fun τ hτ => ?_)
          refine th_normalS hτ ⟨[(4, (vB false))], []⟩ (here (by kernel_rfl)) ?_
          refine sem_retS (by kernel_rfl) (fun τ hτ => ?_)
          refine bl_ret ?_
          refine th_ret ?_
          obtain rfl := Option.some.inj h
          exact lk_outS hτ rfl (here (by kernel_rfl))
        · replace h := iteF hb h
          refine sem_skipS (by kernel_rfl) (fun τ hτ => ?_)
          refine bl_normal ?_
          refine th_normalS hτ ⟨[(0, (.sl (List.map cI order))), (1, (vI n)), (11, (.sl (List.map cI order))), (12, (vI (order.length : Int))), (13, (vI s63))], []⟩ (here (by kernel_rfl)) ?_
          refine sem_region (by kernel_rfl) ?_
          refine evs_run 2 (by kernel_rfl) ?_
          refine evs_endS (by kernel_rfl) (fun τ hτ => ?_)
          obtain rfl := Option.some.inj h
          exact lk_nextS hτ (here (by kernel_rfl))
      · replace h := iteF hb h
        refine sem_exitS 0 (by kernel_rfl) rfl (fun τ hτ => ?_)
        refine th_exit ?_
        obtain rfl := Option.some.inj h
        exact lk_outS hτ rfl (here (by kernel_rfl))
    · intro x
      rcases x with _ | _ <;> rfl
    · intro τ hτ
      rcases x92 with j93 | j94
      · refine bl_ret ?_
        refine th_ret ?_
        obtain rfl := Option.some.inj h
        exact rk_ret hτ [(4, (vB false))] (here (by kernel_rfl)) (by kernel_rfl)
      · refine bl_hit (by kernel_rfl) ?_
        refine th_normalS hτ ⟨[], []⟩ (here (by kernel_rfl)) ?_
        refine sem_seq (by kernel_rfl) ?_
        refine sem_region (by kernel_rfl) ?_
        refine evs_run 1 (by kernel_rfl) ?_
        refine evs_endS (by kernel_rfl) (fun τ hτ => ?_)
        refine th_normalS hτ ⟨[(4, (vB true))], []⟩ (here (by kernel_rfl)) ?_
        refine sem_retS (by kernel_rfl) (fun τ hτ => ?_)
        obtain rfl := Option.some.inj h
        exact rk_ret hτ [(4, (vB true))] (here (by kernel_rfl)) (by kernel_rfl)
theorem W.setup_tooMany_ok {jobs : (List (List (List Int)))} {r : Bool} (h : setup_tooMany jobs = some r) : PC G.P 57 [(.sl (List.map (cS (cS cI)) jobs))] [] (vB r) [] := by
  refine pc_of G (fn := Try.f57) Try.func57 (by kernel_rfl) (by kernel_rfl) (by kernel_rfl) (by kernel_rfl) (by kernel_rfl) ?_
  refine sem_set ⟨[(0, (.sl (List.map (cS (cS cI)) jobs)))], []⟩ (by kernel_rfl) ?_
  refine sem_seq (by kernel_rfl) ?_
  refine sem_region (by kernel_rfl) ?_
  refine evs_run 1 (by kernel_rfl) ?_
  refine evs_endS (by kernel_rfl) (fun τ hτ => ?_)
  refine th_normalS hτ ⟨[(0, (.sl (List.map (cS (cS cI)) jobs)))], []⟩ (here (by kernel_rfl)) ?_
  refine sem_seq (by kernel_rfl) ?_
  refine sem_region (by kernel_rfl) ?_
  refine evs_run 1 (by kernel_rfl) ?_
  refine evs_endS (by kernel_rfl) (fun τ hτ => ?_)
  refine th_normalS hτ ⟨[(0, (.sl (List.map (cS (cS cI)) jobs))), (3, (vI 0))], []⟩ (here (by kernel_rfl)) ?_
  refine sem_seq (by kernel_rfl) ?_
  refine sem_seq (by kernel_rfl) ?_
  refine sem_region (by kernel_rfl) ?_
  refine evs_run 1 (by kernel_rfl) ?_
  refine evs_op (st_len (c := (cS (cS cI))) (l := jobs) (x := (.sl (List.map (cS (cS cI)) jobs))) (by kernel_rfl) (by kernel_rfl)) ?_
  refine evs_run 1 (by kernel_rfl) ?_
  refine evs_endS (by kernel_rfl) (fun τ hτ => ?_)
  refine th_normalS hτ ⟨[(3, (vI 0)), (6, (.sl (List.map (cS (cS cI)) jobs))), (7, (vI (jobs.length : Int))), (8, (vI 0))], []⟩ (here (by kernel_rfl)) ?_
  refine sem_block (by kernel_rfl) ?_
  obtain ⟨x30, hx30, h⟩ := bindS h
  refine sem_loopS (fun (s21 : Int × Int) => ⟨[(3, (vI s21.1)), (6, (.sl (List.map (cS (cS cI)) jobs))), (7, (vI (jobs.length : Int))), (8, (vI s21.2))], []⟩) (fun (x30 : Int) => (.exit 0, ⟨[(3, (vI x30))], []⟩)) (setup_tooMany_l1 jobs) (0, 0) x30 (by kernel_rfl) (here (by kernel_rfl)) hx30 ?_ ?_ ?_
  · intro s21 r h
    refine sem_seq (by kernel_rfl) ?_
    refine sem_region (by kernel_rfl) ?_
    refine evs_run 1 (by kernel_rfl) ?_
    refine evs_endS (by kernel_rfl) (fun τ hτ => ?_)
    refine th_normalS hτ ⟨[(3, (vI s21.1)), (6, (.sl (List.map (cS (cS cI)) jobs))), (7, (vI (jobs.length : Int))), (8, (vI s21.2)), (9, (vB (decide (s21.2 < (jobs.length : Int)))))], []⟩ (here (by kernel_rfl)) ?_
    refine sem_seq (by kernel_rfl) ?_
    refine sem_cond (decide (s21.2 < (jobs.length : Int))) (by kernel_rfl) (by kernel_rfl) (fun hb => ?_) (fun hb => ?_)
    · replace h := iteT hb h
      refine sem_skipS (by kernel_rfl) (fun τ hτ => ?_)
      refine th_normalS hτ ⟨[(3, (vI s21.1)), (6, (.sl (List.map (cS (cS cI)) jobs))), (7, (vI (jobs.length : Int))), (8, (vI s21.2))], []⟩ (here (by kernel_rfl)) ?_
      refine sem_seq (by kernel_rfl) ?_
      refine sem_block (by kernel_rfl) ?_
      refine sem_seq (by kernel_rfl) ?_
      refine sem_region (by kernel_rfl) ?_
      obtain ⟨x29, hx29, h⟩ := bindS h
      refine evs_op (st_idx (c := (cS (cS cI))) (l := jobs) (i := s21.2) (kd := .i64) (sz := 1) (by kernel_rfl) hx29 rfl) ?_
      refine evs_run 2 (by kernel_rfl) ?_
      refine evs_endS (by kernel_rfl) (fun τ hτ => ?_)
      refine th_normalS hτ ⟨[(3, (vI s21.1)), (5, (.sl (List.map (cS cI) x29))), (6, (.sl (List.map (cS (cS cI)) jobs))), (7, (vI (jobs.length : Int))), (8, (vI s21.2))], []⟩ (here (by kernel_rfl)) ?_
      refine sem_region (by kernel_rfl) ?_
      refine evs_run 2 (by kernel_rfl) ?_
      refine evs_op (st_len (c := (cS cI)) (l := x29) (x := (.sl (List.map (cS cI) x29))) (by kernel_rfl) (by kernel_rfl)) ?_
      refine evs_run 2 (by kernel_rfl) ?_
      refine evs_endS (by kernel_rfl) (fun τ hτ => ?_)
      refine bl_normal ?_
      refine th_normalS hτ ⟨[(3, (vI (iadd s21.1 (x29.length : Int)))), (6, (.sl (List.map (cS (cS cI)) jobs))), (7, (vI (jobs.length : Int))), (8, (vI s21.2))], []⟩ (here (by kernel_rfl)) ?_
      refine sem_region (by kernel_rfl) ?_
      refine evs_run 2 (by kernel_rfl) ?_
      refine evs_endS (by kernel_rfl) (fun τ hτ => ?_)
      obtain rfl := Option.some.inj h
      exact lk_nextS hτ (here (by kernel_rfl))
    · replace h := iteF hb h
      refine sem_exitS 0 (by kernel_rfl) rfl (fun τ hτ => ?_)
      refine th_exit ?_
      obtain rfl := Option.some.inj h
      exact lk_outS hτ rfl (here (by kernel_rfl))
  · intro x
    rfl
  · intro τ hτ
    refine bl_hit (by kernel_rfl) ?_
    refine th_normalS hτ ⟨[(3, (vI x30))], []⟩ (here (by kernel_rfl)) ?_
    refine sem_seq (by kernel_rfl) ?_
    refine sem_region (by kernel_rfl) ?_
    refine evs_run 3 (by kernel_rfl) ?_
    refine evs_endS (by kernel_rfl) (fun τ hτ => ?_)
    refine th_normalS hτ ⟨[(2, (vB (decide (x30 > 24))))], []⟩ (here (by kernel_rfl)) ?_
    refine sem_retS (by kernel_rfl) (fun τ hτ => ?_)
    obtain rfl := Option.some.inj h
    exact rk_ret hτ [(2, (vB (decide (x30 > 24))))] (here (by kernel_rfl)) (by kernel_rfl)
theorem W.slices_Clone_Lint_int_ok {s r : (List Int)} (h : slices_Clone_Lint_int s = some r) : PC G.P 65 [.sl (List.map cI s)] [] (.row (.top 0) 3) [(0, .row 3 [] (List.map cI r))] := by
  replace h : app [] s = some r := h
  refine pc_of G (fn := Try.f65) Try.func65 (by kernel_rfl) (by kernel_rfl) (by kernel_rfl) (by kernel_rfl) (by kernel_rfl) ?_
  refine sem_seq (by kernel_rfl) ?_
  refine sem_region (by kernel_rfl) ?_
  refine evs_run 1 (by kernel_rfl) ?_
  refine evs_endS (by kernel_rfl) (fun τ hτ => ?_)
  refine th_normalS hτ ⟨[(0, .sl (List.map cI s))], []⟩ (here (by kernel_rfl)) ?_
  refine sem_seq (by kernel_rfl) ?_
  refine sem_seq (by kernel_rfl) ?_
  refine sem_region (by kernel_rfl) ?_
  refine evs_run 1 (by kernel_rfl) ?_
  refine evs_isnil (es := List.map cI s) (by kernel_rfl) (fun hn => ?_) ?_
  · obtain rfl : s = [] := List.map_eq_nil_iff.1 hn
    obtain rfl : [] = r := Option.some.inj ((app_eq (by simp [LIM])).symm.trans h)
    refine evs_endS (by kernel_rfl) (fun τ hτ => ?_)
    refine th_normalS hτ ⟨[(0, .sl (List.map cI [])), (4, vB true)], []⟩ (here (by kernel_rfl)) ?_
    refine sem_condT (by kernel_rfl) (by kernel_rfl) ?_
    refine sem_seq (by kernel_rfl) ?_
    refine sem_region (by kernel_rfl) ?_
    refine evs_run 1 (by kernel_rfl) ?_
    refine evs_endS (by kernel_rfl) (fun τ hτ => ?_)
    refine th_normalS hτ ⟨[(2, .row (.top 2) 3)], [(2, .row 3 [] (List.map cI []))]⟩ (here (by kernel_rfl)) ?_
    refine sem_retS (by kernel_rfl) (fun τ hτ => ?_)
    refine th_ret ?_
    exact rk_ret hτ [(2, .row (.top 0) 3)] (subR_of [(2, 0)] rfl rfl (by kernel_rfl)) (by kernel_rfl)
  · refine evs_endS (by kernel_rfl) (fun τ hτ => ?_)
    refine th_normalS hτ ⟨[(0, .sl (List.map cI s)), (4, vB false)], []⟩ (here (by kernel_rfl)) ?_
    refine sem_condF (by kernel_rfl) (by kernel_rfl) ?_
    refine sem_skipS (by kernel_rfl) (fun τ hτ => ?_)
    refine th_normalS hτ ⟨[(0, .sl (List.map cI s))], []⟩ (here (by kernel_rfl)) ?_
    refine sem_seq (by kernel_rfl) ?_
    refine sem_region (by kernel_rfl) ?_
    refine evs_at (at_build (es := List.map cI []) (e := 3) (d := 5) (by kernel_rfl)) ?_
    refine evs_run 1 (by kernel_rfl) ?_
    refine evs_op (st_app (c := cI) (l := []) (l2 := s) (x := .sl (List.map cI s)) (g := 5) (e := 3) (sz := 1) (d := 7) (by kernel_rfl) (by kernel_rfl) (by kernel_rfl) (by kernel_rfl) (fun _ => rfl) rfl h) ?_
    refine evs_run 1 (by kernel_rfl) ?_
    refine evs_endS (by kernel_rfl) (fun τ hτ => ?_)
    refine th_normalS hτ ⟨[(2, .row (.top 5) 3)], [(5, .row 3 [] (List.map cI r))]⟩ (here (by kernel_rfl)) ?_
    refine sem_retS (by kernel_rfl) (fun τ hτ => ?_)
    exact rk_ret hτ [(2, .row (.top 0) 3)] (subR_of [(5, 0)] rfl rfl (by kernel_rfl)) (by kernel_rfl)
theorem W.setup_join_ok {jobs : (List (List (List Int)))} {order : (List Int)} {r : (List (List Int))} (h : setup_join jobs order = some r) : PC G.P 58 [(.sl (List.map (cS (cS cI)) jobs)), (.sl (List.map cI order))] [] (.row (.top 0) 38) [(0, .row 38 [(0, 3)] (List.map (cS cI) r))] := by
  refine pc_of G (fn := Try.f58) Try.func58 (by kernel_rfl) (by kernel_rfl) (by kernel_rfl) (by kernel_rfl) (by kernel_rfl) ?_
  refine sem_set ⟨[(0, (.sl (List.map (cS (cS cI)) jobs))), (1, (.sl (List.map cI order)))], []⟩ (by kernel_rfl) ?_
  refine sem_seq (by kernel_rfl) ?_
  refine sem_region (by kernel_rfl) ?_
  refine evs_run 1 (by kernel_rfl) ?_
  refine evs_endS (by kernel_rfl) (fun τ hτ => ?_)
  refine th_normalS hτ ⟨[(0, (.sl (List.map (cS (cS cI)) jobs))), (1, (.sl (List.map cI order)))], []⟩ (here (by kernel_rfl)) ?_
  refine sem_seq (by kernel_rfl) ?_
  refine sem_region (by kernel_rfl) ?_
  refine evs_run 1 (by kernel_rfl) ?_
  refine evs_endS (by kernel_rfl) (fun τ hτ => ?_)
  refine th_normalS hτ ⟨[(0, (.sl (List.map (cS (cS cI)) jobs))), (1, (.sl (List.map cI order))), (5, (.row (.top 5) 38))], [(5, .row 38 [] (List.map (cS cI) []))]⟩ (here (by kernel_rfl)) ?_
  refine sem_seq (by kernel_rfl) ?_
  refine sem_seq (by kernel_rfl) ?_
  refine sem_region (by kernel_rfl) ?_
  refine evs_run 1 (by kernel_rfl) ?_
  refine evs_op (st_len (c := cI) (l := order) (x := (.sl (List.map cI order))) (by kernel_rfl) (by kernel_rfl)) ?_
  refine evs_run 1 (by kernel_rfl) ?_
  refine evs_endS (by kernel_rfl) (fun τ hτ => ?_)
  refine th_normalS hτ ⟨[(0, (.sl (List.map (cS (cS cI)) jobs))), (5, (.row (.top 5) 38)), (10, (.sl (List.map cI order))), (11, (vI (order.length : Int))), (12, (vI 0))], [(5, .row 38 [] (List.map (cS cI) []))]⟩ (here (by kernel_rfl)) ?_
  refine sem_block (by kernel_rfl) ?_
  obtain ⟨x522, hx522, h⟩ := bindS h
  refine sem_loopS (fun (s349 : Int × (List (List Int))) => ⟨[(0, (.sl (List.map (cS (cS cI)) jobs))), (5, (.row (.top 500000) 38)), (10, (.sl (List.map cI order))), (11, (vI (order.length : Int))), (12, (vI s349.1))], [(500000, .row 38 [(0, 3)] (List.map (cS cI) s349.2))]⟩) (fun (x522 : (List (List Int))) => (.exit 0, ⟨[(5, (.row (.top 500000) 38))], [(500000, .row 38 [(0, 3)] (List.map (cS cI) x522))]⟩)) (setup_join_l2 jobs order) (0, []) x522 (by kernel_rfl) (subR_prep [.jrow 5 [(0, 3)]] [(5, 500000)] (by kernel_rfl) rfl rfl (by kernel_rfl)) hx522 ?_ ?_ ?_
  · intro s349 r h
    refine sem_seq (by kernel_rfl) ?_
    refine sem_region (by kernel_rfl) ?_
    refine evs_run 1 (by kernel_rfl) ?_
    refine evs_endS (by kernel_rfl) (fun τ hτ => ?_)
    refine th_normalS hτ ⟨[(0, (.sl (List.map (cS (cS cI)) jobs))), (5, (.row (.top 500000) 38)), (10, (.sl (List.map cI order))), (11, (vI (order.length : Int))), (12, (vI s349.1)), (13, (vB (decide (s349.1 < (order.length : Int)))))], [(500000, .row 38 [(0, 3)] (List.map (cS cI) s349.2))]⟩ (here (by kernel_rfl)) ?_
    refine sem_seq (by kernel_rfl) ?_
    refine sem_cond (decide (s349.1 < (order.length : Int))) (by kernel_rfl) (by kernel_rfl) (fun hb => ?_) (fun hb => ?_)
    · replace h := iteT hb h
      refine sem_skipS (by kernel_rfl) (fun τ hτ => ?_)
      refine th_normalS hτ ⟨[(0, (.sl (List.map (cS (cS cI)) jobs))), (5, (.row (.top 500000) 38)), (10, (.sl (List.map cI order))), (11, (vI (order.length : Int))), (12, (vI s349.1))], [(500000, .row 38 [(0, 3)] (List.map (cS cI) s349.2))]⟩ (here (by kernel_rfl)) ?_
      refine sem_seq (by kernel_rfl) ?_
      refine sem_block (by kernel_rfl) ?_
      refine sem_seq (by kernel_rfl) ?_
      refine sem_region (by kernel_rfl) ?_
      obtain ⟨x480, hx480, h⟩ := bindS h
      refine evs_op (st_idx (c := cI) (l := order) (i := s349.1) (kd := .i64) (sz := 1) (by kernel_rfl) hx480 rfl) ?_
      refine evs_run 2 (by kernel_rfl) ?_
      refine evs_endS (by kernel_rfl) (fun τ hτ => ?_)
      refine th_normalS hτ ⟨[(0, (.sl (List.map (cS (cS cI)) jobs))), (5, (.row (.top 500000) 38)), (7, (vI x480)), (10, (.sl (List.map cI order))), (11, (vI (order.length : Int))), (12, (vI s349.1))], [(500000, .row 38 [(0, 3)] (List.map (cS cI) s349.2))]⟩ (here (by kernel_rfl)) ?_
      refine sem_seq (by kernel_rfl) ?_
      refine sem_region (by kernel_rfl) ?_
      refine evs_run 2 (by kernel_rfl) ?_
      obtain ⟨x482, hx482, h⟩ := bindS h
      refine evs_op (st_idx (c := (cS (cS cI))) (l := jobs) (i := x480) (kd := .i64) (sz := 1) (by kernel_rfl) hx482 rfl) ?_
      refine evs_run 1 (by kernel_rfl) ?_
      refine evs_op (st_len (c := (cS cI)) (l := x482) (x := (.sl (List.map (cS cI) x482))) (by kernel_rfl) (by kernel_rfl)) ?_
      refine evs_run 1 (by kernel_rfl) ?_
      refine evs_endS (by kernel_rfl) (fun τ hτ => ?_)
      refine th_normalS hτ ⟨[(0, (.sl (List.map (cS (cS cI)) jobs))), (5, (.row (.top 500000) 38)), (10, (.sl (List.map cI order))), (11, (vI (order.length : Int))), (12, (vI s349.1)), (19, (.sl (List.map (cS cI) x482))), (20, (vI (x482.length : Int))), (21, (vI 0))], [(500000, .row 38 [(0, 3)] (List.map (cS cI) s349.2))]⟩ (here (by kernel_rfl)) ?_
      refine sem_block (by kernel_rfl) ?_
      obtain ⟨x521, hx521, h⟩ := bindS h
      refine sem_loopS (fun (s496 : Int × (List (List Int))) => ⟨[(0, (.sl (List.map (cS (cS cI)) jobs))), (5, (.row (.top 500000) 38)), (10, (.sl (List.map cI order))), (11, (vI (order.length : Int))), (12, (vI s349.1)), (19, (.sl (List.map (cS cI) x482))), (20, (vI (x482.length : Int))), (21, (vI s496.1))], [(500000, .row 38 [(0, 3)] (List.map (cS cI) s496.2))]⟩) (fun (x521 : (List (List Int))) => (.exit 2, ⟨[(0, (.sl (List.map (cS (cS cI)) jobs))), (5, (.row (.top 500000) 38)), (10, (.sl (List.map cI order))), (11, (vI (order.length : Int))), (12, (vI s349.1))], [(500000, .row 38 [(0, 3)] (List.map (cS cI) x521))]⟩)) (setup_join_l1 x482) (0, s349.2) x521 (by kernel_rfl) (here (by kernel_rfl)) hx521 ?_ ?_ ?_
      · intro s496 r h
        refine sem_seq (by kernel_rfl) ?_
        refine sem_region (by kernel_rfl) ?_
        refine evs_run 1 (by kernel_rfl) ?_
        refine evs_endS (by kernel_rfl) (fun τ hτ => ?_)
        refine th_normalS hτ ⟨[(0, (.sl (List.map (cS (cS cI)) jobs))), (5, (.row (.top 500000) 38)), (10, (.sl (List.map cI order))), (11, (vI (order.length : Int))), (12, (vI s349.1)), (19, (.sl (List.map (cS cI) x482))), (20, (vI (x482.length : Int))), (21, (vI s496.1)), (22, (vB (decide (s496.1 < (x482.length : Int)))))], [(500000, .row 38 [(0, 3)] (List.map (cS cI) s496.2))]⟩ (here (by kernel_rfl)) ?_
        refine sem_seq (by kernel_rfl) ?_
        refine sem_cond (decide (s496.1 < (x482.length : Int))) (by kernel_rfl) (by kernel_rfl) (fun hb => ?_) (fun hb => ?_)
        · replace h := iteT hb h
          refine sem_skipS (by kernel_rfl) (fun τ hτ => ?_)
          refine th_normalS hτ ⟨[(0, (.sl (List.map (cS (cS cI)) jobs))), (5, (.row (.top 500000) 38)), (10, (.sl (List.map cI order))), (11, (vI (order.length : Int))), (12, (vI s349.1)), (19, (.sl (List.map (cS cI) x482))), (20, (vI (x482.length : Int))), (21, (vI s496.1))], [(500000, .row 38 [(0, 3)] (List.map (cS cI) s496.2))]⟩ (here (by kernel_rfl)) ?_
          refine sem_seq (by kernel_rfl) ?_
          refine sem_block (by kernel_rfl) ?_
          refine sem_seq (by kernel_rfl) ?_
          refine sem_region (by kernel_rfl) ?_
          obtain ⟨x516, hx516, h⟩ := bindS h
          refine evs_op (st_idx (c := (cS cI)) (l := x482) (i := s496.1) (kd := .i64) (sz := 1) (by kernel_rfl) hx516 rfl) ?_
          refine evs_run 2 (by kernel_rfl) ?_
          refine evs_endS (by kernel_rfl) (fun τ hτ => ?_)
          refine th_normalS hτ ⟨[(0, (.sl (List.map (cS (cS cI)) jobs))), (5, (.row (.top 500000) 38)), (9, (.sl (List.map cI x516))), (10, (.sl (List.map cI order))), (11, (vI (order.length : Int))), (12, (vI s349.1)), (19, (.sl (List.map (cS cI) x482))), (20, (vI (x482.length : Int))), (21, (vI s496.1))], [(500000, .row 38 [(0, 3)] (List.map (cS cI) s496.2))]⟩ (here (by kernel_rfl)) ?_
          refine sem_region (by kernel_rfl) ?_
          refine evs_run 2 (by kernel_rfl) ?_
          obtain ⟨r519, hr519, h⟩ := bindS h
          refine evs_callS [] [(0, 700100)] [] (by kernel_rfl) (W.slices_Clone_Lint_int_ok hr519) (by kernel_rfl) (by kernel_rfl) (.inl rfl) ?_
          refine evs_at (at_buildJ (c := (cS cI)) (c2 := cI) (e := 38) (e' := 3) (d := 700100) (T := 28) (l := r519) (x := r519) (by kernel_rfl) (by kernel_rfl) (by kernel_rfl) rfl) ?_
          obtain ⟨l520, hl520, h⟩ := bindS h
          refine evs_at (at_appJ (c := (cS cI)) (l := s496.2) (l2 := [r519]) (g := 500000) (T := 28) (e := 38) (J := [(0, 3)]) (sz := 1) (d := 29) (by kernel_rfl) (by kernel_rfl) (by kernel_rfl) (by kernel_rfl) hl520) ?_
          refine evs_run 1 (by kernel_rfl) ?_
          refine evs_endS (by kernel_rfl) (fun τ hτ => ?_)
          refine bl_normal ?_
          refine th_normalS hτ ⟨[(0, (.sl (List.map (cS (cS cI)) jobs))), (5, (.row (.top 500000) 38)), (10, (.sl (List.map cI order))), (11, (vI (order.length : Int))), (12, (vI s349.1)), (19, (.sl (List.map (cS cI) x482))), (20, (vI (x482.length : Int))), (21, (vI s496.1))], [(500000, .row 38 [(0, 3)] (List.map (cS cI) l520))]⟩ (here (by kernel_rfl)) ?_
          refine sem_region (by kernel_rfl) ?_
          refine evs_run 2 (by kernel_rfl) ?_
          refine evs_endS (by kernel_rfl) (fun τ hτ => ?_)
          obtain rfl := Option.some.inj h
          exact lk_nextS hτ (here (by kernel_rfl))
        · replace h := iteF hb h
          refine sem_exitS 2 (by kernel_rfl) rfl (fun τ hτ => ?_)
          refine th_exit ?_
          obtain rfl := Option.some.inj h
          exact lk_outS hτ rfl (here (by kernel_rfl))
      · intro x
        rfl
      · intro τ hτ
        refine bl_hit (by kernel_rfl) ?_
        refine bl_normal ?_
        refine th_normalS hτ ⟨[(0, (.sl (List.map (cS (cS cI)) jobs))), (5, (.row (.top 500000) 38)), (10, (.sl (List.map cI order))), (11, (vI (order.length : Int))), (12, (vI s349.1))], [(500000, .row 38 [(0, 3)] (List.map (cS cI) x521))]⟩ (here (by kernel_rfl)) ?_
        refine sem_region (by kernel_rfl) ?_
        refine evs_run 2 (by kernel_rfl) ?_
        refine evs_endS (by kernel_rfl) (fun τ hτ => ?_)
        obtain rfl := Option.some.inj h
        exact lk_nextS hτ (here (by kernel_rfl))
    · replace h := iteF hb h
      refine sem_exitS 0 (by kernel_rfl) rfl (fun τ hτ => ?_)
      refine th_exit ?_
      obtain rfl := Option.some.inj h
      exact lk_outS hτ rfl (here (by kernel_rfl))
  · intro x
    rfl
  · intro τ hτ
    refine bl_hit (by kernel_rfl) ?_
    refine th_normalS hτ ⟨[(5, (.row (.top 500000) 38))], [(500000, .row 38 [(0, 3)] (List.map (cS cI) x522))]⟩ (here (by kernel_rfl)) ?_
    refine sem_seq (by kernel_rfl) ?_
    refine sem_region (by kernel_rfl) ?_
    refine evs_run 2 (by kernel_rfl) ?_
    refine evs_endS (by kernel_rfl) (fun τ hτ => ?_)
    refine th_normalS hτ ⟨[(4, (.row (.top 500000) 38))], [(500000, .row 38 [(0, 3)] (List.map (cS cI) x522))]⟩ (here (by kernel_rfl)) ?_
    refine sem_retS (by kernel_rfl) (fun τ hτ => ?_)
    obtain rfl := Option.some.inj h
    exact rk_ret hτ [(4, (.row (.top 0) 38))] (subR_prep [] [(500000, 0)] (by kernel_rfl) rfl rfl (by kernel_rfl)) (by kernel_rfl)
theorem W.setup_Join_ok {jobs : (List (List (List Int)))} {order : (List Int)} {r : (List (List Int)) × Int} (h : setup_Join jobs order = some r) : PC G.P 28 [(.sl (List.map (cS (cS cI)) jobs)), (.sl (List.map cI order))] [] (.tup [(.row (.top 0) 38), (vI r.2)]) [(0, .row 38 [(0, 3)] (List.map (cS cI) r.1))] := by
  refine pc_of G (fn := Try.f28) Try.func28 (by kernel_rfl) (by kernel_rfl) (by kernel_rfl) (by kernel_rfl) (by kernel_rfl) ?_
  refine sem_set ⟨[(0, (.sl (List.map (cS (cS cI)) jobs))), (1, (.sl (List.map cI order)))], []⟩ (by kernel_rfl) ?_
  refine sem_seq (by kernel_rfl) ?_
  refine sem_region (by kernel_rfl) ?_
  refine evs_run 2 (by kernel_rfl) ?_
  refine evs_endS (by kernel_rfl) (fun τ hτ => ?_)
  refine th_normalS hτ ⟨[(0, (.sl (List.map (cS (cS cI)) jobs))), (1, (.sl (List.map cI order)))], []⟩ (here (by kernel_rfl)) ?_
  refine sem_seq (by kernel_rfl) ?_
  refine sem_seq (by kernel_rfl) ?_
  refine sem_region (by kernel_rfl) ?_
  refine evs_run 1 (by kernel_rfl) ?_
  obtain ⟨r4, hr4, h⟩ := bindS h
  refine evs_callP [] (by kernel_rfl) (W.setup_checkJobs_ok hr4) (by kernel_rfl) (.inl rfl) (by kernel_rfl) ?_
  refine evs_run 1 (by kernel_rfl) ?_
  refine evs_endS (by kernel_rfl) (fun τ hτ => ?_)
  refine th_normalS hτ ⟨[(0, (.sl (List.map (cS (cS cI)) jobs))), (1, (.sl (List.map cI order))), (6, (vI r4))], []⟩ (here (by kernel_rfl)) ?_
  refine sem_seq (by kernel_rfl) ?_
  refine sem_region (by kernel_rfl) ?_
  refine evs_run 2 (by kernel_rfl) ?_
  refine evs_endS (by kernel_rfl) (fun τ hτ => ?_)
  refine th_normalS hτ ⟨[(0, (.sl (List.map (cS (cS cI)) jobs))), (1, (.sl (List.map cI order))), (6, (vI r4)), (10, (vB (r4 != 0)))], []⟩ (here (by kernel_rfl)) ?_
  refine sem_cond (r4 != 0) (by kernel_rfl) (by kernel_rfl) (fun hb => ?_) (fun hb => ?_)
  · replace h := iteT hb h
    refine sem_seq (by kernel_rfl) ?_
    refine sem_region (by kernel_rfl) ?_
    refine evs_run 3 (by kernel_rfl) ?_
    refine evs_endS (by kernel_rfl) (fun τ hτ => ?_)
    refine th_normalS hτ ⟨[(4, (.row (.top 4) 38)), (5, (vI r4))], [(4, .row 38 [] (List.map (cS cI) []))]⟩ (here (by kernel_rfl)) ?_
    refine sem_retS (by kernel_rfl) (fun τ hτ => ?_)
    refine th_ret ?_
    obtain rfl := Option.some.inj h
    exact rk_ret hτ [(4, (.row (.top 0) 38)), (5, (vI r4))] (subR_prep [.jrow 4 [(0, 3)]] [(4, 0)] (by kernel_rfl) rfl rfl (by kernel_rfl)) (by kernel_rfl)
  · replace h := iteF hb h
    refine sem_skipS (by kernel_rfl) (fun τ hτ => ?_)
    refine th_normalS hτ ⟨[(0, (.sl (List.map (cS (cS cI)) jobs))), (1, (.sl (List.map cI order)))], []⟩ (here (by kernel_rfl)) ?_
    refine sem_seq (by kernel_rfl) ?_
    refine sem_seq (by kernel_rfl) ?_
    refine sem_region (by kernel_rfl) ?_
    refine evs_run 2 (by kernel_rfl) ?_
    refine evs_op (st_len (c := (cS (cS cI))) (l := jobs) (x := (.sl (List.map (cS (cS cI)) jobs))) (by kernel_rfl) (by kernel_rfl)) ?_
    obtain ⟨r8, hr8, h⟩ := bindS h
    refine evs_callP [] (by kernel_rfl) (W.setup_isPermutation_ok hr8) (by kernel_rfl) (.inl rfl) (by kernel_rfl) ?_
    refine evs_run 1 (by kernel_rfl) ?_
    refine evs_endS (by kernel_rfl) (fun τ hτ => ?_)
    refine th_normalS hτ ⟨[(0, (.sl (List.map (cS (cS cI)) jobs))), (1, (.sl (List.map cI order))), (16, (vB (!r8)))], []⟩ (here (by kernel_rfl)) ?_
    refine sem_cond (!r8) (by kernel_rfl) (by kernel_rfl) (fun hb => ?_) (fun hb => ?_)
    · replace h := iteT hb h
      refine sem_seq (by kernel_rfl) ?_
      refine sem_region (by kernel_rfl) ?_
      refine evs_run 2 (by kernel_rfl) ?_
      refine evs_endS (by kernel_rfl) (fun τ hτ => ?_)
      refine th_normalS hτ ⟨[(4, (.row (.top 4) 38)), (5, (vI 1))], [(4, .row 38 [] (List.map (cS cI) []))]⟩ (here (by kernel_rfl)) ?_
      refine sem_retS (by kernel_rfl) (fun τ hτ => ?_)
      refine th_ret ?_
      obtain rfl := Option.some.inj h
      exact rk_ret hτ [(4, (.row (.top 0) 38)), (5, (vI 1))] (subR_prep [.jrow 4 [(0, 3)]] [(4, 0)] (by kernel_rfl) rfl rfl (by kernel_rfl)) (by kernel_rfl)
    · replace h := iteF hb h
      refine sem_skipS (by kernel_rfl) (fun τ hτ => ?_)
      refine th_normalS hτ ⟨[(0, (.sl (List.map (cS (cS cI)) jobs))), (1, (.sl (List.map cI order)))], []⟩ (here (by kernel_rfl)) ?_
      refine sem_seq (by kernel_rfl) ?_
      refine sem_seq (by kernel_rfl) ?_
      refine sem_region (by kernel_rfl) ?_
      refine evs_run 1 (by kernel_rfl) ?_
      obtain ⟨r12, hr12, h⟩ := bindS h
      refine evs_callP [] (by kernel_rfl) (W.setup_tooMany_ok hr12) (by kernel_rfl) (.inl rfl) (by kernel_rfl) ?_
      refine evs_endS (by kernel_rfl) (fun τ hτ => ?_)
      refine th_normalS hτ ⟨[(0, (.sl (List.map (cS (cS cI)) jobs))), (1, (.sl (List.map cI order))), (18, (vB r12))], []⟩ (here (by kernel_rfl)) ?_
      refine sem_cond r12 (by kernel_rfl) (by kernel_rfl) (fun hb => ?_) (fun hb => ?_)
      · replace h := iteT hb h
        refine sem_seq (by kernel_rfl) ?_
        refine sem_region (by kernel_rfl) ?_
        refine evs_run 2 (by kernel_rfl) ?_
        refine evs_endS (by kernel_rfl) (fun τ hτ => ?_)
        refine th_normalS hτ ⟨[(4, (.row (.top 4) 38)), (5, (vI 4))], [(4, .row 38 [] (List.map (cS cI) []))]⟩ (here (by kernel_rfl)) ?_
        refine sem_retS (by kernel_rfl) (fun τ hτ => ?_)
        refine th_ret ?_
        obtain rfl := Option.some.inj h
        exact rk_ret hτ [(4, (.row (.top 0) 38)), (5, (vI 4))] (subR_prep [.jrow 4 [(0, 3)]] [(4, 0)] (by kernel_rfl) rfl rfl (by kernel_rfl)) (by kernel_rfl)
      · replace h := iteF hb h
        refine sem_skipS (by kernel_rfl) (fun τ hτ => ?_)
        refine th_normalS hτ ⟨[(0, (.sl (List.map (cS (cS cI)) jobs))), (1, (.sl (List.map cI order)))], []⟩ (here (by kernel_rfl)) ?_
        refine sem_seq (by kernel_rfl) ?_
        refine sem_region (by kernel_rfl) ?_
        refine evs_run 2 (by kernel_rfl) ?_
        obtain ⟨r14, hr14, h⟩ := bindS h
        refine evs_callS [] [(0, 700100)] [] (by kernel_rfl) (W.setup_join_ok hr14) (by kernel_rfl) (by kernel_rfl) (.inl rfl) ?_
        refine evs_run 2 (by kernel_rfl) ?_
        refine evs_endS (by kernel_rfl) (fun τ hτ => ?_)
        refine th_normalS hτ ⟨[(4, (.row (.top 700100) 38)), (5, (vI 0))], [(700100, .row 38 [(0, 3)] (List.map (cS cI) r14))]⟩ (here (by kernel_rfl)) ?_
        refine sem_retS (by kernel_rfl) (fun τ hτ => ?_)
        obtain rfl := Option.some.inj h
        exact rk_ret hτ [(4, (.row (.top 0) 38)), (5, (vI 0))] (subR_prep [] [(700100, 0)] (by kernel_rfl) rfl rfl (by kernel_rfl)) (by kernel_rfl)
theorem W.sheetmetallaw05_total_ok {jobs : (List (List (List Int)))} {r : Int} (h : sheetmetallaw05_total jobs = some r) : PC G.P 31 [(.sl (List.map (cS (cS cI)) jobs))] [] (vI r) [] := by
  refine pc_of G (fn := Try.f31) Try.func31 (by kernel_rfl) (by kernel_rfl) (by kernel_rfl) (by kernel_rfl) (by kernel_rfl) ?_
  refine sem_set ⟨[(0, (.sl (List.map (cS (cS cI)) jobs)))], []⟩ (by kernel_rfl) ?_
  refine sem_seq (by kernel_rfl) ?_
  refine sem_region (by kernel_rfl) ?_
  refine evs_run 1 (by kernel_rfl) ?_
  refine evs_endS (by kernel_rfl) (fun τ hτ => ?_)
  refine th_normalS hτ ⟨[(0, (.sl (List.map (cS (cS cI)) jobs)))], []⟩ (here (by kernel_rfl)) ?_
  refine sem_seq (by kernel_rfl) ?_
  refine sem_region (by kernel_rfl) ?_
  refine evs_run 1 (by kernel_rfl) ?_
  refine evs_endS (by kernel_rfl) (fun τ hτ => ?_)
  refine th_normalS hτ ⟨[(0, (.sl (List.map (cS (cS cI)) jobs))), (3, (vI 0))], []⟩ (here (by kernel_rfl)) ?_
  refine sem_seq (by kernel_rfl) ?_
  refine sem_seq (by kernel_rfl) ?_
  refine sem_region (by kernel_rfl) ?_
  refine evs_run 1 (by kernel_rfl) ?_
  refine evs_endS (by kernel_rfl) (fun τ hτ => ?_)
  refine th_normalS hτ ⟨[(0, (.sl (List.map (cS (cS cI)) jobs))), (3, (vI 0)), (4, (vI 0))], []⟩ (here (by kernel_rfl)) ?_
  refine sem_block (by kernel_rfl) ?_
  obtain ⟨x30, hx30, h⟩ := bindS h
  refine sem_loopS (fun (s21 : Int × Int) => ⟨[(0, (.sl (List.map (cS (cS cI)) jobs))), (3, (vI s21.1)), (4, (vI s21.2))], []⟩) (fun (x30 : Int) => (.exit 0, ⟨[(3, (vI x30))], []⟩)) (sheetmetallaw05_total_l1 jobs) (0, 0) x30 (by kernel_rfl) (here (by kernel_rfl)) hx30 ?_ ?_ ?_
  · intro s21 r h
    refine sem_seq (by kernel_rfl) ?_
    refine sem_seq (by kernel_rfl) ?_
    refine sem_region (by kernel_rfl) ?_
    refine evs_run 2 (by kernel_rfl) ?_
    refine evs_op (st_len (c := (cS (cS cI))) (l := jobs) (x := (.sl (List.map (cS (cS cI)) jobs))) (by kernel_rfl) (by kernel_rfl)) ?_
    refine evs_run 1 (by kernel_rfl) ?_
    refine evs_endS (by kernel_rfl) (fun τ hτ => ?_)
    refine th_normalS hτ ⟨[(0, (.sl (List.map (cS (cS cI)) jobs))), (3, (vI s21.1)), (4, (vI s21.2)), (8, (vB (decide (s21.2 < (jobs.length : Int)))))], []⟩ (here (by kernel_rfl)) ?_
    refine sem_cond (decide (s21.2 < (jobs.length : Int))) (by kernel_rfl) (by kernel_rfl) (fun hb => ?_) (fun hb => ?_)
    · replace h := iteT hb h
      refine sem_skipS (by kernel_rfl) (fun τ hτ => ?_)
      refine th_normalS hτ ⟨[(0, (.sl (List.map (cS (cS cI)) jobs))), (3, (vI s21.1)), (4, (vI s21.2))], []⟩ (here (by kernel_rfl)) ?_
      refine sem_seq (by kernel_rfl) ?_
      refine sem_block (by kernel_rfl) ?_
      refine sem_region (by kernel_rfl) ?_
      refine evs_run 3 (by kernel_rfl) ?_
      obtain ⟨x29, hx29, h⟩ := bindS h
      refine evs_op (st_idx (c := (cS (cS cI))) (l := jobs) (i := s21.2) (kd := .i64) (sz := 1) (by kernel_rfl) hx29 rfl) ?_
      refine evs_run 1 (by kernel_rfl) ?_
      refine evs_op (st_len (c := (cS cI)) (l := x29) (x := (.sl (List.map (cS cI) x29))) (by kernel_rfl) (by kernel_rfl)) ?_
      refine evs_run 2 (by kernel_rfl) ?_
      refine evs_endS (by kernel_rfl) (fun τ hτ => ?_)
      refine bl_normal ?_
      refine th_normalS hτ ⟨[(0, (.sl (List.map (cS (cS cI)) jobs))), (3, (vI (iadd s21.1 (x29.length : Int)))), (4, (vI s21.2))], []⟩ (here (by kernel_rfl)) ?_
      refine sem_region (by kernel_rfl) ?_
      refine evs_run 3 (by kernel_rfl) ?_
      refine evs_endS (by kernel_rfl) (fun τ hτ => ?_)
      obtain rfl := Option.some.inj h
      exact lk_nextS hτ (here (by kernel_rfl))
    · replace h := iteF hb h
      refine sem_exitS 0 (by kernel_rfl) rfl (fun τ hτ => ?_)
      refine th_exit ?_
      obtain rfl := Option.some.inj h
      exact lk_outS hτ rfl (here (by kernel_rfl))
  · intro x
    rfl
  · intro τ hτ
    refine bl_hit (by kernel_rfl) ?_
    refine th_normalS hτ ⟨[(3, (vI x30))], []⟩ (here (by kernel_rfl)) ?_
    refine sem_seq (by kernel_rfl) ?_
    refine sem_region (by kernel_rfl) ?_
    refine evs_run 2 (by kernel_rfl) ?_
    refine evs_endS (by kernel_rfl) (fun τ hτ => ?_)
    refine th_normalS hτ ⟨[(2, (vI x30))], []⟩ (here (by kernel_rfl)) ?_
    refine sem_retS (by kernel_rfl) (fun τ hτ => ?_)
    obtain rfl := Option.some.inj h
    exact rk_ret hτ [(2, (vI x30))] (here (by kernel_rfl)) (by kernel_rfl)
theorem W.setup_Best_1'_body_ok (self : (List Int) → Int → (List Int) → (List (List (List Int))) → Int → Option (Int × (List Int))) (hself : ∀ {order : (List Int)} {h0_0 : Int} {h1_0 : (List Int)} {h3_0 : (List (List (List Int)))} {h4_0 : Int} {r : Int × (List Int)}, self order h0_0 h1_0 h3_0 h4_0 = some r → PC G.P 63 [(.sl (List.map cI order)), (.ptr 1000003 0), (.ptr 1000004 0), (.ptr 1000000 0), (.ptr 1000001 0), (.ptr 1000002 0)] [(1000000, .box [(vI h0_0)]), (1000001, .box [(.sl (List.map cI h1_0))]), (1000002, .box [(.fn 63 [(.ptr 1000003 0), (.ptr 1000004 0), (.ptr 1000000 0), (.ptr 1000001 0), (.ptr 1000002 0)])]), (1000003, .box [(.sl (List.map (cS (cS cI)) h3_0))]), (1000004, .box [(vI h4_0)])] (.tup []) [(1000000, .box [(vI r.1)]), (1000001, .box [(.sl (List.map cI r.2))]), (1000002, .box [(.fn 63 [(.ptr 1000003 0), (.ptr 1000004 0), (.ptr 1000000 0), (.ptr 1000001 0), (.ptr 1000002 0)])]), (1000003, .box [(.sl (List.map (cS (cS cI)) h3_0))]), (1000004, .box [(vI h4_0)])]) {order : (List Int)} {h0_0 : Int} {h1_0 : (List Int)} {h3_0 : (List (List (List Int)))} {h4_0 : Int} {r : Int × (List Int)} (h : setup_Best_1'_body self order h0_0 h1_0 h3_0 h4_0 = some r) : PC G.P 63 [(.sl (List.map cI order)), (.ptr 1000003 0), (.ptr 1000004 0), (.ptr 1000000 0), (.ptr 1000001 0), (.ptr 1000002 0)] [(1000000, .box [(vI h0_0)]), (1000001, .box [(.sl (List.map cI h1_0))]), (1000002, .box [(.fn 63 [(.ptr 1000003 0), (.ptr 1000004 0), (.ptr 1000000 0), (.ptr 1000001 0), (.ptr 1000002 0)])]), (1000003, .box [(.sl (List.map (cS (cS cI)) h3_0))]), (1000004, .box [(vI h4_0)])] (.tup []) [(1000000, .box [(vI r.1)]), (1000001, .box [(.sl (List.map cI r.2))]), (1000002, .box [(.fn 63 [(.ptr 1000003 0), (.ptr 1000004 0), (.ptr 1000000 0), (.ptr 1000001 0), (.ptr 1000002 0)])]), (1000003, .box [(.sl (List.map (cS (cS cI)) h3_0))]), (1000004, .box [(vI h4_0)])] := by
  refine pc_of G (fn := Try.f63) Try.func63 (by kernel_rfl) (by kernel_rfl) (by kernel_rfl) (by kernel_rfl) (by kernel_rfl) ?_
  refine sem_set ⟨[(0, (.sl (List.map cI order))), (1, (.ptr 1000003 0)), (2, (.ptr 1000004 0)), (3, (.ptr 1000000 0)), (4, (.ptr 1000001 0)), (5, (.ptr 1000002 0))], [(1000000, .box [(vI h0_0)]), (1000001, .box [(.sl (List.map cI h1_0))]), (1000002, .box [(.fn 63 [(.ptr 1000003 0), (.ptr 1000004 0), (.ptr 1000000 0), (.ptr 1000001 0), (.ptr 1000002 0)])]), (1000003, .box [(.sl (List.map (cS (cS cI)) h3_0))]), (1000004, .box [(vI h4_0)])]⟩ (by kernel_rfl) ?_
  refine sem_seq (by kernel_rfl) ?_
  refine sem_seq (by kernel_rfl) ?_
  refine sem_region (by kernel_rfl) ?_
  refine evs_run 1 (by kernel_rfl) ?_
  refine evs_op (st_len (c := cI) (l := order) (x := (.sl (List.map cI order))) (by kernel_rfl) (by kernel_rfl)) ?_
  refine evs_run 1 (by kernel_rfl) ?_
  refine evs_op (st_len (c := (cS (cS cI))) (l := h3_0) (x := (.sl (List.map (cS (cS cI)) h3_0))) (by kernel_rfl) (by kernel_rfl)) ?_
  refine evs_run 1 (by kernel_rfl) ?_
  refine evs_endS (by kernel_rfl) (fun τ hτ => ?_)
  refine th_normalS hτ ⟨[(0, (.sl (List.map cI order))), (1, (.ptr 1000003 0)), (2, (.ptr 1000004 0)), (3, (.ptr 1000000 0)), (4, (.ptr 1000001 0)), (5, (.ptr 1000002 0)), (13, (vB ((order.length : Int) == (h3_0.length : Int))))], [(1000000, .box [(vI h0_0)]), (1000001, .box [(.sl (List.map cI h1_0))]), (1000002, .box [(.fn 63 [(.ptr 1000003 0), (.ptr 1000004 0), (.ptr 1000000 0), (.ptr 1000001 0), (.ptr 1000002 0)])]), (1000003, .box [(.sl (List.map (cS (cS cI)) h3_0))]), (1000004, .box [(vI h4_0)])]⟩ (here (by kernel_rfl)) ?_
  refine sem_cond ((order.length : Int) == (h3_0.length : Int)) (by kernel_rfl) (by kernel_rfl) (fun hb => ?_) (fun hb => ?_)
  · replace h := iteT hb h
    refine sem_seqJ (fun (j23 : Int × (List Int)) => ⟨[], [(1000000, .box [(vI j23.1)]), (1000001, .box [(.sl (List.map cI j23.2))]), (1000002, .box [(.fn 63 [(.ptr 1000003 0), (.ptr 1000004 0), (.ptr 1000000 0), (.ptr 1000001 0), (.ptr 1000002 0)])]), (1000003, .box [(.sl (List.map (cS (cS cI)) h3_0))]), (1000004, .box [(vI h4_0)])]⟩) (setup_Best_1'_k1) r (by kernel_rfl) (fun j23 h => ?_) ?_
    · refine sem_retS (by kernel_rfl) (fun τ hτ => ?_)
      refine th_ret ?_
      obtain rfl := Option.some.inj h
      exact rk_ret hτ [] (here (by kernel_rfl)) (by kernel_rfl)
    refine sem_seq (by kernel_rfl) ?_
    refine sem_draw [(2, [700100])] [(2, [700100])] [] [(3, [700100])] [(0, [700100]), (1, [700100]), (3, [700100])] 4 (by kernel_rfl) (by kernel_rfl) [700100] (by kernel_rfl) (by kernel_rfl) ?_
    refine evd_run 2 (by kernel_rfl) ?_
    obtain ⟨r28, hr28, h⟩ := bindS h
    refine evd_callS [(0, 700100)] [] (by kernel_rfl) (by kernel_rfl) (W.setup_join_ok hr28) (by kernel_rfl) (.inl rfl) (by kernel_rfl) (by kernel_rfl) ?_
    refine evd_run 1 (by kernel_rfl) ?_
    refine evd_end (by kernel_rfl) ?_
    obtain ⟨r29, hr29, h⟩ := bindS h
    refine evo_callP [700100] (by kernel_rfl) (W.setup_fewest_ok hr29) (by kernel_rfl) (.inr rfl) (by kernel_rfl) ?_
    refine evo_run 1 (by kernel_rfl) ?_
    refine evo_endS (by kernel_rfl) (fun τ hτ => ?_)
    refine th_normalS hτ ⟨[(0, (.sl (List.map cI order))), (3, (.ptr 1000000 0)), (4, (.ptr 1000001 0)), (7, (vI r29))], [(1000000, .box [(vI h0_0)]), (1000001, .box [(.sl (List.map cI h1_0))]), (1000002, .box [(.fn 63 [(.ptr 1000003 0), (.ptr 1000004 0), (.ptr 1000000 0), (.ptr 1000001 0), (.ptr 1000002 0)])]), (1000003, .box [(.sl (List.map (cS (cS cI)) h3_0))]), (1000004, .box [(vI h4_0)])]⟩ (here (by kernel_rfl)) ?_
    refine sem_seq (by kernel_rfl) ?_
    obtain ⟨j30, hj30, h⟩ := bindS h
    refine sem_regionC ⟨[(0, (.sl (List.map cI order))), (3, (.ptr 1000000 0)), (4, (.ptr 1000001 0)), (7, (vI r29)), (25, (vB j30))], [(1000000, .box [(vI h0_0)]), (1000001, .box [(.sl (List.map cI h1_0))]), (1000002, .box [(.fn 63 [(.ptr 1000003 0), (.ptr 1000004 0), (.ptr 1000000 0), (.ptr 1000001 0), (.ptr 1000002 0)])]), (1000003, .box [(.sl (List.map (cS (cS cI)) h3_0))]), (1000004, .box [(vI h4_0)])]⟩ (by kernel_rfl) ?_ (fun τ hτ => ?_)
    · replace h := hj30
      refine evs_run 3 (by kernel_rfl) ?_
      refine evs_split (decide (h0_0 < 0)) (fun b0 => ⟨[(0, (.sl (List.map cI order))), (3, (.ptr 1000000 0)), (4, (.ptr 1000001 0)), (7, (vI r29)), (21, (vB b0))], [(1000000, .box [(vI h0_0)]), (1000001, .box [(.sl (List.map cI h1_0))]), (1000002, .box [(.fn 63 [(.ptr 1000003 0), (.ptr 1000004 0), (.ptr 1000000 0), (.ptr 1000001 0), (.ptr 1000002 0)])]), (1000003, .box [(.sl (List.map (cS (cS cI)) h3_0))]), (1000004, .box [(vI h4_0)])]⟩) (by kernel_rfl) (fun hb => ?_) (fun hb => ?_)
      · replace h := iteT hb h
        refine evs_run 4 (by kernel_rfl) ?_
        refine evs_endS (by kernel_rfl) (fun τ hτ => ?_)
        obtain rfl := Option.some.inj h
        exact leafC hτ (here (by kernel_rfl))
      · replace h := iteF hb h
        refine evs_run 4 (by kernel_rfl) ?_
        refine evs_endS (by kernel_rfl) (fun τ hτ => ?_)
        obtain rfl := Option.some.inj h
        exact leafC hτ (here (by kernel_rfl))
    refine th_normalS hτ ⟨[(0, (.sl (List.map cI order))), (3, (.ptr 1000000 0)), (4, (.ptr 1000001 0)), (7, (vI r29)), (25, (vB j30))], [(1000000, .box [(vI h0_0)]), (1000001, .box [(.sl (List.map cI h1_0))]), (1000002, .box [(.fn 63 [(.ptr 1000003 0), (.ptr 1000004 0), (.ptr 1000000 0), (.ptr 1000001 0), (.ptr 1000002 0)])]), (1000003, .box [(.sl (List.map (cS (cS cI)) h3_0))]), (1000004, .box [(vI h4_0)])]⟩ (here (by kernel_rfl)) ?_
    refine sem_cond j30 (by kernel_rfl) (by kernel_rfl) (fun hb => ?_) (fun hb => ?_)
    · replace h := iteT hb h
      refine sem_region (by kernel_rfl) ?_
      refine evs_run 4 (by kernel_rfl) ?_
      refine evs_endS (by kernel_rfl) (fun τ hτ => ?_)
      exact jk_normal (r29, order) h hτ (here (by kernel_rfl))
    · replace h := iteF hb h
      refine sem_skipS (by kernel_rfl) (fun τ hτ => ?_)
      exact jk_normal (h0_0, h1_0) h hτ (here (by kernel_rfl))
  · replace h := iteF hb h
    refine sem_skipS (by kernel_rfl) (fun τ hτ => ?_)
    refine th_normalS hτ ⟨[(0, (.sl (List.map cI order))), (1, (.ptr 1000003 0)), (5, (.ptr 1000002 0))], [(1000000, .box [(vI h0_0)]), (1000001, .box [(.sl (List.map cI h1_0))]), (1000002, .box [(.fn 63 [(.ptr 1000003 0), (.ptr 1000004 0), (.ptr 1000000 0), (.ptr 1000001 0), (.ptr 1000002 0)])]), (1000003, .box [(.sl (List.map (cS (cS cI)) h3_0))]), (1000004, .box [(vI h4_0)])]⟩ (here (by kernel_rfl)) ?_
    refine sem_seq (by kernel_rfl) ?_
    refine sem_region (by kernel_rfl) ?_
    refine evs_run 1 (by kernel_rfl) ?_
    refine evs_op (st_len (c := (cS (cS cI))) (l := h3_0) (x := (.sl (List.map (cS (cS cI)) h3_0))) (by kernel_rfl) (by kernel_rfl)) ?_
    refine evs_run 1 (by kernel_rfl) ?_
    refine evs_endS (by kernel_rfl) (fun τ hτ => ?_)
    refine th_normalS hτ ⟨[(0, (.sl (List.map cI order))), (5, (.ptr 1000002 0)), (29, (vI (h3_0.length : Int))), (30, (vI 0))], [(1000000, .box [(vI h0_0)]), (1000001, .box [(.sl (List.map cI h1_0))]), (1000002, .box [(.fn 63 [(.ptr 1000003 0), (.ptr 1000004 0), (.ptr 1000000 0), (.ptr 1000001 0), (.ptr 1000002 0)])]), (1000003, .box [(.sl (List.map (cS (cS cI)) h3_0))]), (1000004, .box [(vI h4_0)])]⟩ (here (by kernel_rfl)) ?_
    refine sem_block (by kernel_rfl) ?_
    obtain ⟨x102, hx102, h⟩ := bindS h
    refine sem_loopS (fun (s55 : Int × Int × (List Int)) => ⟨[(0, (.sl (List.map cI order))), (5, (.ptr 1000002 0)), (29, (vI (h3_0.length : Int))), (30, (vI s55.1))], [(1000000, .box [(vI s55.2.1)]), (1000001, .box [(.sl (List.map cI s55.2.2))]), (1000002, .box [(.fn 63 [(.ptr 1000003 0), (.ptr 1000004 0), (.ptr 1000000 0), (.ptr 1000001 0), (.ptr 1000002 0)])]), (1000003, .box [(.sl (List.map (cS (cS cI)) h3_0))]), (1000004, .box [(vI h4_0)])]⟩) (fun (x102 : Int × (List Int)) => (.exit 0, ⟨[], [(1000000, .box [(vI x102.1)]), (1000001, .box [(.sl (List.map cI x102.2))]), (1000002, .box [(.fn 63 [(.ptr 1000003 0), (.ptr 1000004 0), (.ptr 1000000 0), (.ptr 1000001 0), (.ptr 1000002 0)])]), (1000003, .box [(.sl (List.map (cS (cS cI)) h3_0))]), (1000004, .box [(vI h4_0)])]⟩)) (setup_Best_1'_l3 self order h3_0 h4_0) (0, h0_0, h1_0) x102 (by kernel_rfl) (here (by kernel_rfl)) hx102 ?_ ?_ ?_
    · intro s55 r h
      refine sem_seq (by kernel_rfl) ?_
      refine sem_region (by kernel_rfl) ?_
      refine evs_run 1 (by kernel_rfl) ?_
      refine evs_endS (by kernel_rfl) (fun τ hτ => ?_)
      refine th_normalS hτ ⟨[(0, (.sl (List.map cI order))), (5, (.ptr 1000002 0)), (29, (vI (h3_0.length : Int))), (30, (vI s55.1)), (31, (vB (decide (s55.1 < (h3_0.length : Int)))))], [(1000000, .box [(vI s55.2.1)]), (1000001, .box [(.sl (List.map cI s55.2.2))]), (1000002, .box [(.fn 63 [(.ptr 1000003 0), (.ptr 1000004 0), (.ptr 1000000 0), (.ptr 1000001 0), (.ptr 1000002 0)])]), (1000003, .box [(.sl (List.map (cS (cS cI)) h3_0))]), (1000004, .box [(vI h4_0)])]⟩ (here (by kernel_rfl)) ?_
      refine sem_seq (by kernel_rfl) ?_
      refine sem_cond (decide (s55.1 < (h3_0.length : Int))) (by kernel_rfl) (by kernel_rfl) (fun hb => ?_) (fun hb => ?_)
      · replace h := iteT hb h
        refine sem_skipS (by kernel_rfl) (fun τ hτ => ?_)
        refine th_normalS hτ ⟨[(0, (.sl (List.map cI order))), (5, (.ptr 1000002 0)), (29, (vI (h3_0.length : Int))), (30, (vI s55.1))], [(1000000, .box [(vI s55.2.1)]), (1000001, .box [(.sl (List.map cI s55.2.2))]), (1000002, .box [(.fn 63 [(.ptr 1000003 0), (.ptr 1000004 0), (.ptr 1000000 0), (.ptr 1000001 0), (.ptr 1000002 0)])]), (1000003, .box [(.sl (List.map (cS (cS cI)) h3_0))]), (1000004, .box [(vI h4_0)])]⟩ (here (by kernel_rfl)) ?_
        refine sem_seqJ (fun (j90 : Int × (List Int)) => ⟨[(0, (.sl (List.map cI order))), (5, (.ptr 1000002 0)), (29, (vI (h3_0.length : Int))), (30, (vI s55.1))], [(1000000, .box [(vI j90.1)]), (1000001, .box [(.sl (List.map cI j90.2))]), (1000002, .box [(.fn 63 [(.ptr 1000003 0), (.ptr 1000004 0), (.ptr 1000000 0), (.ptr 1000001 0), (.ptr 1000002 0)])]), (1000003, .box [(.sl (List.map (cS (cS cI)) h3_0))]), (1000004, .box [(vI h4_0)])]⟩) (setup_Best_1'_k2 s55) r (by kernel_rfl) (fun j90 h => ?_) ?_
        · refine sem_region (by kernel_rfl) ?_
          refine evs_run 2 (by kernel_rfl) ?_
          refine evs_endS (by kernel_rfl) (fun τ hτ => ?_)
          obtain rfl := Option.some.inj h
          exact lk_nextS hτ (here (by kernel_rfl))
        refine sem_block (by kernel_rfl) ?_
        refine sem_seq (by kernel_rfl) ?_
        refine sem_region (by kernel_rfl) ?_
        refine evs_run 2 (by kernel_rfl) ?_
        refine evs_endS (by kernel_rfl) (fun τ hτ => ?_)
        refine th_normalS hτ ⟨[(0, (.sl (List.map cI order))), (5, (.ptr 1000002 0)), (8, (vI s55.1)), (29, (vI (h3_0.length : Int))), (30, (vI s55.1))], [(1000000, .box [(vI s55.2.1)]), (1000001, .box [(.sl (List.map cI s55.2.2))]), (1000002, .box [(.fn 63 [(.ptr 1000003 0), (.ptr 1000004 0), (.ptr 1000000 0), (.ptr 1000001 0), (.ptr 1000002 0)])]), (1000003, .box [(.sl (List.map (cS (cS cI)) h3_0))]), (1000004, .box [(vI h4_0)])]⟩ (here (by kernel_rfl)) ?_
        refine sem_seq (by kernel_rfl) ?_
        refine sem_region (by kernel_rfl) ?_
        refine evs_run 2 (by kernel_rfl) ?_
        obtain ⟨r92, hr92, h⟩ := bindS h
        refine evs_callP [] (by kernel_rfl) (W.slices_Contains_Lint_int_ok hr92) (by kernel_rfl) (.inl rfl) (by kernel_rfl) ?_
        refine evs_run 1 (by kernel_rfl) ?_
        refine evs_endS (by kernel_rfl) (fun τ hτ => ?_)
        refine th_normalS hτ ⟨[(0, (.sl (List.map cI order))), (5, (.ptr 1000002 0)), (8, (vI s55.1)), (29, (vI (h3_0.length : Int))), (30, (vI s55.1)), (36, (vB (!r92)))], [(1000000, .box [(vI s55.2.1)]), (1000001, .box [(.sl (List.map cI s55.2.2))]), (1000002, .box [(.fn 63 [(.ptr 1000003 0), (.ptr 1000004 0), (.ptr 1000000 0), (.ptr 1000001 0), (.ptr 1000002 0)])]), (1000003, .box [(.sl (List.map (cS (cS cI)) h3_0))]), (1000004, .box [(vI h4_0)])]⟩ (here (by kernel_rfl)) ?_
        refine sem_cond (!r92) (by kernel_rfl) (by kernel_rfl) (fun hb => ?_) (fun hb => ?_)
        · replace h := iteT hb h
          refine sem_draw [(2, [700100]), (5, [700100, 600005])] [(2, [700100]), (5, [600005])] [] [(0, [700100, 600005]), (3, [700100]), (4, [700100])] [(0, [700100, 600005]), (1, [700100, 600005]), (2, [600005]), (3, [700100, 600005]), (4, [700100, 600005])] 6 (by kernel_rfl) (by kernel_rfl) [700100, 600005] (by kernel_rfl) (by kernel_rfl) ?_
          refine evd_run 2 (by kernel_rfl) ?_
          obtain ⟨r99, hr99, h⟩ := bindS h
          refine evd_callS [(0, 700100)] [] (by kernel_rfl) (by kernel_rfl) (W.slices_Clone_Lint_int_ok hr99) (by kernel_rfl) (.inl rfl) (by kernel_rfl) (by kernel_rfl) ?_
          refine evd_run 2 (by kernel_rfl) ?_
          obtain ⟨l100, hl100, h⟩ := bindS h
          refine evd_app (c := cI) (l := r99) (l2 := [s55.1]) (x := (.sl (List.map cI [s55.1]))) (g := 700100) (g2 := 600005) (e := 3) (sz := 1) (d := 42) (by kernel_rfl) (by kernel_rfl) (by kernel_rfl) (by kernel_rfl) (by kernel_rfl) (fun _ => rfl) hl100 (by kernel_rfl) (by kernel_rfl) (by kernel_rfl) (by kernel_rfl) (by kernel_rfl) ?_
          refine evd_end (by kernel_rfl) ?_
          refine evo_prep [.frz 600005] (by kernel_rfl) ?_
          obtain ⟨r101, hr101, h⟩ := bindS h
          refine evo_callS [(1000000, 1000000), (1000001, 1000001), (1000002, 1000002), (1000003, 1000003), (1000004, 1000004)] [] [] (by kernel_rfl) (hself hr101) (by kernel_rfl) (by kernel_rfl) (.inl rfl) ?_
          refine evo_endS (by kernel_rfl) (fun τ hτ => ?_)
          refine bl_normal ?_
          exact jk_normal (r101.1, r101.2) h hτ (here (by kernel_rfl))
        · replace h := iteF hb h
          refine sem_skipS (by kernel_rfl) (fun τ hτ => ?_)
          refine bl_normal ?_
          exact jk_normal (s55.2.1, s55.2.2) h hτ (here (by kernel_rfl))
      · replace h := iteF hb h
        refine sem_exitS 0 (by kernel_rfl) rfl (fun τ hτ => ?_)
        refine th_exit ?_
        obtain rfl := Option.some.inj h
        exact lk_outS hτ rfl (here (by kernel_rfl))
    · intro x
      rfl
    · intro τ hτ
      refine bl_hit (by kernel_rfl) ?_
      obtain rfl := Option.some.inj h
      exact rk_normal hτ [] (here (by kernel_rfl)) (by kernel_rfl)
theorem W.setup_Best_1'_n_ok : ∀ (n : Nat) {order : (List Int)} {h0_0 : Int} {h1_0 : (List Int)} {h3_0 : (List (List (List Int)))} {h4_0 : Int} {r : Int × (List Int)}, setup_Best_1'_n n order h0_0 h1_0 h3_0 h4_0 = some r → PC G.P 63 [(.sl (List.map cI order)), (.ptr 1000003 0), (.ptr 1000004 0), (.ptr 1000000 0), (.ptr 1000001 0), (.ptr 1000002 0)] [(1000000, .box [(vI h0_0)]), (1000001, .box [(.sl (List.map cI h1_0))]), (1000002, .box [(.fn 63 [(.ptr 1000003 0), (.ptr 1000004 0), (.ptr 1000000 0), (.ptr 1000001 0), (.ptr 1000002 0)])]), (1000003, .box [(.sl (List.map (cS (cS cI)) h3_0))]), (1000004, .box [(vI h4_0)])] (.tup []) [(1000000, .box [(vI r.1)]), (1000001, .box [(.sl (List.map cI r.2))]), (1000002, .box [(.fn 63 [(.ptr 1000003 0), (.ptr 1000004 0), (.ptr 1000000 0), (.ptr 1000001 0), (.ptr 1000002 0)])]), (1000003, .box [(.sl (List.map (cS (cS cI)) h3_0))]), (1000004, .box [(vI h4_0)])]
  | 0, _, _, _, _, _, _, h => by simp [setup_Best_1'_n] at h
  | n + 1, _, _, _, _, _, _, h => W.setup_Best_1'_body_ok (setup_Best_1'_n n) (W.setup_Best_1'_n_ok n) h
theorem W.setup_Best_1'_ok {order : (List Int)} {h0_0 : Int} {h1_0 : (List Int)} {h3_0 : (List (List (List Int)))} {h4_0 : Int} {r : Int × (List Int)} (h : setup_Best_1' order h0_0 h1_0 h3_0 h4_0 = some r) : PC G.P 63 [(.sl (List.map cI order)), (.ptr 1000003 0), (.ptr 1000004 0), (.ptr 1000000 0), (.ptr 1000001 0), (.ptr 1000002 0)] [(1000000, .box [(vI h0_0)]), (1000001, .box [(.sl (List.map cI h1_0))]), (1000002, .box [(.fn 63 [(.ptr 1000003 0), (.ptr 1000004 0), (.ptr 1000000 0), (.ptr 1000001 0), (.ptr 1000002 0)])]), (1000003, .box [(.sl (List.map (cS (cS cI)) h3_0))]), (1000004, .box [(vI h4_0)])] (.tup []) [(1000000, .box [(vI r.1)]), (1000001, .box [(.sl (List.map cI r.2))]), (1000002, .box [(.fn 63 [(.ptr 1000003 0), (.ptr 1000004 0), (.ptr 1000000 0), (.ptr 1000001 0), (.ptr 1000002 0)])]), (1000003, .box [(.sl (List.map (cS (cS cI)) h3_0))]), (1000004, .box [(vI h4_0)])] := W.setup_Best_1'_n_ok 1000 h

theorem W.setup_Best_1_body_ok (self : (List Int) → Int → (List Int) → (List (List (List Int))) → Int → Option (Int × (List Int))) (hself : ∀ {order : (List Int)} {h0_0 : Int} {h2 : (List Int)} {h4_0 : (List (List (List Int)))} {h5_0 : Int} {r : Int × (List Int)}, self order h0_0 h2 h4_0 h5_0 = some r → PC G.P 63 [(.sl (List.map cI order)), (.ptr 1000004 0), (.ptr 1000005 0), (.ptr 1000000 0), (.ptr 1000001 0), (.ptr 1000003 0)] [(1000000, .box [(vI h0_0)]), (1000001, .box [(.row (.top 300002) 3)]), (300002, .row 3 [] (List.map cI h2)), (1000003, .box [(.fn 63 [(.ptr 1000004 0), (.ptr 1000005 0), (.ptr 1000000 0), (.ptr 1000001 0), (.ptr 1000003 0)])]), (1000004, .box [(.sl (List.map (cS (cS cI)) h4_0))]), (1000005, .box [(vI h5_0)])] (.tup []) [(1000000, .box [(vI r.1)]), (1000001, .box [(.sl (List.map cI r.2))]), (1000003, .box [(.fn 63 [(.ptr 1000004 0), (.ptr 1000005 0), (.ptr 1000000 0), (.ptr 1000001 0), (.ptr 1000003 0)])]), (1000004, .box [(.sl (List.map (cS (cS cI)) h4_0))]), (1000005, .box [(vI h5_0)])]) {order : (List Int)} {h0_0 : Int} {h2 : (List Int)} {h4_0 : (List (List (List Int)))} {h5_0 : Int} {r : Int × (List Int)} (h : setup_Best_1_body self order h0_0 h2 h4_0 h5_0 = some r) : PC G.P 63 [(.sl (List.map cI order)), (.ptr 1000004 0), (.ptr 1000005 0), (.ptr 1000000 0), (.ptr 1000001 0), (.ptr 1000003 0)] [(1000000, .box [(vI h0_0)]), (1000001, .box [(.row (.top 300002) 3)]), (300002, .row 3 [] (List.map cI h2)), (1000003, .box [(.fn 63 [(.ptr 1000004 0), (.ptr 1000005 0), (.ptr 1000000 0), (.ptr 1000001 0), (.ptr 1000003 0)])]), (1000004, .box [(.sl (List.map (cS (cS cI)) h4_0))]), (1000005, .box [(vI h5_0)])] (.tup []) [(1000000, .box [(vI r.1)]), (1000001, .box [(.sl (List.map cI r.2))]), (1000003, .box [(.fn 63 [(.ptr 1000004 0), (.ptr 1000005 0), (.ptr 1000000 0), (.ptr 1000001 0), (.ptr 1000003 0)])]), (1000004, .box [(.sl (List.map (cS (cS cI)) h4_0))]), (1000005, .box [(vI h5_0)])] := by
  refine pc_of G (fn := Try.f63) Try.func63 (by kernel_rfl) (by kernel_rfl) (by kernel_rfl) (by kernel_rfl) (by kernel_rfl) ?_
  refine sem_set ⟨[(0, (.sl (List.map cI order))), (1, (.ptr 1000004 0)), (2, (.ptr 1000005 0)), (3, (.ptr 1000000 0)), (4, (.ptr 1000001 0)), (5, (.ptr 1000003 0))], [(300002, .row 3 [] (List.map cI h2)), (1000000, .box [(vI h0_0)]), (1000001, .box [(.row (.top 300002) 3)]), (1000003, .box [(.fn 63 [(.ptr 1000004 0), (.ptr 1000005 0), (.ptr 1000000 0), (.ptr 1000001 0), (.ptr 1000003 0)])]), (1000004, .box [(.sl (List.map (cS (cS cI)) h4_0))]), (1000005, .box [(vI h5_0)])]⟩ (by kernel_rfl) ?_
  refine sem_seq (by kernel_rfl) ?_
  refine sem_seq (by kernel_rfl) ?_
  refine sem_region (by kernel_rfl) ?_
  refine evs_run 1 (by kernel_rfl) ?_
  refine evs_op (st_len (c := cI) (l := order) (x := (.sl (List.map cI order))) (by kernel_rfl) (by kernel_rfl)) ?_
  refine evs_run 1 (by kernel_rfl) ?_
  refine evs_op (st_len (c := (cS (cS cI))) (l := h4_0) (x := (.sl (List.map (cS (cS cI)) h4_0))) (by kernel_rfl) (by kernel_rfl)) ?_
  refine evs_run 1 (by kernel_rfl) ?_
  refine evs_endS (by kernel_rfl) (fun τ hτ => ?_)
  refine th_normalS hτ ⟨[(0, (.sl (List.map cI order))), (1, (.ptr 1000004 0)), (2, (.ptr 1000005 0)), (3, (.ptr 1000000 0)), (4, (.ptr 1000001 0)), (5, (.ptr 1000003 0)), (13, (vB ((order.length : Int) == (h4_0.length : Int))))], [(300002, .row 3 [] (List.map cI h2)), (1000000, .box [(vI h0_0)]), (1000001, .box [(.row (.top 300002) 3)]), (1000003, .box [(.fn 63 [(.ptr 1000004 0), (.ptr 1000005 0), (.ptr 1000000 0), (.ptr 1000001 0), (.ptr 1000003 0)])]), (1000004, .box [(.sl (List.map (cS (cS cI)) h4_0))]), (1000005, .box [(vI h5_0)])]⟩ (here (by kernel_rfl)) ?_
  refine sem_cond ((order.length : Int) == (h4_0.length : Int)) (by kernel_rfl) (by kernel_rfl) (fun hb => ?_) (fun hb => ?_)
  · replace h := iteT hb h
    refine sem_seqJ (fun (j23 : Int × (List Int)) => ⟨[], [(1000000, .box [(vI j23.1)]), (1000001, .box [(.sl (List.map cI j23.2))]), (1000003, .box [(.fn 63 [(.ptr 1000004 0), (.ptr 1000005 0), (.ptr 1000000 0), (.ptr 1000001 0), (.ptr 1000003 0)])]), (1000004, .box [(.sl (List.map (cS (cS cI)) h4_0))]), (1000005, .box [(vI h5_0)])]⟩) (setup_Best_1_k1) r (by kernel_rfl) (fun j23 h => ?_) ?_
    · refine sem_retS (by kernel_rfl) (fun τ hτ => ?_)
      refine th_ret ?_
      obtain rfl := Option.some.inj h
      exact rk_ret hτ [] (here (by kernel_rfl)) (by kernel_rfl)
    refine sem_seq (by kernel_rfl) ?_
    refine sem_draw [(2, [700100])] [(2, [700100])] [] [(3, [700100])] [(0, [700100]), (1, [700100]), (3, [700100])] 4 (by kernel_rfl) (by kernel_rfl) [700100] (by kernel_rfl) (by kernel_rfl) ?_
    refine evd_run 2 (by kernel_rfl) ?_
    obtain ⟨r28, hr28, h⟩ := bindS h
    refine evd_callS [(0, 700100)] [] (by kernel_rfl) (by kernel_rfl) (W.setup_join_ok hr28) (by kernel_rfl) (.inl rfl) (by kernel_rfl) (by kernel_rfl) ?_
    refine evd_run 1 (by kernel_rfl) ?_
    refine evd_end (by kernel_rfl) ?_
    obtain ⟨r29, hr29, h⟩ := bindS h
    refine evo_callP [700100] (by kernel_rfl) (W.setup_fewest_ok hr29) (by kernel_rfl) (.inr rfl) (by kernel_rfl) ?_
    refine evo_run 1 (by kernel_rfl) ?_
    refine evo_endS (by kernel_rfl) (fun τ hτ => ?_)
    refine th_normalS hτ ⟨[(0, (.sl (List.map cI order))), (3, (.ptr 1000000 0)), (4, (.ptr 1000001 0)), (7, (vI r29))], [(300002, .row 3 [] (List.map cI h2)), (1000000, .box [(vI h0_0)]), (1000001, .box [(.row (.top 300002) 3)]), (1000003, .box [(.fn 63 [(.ptr 1000004 0), (.ptr 1000005 0), (.ptr 1000000 0), (.ptr 1000001 0), (.ptr 1000003 0)])]), (1000004, .box [(.sl (List.map (cS (cS cI)) h4_0))]), (1000005, .box [(vI h5_0)])]⟩ (here (by kernel_rfl)) ?_
    refine sem_seq (by kernel_rfl) ?_
    obtain ⟨j30, hj30, h⟩ := bindS h
    refine sem_regionC ⟨[(0, (.sl (List.map cI order))), (3, (.ptr 1000000 0)), (4, (.ptr 1000001 0)), (7, (vI r29)), (25, (vB j30))], [(500000, .row 3 [] (List.map cI h2)), (1000000, .box [(vI h0_0)]), (1000001, .box [(.row (.top 500000) 3)]), (1000003, .box [(.fn 63 [(.ptr 1000004 0), (.ptr 1000005 0), (.ptr 1000000 0), (.ptr 1000001 0), (.ptr 1000003 0)])]), (1000004, .box [(.sl (List.map (cS (cS cI)) h4_0))]), (1000005, .box [(vI h5_0)])]⟩ (by kernel_rfl) ?_ (fun τ hτ => ?_)
    · replace h := hj30
      refine evs_run 3 (by kernel_rfl) ?_
      refine evs_split (decide (h0_0 < 0)) (fun b0 => ⟨[(0, (.sl (List.map cI order))), (3, (.ptr 1000000 0)), (4, (.ptr 1000001 0)), (7, (vI r29)), (21, (vB b0))], [(300002, .row 3 [] (List.map cI h2)), (1000000, .box [(vI h0_0)]), (1000001, .box [(.row (.top 300002) 3)]), (1000003, .box [(.fn 63 [(.ptr 1000004 0), (.ptr 1000005 0), (.ptr 1000000 0), (.ptr 1000001 0), (.ptr 1000003 0)])]), (1000004, .box [(.sl (List.map (cS (cS cI)) h4_0))]), (1000005, .box [(vI h5_0)])]⟩) (by kernel_rfl) (fun hb => ?_) (fun hb => ?_)
      · replace h := iteT hb h
        refine evs_run 4 (by kernel_rfl) ?_
        refine evs_endS (by kernel_rfl) (fun τ hτ => ?_)
        obtain rfl := Option.some.inj h
        exact leafC hτ (subR_prep [] [(300002, 500000), (1000000, 1000000), (1000001, 1000001), (1000003, 1000003), (1000004, 1000004), (1000005, 1000005)] (by kernel_rfl) rfl rfl (by kernel_rfl))
      · replace h := iteF hb h
        refine evs_run 4 (by kernel_rfl) ?_
        refine evs_endS (by kernel_rfl) (fun τ hτ => ?_)
        obtain rfl := Option.some.inj h
        exact leafC hτ (subR_prep [] [(300002, 500000), (1000000, 1000000), (1000001, 1000001), (1000003, 1000003), (1000004, 1000004), (1000005, 1000005)] (by kernel_rfl) rfl rfl (by kernel_rfl))
    refine th_normalS hτ ⟨[(0, (.sl (List.map cI order))), (3, (.ptr 1000000 0)), (4, (.ptr 1000001 0)), (7, (vI r29)), (25, (vB j30))], [(500000, .row 3 [] (List.map cI h2)), (1000000, .box [(vI h0_0)]), (1000001, .box [(.row (.top 500000) 3)]), (1000003, .box [(.fn 63 [(.ptr 1000004 0), (.ptr 1000005 0), (.ptr 1000000 0), (.ptr 1000001 0), (.ptr 1000003 0)])]), (1000004, .box [(.sl (List.map (cS (cS cI)) h4_0))]), (1000005, .box [(vI h5_0)])]⟩ (here (by kernel_rfl)) ?_
    refine sem_cond j30 (by kernel_rfl) (by kernel_rfl) (fun hb => ?_) (fun hb => ?_)
    · replace h := iteT hb h
      refine sem_region (by kernel_rfl) ?_
      refine evs_run 4 (by kernel_rfl) ?_
      refine evs_endS (by kernel_rfl) (fun τ hτ => ?_)
      exact jk_normal (r29, order) h hτ (here (by kernel_rfl))
    · replace h := iteF hb h
      refine sem_skipS (by kernel_rfl) (fun τ hτ => ?_)
      exact jk_normal (h0_0, h2) h hτ (subR_prep [.frz 500000] [(1000000, 1000000), (1000001, 1000001), (1000003, 1000003), (1000004, 1000004), (1000005, 1000005)] (by kernel_rfl) rfl rfl (by kernel_rfl))
  · replace h := iteF hb h
    refine sem_skipS (by kernel_rfl) (fun τ hτ => ?_)
    refine th_normalS hτ ⟨[(0, (.sl (List.map cI order))), (1, (.ptr 1000004 0)), (5, (.ptr 1000003 0))], [(300002, .row 3 [] (List.map cI h2)), (1000000, .box [(vI h0_0)]), (1000001, .box [(.row (.top 300002) 3)]), (1000003, .box [(.fn 63 [(.ptr 1000004 0), (.ptr 1000005 0), (.ptr 1000000 0), (.ptr 1000001 0), (.ptr 1000003 0)])]), (1000004, .box [(.sl (List.map (cS (cS cI)) h4_0))]), (1000005, .box [(vI h5_0)])]⟩ (here (by kernel_rfl)) ?_
    refine sem_seq (by kernel_rfl) ?_
    refine sem_region (by kernel_rfl) ?_
    refine evs_run 1 (by kernel_rfl) ?_
    refine evs_op (st_len (c := (cS (cS cI))) (l := h4_0) (x := (.sl (List.map (cS (cS cI)) h4_0))) (by kernel_rfl) (by kernel_rfl)) ?_
    refine evs_run 1 (by kernel_rfl) ?_
    refine evs_endS (by kernel_rfl) (fun τ hτ => ?_)
    refine th_normalS hτ ⟨[(0, (.sl (List.map cI order))), (5, (.ptr 1000003 0)), (29, (vI (h4_0.length : Int))), (30, (vI 0))], [(300002, .row 3 [] (List.map cI h2)), (1000000, .box [(vI h0_0)]), (1000001, .box [(.row (.top 300002) 3)]), (1000003, .box [(.fn 63 [(.ptr 1000004 0), (.ptr 1000005 0), (.ptr 1000000 0), (.ptr 1000001 0), (.ptr 1000003 0)])]), (1000004, .box [(.sl (List.map (cS (cS cI)) h4_0))]), (1000005, .box [(vI h5_0)])]⟩ (here (by kernel_rfl)) ?_
    refine sem_block (by kernel_rfl) ?_
    obtain ⟨x102, hx102, h⟩ := bindS h
    refine sem_loopS (fun (s55 : Int × Int × (List Int)) => ⟨[(0, (.sl (List.map cI order))), (5, (.ptr 1000003 0)), (29, (vI (h4_0.length : Int))), (30, (vI s55.1))], [(1000000, .box [(vI s55.2.1)]), (1000001, .box [(.sl (List.map cI s55.2.2))]), (1000003, .box [(.fn 63 [(.ptr 1000004 0), (.ptr 1000005 0), (.ptr 1000000 0), (.ptr 1000001 0), (.ptr 1000003 0)])]), (1000004, .box [(.sl (List.map (cS (cS cI)) h4_0))]), (1000005, .box [(vI h5_0)])]⟩) (fun (x102 : Int × (List Int)) => (.exit 0, ⟨[], [(1000000, .box [(vI x102.1)]), (1000001, .box [(.sl (List.map cI x102.2))]), (1000003, .box [(.fn 63 [(.ptr 1000004 0), (.ptr 1000005 0), (.ptr 1000000 0), (.ptr 1000001 0), (.ptr 1000003 0)])]), (1000004, .box [(.sl (List.map (cS (cS cI)) h4_0))]), (1000005, .box [(vI h5_0)])]⟩)) (setup_Best_1_l3 order h4_0 h5_0) (0, h0_0, h2) x102 (by kernel_rfl) (subR_prep [.frz 300002] [(1000000, 1000000), (1000001, 1000001), (1000003, 1000003), (1000004, 1000004), (1000005, 1000005)] (by kernel_rfl) rfl rfl (by kernel_rfl)) hx102 ?_ ?_ ?_
    · intro s55 r h
      refine sem_seq (by kernel_rfl) ?_
      refine sem_region (by kernel_rfl) ?_
      refine evs_run 1 (by kernel_rfl) ?_
      refine evs_endS (by kernel_rfl) (fun τ hτ => ?_)
      refine th_normalS hτ ⟨[(0, (.sl (List.map cI order))), (5, (.ptr 1000003 0)), (29, (vI (h4_0.length : Int))), (30, (vI s55.1)), (31, (vB (decide (s55.1 < (h4_0.length : Int)))))], [(1000000, .box [(vI s55.2.1)]), (1000001, .box [(.sl (List.map cI s55.2.2))]), (1000003, .box [(.fn 63 [(.ptr 1000004 0), (.ptr 1000005 0), (.ptr 1000000 0), (.ptr 1000001 0), (.ptr 1000003 0)])]), (1000004, .box [(.sl (List.map (cS (cS cI)) h4_0))]), (1000005, .box [(vI h5_0)])]⟩ (here (by kernel_rfl)) ?_
      refine sem_seq (by kernel_rfl) ?_
      refine sem_cond (decide (s55.1 < (h4_0.length : Int))) (by kernel_rfl) (by kernel_rfl) (fun hb => ?_) (fun hb => ?_)
      · replace h := iteT hb h
        refine sem_skipS (by kernel_rfl) (fun τ hτ => ?_)
        refine th_normalS hτ ⟨[(0, (.sl (List.map cI order))), (5, (.ptr 1000003 0)), (29, (vI (h4_0.length : Int))), (30, (vI s55.1))], [(1000000, .box [(vI s55.2.1)]), (1000001, .box [(.sl (List.map cI s55.2.2))]), (1000003, .box [(.fn 63 [(.ptr 1000004 0), (.ptr 1000005 0), (.ptr 1000000 0), (.ptr 1000001 0), (.ptr 1000003 0)])]), (1000004, .box [(.sl (List.map (cS (cS cI)) h4_0))]), (1000005, .box [(vI h5_0)])]⟩ (here (by kernel_rfl)) ?_
        refine sem_seqJ (fun (j90 : Int × (List Int)) => ⟨[(0, (.sl (List.map cI order))), (5, (.ptr 1000003 0)), (29, (vI (h4_0.length : Int))), (30, (vI s55.1))], [(1000000, .box [(vI j90.1)]), (1000001, .box [(.sl (List.map cI j90.2))]), (1000003, .box [(.fn 63 [(.ptr 1000004 0), (.ptr 1000005 0), (.ptr 1000000 0), (.ptr 1000001 0), (.ptr 1000003 0)])]), (1000004, .box [(.sl (List.map (cS (cS cI)) h4_0))]), (1000005, .box [(vI h5_0)])]⟩) (setup_Best_1_k2 s55) r (by kernel_rfl) (fun j90 h => ?_) ?_
        · refine sem_region (by kernel_rfl) ?_
          refine evs_run 2 (by kernel_rfl) ?_
          refine evs_endS (by kernel_rfl) (fun τ hτ => ?_)
          obtain rfl := Option.some.inj h
          exact lk_nextS hτ (here (by kernel_rfl))
        refine sem_block (by kernel_rfl) ?_
        refine sem_seq (by kernel_rfl) ?_
        refine sem_region (by kernel_rfl) ?_
        refine evs_run 2 (by kernel_rfl) ?_
        refine evs_endS (by kernel_rfl) (fun τ hτ => ?_)
        refine th_normalS hτ ⟨[(0, (.sl (List.map cI order))), (5, (.ptr 1000003 0)), (8, (vI s55.1)), (29, (vI (h4_0.length : Int))), (30, (vI s55.1))], [(1000000, .box [(vI s55.2.1)]), (1000001, .box [(.sl (List.map cI s55.2.2))]), (1000003, .box [(.fn 63 [(.ptr 1000004 0), (.ptr 1000005 0), (.ptr 1000000 0), (.ptr 1000001 0), (.ptr 1000003 0)])]), (1000004, .box [(.sl (List.map (cS (cS cI)) h4_0))]), (1000005, .box [(vI h5_0)])]⟩ (here (by kernel_rfl)) ?_
        refine sem_seq (by kernel_rfl) ?_
        refine sem_region (by kernel_rfl) ?_
        refine evs_run 2 (by kernel_rfl) ?_
        obtain ⟨r92, hr92, h⟩ := bindS h
        refine evs_callP [] (by kernel_rfl) (W.slices_Contains_Lint_int_ok hr92) (by kernel_rfl) (.inl rfl) (by kernel_rfl) ?_
        refine evs_run 1 (by kernel_rfl) ?_
        refine evs_endS (by kernel_rfl) (fun τ hτ => ?_)
        refine th_normalS hτ ⟨[(0, (.sl (List.map cI order))), (5, (.ptr 1000003 0)), (8, (vI s55.1)), (29, (vI (h4_0.length : Int))), (30, (vI s55.1)), (36, (vB (!r92)))], [(1000000, .box [(vI s55.2.1)]), (1000001, .box [(.sl (List.map cI s55.2.2))]), (1000003, .box [(.fn 63 [(.ptr 1000004 0), (.ptr 1000005 0), (.ptr 1000000 0), (.ptr 1000001 0), (.ptr 1000003 0)])]), (1000004, .box [(.sl (List.map (cS (cS cI)) h4_0))]), (1000005, .box [(vI h5_0)])]⟩ (here (by kernel_rfl)) ?_
        refine sem_cond (!r92) (by kernel_rfl) (by kernel_rfl) (fun hb => ?_) (fun hb => ?_)
        · replace h := iteT hb h
          refine sem_draw [(2, [700100]), (5, [700100, 600005])] [(2, [700100]), (5, [600005])] [] [(0, [700100, 600005]), (3, [700100]), (4, [700100])] [(0, [700100, 600005]), (1, [700100, 600005]), (2, [600005]), (3, [700100, 600005]), (4, [700100, 600005])] 6 (by kernel_rfl) (by kernel_rfl) [700100, 600005] (by kernel_rfl) (by kernel_rfl) ?_
          refine evd_run 2 (by kernel_rfl) ?_
          obtain ⟨r99, hr99, h⟩ := bindS h
          refine evd_callS [(0, 700100)] [] (by kernel_rfl) (by kernel_rfl) (W.slices_Clone_Lint_int_ok hr99) (by kernel_rfl) (.inl rfl) (by kernel_rfl) (by kernel_rfl) ?_
          refine evd_run 2 (by kernel_rfl) ?_
          obtain ⟨l100, hl100, h⟩ := bindS h
          refine evd_app (c := cI) (l := r99) (l2 := [s55.1]) (x := (.sl (List.map cI [s55.1]))) (g := 700100) (g2 := 600005) (e := 3) (sz := 1) (d := 42) (by kernel_rfl) (by kernel_rfl) (by kernel_rfl) (by kernel_rfl) (by kernel_rfl) (fun _ => rfl) hl100 (by kernel_rfl) (by kernel_rfl) (by kernel_rfl) (by kernel_rfl) (by kernel_rfl) ?_
          refine evd_end (by kernel_rfl) ?_
          refine evo_prep [.frz 600005] (by kernel_rfl) ?_
          obtain ⟨r101, hr101, h⟩ := bindS h
          refine evo_callS [(1000000, 1000000), (1000001, 1000001), (1000002, 1000003), (1000003, 1000004), (1000004, 1000005)] [] [] (by kernel_rfl) (W.setup_Best_1'_ok hr101) (by kernel_rfl) (by kernel_rfl) (.inl rfl) ?_
          refine evo_endS (by kernel_rfl) (fun τ hτ => ?_)
          refine bl_normal ?_
          exact jk_normal (r101.1, r101.2) h hτ (here (by kernel_rfl))
        · replace h := iteF hb h
          refine sem_skipS (by kernel_rfl) (fun τ hτ => ?_)
          refine bl_normal ?_
          exact jk_normal (s55.2.1, s55.2.2) h hτ (here (by kernel_rfl))
      · replace h := iteF hb h
        refine sem_exitS 0 (by kernel_rfl) rfl (fun τ hτ => ?_)
        refine th_exit ?_
        obtain rfl := Option.some.inj h
        exact lk_outS hτ rfl (here (by kernel_rfl))
    · intro x
      rfl
    · intro τ hτ
      refine bl_hit (by kernel_rfl) ?_
      obtain rfl := Option.some.inj h
      exact rk_normal hτ [] (here (by kernel_rfl)) (by kernel_rfl)
theorem W.setup_Best_1_n_ok : ∀ (n : Nat) {order : (List Int)} {h0_0 : Int} {h2 : (List Int)} {h4_0 : (List (List (List Int)))} {h5_0 : Int} {r : Int × (List Int)}, setup_Best_1_n n order h0_0 h2 h4_0 h5_0 = some r → PC G.P 63 [(.sl (List.map cI order)), (.ptr 1000004 0), (.ptr 1000005 0), (.ptr 1000000 0), (.ptr 1000001 0), (.ptr 1000003 0)] [(1000000, .box [(vI h0_0)]), (1000001, .box [(.row (.top 300002) 3)]), (300002, .row 3 [] (List.map cI h2)), (1000003, .box [(.fn 63 [(.ptr 1000004 0), (.ptr 1000005 0), (.ptr 1000000 0), (.ptr 1000001 0), (.ptr 1000003 0)])]), (1000004, .box [(.sl (List.map (cS (cS cI)) h4_0))]), (1000005, .box [(vI h5_0)])] (.tup []) [(1000000, .box [(vI r.1)]), (1000001, .box [(.sl (List.map cI r.2))]), (1000003, .box [(.fn 63 [(.ptr 1000004 0), (.ptr 1000005 0), (.ptr 1000000 0), (.ptr 1000001 0), (.ptr 1000003 0)])]), (1000004, .box [(.sl (List.map (cS (cS cI)) h4_0))]), (1000005, .box [(vI h5_0)])]
  | 0, _, _, _, _, _, _, h => by simp [setup_Best_1_n] at h
  | n + 1, _, _, _, _, _, _, h => W.setup_Best_1_body_ok (setup_Best_1_n n) (W.setup_Best_1_n_ok n) h
theorem W.setup_Best_1_ok {order : (List Int)} {h0_0 : Int} {h2 : (List Int)} {h4_0 : (List (List (List Int)))} {h5_0 : Int} {r : Int × (List Int)} (h : setup_Best_1 order h0_0 h2 h4_0 h5_0 = some r) : PC G.P 63 [(.sl (List.map cI order)), (.ptr 1000004 0), (.ptr 1000005 0), (.ptr 1000000 0), (.ptr 1000001 0), (.ptr 1000003 0)] [(1000000, .box [(vI h0_0)]), (1000001, .box [(.row (.top 300002) 3)]), (300002, .row 3 [] (List.map cI h2)), (1000003, .box [(.fn 63 [(.ptr 1000004 0), (.ptr 1000005 0), (.ptr 1000000 0), (.ptr 1000001 0), (.ptr 1000003 0)])]), (1000004, .box [(.sl (List.map (cS (cS cI)) h4_0))]), (1000005, .box [(vI h5_0)])] (.tup []) [(1000000, .box [(vI r.1)]), (1000001, .box [(.sl (List.map cI r.2))]), (1000003, .box [(.fn 63 [(.ptr 1000004 0), (.ptr 1000005 0), (.ptr 1000000 0), (.ptr 1000001 0), (.ptr 1000003 0)])]), (1000004, .box [(.sl (List.map (cS (cS cI)) h4_0))]), (1000005, .box [(vI h5_0)])] := W.setup_Best_1_n_ok 1000 h

theorem W.setup_Best_ok {jobs : (List (List (List Int)))} {stations : Int} {r : (List Int) × Int × Int} (h : setup_Best jobs stations = some r) : PC G.P 32 [(.sl (List.map (cS (cS cI)) jobs)), (vI stations)] [] (.tup [(.sl (List.map cI r.1)), (vI r.2.1), (vI r.2.2)]) [] := by
  refine pc_of G (fn := Try.f32) Try.func32 (by kernel_rfl) (by kernel_rfl) (by kernel_rfl) (by kernel_rfl) (by kernel_rfl) ?_
  refine sem_set ⟨[(0, (.sl (List.map (cS (cS cI)) jobs))), (1, (vI stations))], []⟩ (by kernel_rfl) ?_
  refine sem_seq (by kernel_rfl) ?_
  refine sem_region (by kernel_rfl) ?_
  refine evs_run 5 (by kernel_rfl) ?_
  refine evs_endS (by kernel_rfl) (fun τ hτ => ?_)
  refine th_normalS hτ ⟨[(2, (.ptr 2 0)), (3, (.ptr 3 0))], [(2, .box [(.sl (List.map (cS (cS cI)) jobs))]), (3, .box [(vI stations)])]⟩ (here (by kernel_rfl)) ?_
  refine sem_seq (by kernel_rfl) ?_
  refine sem_seq (by kernel_rfl) ?_
  refine sem_region (by kernel_rfl) ?_
  refine evs_run 1 (by kernel_rfl) ?_
  obtain ⟨r4, hr4, h⟩ := bindS h
  refine evs_callP [] (by kernel_rfl) (W.setup_checkJobs_ok hr4) (by kernel_rfl) (.inl rfl) (by kernel_rfl) ?_
  refine evs_run 1 (by kernel_rfl) ?_
  refine evs_endS (by kernel_rfl) (fun τ hτ => ?_)
  refine th_normalS hτ ⟨[(2, (.ptr 2 0)), (3, (.ptr 3 0)), (7, (vI r4))], [(2, .box [(.sl (List.map (cS (cS cI)) jobs))]), (3, .box [(vI stations)])]⟩ (here (by kernel_rfl)) ?_
  refine sem_seq (by kernel_rfl) ?_
  refine sem_region (by kernel_rfl) ?_
  refine evs_run 2 (by kernel_rfl) ?_
  refine evs_endS (by kernel_rfl) (fun τ hτ => ?_)
  refine th_normalS hτ ⟨[(2, (.ptr 2 0)), (3, (.ptr 3 0)), (7, (vI r4)), (14, (vB (r4 != 0)))], [(2, .box [(.sl (List.map (cS (cS cI)) jobs))]), (3, .box [(vI stations)])]⟩ (here (by kernel_rfl)) ?_
  refine sem_cond (r4 != 0) (by kernel_rfl) (by kernel_rfl) (fun hb => ?_) (fun hb => ?_)
  · replace h := iteT hb h
    refine sem_seq (by kernel_rfl) ?_
    refine sem_region (by kernel_rfl) ?_
    refine evs_run 4 (by kernel_rfl) ?_
    refine evs_endS (by kernel_rfl) (fun τ hτ => ?_)
    refine th_normalS hτ ⟨[(4, (.row (.top 4) 3)), (5, (vI 0)), (6, (vI r4))], [(4, .row 3 [] (List.map cI []))]⟩ (here (by kernel_rfl)) ?_
    refine sem_retS (by kernel_rfl) (fun τ hτ => ?_)
    refine th_ret ?_
    obtain rfl := Option.some.inj h
    exact rk_ret hτ [(4, (.sl (List.map cI []))), (5, (vI 0)), (6, (vI r4))] (subR_prep [.frz 4] [] (by kernel_rfl) rfl rfl (by kernel_rfl)) (by kernel_rfl)
  · replace h := iteF hb h
    refine sem_skipS (by kernel_rfl) (fun τ hτ => ?_)
    refine th_normalS hτ ⟨[(2, (.ptr 2 0)), (3, (.ptr 3 0))], [(2, .box [(.sl (List.map (cS (cS cI)) jobs))]), (3, .box [(vI stations)])]⟩ (here (by kernel_rfl)) ?_
    refine sem_seq (by kernel_rfl) ?_
    refine sem_seq (by kernel_rfl) ?_
    obtain ⟨j6, hj6, h⟩ := bindS h
    refine sem_regionC ⟨[(2, (.ptr 500000 0)), (3, (.ptr 500001 0)), (21, (vB j6))], [(500000, .box [(.sl (List.map (cS (cS cI)) jobs))]), (500001, .box [(vI stations)])]⟩ (by kernel_rfl) ?_ (fun τ hτ => ?_)
    · replace h := hj6
      refine evs_run 3 (by kernel_rfl) ?_
      refine evs_split (decide (stations < 1)) (fun b0 => ⟨[(2, (.ptr 2 0)), (3, (.ptr 3 0)), (18, (vB b0))], [(2, .box [(.sl (List.map (cS (cS cI)) jobs))]), (3, .box [(vI stations)])]⟩) (by kernel_rfl) (fun hb => ?_) (fun hb => ?_)
      · replace h := iteT hb h
        refine evs_run 3 (by kernel_rfl) ?_
        refine evs_endS (by kernel_rfl) (fun τ hτ => ?_)
        obtain rfl := Option.some.inj h
        exact leafC hτ (subR_prep [] [(2, 500000), (3, 500001)] (by kernel_rfl) rfl rfl (by kernel_rfl))
      · replace h := iteF hb h
        refine evs_run 3 (by kernel_rfl) ?_
        refine evs_endS (by kernel_rfl) (fun τ hτ => ?_)
        obtain rfl := Option.some.inj h
        exact leafC hτ (subR_prep [] [(2, 500000), (3, 500001)] (by kernel_rfl) rfl rfl (by kernel_rfl))
    refine th_normalS hτ ⟨[(2, (.ptr 500000 0)), (3, (.ptr 500001 0)), (21, (vB j6))], [(500000, .box [(.sl (List.map (cS (cS cI)) jobs))]), (500001, .box [(vI stations)])]⟩ (here (by kernel_rfl)) ?_
    refine sem_cond j6 (by kernel_rfl) (by kernel_rfl) (fun hb => ?_) (fun hb => ?_)
    · replace h := iteT hb h
      refine sem_seq (by kernel_rfl) ?_
      refine sem_region (by kernel_rfl) ?_
      refine evs_run 3 (by kernel_rfl) ?_
      refine evs_endS (by kernel_rfl) (fun τ hτ => ?_)
      refine th_normalS hτ ⟨[(4, (.row (.top 4) 3)), (5, (vI 0)), (6, (vI 1))], [(4, .row 3 [] (List.map cI []))]⟩ (here (by kernel_rfl)) ?_
      refine sem_retS (by kernel_rfl) (fun τ hτ => ?_)
      refine th_ret ?_
      obtain rfl := Option.some.inj h
      exact rk_ret hτ [(4, (.sl (List.map cI []))), (5, (vI 0)), (6, (vI 1))] (subR_prep [.frz 4] [] (by kernel_rfl) rfl rfl (by kernel_rfl)) (by kernel_rfl)
    · replace h := iteF hb h
      refine sem_skipS (by kernel_rfl) (fun τ hτ => ?_)
      refine th_normalS hτ ⟨[(2, (.ptr 500000 0)), (3, (.ptr 500001 0))], [(500000, .box [(.sl (List.map (cS (cS cI)) jobs))]), (500001, .box [(vI stations)])]⟩ (here (by kernel_rfl)) ?_
      refine sem_seq (by kernel_rfl) ?_
      refine sem_seq (by kernel_rfl) ?_
      refine sem_region (by kernel_rfl) ?_
      refine evs_run 1 (by kernel_rfl) ?_
      obtain ⟨r10, hr10, h⟩ := bindS h
      refine evs_callP [] (by kernel_rfl) (W.setup_tooMany_ok hr10) (by kernel_rfl) (.inl rfl) (by kernel_rfl) ?_
      refine evs_endS (by kernel_rfl) (fun τ hτ => ?_)
      refine th_normalS hτ ⟨[(2, (.ptr 500000 0)), (3, (.ptr 500001 0)), (23, (vB r10))], [(500000, .box [(.sl (List.map (cS (cS cI)) jobs))]), (500001, .box [(vI stations)])]⟩ (here (by kernel_rfl)) ?_
      refine sem_cond r10 (by kernel_rfl) (by kernel_rfl) (fun hb => ?_) (fun hb => ?_)
      · replace h := iteT hb h
        refine sem_seq (by kernel_rfl) ?_
        refine sem_region (by kernel_rfl) ?_
        refine evs_run 3 (by kernel_rfl) ?_
        refine evs_endS (by kernel_rfl) (fun τ hτ => ?_)
        refine th_normalS hτ ⟨[(4, (.row (.top 4) 3)), (5, (vI 0)), (6, (vI 4))], [(4, .row 3 [] (List.map cI []))]⟩ (here (by kernel_rfl)) ?_
        refine sem_retS (by kernel_rfl) (fun τ hτ => ?_)
        refine th_ret ?_
        obtain rfl := Option.some.inj h
        exact rk_ret hτ [(4, (.sl (List.map cI []))), (5, (vI 0)), (6, (vI 4))] (subR_prep [.frz 4] [] (by kernel_rfl) rfl rfl (by kernel_rfl)) (by kernel_rfl)
      · replace h := iteF hb h
        refine sem_skipS (by kernel_rfl) (fun τ hτ => ?_)
        refine th_normalS hτ ⟨[(2, (.ptr 500000 0)), (3, (.ptr 500001 0))], [(500000, .box [(.sl (List.map (cS (cS cI)) jobs))]), (500001, .box [(vI stations)])]⟩ (here (by kernel_rfl)) ?_
        refine sem_seq (by kernel_rfl) ?_
        refine sem_region (by kernel_rfl) ?_
        refine evs_run 1 (by kernel_rfl) ?_
        refine evs_prep [.row (.box 8 0) 800008 3 []] (by kernel_rfl) ?_
        refine evs_endS (by kernel_rfl) (fun τ hτ => ?_)
        refine th_normalS hτ ⟨[(2, (.ptr 500000 0)), (3, (.ptr 500001 0)), (8, (.ptr 8 0))], [(8, .box [(.row (.top 800008) 3)]), (500000, .box [(.sl (List.map (cS (cS cI)) jobs))]), (500001, .box [(vI stations)]), (800008, .row 3 [] (List.map cI []))]⟩ (here (by kernel_rfl)) ?_
        refine sem_seq (by kernel_rfl) ?_
        refine sem_region (by kernel_rfl) ?_
        refine evs_run 2 (by kernel_rfl) ?_
        refine evs_endS (by kernel_rfl) (fun τ hτ => ?_)
        refine th_normalS hτ ⟨[(2, (.ptr 500000 0)), (3, (.ptr 500001 0)), (8, (.ptr 8 0)), (9, (.ptr 9 0))], [(8, .box [(.row (.top 800008) 3)]), (9, .box [(vI (-1))]), (500000, .box [(.sl (List.map (cS (cS cI)) jobs))]), (500001, .box [(vI stations)]), (800008, .row 3 [] (List.map cI []))]⟩ (here (by kernel_rfl)) ?_
        refine sem_seq (by kernel_rfl) ?_
        refine sem_region (by kernel_rfl) ?_
        refine evs_run 1 (by kernel_rfl) ?_
        refine evs_endS (by kernel_rfl) (fun τ hτ => ?_)
        refine th_normalS hτ ⟨[(2, (.ptr 500000 0)), (3, (.ptr 500001 0)), (8, (.ptr 8 0)), (9, (.ptr 9 0)), (10, (.ptr 10 0))], [(8, .box [(.row (.top 800008) 3)]), (9, .box [(vI (-1))]), (10, .box [(.lit .nilFunc)]), (500000, .box [(.sl (List.map (cS (cS cI)) jobs))]), (500001, .box [(vI stations)]), (800008, .row 3 [] (List.map cI []))]⟩ (here (by kernel_rfl)) ?_
        refine sem_seq (by kernel_rfl) ?_
        refine sem_region (by kernel_rfl) ?_
        refine evs_run 2 (by kernel_rfl) ?_
        refine evs_endS (by kernel_rfl) (fun τ hτ => ?_)
        refine th_normalS hτ ⟨[(8, (.ptr 8 0)), (9, (.ptr 9 0)), (10, (.ptr 10 0))], [(8, .box [(.row (.top 800008) 3)]), (9, .box [(vI (-1))]), (10, .box [(.fn 63 [(.ptr 500000 0), (.ptr 500001 0), (.ptr 9 0), (.ptr 8 0), (.ptr 10 0)])]), (500000, .box [(.sl (List.map (cS (cS cI)) jobs))]), (500001, .box [(vI stations)]), (800008, .row 3 [] (List.map cI []))]⟩ (here (by kernel_rfl)) ?_
        refine sem_seq (by kernel_rfl) ?_
        refine sem_region (by kernel_rfl) ?_
        refine evs_run 1 (by kernel_rfl) ?_
        obtain ⟨r12, hr12, h⟩ := bindS h
        refine evs_callS [(1000000, 9), (1000001, 8), (300002, 800008), (1000003, 10), (1000004, 500000), (1000005, 500001)] [] [] (by kernel_rfl) (W.setup_Best_1_ok hr12) (by kernel_rfl) (by kernel_rfl) (.inl rfl) ?_
        refine evs_endS (by kernel_rfl) (fun τ hτ => ?_)
        refine th_normalS hτ ⟨[(8, (.ptr 8 0)), (9, (.ptr 9 0))], [(8, .box [(.sl (List.map cI r12.2))]), (9, .box [(vI r12.1)])]⟩ (here (by kernel_rfl)) ?_
        refine sem_seq (by kernel_rfl) ?_
        refine sem_draw [] [] [] [] [] 3 (by kernel_rfl) (by kernel_rfl) [] (by kernel_rfl) (by kernel_rfl) ?_
        refine evd_run 3 (by kernel_rfl) ?_
        refine evd_end (by kernel_rfl) ?_
        refine evo_run 2 (by kernel_rfl) ?_
        refine evo_endS (by kernel_rfl) (fun τ hτ => ?_)
        refine th_normalS hτ ⟨[(4, (.sl (List.map cI r12.2))), (5, (vI r12.1)), (6, (vI 0))], []⟩ (here (by kernel_rfl)) ?_
        refine sem_retS (by kernel_rfl) (fun τ hτ => ?_)
        obtain rfl := Option.some.inj h
        exact rk_ret hτ [(4, (.sl (List.map cI r12.2))), (5, (vI r12.1)), (6, (vI 0))] (here (by kernel_rfl)) (by kernel_rfl)
theorem W.sheetmetallaw05_SetupBestLeast_ok {jobs : (List (List (List Int)))} {stations : Int} {order : (List Int)} {r : Bool} (h : sheetmetallaw05_SetupBestLeast jobs stations order = some r) : PC G.P 10 [(.sl (List.map (cS (cS cI)) jobs)), (vI stations), (.sl (List.map cI order))] [] (vB r) [] := by
  refine pc_of G (fn := Try.f10) Try.func10 (by kernel_rfl) (by kernel_rfl) (by kernel_rfl) (by kernel_rfl) (by kernel_rfl) ?_
  refine sem_set ⟨[(0, (.sl (List.map (cS (cS cI)) jobs))), (1, (vI stations)), (2, (.sl (List.map cI order)))], []⟩ (by kernel_rfl) ?_
  refine sem_seq (by kernel_rfl) ?_
  refine sem_region (by kernel_rfl) ?_
  refine evs_run 1 (by kernel_rfl) ?_
  refine evs_endS (by kernel_rfl) (fun τ hτ => ?_)
  refine th_normalS hτ ⟨[(0, (.sl (List.map (cS (cS cI)) jobs))), (1, (vI stations)), (2, (.sl (List.map cI order)))], []⟩ (here (by kernel_rfl)) ?_
  refine sem_seq (by kernel_rfl) ?_
  refine sem_seq (by kernel_rfl) ?_
  obtain ⟨j13, hj13, h⟩ := bindS h
  refine sem_regionC ⟨[(0, (.sl (List.map (cS (cS cI)) jobs))), (1, (vI stations)), (2, (.sl (List.map cI order))), (32, (vB j13))], []⟩ (by kernel_rfl) ?_ (fun τ hτ => ?_)
  · replace h := hj13
    refine evs_run 1 (by kernel_rfl) ?_
    obtain ⟨r14, hr14, h⟩ := bindS h
    refine evs_callP [] (by kernel_rfl) (W.sheetmetallaw05_wide_ok hr14) (by kernel_rfl) (.inl rfl) (by kernel_rfl) ?_
    refine evs_run 1 (by kernel_rfl) ?_
    refine evs_split r14 (fun b0 => ⟨[(0, (.sl (List.map (cS (cS cI)) jobs))), (1, (vI stations)), (2, (.sl (List.map cI order))), (18, (vB b0))], []⟩) (by kernel_rfl) (fun hb => ?_) (fun hb => ?_)
    · replace h := iteT hb h
      refine evs_run 14 (by kernel_rfl) ?_
      refine evs_endS (by kernel_rfl) (fun τ hτ => ?_)
      obtain rfl := Option.some.inj h
      exact leafC hτ (here (by kernel_rfl))
    · replace h := iteF hb h
      refine evs_run 1 (by kernel_rfl) ?_
      refine evs_op (st_len (c := cI) (l := order) (x := (.sl (List.map cI order))) (by kernel_rfl) (by kernel_rfl)) ?_
      refine evs_run 3 (by kernel_rfl) ?_
      refine evs_split (decide ((order.length : Int) > 60)) (fun b0 => ⟨[(0, (.sl (List.map (cS (cS cI)) jobs))), (1, (vI stations)), (2, (.sl (List.map cI order))), (23, (vB b0))], []⟩) (by kernel_rfl) (fun hb => ?_) (fun hb => ?_)
      · replace h := iteT hb h
        refine evs_run 9 (by kernel_rfl) ?_
        refine evs_endS (by kernel_rfl) (fun τ hτ => ?_)
        obtain rfl := Option.some.inj h
        exact leafC hτ (here (by kernel_rfl))
      · replace h := iteF hb h
        refine evs_run 1 (by kernel_rfl) ?_
        obtain ⟨r15, hr15, h⟩ := bindS h
        refine evs_callP [] (by kernel_rfl) (W.sheetmetallaw05_total_ok hr15) (by kernel_rfl) (.inl rfl) (by kernel_rfl) ?_
        refine evs_run 2 (by kernel_rfl) ?_
        refine evs_split (decide (r15 > 10)) (fun b0 => ⟨[(0, (.sl (List.map (cS (cS cI)) jobs))), (1, (vI stations)), (2, (.sl (List.map cI order))), (23, (vB false)), (27, (vB b0))], []⟩) (by kernel_rfl) (fun hb => ?_) (fun hb => ?_)
        · replace h := iteT hb h
          refine evs_run 1 (by kernel_rfl) ?_
          obtain ⟨r16, hr16, h⟩ := bindS h
          refine evs_callP [] (by kernel_rfl) (W.sheetmetallaw05_total_ok hr16) (by kernel_rfl) (.inl rfl) (by kernel_rfl) ?_
          refine evs_run 3 (by kernel_rfl) ?_
          refine evs_endS (by kernel_rfl) (fun τ hτ => ?_)
          obtain rfl := Option.some.inj h
          exact leafC hτ (here (by kernel_rfl))
        · replace h := iteF hb h
          refine evs_run 5 (by kernel_rfl) ?_
          refine evs_endS (by kernel_rfl) (fun τ hτ => ?_)
          obtain rfl := Option.some.inj h
          exact leafC hτ (here (by kernel_rfl))
  refine th_normalS hτ ⟨[(0, (.sl (List.map (cS (cS cI)) jobs))), (1, (vI stations)), (2, (.sl (List.map cI order))), (32, (vB j13))], []⟩ (here (by kernel_rfl)) ?_
  refine sem_cond j13 (by kernel_rfl) (by kernel_rfl) (fun hb => ?_) (fun hb => ?_)
  · replace h := iteT hb h
    refine sem_seq (by kernel_rfl) ?_
    refine sem_region (by kernel_rfl) ?_
    obtain ⟨r18, hr18, h⟩ := bindS h
    refine evs_callP [] (by kernel_rfl) (W.sheetmetallaw05_known_ok hr18) (by kernel_rfl) (.inl rfl) (by kernel_rfl) ?_
    refine evs_run 1 (by kernel_rfl) ?_
    refine evs_endS (by kernel_rfl) (fun τ hτ => ?_)
    refine th_normalS hτ ⟨[(6, (vB r18))], []⟩ (here (by kernel_rfl)) ?_
    refine sem_retS (by kernel_rfl) (fun τ hτ => ?_)
    refine th_ret ?_
    obtain rfl := Option.some.inj h
    exact rk_ret hτ [(6, (vB r18))] (here (by kernel_rfl)) (by kernel_rfl)
  · replace h := iteF hb h
    refine sem_skipS (by kernel_rfl) (fun τ hτ => ?_)
    refine th_normalS hτ ⟨[(0, (.sl (List.map (cS (cS cI)) jobs))), (1, (vI stations)), (2, (.sl (List.map cI order)))], []⟩ (here (by kernel_rfl)) ?_
    refine sem_seq (by kernel_rfl) ?_
    refine sem_region (by kernel_rfl) ?_
    refine evs_run 2 (by kernel_rfl) ?_
    obtain ⟨r20, hr20, h⟩ := bindS h
    refine evs_callP [] (by kernel_rfl) (W.setup_Best_ok hr20) (by kernel_rfl) (.inl rfl) (by kernel_rfl) ?_
    refine evs_run 7 (by kernel_rfl) ?_
    refine evs_endS (by kernel_rfl) (fun τ hτ => ?_)
    refine th_normalS hτ ⟨[(0, (.sl (List.map (cS (cS cI)) jobs))), (1, (vI stations)), (2, (.sl (List.map cI order))), (7, (.sl (List.map cI r20.1))), (8, (vI r20.2.1)), (9, (vI r20.2.2))], []⟩ (here (by kernel_rfl)) ?_
    refine sem_seq (by kernel_rfl) ?_
    refine sem_seq (by kernel_rfl) ?_
    refine sem_region (by kernel_rfl) ?_
    refine evs_run 2 (by kernel_rfl) ?_
    refine evs_endS (by kernel_rfl) (fun τ hτ => ?_)
    refine th_normalS hτ ⟨[(0, (.sl (List.map (cS (cS cI)) jobs))), (1, (vI stations)), (2, (.sl (List.map cI order))), (7, (.sl (List.map cI r20.1))), (8, (vI r20.2.1)), (42, (vB (r20.2.2 != 0)))], []⟩ (here (by kernel_rfl)) ?_
    refine sem_cond (r20.2.2 != 0) (by kernel_rfl) (by kernel_rfl) (fun hb => ?_) (fun hb => ?_)
    · replace h := iteT hb h
      refine sem_seq (by kernel_rfl) ?_
      obtain ⟨j25, hj25, h⟩ := bindS h
      refine sem_regionC ⟨[(6, (vB j25))], []⟩ (by kernel_rfl) ?_ (fun τ hτ => ?_)
      · replace h := hj25
        refine evs_run 3 (by kernel_rfl) ?_
        refine evs_split (r20.2.1 == 0) (fun b0 => ⟨[(7, (.sl (List.map cI r20.1))), (45, (vB b0))], []⟩) (by kernel_rfl) (fun hb => ?_) (fun hb => ?_)
        · replace h := iteT hb h
          refine evs_run 1 (by kernel_rfl) ?_
          refine evs_op (st_len (c := cI) (l := r20.1) (x := (.sl (List.map cI r20.1))) (by kernel_rfl) (by kernel_rfl)) ?_
          refine evs_run 3 (by kernel_rfl) ?_
          refine evs_split ((r20.1.length : Int) == 0) (fun b0 => ⟨[(50, (vB b0))], []⟩) (by kernel_rfl) (fun hb => ?_) (fun hb => ?_)
          · replace h := iteT hb h
            obtain ⟨r26, hr26, h⟩ := bindS h
            refine evs_callP [] (by kernel_rfl) (W.sheetmetallaw05_known_ok hr26) (by kernel_rfl) (.inl rfl) (by kernel_rfl) ?_
            refine evs_run 2 (by kernel_rfl) ?_
            refine evs_endS (by kernel_rfl) (fun τ hτ => ?_)
            obtain rfl := Option.some.inj h
            exact leafC hτ (here (by kernel_rfl))
          · replace h := iteF hb h
            refine evs_run 3 (by kernel_rfl) ?_
            refine evs_endS (by kernel_rfl) (fun τ hτ => ?_)
            obtain rfl := Option.some.inj h
            exact leafC hτ (here (by kernel_rfl))
        · replace h := iteF hb h
          refine evs_run 8 (by kernel_rfl) ?_
          refine evs_endS (by kernel_rfl) (fun τ hτ => ?_)
          obtain rfl := Option.some.inj h
          exact leafC hτ (here (by kernel_rfl))
      refine th_normalS hτ ⟨[(6, (vB j25))], []⟩ (here (by kernel_rfl)) ?_
      refine sem_retS (by kernel_rfl) (fun τ hτ => ?_)
      refine th_ret ?_
      obtain rfl := Option.some.inj h
      exact rk_ret hτ [(6, (vB j25))] (here (by kernel_rfl)) (by kernel_rfl)
    · replace h := iteF hb h
      refine sem_skipS (by kernel_rfl) (fun τ hτ => ?_)
      refine th_normalS hτ ⟨[(0, (.sl (List.map (cS (cS cI)) jobs))), (1, (vI stations)), (2, (.sl (List.map cI order))), (7, (.sl (List.map cI r20.1))), (8, (vI r20.2.1))], []⟩ (here (by kernel_rfl)) ?_
      refine sem_seq (by kernel_rfl) ?_
      refine sem_region (by kernel_rfl) ?_
      refine evs_run 2 (by kernel_rfl) ?_
      obtain ⟨r28, hr28, h⟩ := bindS h
      refine evs_callS [] [(0, 700100)] [] (by kernel_rfl) (W.setup_Join_ok hr28) (by kernel_rfl) (by kernel_rfl) (.inl rfl) ?_
      refine evs_prep [.frz 700100] (by kernel_rfl) ?_
      refine evs_run 5 (by kernel_rfl) ?_
      refine evs_endS (by kernel_rfl) (fun τ hτ => ?_)
      refine th_normalS hτ ⟨[(0, (.sl (List.map (cS (cS cI)) jobs))), (1, (vI stations)), (2, (.sl (List.map cI order))), (8, (vI r20.2.1)), (10, (.sl (List.map (cS cI) r28.1))), (11, (vI r28.2))], []⟩ (here (by kernel_rfl)) ?_
      refine sem_seq (by kernel_rfl) ?_
      refine sem_region (by kernel_rfl) ?_
      refine evs_run 2 (by kernel_rfl) ?_
      obtain ⟨r30, hr30, h⟩ := bindS h
      refine evs_callP [] (by kernel_rfl) (W.setup_Least_ok hr30) (by kernel_rfl) (.inl rfl) (by kernel_rfl) ?_
      refine evs_run 5 (by kernel_rfl) ?_
      refine evs_endS (by kernel_rfl) (fun τ hτ => ?_)
      refine th_normalS hτ ⟨[(0, (.sl (List.map (cS (cS cI)) jobs))), (1, (vI stations)), (2, (.sl (List.map cI order))), (8, (vI r20.2.1)), (11, (vI r28.2)), (12, (vI r30.1)), (13, (vI r30.2))], []⟩ (here (by kernel_rfl)) ?_
      refine sem_seq (by kernel_rfl) ?_
      refine sem_seq (by kernel_rfl) ?_
      obtain ⟨j32, hj32, h⟩ := bindS h
      refine sem_regionC ⟨[(0, (.sl (List.map (cS (cS cI)) jobs))), (1, (vI stations)), (2, (.sl (List.map cI order))), (8, (vI r20.2.1)), (75, (vB j32))], []⟩ (by kernel_rfl) ?_ (fun τ hτ => ?_)
      · replace h := hj32
        refine evs_run 3 (by kernel_rfl) ?_
        refine evs_split (r28.2 != 0) (fun b0 => ⟨[(0, (.sl (List.map (cS (cS cI)) jobs))), (1, (vI stations)), (2, (.sl (List.map cI order))), (8, (vI r20.2.1)), (12, (vI r30.1)), (13, (vI r30.2)), (67, (vB b0))], []⟩) (by kernel_rfl) (fun hb => ?_) (fun hb => ?_)
        · replace h := iteT hb h
          refine evs_run 8 (by kernel_rfl) ?_
          refine evs_endS (by kernel_rfl) (fun τ hτ => ?_)
          obtain rfl := Option.some.inj h
          exact leafC hτ (here (by kernel_rfl))
        · replace h := iteF hb h
          refine evs_run 4 (by kernel_rfl) ?_
          refine evs_split (r30.2 != 0) (fun b0 => ⟨[(0, (.sl (List.map (cS (cS cI)) jobs))), (1, (vI stations)), (2, (.sl (List.map cI order))), (8, (vI r20.2.1)), (12, (vI r30.1)), (71, (vB b0))], []⟩) (by kernel_rfl) (fun hb => ?_) (fun hb => ?_)
          · replace h := iteT hb h
            refine evs_run 4 (by kernel_rfl) ?_
            refine evs_endS (by kernel_rfl) (fun τ hτ => ?_)
            obtain rfl := Option.some.inj h
            exact leafC hτ (here (by kernel_rfl))
          · replace h := iteF hb h
            refine evs_run 4 (by kernel_rfl) ?_
            refine evs_endS (by kernel_rfl) (fun τ hτ => ?_)
            obtain rfl := Option.some.inj h
            exact leafC hτ (here (by kernel_rfl))
      refine th_normalS hτ ⟨[(0, (.sl (List.map (cS (cS cI)) jobs))), (1, (vI stations)), (2, (.sl (List.map cI order))), (8, (vI r20.2.1)), (75, (vB j32))], []⟩ (here (by kernel_rfl)) ?_
      refine sem_cond j32 (by kernel_rfl) (by kernel_rfl) (fun hb => ?_) (fun hb => ?_)
      · replace h := iteT hb h
        refine sem_seq (by kernel_rfl) ?_
        refine sem_region (by kernel_rfl) ?_
        refine evs_run 1 (by kernel_rfl) ?_
        refine evs_endS (by kernel_rfl) (fun τ hτ => ?_)
        refine th_normalS hτ ⟨[(6, (vB false))], []⟩ (here (by kernel_rfl)) ?_
        refine sem_retS (by kernel_rfl) (fun τ hτ => ?_)
        refine th_ret ?_
        obtain rfl := Option.some.inj h
        exact rk_ret hτ [(6, (vB false))] (here (by kernel_rfl)) (by kernel_rfl)
      · replace h := iteF hb h
        refine sem_skipS (by kernel_rfl) (fun τ hτ => ?_)
        refine th_normalS hτ ⟨[(0, (.sl (List.map (cS (cS cI)) jobs))), (1, (vI stations)), (2, (.sl (List.map cI order))), (8, (vI r20.2.1))], []⟩ (here (by kernel_rfl)) ?_
        refine sem_seq (by kernel_rfl) ?_
        refine sem_region (by kernel_rfl) ?_
        refine evs_run 2 (by kernel_rfl) ?_
        obtain ⟨r34, hr34, h⟩ := bindS h
        refine evs_callS [] [(0, 700100)] [] (by kernel_rfl) (W.setup_Join_ok hr34) (by kernel_rfl) (by kernel_rfl) (.inl rfl) ?_
        refine evs_prep [.frz 700100] (by kernel_rfl) ?_
        refine evs_run 5 (by kernel_rfl) ?_
        refine evs_endS (by kernel_rfl) (fun τ hτ => ?_)
        refine th_normalS hτ ⟨[(1, (vI stations)), (8, (vI r20.2.1)), (11, (vI r34.2)), (14, (.sl (List.map (cS cI) r34.1)))], []⟩ (here (by kernel_rfl)) ?_
        refine sem_seq (by kernel_rfl) ?_
        refine sem_seq (by kernel_rfl) ?_
        refine sem_region (by kernel_rfl) ?_
        refine evs_run 2 (by kernel_rfl) ?_
        refine evs_endS (by kernel_rfl) (fun τ hτ => ?_)
        refine th_normalS hτ ⟨[(1, (vI stations)), (8, (vI r20.2.1)), (14, (.sl (List.map (cS cI) r34.1))), (83, (vB (r34.2 != 0)))], []⟩ (here (by kernel_rfl)) ?_
        refine sem_cond (r34.2 != 0) (by kernel_rfl) (by kernel_rfl) (fun hb => ?_) (fun hb => ?_)
        · replace h := iteT hb h
          refine sem_seq (by kernel_rfl) ?_
          refine sem_region (by kernel_rfl) ?_
          obtain ⟨r38, hr38, h⟩ := bindS h
          refine evs_callP [] (by kernel_rfl) (W.sheetmetallaw05_known_ok hr38) (by kernel_rfl) (.inl rfl) (by kernel_rfl) ?_
          refine evs_run 1 (by kernel_rfl) ?_
          refine evs_endS (by kernel_rfl) (fun τ hτ => ?_)
          refine th_normalS hτ ⟨[(6, (vB r38))], []⟩ (here (by kernel_rfl)) ?_
          refine sem_retS (by kernel_rfl) (fun τ hτ => ?_)
          refine th_ret ?_
          obtain rfl := Option.some.inj h
          exact rk_ret hτ [(6, (vB r38))] (here (by kernel_rfl)) (by kernel_rfl)
        · replace h := iteF hb h
          refine sem_skipS (by kernel_rfl) (fun τ hτ => ?_)
          refine th_normalS hτ ⟨[(1, (vI stations)), (8, (vI r20.2.1)), (14, (.sl (List.map (cS cI) r34.1)))], []⟩ (here (by kernel_rfl)) ?_
          refine sem_seq (by kernel_rfl) ?_
          refine sem_region (by kernel_rfl) ?_
          refine evs_run 2 (by kernel_rfl) ?_
          obtain ⟨r40, hr40, h⟩ := bindS h
          refine evs_callP [] (by kernel_rfl) (W.setup_Least_ok hr40) (by kernel_rfl) (.inl rfl) (by kernel_rfl) ?_
          refine evs_run 5 (by kernel_rfl) ?_
          refine evs_endS (by kernel_rfl) (fun τ hτ => ?_)
          refine th_normalS hτ ⟨[(8, (vI r20.2.1)), (13, (vI r40.2)), (15, (vI r40.1))], []⟩ (here (by kernel_rfl)) ?_
          refine sem_seq (by kernel_rfl) ?_
          obtain ⟨j42, hj42, h⟩ := bindS h
          refine sem_regionC ⟨[(6, (vB j42))], []⟩ (by kernel_rfl) ?_ (fun τ hτ => ?_)
          · replace h := hj42
            refine evs_run 3 (by kernel_rfl) ?_
            refine evs_split (r40.2 == 0) (fun b0 => ⟨[(8, (vI r20.2.1)), (15, (vI r40.1)), (93, (vB b0))], []⟩) (by kernel_rfl) (fun hb => ?_) (fun hb => ?_)
            · replace h := iteT hb h
              refine evs_run 5 (by kernel_rfl) ?_
              refine evs_split (decide (r20.2.1 ≤ r40.1)) (fun b0 => ⟨[(98, (vB b0))], []⟩) (by kernel_rfl) (fun hb => ?_) (fun hb => ?_)
              · replace h := iteT hb h
                obtain ⟨r43, hr43, h⟩ := bindS h
                refine evs_callP [] (by kernel_rfl) (W.sheetmetallaw05_known_ok hr43) (by kernel_rfl) (.inl rfl) (by kernel_rfl) ?_
                refine evs_run 2 (by kernel_rfl) ?_
                refine evs_endS (by kernel_rfl) (fun τ hτ => ?_)
                obtain rfl := Option.some.inj h
                exact leafC hτ (here (by kernel_rfl))
              · replace h := iteF hb h
                refine evs_run 3 (by kernel_rfl) ?_
                refine evs_endS (by kernel_rfl) (fun τ hτ => ?_)
                obtain rfl := Option.some.inj h
                exact leafC hτ (here (by kernel_rfl))
            · replace h := iteF hb h
              refine evs_run 8 (by kernel_rfl) ?_
              refine evs_endS (by kernel_rfl) (fun τ hτ => ?_)
              obtain rfl := Option.some.inj h
              exact leafC hτ (here (by kernel_rfl))
          refine th_normalS hτ ⟨[(6, (vB j42))], []⟩ (here (by kernel_rfl)) ?_
          refine sem_retS (by kernel_rfl) (fun τ hτ => ?_)
          obtain rfl := Option.some.inj h
          exact rk_ret hτ [(6, (vB j42))] (here (by kernel_rfl)) (by kernel_rfl)
end Go.Proofs.Ytppmnjiibmomoaa
