/- Each Go function does what its model says; written by a program out of the translation. -/
import Derived.Test.YtppmnjiibmomoaaBase
import Derived.Test.YtppmnjiibmomoaaSeMQ
set_option linter.unusedVariables false
set_option linter.unusedSimpArgs false
set_option linter.unusedSectionVars false
namespace Go.Proofs.Ytppmnjiibmomoaa
open Go Go.VI Go.SM Go.Proofs
set_option maxRecDepth 100000
set_option maxHeartbeats 4000000
theorem W.sheetmetallaw05_Long_ok {needs : (List (List Int))} {r : Bool} (h : sheetmetallaw05_Long needs = some r) : PC G.P 22 [(.sl (List.map (cS cI) needs))] [] (vB r) [] := by
  refine pc_of G (fn := Try.f22) Try.func22 (by kernel_rfl) (by kernel_rfl) (by kernel_rfl) (by kernel_rfl) (by kernel_rfl) ?_
  refine sem_set ⟨[(0, (.sl (List.map (cS cI) needs)))], []⟩ (by kernel_rfl) ?_
  refine sem_seq (by kernel_rfl) ?_
  refine sem_region (by kernel_rfl) ?_
  refine evs_run 1 (by kernel_rfl) ?_
  refine evs_endS (by kernel_rfl) (fun τ hτ => ?_)
  refine th_normalS hτ ⟨[(0, (.sl (List.map (cS cI) needs)))], []⟩ (here (by kernel_rfl)) ?_
  refine sem_seq (by kernel_rfl) ?_
  refine sem_seq (by kernel_rfl) ?_
  refine sem_region (by kernel_rfl) ?_
  refine evs_run 1 (by kernel_rfl) ?_
  refine evs_op (st_len (c := (cS cI)) (l := needs) (x := (.sl (List.map (cS cI) needs))) (by kernel_rfl) (by kernel_rfl)) ?_
  refine evs_run 1 (by kernel_rfl) ?_
  refine evs_endS (by kernel_rfl) (fun τ hτ => ?_)
  refine th_normalS hτ ⟨[(0, (.sl (List.map (cS cI) needs))), (6, (vB (decide ((needs.length : Int) > 60))))], []⟩ (here (by kernel_rfl)) ?_
  refine sem_cond (decide ((needs.length : Int) > 60)) (by kernel_rfl) (by kernel_rfl) (fun hb => ?_) (fun hb => ?_)
  · replace h := iteT hb h
    refine sem_seq (by kernel_rfl) ?_
    refine sem_region (by kernel_rfl) ?_
    refine evs_run 1 (by kernel_rfl) ?_
    refine evs_endS (by kernel_rfl) (fun τ hτ => ?_)
    refine th_normalS hτ ⟨[(2, (vB true))], []⟩ (here (by kernel_rfl)) ?_
    refine sem_retS (by kernel_rfl) (fun τ hτ => ?_)
    refine th_ret ?_
    obtain rfl := Option.some.inj h
    exact rk_ret hτ [(2, (vB true))] (here (by kernel_rfl)) (by kernel_rfl)
  · replace h := iteF hb h
    refine sem_skipS (by kernel_rfl) (fun τ hτ => ?_)
    refine th_normalS hτ ⟨[(0, (.sl (List.map (cS cI) needs)))], []⟩ (here (by kernel_rfl)) ?_
    refine sem_seq (by kernel_rfl) ?_
    refine sem_seq (by kernel_rfl) ?_
    refine sem_region (by kernel_rfl) ?_
    refine evs_run 1 (by kernel_rfl) ?_
    refine evs_endS (by kernel_rfl) (fun τ hτ => ?_)
    refine th_normalS hτ ⟨[(0, (.sl (List.map (cS cI) needs))), (3, (vI 0))], []⟩ (here (by kernel_rfl)) ?_
    refine sem_block (by kernel_rfl) ?_
    obtain ⟨x32, hx32, h⟩ := bindS h
    refine sem_loopS (fun (s23 : Int) => ⟨[(0, (.sl (List.map (cS cI) needs))), (3, (vI s23))], []⟩) (fun (x32 : Unit ⊕ Unit) => match x32 with | .inl j33 => (.ret, ⟨[(2, (vB true))], []⟩) | .inr j34 => (.exit 0, ⟨[], []⟩)) (sheetmetallaw05_Long_l1 needs) 0 x32 (by kernel_rfl) (here (by kernel_rfl)) hx32 ?_ ?_ ?_
    · intro s23 r h
      refine sem_seq (by kernel_rfl) ?_
      refine sem_seq (by kernel_rfl) ?_
      refine sem_region (by kernel_rfl) ?_
      refine evs_run 2 (by kernel_rfl) ?_
      refine evs_op (st_len (c := (cS cI)) (l := needs) (x := (.sl (List.map (cS cI) needs))) (by kernel_rfl) (by kernel_rfl)) ?_
      refine evs_run 1 (by kernel_rfl) ?_
      refine evs_endS (by kernel_rfl) (fun τ hτ => ?_)
      refine th_normalS hτ ⟨[(0, (.sl (List.map (cS cI) needs))), (3, (vI s23)), (10, (vB (decide (s23 < (needs.length : Int)))))], []⟩ (here (by kernel_rfl)) ?_
      refine sem_cond (decide (s23 < (needs.length : Int))) (by kernel_rfl) (by kernel_rfl) (fun hb => ?_) (fun hb => ?_)
      · replace h := iteT hb h
        refine sem_skipS (by kernel_rfl) (fun τ hτ => ?_)
        refine th_normalS hτ ⟨[(0, (.sl (List.map (cS cI) needs))), (3, (vI s23))], []⟩ (here (by kernel_rfl)) ?_
        refine sem_seq (by kernel_rfl) ?_
        refine sem_block (by kernel_rfl) ?_
        refine sem_seq (by kernel_rfl) ?_
        refine sem_region (by kernel_rfl) ?_
        refine evs_run 2 (by kernel_rfl) ?_
        obtain ⟨x31, hx31, h⟩ := bindS h
        refine evs_op (st_idx (c := (cS cI)) (l := needs) (i := s23) (kd := .i64) (sz := 1) (by kernel_rfl) hx31 rfl) ?_
        refine evs_run 1 (by kernel_rfl) ?_
        refine evs_op (st_len (c := cI) (l := x31) (x := (.sl (List.map cI x31))) (by kernel_rfl) (by kernel_rfl)) ?_
        refine evs_run 1 (by kernel_rfl) ?_
        refine evs_endS (by kernel_rfl) (fun τ hτ => ?_)
        refine th_normalS hτ ⟨[(0, (.sl (List.map (cS cI) needs))), (3, (vI s23)), (18, (vB (decide ((x31.length : Int) > 60))))], []⟩ (here (by kernel_rfl)) ?_
        refine sem_cond (decide ((x31.length : Int) > 60)) (by kernel_rfl) (by kernel_rfl) (fun hb => ?_) (fun hb => ?_)
        · replace h := iteT hb h
          refine sem_seq (by kernel_rfl) ?_
          refine sem_region (by kernel_rfl) ?_
          refine evs_run 1 (by kernel_rfl) ?_
          refine evs_endS (by kernel_rfl) (fun τ hτ => ?_)
          refine th_normalS hτ ⟨[(2, (vB true))], []⟩ (here (by kernel_rfl)) ?_
          refine sem_retS (by kernel_rfl) (fun τ hτ => ?_)
          refine bl_ret ?_
          refine th_ret ?_
          obtain rfl := Option.some.inj h
          exact lk_outS hτ rfl (here (by kernel_rfl))
        · replace h := iteF hb h
          refine sem_skipS (by kernel_rfl) (fun τ hτ => ?_)
          refine bl_normal ?_
          refine th_normalS hτ ⟨[(0, (.sl (List.map (cS cI) needs))), (3, (vI s23))], []⟩ (here (by kernel_rfl)) ?_
          refine sem_region (by kernel_rfl) ?_
          refine evs_run 3 (by kernel_rfl) ?_
          refine evs_endS (by kernel_rfl) (fun τ hτ => ?_)
          obtain rfl := Option.some.inj h
          exact lk_nextS hτ (here (by kernel_rfl))
      · replace h := iteF hb h
        refine sem_exitS 0 (by kernel_rfl) rfl (fun τ hτ => ?_)
        refine th_exit ?_
        obtain rfl := Option.some.inj h
        exact lk_outS hτ rfl (here (by kernel_rfl))
    · intro x
      rcases x with _ | _ <;> rfl
    · intro τ hτ
      rcases x32 with j33 | j34
      · refine bl_ret ?_
        refine th_ret ?_
        obtain rfl := Option.some.inj h
        exact rk_ret hτ [(2, (vB true))] (here (by kernel_rfl)) (by kernel_rfl)
      · refine bl_hit (by kernel_rfl) ?_
        refine th_normalS hτ ⟨[], []⟩ (here (by kernel_rfl)) ?_
        refine sem_seq (by kernel_rfl) ?_
        refine sem_region (by kernel_rfl) ?_
        refine evs_run 1 (by kernel_rfl) ?_
        refine evs_endS (by kernel_rfl) (fun τ hτ => ?_)
        refine th_normalS hτ ⟨[(2, (vB false))], []⟩ (here (by kernel_rfl)) ?_
        refine sem_retS (by kernel_rfl) (fun τ hτ => ?_)
        obtain rfl := Option.some.inj h
        exact rk_ret hτ [(2, (vB false))] (here (by kernel_rfl)) (by kernel_rfl)
theorem W.setup_isSet_ok {l : (List Int)} {r : Bool} (h : setup_isSet l = some r) : PC G.P 50 [(.sl (List.map cI l))] [] (vB r) [] := by
  refine pc_of G (fn := Try.f50) Try.func50 (by kernel_rfl) (by kernel_rfl) (by kernel_rfl) (by kernel_rfl) (by kernel_rfl) ?_
  refine sem_set ⟨[(0, (.sl (List.map cI l)))], []⟩ (by kernel_rfl) ?_
  refine sem_seq (by kernel_rfl) ?_
  refine sem_region (by kernel_rfl) ?_
  refine evs_run 1 (by kernel_rfl) ?_
  refine evs_endS (by kernel_rfl) (fun τ hτ => ?_)
  refine th_normalS hτ ⟨[(0, (.sl (List.map cI l)))], []⟩ (here (by kernel_rfl)) ?_
  refine sem_seq (by kernel_rfl) ?_
  refine sem_seq (by kernel_rfl) ?_
  refine sem_region (by kernel_rfl) ?_
  refine evs_run 1 (by kernel_rfl) ?_
  refine evs_op (st_len (c := cI) (l := l) (x := (.sl (List.map cI l))) (by kernel_rfl) (by kernel_rfl)) ?_
  refine evs_run 1 (by kernel_rfl) ?_
  refine evs_endS (by kernel_rfl) (fun τ hτ => ?_)
  refine th_normalS hτ ⟨[(0, (.sl (List.map cI l))), (5, (.sl (List.map cI l))), (6, (vI (l.length : Int))), (7, (vI 0))], []⟩ (here (by kernel_rfl)) ?_
  refine sem_block (by kernel_rfl) ?_
  obtain ⟨x60, hx60, h⟩ := bindS h
  refine sem_loopS (fun (s39 : Int) => ⟨[(0, (.sl (List.map cI l))), (5, (.sl (List.map cI l))), (6, (vI (l.length : Int))), (7, (vI s39))], []⟩) (fun (x60 : Unit ⊕ Unit) => match x60 with | .inl j61 => (.ret, ⟨[(2, (vB false))], []⟩) | .inr j62 => (.exit 0, ⟨[], []⟩)) (setup_isSet_l1 l) 0 x60 (by kernel_rfl) (here (by kernel_rfl)) hx60 ?_ ?_ ?_
  · intro s39 r h
    refine sem_seq (by kernel_rfl) ?_
    refine sem_region (by kernel_rfl) ?_
    refine evs_run 1 (by kernel_rfl) ?_
    refine evs_endS (by kernel_rfl) (fun τ hτ => ?_)
    refine th_normalS hτ ⟨[(0, (.sl (List.map cI l))), (5, (.sl (List.map cI l))), (6, (vI (l.length : Int))), (7, (vI s39)), (8, (vB (decide (s39 < (l.length : Int)))))], []⟩ (here (by kernel_rfl)) ?_
    refine sem_seq (by kernel_rfl) ?_
    refine sem_cond (decide (s39 < (l.length : Int))) (by kernel_rfl) (by kernel_rfl) (fun hb => ?_) (fun hb => ?_)
    · replace h := iteT hb h
      refine sem_skipS (by kernel_rfl) (fun τ hτ => ?_)
      refine th_normalS hτ ⟨[(0, (.sl (List.map cI l))), (5, (.sl (List.map cI l))), (6, (vI (l.length : Int))), (7, (vI s39))], []⟩ (here (by kernel_rfl)) ?_
      refine sem_seq (by kernel_rfl) ?_
      refine sem_block (by kernel_rfl) ?_
      refine sem_seq (by kernel_rfl) ?_
      refine sem_region (by kernel_rfl) ?_
      refine evs_run 1 (by kernel_rfl) ?_
      obtain ⟨x56, hx56, h⟩ := bindS h
      refine evs_op (st_idx (c := cI) (l := l) (i := s39) (kd := .i64) (sz := 1) (by kernel_rfl) hx56 rfl) ?_
      refine evs_run 3 (by kernel_rfl) ?_
      refine evs_endS (by kernel_rfl) (fun τ hτ => ?_)
      refine th_normalS hτ ⟨[(0, (.sl (List.map cI l))), (3, (vI s39)), (4, (vI x56)), (5, (.sl (List.map cI l))), (6, (vI (l.length : Int))), (7, (vI s39))], []⟩ (here (by kernel_rfl)) ?_
      refine sem_seq (by kernel_rfl) ?_
      obtain ⟨j58, hj58, h⟩ := bindS h
      refine sem_regionC ⟨[(0, (.sl (List.map cI l))), (5, (.sl (List.map cI l))), (6, (vI (l.length : Int))), (7, (vI s39)), (30, (vB j58))], []⟩ (by kernel_rfl) ?_ (fun τ hτ => ?_)
      · replace h := hj58
        refine evs_run 3 (by kernel_rfl) ?_
        refine evs_split (decide (x56 < 0)) (fun b0 => ⟨[(0, (.sl (List.map cI l))), (3, (vI s39)), (4, (vI x56)), (5, (.sl (List.map cI l))), (6, (vI (l.length : Int))), (7, (vI s39)), (14, (vB b0))], []⟩) (by kernel_rfl) (fun hb => ?_) (fun hb => ?_)
        · replace h := iteT hb h
          refine evs_run 16 (by kernel_rfl) ?_
          refine evs_endS (by kernel_rfl) (fun τ hτ => ?_)
          obtain rfl := Option.some.inj h
          exact leafC hτ (here (by kernel_rfl))
        · replace h := iteF hb h
          refine evs_run 4 (by kernel_rfl) ?_
          refine evs_split (decide (x56 ≥ 9)) (fun b0 => ⟨[(0, (.sl (List.map cI l))), (3, (vI s39)), (4, (vI x56)), (5, (.sl (List.map cI l))), (6, (vI (l.length : Int))), (7, (vI s39)), (15, (vI x56)), (16, (vB b0)), (18, (vB b0))], []⟩) (by kernel_rfl) (fun hb => ?_) (fun hb => ?_)
          · replace h := iteT hb h
            refine evs_run 12 (by kernel_rfl) ?_
            refine evs_endS (by kernel_rfl) (fun τ hτ => ?_)
            obtain rfl := Option.some.inj h
            exact leafC hτ (here (by kernel_rfl))
          · replace h := iteF hb h
            refine evs_run 3 (by kernel_rfl) ?_
            refine evs_split (decide (s39 > 0)) (fun b0 => ⟨[(0, (.sl (List.map cI l))), (3, (vI s39)), (4, (vI x56)), (5, (.sl (List.map cI l))), (6, (vI (l.length : Int))), (7, (vI s39)), (15, (vI x56)), (16, (vB false)), (18, (vB false)), (19, (vI s39)), (20, (vB b0)), (21, (vB b0))], []⟩) (by kernel_rfl) (fun hb => ?_) (fun hb => ?_)
            · replace h := iteT hb h
              refine evs_run 3 (by kernel_rfl) ?_
              obtain ⟨x59, hx59, h⟩ := bindS h
              refine evs_op (st_idx (c := cI) (l := l) (i := (isub s39 1)) (kd := .i64) (sz := 1) (by kernel_rfl) hx59 rfl) ?_
              refine evs_run 5 (by kernel_rfl) ?_
              refine evs_endS (by kernel_rfl) (fun τ hτ => ?_)
              obtain rfl := Option.some.inj h
              exact leafC hτ (here (by kernel_rfl))
            · replace h := iteF hb h
              refine evs_run 9 (by kernel_rfl) ?_
              refine evs_endS (by kernel_rfl) (fun τ hτ => ?_)
              obtain rfl := Option.some.inj h
              exact leafC hτ (here (by kernel_rfl))
      refine th_normalS hτ ⟨[(0, (.sl (List.map cI l))), (5, (.sl (List.map cI l))), (6, (vI (l.length : Int))), (7, (vI s39)), (30, (vB j58))], []⟩ (here (by kernel_rfl)) ?_
      refine sem_cond j58 (by kernel_rfl) (by kernel_rfl) (fun hb => ?_) (fun hb => ?_)
      · replace h := iteT hb h
        refine sem_seq (by kernel_rfl) ?_
        refine sem_region (by kernel_rfl) ?_
        refine evs_run 1 (by kernel_rfl) ?_
        refine evs_endS (by kernel_rfl) (fun τ hτ => ?_)
        refine th_normalS hτ ⟨[(2, (vB false))], []⟩ (here (by kernel_rfl)) ?_
        refine sem_retS (by kernel_rfl) (fun τ hτ => ?_)
        refine bl_ret ?_
        refine th_ret ?_
        obtain rfl := Option.some.inj h
        exact lk_outS hτ rfl (here (by kernel_rfl))
      · replace h := iteF hb h
        refine sem_skipS (by kernel_rfl) (fun τ hτ => ?_)
        refine bl_normal ?_
        refine th_normalS hτ ⟨[(0, (.sl (List.map cI l))), (5, (.sl (List.map cI l))), (6, (vI (l.length : Int))), (7, (vI s39))], []⟩ (here (by kernel_rfl)) ?_
        refine sem_region (by kernel_rfl) ?_
        refine evs_run 2 (by kernel_rfl) ?_
        refine evs_endS (by kernel_rfl) (fun τ hτ => ?_)
        obtain rfl := Option.some.inj h
        exact lk_nextS hτ (here (by kernel_rfl))
    · replace h := iteF hb h
      refine sem_exitS 0 (by kernel_rfl) rfl (fun τ hτ => ?_)
      refine th_exit ?_
      obtain rfl := Option.some.inj h
      exact lk_outS hτ rfl (here (by kernel_rfl))
  · intro x
    rcases x with _ | _ <;> rfl
  · intro τ hτ
    rcases x60 with j61 | j62
    · refine bl_ret ?_
      refine th_ret ?_
      obtain rfl := Option.some.inj h
      exact rk_ret hτ [(2, (vB false))] (here (by kernel_rfl)) (by kernel_rfl)
    · refine bl_hit (by kernel_rfl) ?_
      refine th_normalS hτ ⟨[], []⟩ (here (by kernel_rfl)) ?_
      refine sem_seq (by kernel_rfl) ?_
      refine sem_region (by kernel_rfl) ?_
      refine evs_run 1 (by kernel_rfl) ?_
      refine evs_endS (by kernel_rfl) (fun τ hτ => ?_)
      refine th_normalS hτ ⟨[(2, (vB true))], []⟩ (here (by kernel_rfl)) ?_
      refine sem_retS (by kernel_rfl) (fun τ hτ => ?_)
      obtain rfl := Option.some.inj h
      exact rk_ret hτ [(2, (vB true))] (here (by kernel_rfl)) (by kernel_rfl)
theorem W.setup_Validate_ok {needs : (List (List Int))} {r : Int} (h : setup_Validate needs = some r) : PC G.P 37 [(.sl (List.map (cS cI) needs))] [] (vI r) [] := by
  refine pc_of G (fn := Try.f37) Try.func37 (by kernel_rfl) (by kernel_rfl) (by kernel_rfl) (by kernel_rfl) (by kernel_rfl) ?_
  refine sem_set ⟨[(0, (.sl (List.map (cS cI) needs)))], []⟩ (by kernel_rfl) ?_
  refine sem_seq (by kernel_rfl) ?_
  refine sem_region (by kernel_rfl) ?_
  refine evs_run 1 (by kernel_rfl) ?_
  refine evs_endS (by kernel_rfl) (fun τ hτ => ?_)
  refine th_normalS hτ ⟨[(0, (.sl (List.map (cS cI) needs)))], []⟩ (here (by kernel_rfl)) ?_
  refine sem_seq (by kernel_rfl) ?_
  refine sem_seq (by kernel_rfl) ?_
  refine sem_region (by kernel_rfl) ?_
  refine evs_run 1 (by kernel_rfl) ?_
  refine evs_op (st_len (c := (cS cI)) (l := needs) (x := (.sl (List.map (cS cI) needs))) (by kernel_rfl) (by kernel_rfl)) ?_
  refine evs_run 1 (by kernel_rfl) ?_
  refine evs_endS (by kernel_rfl) (fun τ hτ => ?_)
  refine th_normalS hτ ⟨[(0, (.sl (List.map (cS cI) needs))), (7, (vB (decide ((needs.length : Int) > 24))))], []⟩ (here (by kernel_rfl)) ?_
  refine sem_cond (decide ((needs.length : Int) > 24)) (by kernel_rfl) (by kernel_rfl) (fun hb => ?_) (fun hb => ?_)
  · replace h := iteT hb h
    refine sem_seq (by kernel_rfl) ?_
    refine sem_region (by kernel_rfl) ?_
    refine evs_run 1 (by kernel_rfl) ?_
    refine evs_endS (by kernel_rfl) (fun τ hτ => ?_)
    refine th_normalS hτ ⟨[(2, (vI 4))], []⟩ (here (by kernel_rfl)) ?_
    refine sem_retS (by kernel_rfl) (fun τ hτ => ?_)
    refine th_ret ?_
    obtain rfl := Option.some.inj h
    exact rk_ret hτ [(2, (vI 4))] (here (by kernel_rfl)) (by kernel_rfl)
  · replace h := iteF hb h
    refine sem_skipS (by kernel_rfl) (fun τ hτ => ?_)
    refine th_normalS hτ ⟨[(0, (.sl (List.map (cS cI) needs)))], []⟩ (here (by kernel_rfl)) ?_
    refine sem_seq (by kernel_rfl) ?_
    refine sem_seq (by kernel_rfl) ?_
    refine sem_region (by kernel_rfl) ?_
    refine evs_run 1 (by kernel_rfl) ?_
    refine evs_op (st_len (c := (cS cI)) (l := needs) (x := (.sl (List.map (cS cI) needs))) (by kernel_rfl) (by kernel_rfl)) ?_
    refine evs_run 1 (by kernel_rfl) ?_
    refine evs_endS (by kernel_rfl) (fun τ hτ => ?_)
    refine th_normalS hτ ⟨[(8, (.sl (List.map (cS cI) needs))), (9, (vI (needs.length : Int))), (10, (vI 0))], []⟩ (here (by kernel_rfl)) ?_
    refine sem_block (by kernel_rfl) ?_
    obtain ⟨x68, hx68, h⟩ := bindS h
    refine sem_loopS (fun (s47 : Int) => ⟨[(8, (.sl (List.map (cS cI) needs))), (9, (vI (needs.length : Int))), (10, (vI s47))], []⟩) (fun (x68 : Unit ⊕ Unit) => match x68 with | .inl j69 => (.ret, ⟨[(2, (vI 1))], []⟩) | .inr j70 => (.exit 0, ⟨[], []⟩)) (setup_Validate_l1 needs) 0 x68 (by kernel_rfl) (here (by kernel_rfl)) hx68 ?_ ?_ ?_
    · intro s47 r h
      refine sem_seq (by kernel_rfl) ?_
      refine sem_region (by kernel_rfl) ?_
      refine evs_run 1 (by kernel_rfl) ?_
      refine evs_endS (by kernel_rfl) (fun τ hτ => ?_)
      refine th_normalS hτ ⟨[(8, (.sl (List.map (cS cI) needs))), (9, (vI (needs.length : Int))), (10, (vI s47)), (11, (vB (decide (s47 < (needs.length : Int)))))], []⟩ (here (by kernel_rfl)) ?_
      refine sem_seq (by kernel_rfl) ?_
      refine sem_cond (decide (s47 < (needs.length : Int))) (by kernel_rfl) (by kernel_rfl) (fun hb => ?_) (fun hb => ?_)
      · replace h := iteT hb h
        refine sem_skipS (by kernel_rfl) (fun τ hτ => ?_)
        refine th_normalS hτ ⟨[(8, (.sl (List.map (cS cI) needs))), (9, (vI (needs.length : Int))), (10, (vI s47))], []⟩ (here (by kernel_rfl)) ?_
        refine sem_seq (by kernel_rfl) ?_
        refine sem_block (by kernel_rfl) ?_
        refine sem_seq (by kernel_rfl) ?_
        refine sem_region (by kernel_rfl) ?_
        obtain ⟨x64, hx64, h⟩ := bindS h
        refine evs_op (st_idx (c := (cS cI)) (l := needs) (i := s47) (kd := .i64) (sz := 1) (by kernel_rfl) hx64 rfl) ?_
        refine evs_run 2 (by kernel_rfl) ?_
        refine evs_endS (by kernel_rfl) (fun τ hτ => ?_)
        refine th_normalS hτ ⟨[(4, (.sl (List.map cI x64))), (8, (.sl (List.map (cS cI) needs))), (9, (vI (needs.length : Int))), (10, (vI s47))], []⟩ (here (by kernel_rfl)) ?_
        refine sem_seq (by kernel_rfl) ?_
        obtain ⟨j66, hj66, h⟩ := bindS h
        refine sem_regionC ⟨[(8, (.sl (List.map (cS cI) needs))), (9, (vI (needs.length : Int))), (10, (vI s47)), (21, (vB j66))], []⟩ (by kernel_rfl) ?_ (fun τ hτ => ?_)
        · replace h := hj66
          refine evs_run 1 (by kernel_rfl) ?_
          refine evs_op (st_len (c := cI) (l := x64) (x := (.sl (List.map cI x64))) (by kernel_rfl) (by kernel_rfl)) ?_
          refine evs_run 2 (by kernel_rfl) ?_
          refine evs_split ((x64.length : Int) == 0) (fun b0 => ⟨[(4, (.sl (List.map cI x64))), (8, (.sl (List.map (cS cI) needs))), (9, (vI (needs.length : Int))), (10, (vI s47)), (17, (vB b0))], []⟩) (by kernel_rfl) (fun hb => ?_) (fun hb => ?_)
          · replace h := iteT hb h
            refine evs_run 4 (by kernel_rfl) ?_
            refine evs_endS (by kernel_rfl) (fun τ hτ => ?_)
            obtain rfl := Option.some.inj h
            exact leafC hτ (here (by kernel_rfl))
          · replace h := iteF hb h
            refine evs_run 1 (by kernel_rfl) ?_
            obtain ⟨r67, hr67, h⟩ := bindS h
            refine evs_callP [] (by kernel_rfl) (W.setup_isSet_ok hr67) (by kernel_rfl) (.inl rfl) (by kernel_rfl) ?_
            refine evs_run 2 (by kernel_rfl) ?_
            refine evs_endS (by kernel_rfl) (fun τ hτ => ?_)
            obtain rfl := Option.some.inj h
            exact leafC hτ (here (by kernel_rfl))
        refine th_normalS hτ ⟨[(8, (.sl (List.map (cS cI) needs))), (9, (vI (needs.length : Int))), (10, (vI s47)), (21, (vB j66))], []⟩ (here (by kernel_rfl)) ?_
        refine sem_cond j66 (by kernel_rfl) (by kernel_rfl) (fun hb => ?_) (fun hb => ?_)
        · replace h := iteT hb h
          refine sem_seq (by kernel_rfl) ?_
          refine sem_region (by kernel_rfl) ?_
          refine evs_run 1 (by kernel_rfl) ?_
          refine evs_endS (by kernel_rfl) (fun τ hτ => ?_)
          refine th_normalS hτ ⟨[(2, (vI 1))], []⟩ (here (by kernel_rfl)) ?_
          refine sem_retS (by kernel_rfl) (fun τ hτ => ?_)
          refine bl_ret ?_
          refine th_ret ?_
          obtain rfl := Option.some.inj h
          exact lk_outS hτ rfl (here (by kernel_rfl))
        · replace h := iteF hb h
          refine sem_skipS (by kernel_rfl) (fun τ hτ => ?_)
          refine bl_normal ?_
          refine th_normalS hτ ⟨[(8, (.sl (List.map (cS cI) needs))), (9, (vI (needs.length : Int))), (10, (vI s47))], []⟩ (here (by kernel_rfl)) ?_
          refine sem_region (by kernel_rfl) ?_
          refine evs_run 2 (by kernel_rfl) ?_
          refine evs_endS (by kernel_rfl) (fun τ hτ => ?_)
          obtain rfl := Option.some.inj h
          exact lk_nextS hτ (here (by kernel_rfl))
      · replace h := iteF hb h
        refine sem_exitS 0 (by kernel_rfl) rfl (fun τ hτ => ?_)
        refine th_exit ?_
        obtain rfl := Option.some.inj h
        exact lk_outS hτ rfl (here (by kernel_rfl))
    · intro x
      rcases x with _ | _ <;> rfl
    · intro τ hτ
      rcases x68 with j69 | j70
      · refine bl_ret ?_
        refine th_ret ?_
        obtain rfl := Option.some.inj h
        exact rk_ret hτ [(2, (vI 1))] (here (by kernel_rfl)) (by kernel_rfl)
      · refine bl_hit (by kernel_rfl) ?_
        refine th_normalS hτ ⟨[], []⟩ (here (by kernel_rfl)) ?_
        refine sem_seq (by kernel_rfl) ?_
        refine sem_region (by kernel_rfl) ?_
        refine evs_run 1 (by kernel_rfl) ?_
        refine evs_endS (by kernel_rfl) (fun τ hτ => ?_)
        refine th_normalS hτ ⟨[(2, (vI 0))], []⟩ (here (by kernel_rfl)) ?_
        refine sem_retS (by kernel_rfl) (fun τ hτ => ?_)
        obtain rfl := Option.some.inj h
        exact rk_ret hτ [(2, (vI 0))] (here (by kernel_rfl)) (by kernel_rfl)
theorem W.setup_check_ok {needs : (List (List Int))} {stations : Int} {r : Int} (h : setup_check needs stations = some r) : PC G.P 43 [(.sl (List.map (cS cI) needs)), (vI stations)] [] (vI r) [] := by
  refine pc_of G (fn := Try.f43) Try.func43 (by kernel_rfl) (by kernel_rfl) (by kernel_rfl) (by kernel_rfl) (by kernel_rfl) ?_
  refine sem_set ⟨[(0, (.sl (List.map (cS cI) needs))), (1, (vI stations))], []⟩ (by kernel_rfl) ?_
  refine sem_seq (by kernel_rfl) ?_
  refine sem_region (by kernel_rfl) ?_
  refine evs_run 1 (by kernel_rfl) ?_
  refine evs_endS (by kernel_rfl) (fun τ hτ => ?_)
  refine th_normalS hτ ⟨[(0, (.sl (List.map (cS cI) needs))), (1, (vI stations))], []⟩ (here (by kernel_rfl)) ?_
  refine sem_seq (by kernel_rfl) ?_
  refine sem_seq (by kernel_rfl) ?_
  refine sem_region (by kernel_rfl) ?_
  refine evs_run 1 (by kernel_rfl) ?_
  obtain ⟨r4, hr4, h⟩ := bindS h
  refine evs_callP [] (by kernel_rfl) (W.setup_Validate_ok hr4) (by kernel_rfl) (.inl rfl) (by kernel_rfl) ?_
  refine evs_run 1 (by kernel_rfl) ?_
  refine evs_endS (by kernel_rfl) (fun τ hτ => ?_)
  refine th_normalS hτ ⟨[(1, (vI stations)), (5, (vI r4))], []⟩ (here (by kernel_rfl)) ?_
  refine sem_seq (by kernel_rfl) ?_
  refine sem_region (by kernel_rfl) ?_
  refine evs_run 2 (by kernel_rfl) ?_
  refine evs_endS (by kernel_rfl) (fun τ hτ => ?_)
  refine th_normalS hτ ⟨[(1, (vI stations)), (5, (vI r4)), (9, (vB (r4 != 0)))], []⟩ (here (by kernel_rfl)) ?_
  refine sem_cond (r4 != 0) (by kernel_rfl) (by kernel_rfl) (fun hb => ?_) (fun hb => ?_)
  · replace h := iteT hb h
    refine sem_seq (by kernel_rfl) ?_
    refine sem_region (by kernel_rfl) ?_
    refine evs_run 2 (by kernel_rfl) ?_
    refine evs_endS (by kernel_rfl) (fun τ hτ => ?_)
    refine th_normalS hτ ⟨[(4, (vI r4))], []⟩ (here (by kernel_rfl)) ?_
    refine sem_retS (by kernel_rfl) (fun τ hτ => ?_)
    refine th_ret ?_
    obtain rfl := Option.some.inj h
    exact rk_ret hτ [(4, (vI r4))] (here (by kernel_rfl)) (by kernel_rfl)
  · replace h := iteF hb h
    refine sem_skipS (by kernel_rfl) (fun τ hτ => ?_)
    refine th_normalS hτ ⟨[(1, (vI stations))], []⟩ (here (by kernel_rfl)) ?_
    refine sem_seq (by kernel_rfl) ?_
    refine sem_seq (by kernel_rfl) ?_
    obtain ⟨j6, hj6, h⟩ := bindS h
    refine sem_regionC ⟨[(16, (vB j6))], []⟩ (by kernel_rfl) ?_ (fun τ hτ => ?_)
    · replace h := hj6
      refine evs_run 3 (by kernel_rfl) ?_
      refine evs_split (decide (stations < 1)) (fun b0 => ⟨[(1, (vI stations)), (13, (vB b0))], []⟩) (by kernel_rfl) (fun hb => ?_) (fun hb => ?_)
      · replace h := iteT hb h
        refine evs_run 3 (by kernel_rfl) ?_
        refine evs_endS (by kernel_rfl) (fun τ hτ => ?_)
        obtain rfl := Option.some.inj h
        exact leafC hτ (here (by kernel_rfl))
      · replace h := iteF hb h
        refine evs_run 3 (by kernel_rfl) ?_
        refine evs_endS (by kernel_rfl) (fun τ hτ => ?_)
        obtain rfl := Option.some.inj h
        exact leafC hτ (here (by kernel_rfl))
    refine th_normalS hτ ⟨[(16, (vB j6))], []⟩ (here (by kernel_rfl)) ?_
    refine sem_cond j6 (by kernel_rfl) (by kernel_rfl) (fun hb => ?_) (fun hb => ?_)
    · replace h := iteT hb h
      refine sem_seq (by kernel_rfl) ?_
      refine sem_region (by kernel_rfl) ?_
      refine evs_run 1 (by kernel_rfl) ?_
      refine evs_endS (by kernel_rfl) (fun τ hτ => ?_)
      refine th_normalS hτ ⟨[(4, (vI 1))], []⟩ (here (by kernel_rfl)) ?_
      refine sem_retS (by kernel_rfl) (fun τ hτ => ?_)
      refine th_ret ?_
      obtain rfl := Option.some.inj h
      exact rk_ret hτ [(4, (vI 1))] (here (by kernel_rfl)) (by kernel_rfl)
    · replace h := iteF hb h
      refine sem_skipS (by kernel_rfl) (fun τ hτ => ?_)
      refine th_normalS hτ ⟨[], []⟩ (here (by kernel_rfl)) ?_
      refine sem_seq (by kernel_rfl) ?_
      refine sem_region (by kernel_rfl) ?_
      refine evs_run 1 (by kernel_rfl) ?_
      refine evs_endS (by kernel_rfl) (fun τ hτ => ?_)
      refine th_normalS hτ ⟨[(4, (vI 0))], []⟩ (here (by kernel_rfl)) ?_
      refine sem_retS (by kernel_rfl) (fun τ hτ => ?_)
      obtain rfl := Option.some.inj h
      exact rk_ret hτ [(4, (vI 0))] (here (by kernel_rfl)) (by kernel_rfl)
theorem W.bits_OnesCount64_ok {x0 : Int} {r : Int} (h : bits_OnesCount64 x0 = some r) : PC G.P 93 [(vK .u64 x0)] [] (vI r) [] := by
  refine pc_of G (fn := Try.f93) Try.func93 (by kernel_rfl) (by kernel_rfl) (by kernel_rfl) (by kernel_rfl) (by kernel_rfl) ?_
  refine sem_set ⟨[(0, (vK .u64 x0))], []⟩ (by kernel_rfl) ?_
  refine sem_seq (by kernel_rfl) ?_
  refine sem_region (by kernel_rfl) ?_
  refine evs_run 1 (by kernel_rfl) ?_
  refine evs_endS (by kernel_rfl) (fun τ hτ => ?_)
  refine th_normalS hτ ⟨[(0, (vK .u64 x0))], []⟩ (here (by kernel_rfl)) ?_
  refine sem_seq (by kernel_rfl) ?_
  refine sem_region (by kernel_rfl) ?_
  refine evs_run 7 (by kernel_rfl) ?_
  refine evs_endS (by kernel_rfl) (fun τ hτ => ?_)
  refine th_normalS hτ ⟨[(0, (vK .u64 (IntKind.wrap .u64 ((kand .u64 (Int.fdiv x0 (2 ^ (min (Int.toNat 1) 64))) 6148914691236517205) + (kand .u64 x0 6148914691236517205)))))], []⟩ (here (by kernel_rfl)) ?_
  refine sem_seq (by kernel_rfl) ?_
  refine sem_region (by kernel_rfl) ?_
  refine evs_run 7 (by kernel_rfl) ?_
  refine evs_endS (by kernel_rfl) (fun τ hτ => ?_)
  refine th_normalS hτ ⟨[(0, (vK .u64 (IntKind.wrap .u64 ((kand .u64 (Int.fdiv (IntKind.wrap .u64 ((kand .u64 (Int.fdiv x0 (2 ^ (min (Int.toNat 1) 64))) 6148914691236517205) + (kand .u64 x0 6148914691236517205))) (2 ^ (min (Int.toNat 2) 64))) 3689348814741910323) + (kand .u64 (IntKind.wrap .u64 ((kand .u64 (Int.fdiv x0 (2 ^ (min (Int.toNat 1) 64))) 6148914691236517205) + (kand .u64 x0 6148914691236517205))) 3689348814741910323)))))], []⟩ (here (by kernel_rfl)) ?_
  refine sem_seq (by kernel_rfl) ?_
  refine sem_region (by kernel_rfl) ?_
  refine evs_run 6 (by kernel_rfl) ?_
  refine evs_endS (by kernel_rfl) (fun τ hτ => ?_)
  refine th_normalS hτ ⟨[(0, (vK .u64 (kand .u64 (IntKind.wrap .u64 ((Int.fdiv (IntKind.wrap .u64 ((kand .u64 (Int.fdiv (IntKind.wrap .u64 ((kand .u64 (Int.fdiv x0 (2 ^ (min (Int.toNat 1) 64))) 6148914691236517205) + (kand .u64 x0 6148914691236517205))) (2 ^ (min (Int.toNat 2) 64))) 3689348814741910323) + (kand .u64 (IntKind.wrap .u64 ((kand .u64 (Int.fdiv x0 (2 ^ (min (Int.toNat 1) 64))) 6148914691236517205) + (kand .u64 x0 6148914691236517205))) 3689348814741910323))) (2 ^ (min (Int.toNat 4) 64))) + (IntKind.wrap .u64 ((kand .u64 (Int.fdiv (IntKind.wrap .u64 ((kand .u64 (Int.fdiv x0 (2 ^ (min (Int.toNat 1) 64))) 6148914691236517205) + (kand .u64 x0 6148914691236517205))) (2 ^ (min (Int.toNat 2) 64))) 3689348814741910323) + (kand .u64 (IntKind.wrap .u64 ((kand .u64 (Int.fdiv x0 (2 ^ (min (Int.toNat 1) 64))) 6148914691236517205) + (kand .u64 x0 6148914691236517205))) 3689348814741910323))))) 1085102592571150095)))], []⟩ (here (by kernel_rfl)) ?_
  refine sem_seq (by kernel_rfl) ?_
  refine sem_region (by kernel_rfl) ?_
  refine evs_run 5 (by kernel_rfl) ?_
  refine evs_endS (by kernel_rfl) (fun τ hτ => ?_)
  refine th_normalS hτ ⟨[(0, (vK .u64 (IntKind.wrap .u64 ((kand .u64 (IntKind.wrap .u64 ((Int.fdiv (IntKind.wrap .u64 ((kand .u64 (Int.fdiv (IntKind.wrap .u64 ((kand .u64 (Int.fdiv x0 (2 ^ (min (Int.toNat 1) 64))) 6148914691236517205) + (kand .u64 x0 6148914691236517205))) (2 ^ (min (Int.toNat 2) 64))) 3689348814741910323) + (kand .u64 (IntKind.wrap .u64 ((kand .u64 (Int.fdiv x0 (2 ^ (min (Int.toNat 1) 64))) 6148914691236517205) + (kand .u64 x0 6148914691236517205))) 3689348814741910323))) (2 ^ (min (Int.toNat 4) 64))) + (IntKind.wrap .u64 ((kand .u64 (Int.fdiv (IntKind.wrap .u64 ((kand .u64 (Int.fdiv x0 (2 ^ (min (Int.toNat 1) 64))) 6148914691236517205) + (kand .u64 x0 6148914691236517205))) (2 ^ (min (Int.toNat 2) 64))) 3689348814741910323) + (kand .u64 (IntKind.wrap .u64 ((kand .u64 (Int.fdiv x0 (2 ^ (min (Int.toNat 1) 64))) 6148914691236517205) + (kand .u64 x0 6148914691236517205))) 3689348814741910323))))) 1085102592571150095) + (Int.fdiv (kand .u64 (IntKind.wrap .u64 ((Int.fdiv (IntKind.wrap .u64 ((kand .u64 (Int.fdiv (IntKind.wrap .u64 ((kand .u64 (Int.fdiv x0 (2 ^ (min (Int.toNat 1) 64))) 6148914691236517205) + (kand .u64 x0 6148914691236517205))) (2 ^ (min (Int.toNat 2) 64))) 3689348814741910323) + (kand .u64 (IntKind.wrap .u64 ((kand .u64 (Int.fdiv x0 (2 ^ (min (Int.toNat 1) 64))) 6148914691236517205) + (kand .u64 x0 6148914691236517205))) 3689348814741910323))) (2 ^ (min (Int.toNat 4) 64))) + (IntKind.wrap .u64 ((kand .u64 (Int.fdiv (IntKind.wrap .u64 ((kand .u64 (Int.fdiv x0 (2 ^ (min (Int.toNat 1) 64))) 6148914691236517205) + (kand .u64 x0 6148914691236517205))) (2 ^ (min (Int.toNat 2) 64))) 3689348814741910323) + (kand .u64 (IntKind.wrap .u64 ((kand .u64 (Int.fdiv x0 (2 ^ (min (Int.toNat 1) 64))) 6148914691236517205) + (kand .u64 x0 6148914691236517205))) 3689348814741910323))))) 1085102592571150095) (2 ^ (min (Int.toNat 8) 64)))))))], []⟩ (here (by kernel_rfl)) ?_
  refine sem_seq (by kernel_rfl) ?_
  refine sem_region (by kernel_rfl) ?_
  refine evs_run 5 (by kernel_rfl) ?_
  refine evs_endS (by kernel_rfl) (fun τ hτ => ?_)
  refine th_normalS hτ ⟨[(0, (vK .u64 (IntKind.wrap .u64 ((IntKind.wrap .u64 ((kand .u64 (IntKind.wrap .u64 ((Int.fdiv (IntKind.wrap .u64 ((kand .u64 (Int.fdiv (IntKind.wrap .u64 ((kand .u64 (Int.fdiv x0 (2 ^ (min (Int.toNat 1) 64))) 6148914691236517205) + (kand .u64 x0 6148914691236517205))) (2 ^ (min (Int.toNat 2) 64))) 3689348814741910323) + (kand .u64 (IntKind.wrap .u64 ((kand .u64 (Int.fdiv x0 (2 ^ (min (Int.toNat 1) 64))) 6148914691236517205) + (kand .u64 x0 6148914691236517205))) 3689348814741910323))) (2 ^ (min (Int.toNat 4) 64))) + (IntKind.wrap .u64 ((kand .u64 (Int.fdiv (IntKind.wrap .u64 ((kand .u64 (Int.fdiv x0 (2 ^ (min (Int.toNat 1) 64))) 6148914691236517205) + (kand .u64 x0 6148914691236517205))) (2 ^ (min (Int.toNat 2) 64))) 3689348814741910323) + (kand .u64 (IntKind.wrap .u64 ((kand .u64 (Int.fdiv x0 (2 ^ (min (Int.toNat 1) 64))) 6148914691236517205) + (kand .u64 x0 6148914691236517205))) 3689348814741910323))))) 1085102592571150095) + (Int.fdiv (kand .u64 (IntKind.wrap .u64 ((Int.fdiv (IntKind.wrap .u64 ((kand .u64 (Int.fdiv (IntKind.wrap .u64 ((kand .u64 (Int.fdiv x0 (2 ^ (min (Int.toNat 1) 64))) 6148914691236517205) + (kand .u64 x0 6148914691236517205))) (2 ^ (min (Int.toNat 2) 64))) 3689348814741910323) + (kand .u64 (IntKind.wrap .u64 ((kand .u64 (Int.fdiv x0 (2 ^ (min (Int.toNat 1) 64))) 6148914691236517205) + (kand .u64 x0 6148914691236517205))) 3689348814741910323))) (2 ^ (min (Int.toNat 4) 64))) + (IntKind.wrap .u64 ((kand .u64 (Int.fdiv (IntKind.wrap .u64 ((kand .u64 (Int.fdiv x0 (2 ^ (min (Int.toNat 1) 64))) 6148914691236517205) + (kand .u64 x0 6148914691236517205))) (2 ^ (min (Int.toNat 2) 64))) 3689348814741910323) + (kand .u64 (IntKind.wrap .u64 ((kand .u64 (Int.fdiv x0 (2 ^ (min (Int.toNat 1) 64))) 6148914691236517205) + (kand .u64 x0 6148914691236517205))) 3689348814741910323))))) 1085102592571150095) (2 ^ (min (Int.toNat 8) 64))))) + (Int.fdiv (IntKind.wrap .u64 ((kand .u64 (IntKind.wrap .u64 ((Int.fdiv (IntKind.wrap .u64 ((kand .u64 (Int.fdiv (IntKind.wrap .u64 ((kand .u64 (Int.fdiv x0 (2 ^ (min (Int.toNat 1) 64))) 6148914691236517205) + (kand .u64 x0 6148914691236517205))) (2 ^ (min (Int.toNat 2) 64))) 3689348814741910323) + (kand .u64 (IntKind.wrap .u64 ((kand .u64 (Int.fdiv x0 (2 ^ (min (Int.toNat 1) 64))) 6148914691236517205) + (kand .u64 x0 6148914691236517205))) 3689348814741910323))) (2 ^ (min (Int.toNat 4) 64))) + (IntKind.wrap .u64 ((kand .u64 (Int.fdiv (IntKind.wrap .u64 ((kand .u64 (Int.fdiv x0 (2 ^ (min (Int.toNat 1) 64))) 6148914691236517205) + (kand .u64 x0 6148914691236517205))) (2 ^ (min (Int.toNat 2) 64))) 3689348814741910323) + (kand .u64 (IntKind.wrap .u64 ((kand .u64 (Int.fdiv x0 (2 ^ (min (Int.toNat 1) 64))) 6148914691236517205) + (kand .u64 x0 6148914691236517205))) 3689348814741910323))))) 1085102592571150095) + (Int.fdiv (kand .u64 (IntKind.wrap .u64 ((Int.fdiv (IntKind.wrap .u64 ((kand .u64 (Int.fdiv (IntKind.wrap .u64 ((kand .u64 (Int.fdiv x0 (2 ^ (min (Int.toNat 1) 64))) 6148914691236517205) + (kand .u64 x0 6148914691236517205))) (2 ^ (min (Int.toNat 2) 64))) 3689348814741910323) + (kand .u64 (IntKind.wrap .u64 ((kand .u64 (Int.fdiv x0 (2 ^ (min (Int.toNat 1) 64))) 6148914691236517205) + (kand .u64 x0 6148914691236517205))) 3689348814741910323))) (2 ^ (min (Int.toNat 4) 64))) + (IntKind.wrap .u64 ((kand .u64 (Int.fdiv (IntKind.wrap .u64 ((kand .u64 (Int.fdiv x0 (2 ^ (min (Int.toNat 1) 64))) 6148914691236517205) + (kand .u64 x0 6148914691236517205))) (2 ^ (min (Int.toNat 2) 64))) 3689348814741910323) + (kand .u64 (IntKind.wrap .u64 ((kand .u64 (Int.fdiv x0 (2 ^ (min (Int.toNat 1) 64))) 6148914691236517205) + (kand .u64 x0 6148914691236517205))) 3689348814741910323))))) 1085102592571150095) (2 ^ (min (Int.toNat 8) 64))))) (2 ^ (min (Int.toNat 16) 64)))))))], []⟩ (here (by kernel_rfl)) ?_
  refine sem_seq (by kernel_rfl) ?_
  refine sem_region (by kernel_rfl) ?_
  refine evs_run 5 (by kernel_rfl) ?_
  refine evs_endS (by kernel_rfl) (fun τ hτ => ?_)
  refine th_normalS hτ ⟨[(0, (vK .u64 (IntKind.wrap .u64 ((IntKind.wrap .u64 ((IntKind.wrap .u64 ((kand .u64 (IntKind.wrap .u64 ((Int.fdiv (IntKind.wrap .u64 ((kand .u64 (Int.fdiv (IntKind.wrap .u64 ((kand .u64 (Int.fdiv x0 (2 ^ (min (Int.toNat 1) 64))) 6148914691236517205) + (kand .u64 x0 6148914691236517205))) (2 ^ (min (Int.toNat 2) 64))) 3689348814741910323) + (kand .u64 (IntKind.wrap .u64 ((kand .u64 (Int.fdiv x0 (2 ^ (min (Int.toNat 1) 64))) 6148914691236517205) + (kand .u64 x0 6148914691236517205))) 3689348814741910323))) (2 ^ (min (Int.toNat 4) 64))) + (IntKind.wrap .u64 ((kand .u64 (Int.fdiv (IntKind.wrap .u64 ((kand .u64 (Int.fdiv x0 (2 ^ (min (Int.toNat 1) 64))) 6148914691236517205) + (kand .u64 x0 6148914691236517205))) (2 ^ (min (Int.toNat 2) 64))) 3689348814741910323) + (kand .u64 (IntKind.wrap .u64 ((kand .u64 (Int.fdiv x0 (2 ^ (min (Int.toNat 1) 64))) 6148914691236517205) + (kand .u64 x0 6148914691236517205))) 3689348814741910323))))) 1085102592571150095) + (Int.fdiv (kand .u64 (IntKind.wrap .u64 ((Int.fdiv (IntKind.wrap .u64 ((kand .u64 (Int.fdiv (IntKind.wrap .u64 ((kand .u64 (Int.fdiv x0 (2 ^ (min (Int.toNat 1) 64))) 6148914691236517205) + (kand .u64 x0 6148914691236517205))) (2 ^ (min (Int.toNat 2) 64))) 3689348814741910323) + (kand .u64 (IntKind.wrap .u64 ((kand .u64 (Int.fdiv x0 (2 ^ (min (Int.toNat 1) 64))) 6148914691236517205) + (kand .u64 x0 6148914691236517205))) 3689348814741910323))) (2 ^ (min (Int.toNat 4) 64))) + (IntKind.wrap .u64 ((kand .u64 (Int.fdiv (IntKind.wrap .u64 ((kand .u64 (Int.fdiv x0 (2 ^ (min (Int.toNat 1) 64))) 6148914691236517205) + (kand .u64 x0 6148914691236517205))) (2 ^ (min (Int.toNat 2) 64))) 3689348814741910323) + (kand .u64 (IntKind.wrap .u64 ((kand .u64 (Int.fdiv x0 (2 ^ (min (Int.toNat 1) 64))) 6148914691236517205) + (kand .u64 x0 6148914691236517205))) 3689348814741910323))))) 1085102592571150095) (2 ^ (min (Int.toNat 8) 64))))) + (Int.fdiv (IntKind.wrap .u64 ((kand .u64 (IntKind.wrap .u64 ((Int.fdiv (IntKind.wrap .u64 ((kand .u64 (Int.fdiv (IntKind.wrap .u64 ((kand .u64 (Int.fdiv x0 (2 ^ (min (Int.toNat 1) 64))) 6148914691236517205) + (kand .u64 x0 6148914691236517205))) (2 ^ (min (Int.toNat 2) 64))) 3689348814741910323) + (kand .u64 (IntKind.wrap .u64 ((kand .u64 (Int.fdiv x0 (2 ^ (min (Int.toNat 1) 64))) 6148914691236517205) + (kand .u64 x0 6148914691236517205))) 3689348814741910323))) (2 ^ (min (Int.toNat 4) 64))) + (IntKind.wrap .u64 ((kand .u64 (Int.fdiv (IntKind.wrap .u64 ((kand .u64 (Int.fdiv x0 (2 ^ (min (Int.toNat 1) 64))) 6148914691236517205) + (kand .u64 x0 6148914691236517205))) (2 ^ (min (Int.toNat 2) 64))) 3689348814741910323) + (kand .u64 (IntKind.wrap .u64 ((kand .u64 (Int.fdiv x0 (2 ^ (min (Int.toNat 1) 64))) 6148914691236517205) + (kand .u64 x0 6148914691236517205))) 3689348814741910323))))) 1085102592571150095) + (Int.fdiv (kand .u64 (IntKind.wrap .u64 ((Int.fdiv (IntKind.wrap .u64 ((kand .u64 (Int.fdiv (IntKind.wrap .u64 ((kand .u64 (Int.fdiv x0 (2 ^ (min (Int.toNat 1) 64))) 6148914691236517205) + (kand .u64 x0 6148914691236517205))) (2 ^ (min (Int.toNat 2) 64))) 3689348814741910323) + (kand .u64 (IntKind.wrap .u64 ((kand .u64 (Int.fdiv x0 (2 ^ (min (Int.toNat 1) 64))) 6148914691236517205) + (kand .u64 x0 6148914691236517205))) 3689348814741910323))) (2 ^ (min (Int.toNat 4) 64))) + (IntKind.wrap .u64 ((kand .u64 (Int.fdiv (IntKind.wrap .u64 ((kand .u64 (Int.fdiv x0 (2 ^ (min (Int.toNat 1) 64))) 6148914691236517205) + (kand .u64 x0 6148914691236517205))) (2 ^ (min (Int.toNat 2) 64))) 3689348814741910323) + (kand .u64 (IntKind.wrap .u64 ((kand .u64 (Int.fdiv x0 (2 ^ (min (Int.toNat 1) 64))) 6148914691236517205) + (kand .u64 x0 6148914691236517205))) 3689348814741910323))))) 1085102592571150095) (2 ^ (min (Int.toNat 8) 64))))) (2 ^ (min (Int.toNat 16) 64))))) + (Int.fdiv (IntKind.wrap .u64 ((IntKind.wrap .u64 ((kand .u64 (IntKind.wrap .u64 ((Int.fdiv (IntKind.wrap .u64 ((kand .u64 (Int.fdiv (IntKind.wrap .u64 ((kand .u64 (Int.fdiv x0 (2 ^ (min (Int.toNat 1) 64))) 6148914691236517205) + (kand .u64 x0 6148914691236517205))) (2 ^ (min (Int.toNat 2) 64))) 3689348814741910323) + (kand .u64 (IntKind.wrap .u64 ((kand .u64 (Int.fdiv x0 (2 ^ (min (Int.toNat 1) 64))) 6148914691236517205) + (kand .u64 x0 6148914691236517205))) 3689348814741910323))) (2 ^ (min (Int.toNat 4) 64))) + (IntKind.wrap .u64 ((kand .u64 (Int.fdiv (IntKind.wrap .u64 ((kand .u64 (Int.fdiv x0 (2 ^ (min (Int.toNat 1) 64))) 6148914691236517205) + (kand .u64 x0 6148914691236517205))) (2 ^ (min (Int.toNat 2) 64))) 3689348814741910323) + (kand .u64 (IntKind.wrap .u64 ((kand .u64 (Int.fdiv x0 (2 ^ (min (Int.toNat 1) 64))) 6148914691236517205) + (kand .u64 x0 6148914691236517205))) 3689348814741910323))))) 1085102592571150095) + (Int.fdiv (kand .u64 (IntKind.wrap .u64 ((Int.fdiv (IntKind.wrap .u64 ((kand .u64 (Int.fdiv (IntKind.wrap .u64 ((kand .u64 (Int.fdiv x0 (2 ^ (min (Int.toNat 1) 64))) 6148914691236517205) + (kand .u64 x0 6148914691236517205))) (2 ^ (min (Int.toNat 2) 64))) 3689348814741910323) + (kand .u64 (IntKind.wrap .u64 ((kand .u64 (Int.fdiv x0 (2 ^ (min (Int.toNat 1) 64))) 6148914691236517205) + (kand .u64 x0 6148914691236517205))) 3689348814741910323))) (2 ^ (min (Int.toNat 4) 64))) + (IntKind.wrap .u64 ((kand .u64 (Int.fdiv (IntKind.wrap .u64 ((kand .u64 (Int.fdiv x0 (2 ^ (min (Int.toNat 1) 64))) 6148914691236517205) + (kand .u64 x0 6148914691236517205))) (2 ^ (min (Int.toNat 2) 64))) 3689348814741910323) + (kand .u64 (IntKind.wrap .u64 ((kand .u64 (Int.fdiv x0 (2 ^ (min (Int.toNat 1) 64))) 6148914691236517205) + (kand .u64 x0 6148914691236517205))) 3689348814741910323))))) 1085102592571150095) (2 ^ (min (Int.toNat 8) 64))))) + (Int.fdiv (IntKind.wrap .u64 ((kand .u64 (IntKind.wrap .u64 ((Int.fdiv (IntKind.wrap .u64 ((kand .u64 (Int.fdiv (IntKind.wrap .u64 ((kand .u64 (Int.fdiv x0 (2 ^ (min (Int.toNat 1) 64))) 6148914691236517205) + (kand .u64 x0 6148914691236517205))) (2 ^ (min (Int.toNat 2) 64))) 3689348814741910323) + (kand .u64 (IntKind.wrap .u64 ((kand .u64 (Int.fdiv x0 (2 ^ (min (Int.toNat 1) 64))) 6148914691236517205) + (kand .u64 x0 6148914691236517205))) 3689348814741910323))) (2 ^ (min (Int.toNat 4) 64))) + (IntKind.wrap .u64 ((kand .u64 (Int.fdiv (IntKind.wrap .u64 ((kand .u64 (Int.fdiv x0 (2 ^ (min (Int.toNat 1) 64))) 6148914691236517205) + (kand .u64 x0 6148914691236517205))) (2 ^ (min (Int.toNat 2) 64))) 3689348814741910323) + (kand .u64 (IntKind.wrap .u64 ((kand .u64 (Int.fdiv x0 (2 ^ (min (Int.toNat 1) 64))) 6148914691236517205) + (kand .u64 x0 6148914691236517205))) 3689348814741910323))))) 1085102592571150095) + (Int.fdiv (kand .u64 (IntKind.wrap .u64 ((Int.fdiv (IntKind.wrap .u64 ((kand .u64 (Int.fdiv (IntKind.wrap .u64 ((kand .u64 (Int.fdiv x0 (2 ^ (min (Int.toNat 1) 64))) 6148914691236517205) + (kand .u64 x0 6148914691236517205))) (2 ^ (min (Int.toNat 2) 64))) 3689348814741910323) + (kand .u64 (IntKind.wrap .u64 ((kand .u64 (Int.fdiv x0 (2 ^ (min (Int.toNat 1) 64))) 6148914691236517205) + (kand .u64 x0 6148914691236517205))) 3689348814741910323))) (2 ^ (min (Int.toNat 4) 64))) + (IntKind.wrap .u64 ((kand .u64 (Int.fdiv (IntKind.wrap .u64 ((kand .u64 (Int.fdiv x0 (2 ^ (min (Int.toNat 1) 64))) 6148914691236517205) + (kand .u64 x0 6148914691236517205))) (2 ^ (min (Int.toNat 2) 64))) 3689348814741910323) + (kand .u64 (IntKind.wrap .u64 ((kand .u64 (Int.fdiv x0 (2 ^ (min (Int.toNat 1) 64))) 6148914691236517205) + (kand .u64 x0 6148914691236517205))) 3689348814741910323))))) 1085102592571150095) (2 ^ (min (Int.toNat 8) 64))))) (2 ^ (min (Int.toNat 16) 64))))) (2 ^ (min (Int.toNat 32) 64)))))))], []⟩ (here (by kernel_rfl)) ?_
  refine sem_seq (by kernel_rfl) ?_
  refine sem_region (by kernel_rfl) ?_
  refine evs_run 4 (by kernel_rfl) ?_
  refine evs_endS (by kernel_rfl) (fun τ hτ => ?_)
  refine th_normalS hτ ⟨[(2, (vI (kand .i64 (IntKind.wrap .i64 (IntKind.wrap .u64 ((IntKind.wrap .u64 ((IntKind.wrap .u64 ((kand .u64 (IntKind.wrap .u64 ((Int.fdiv (IntKind.wrap .u64 ((kand .u64 (Int.fdiv (IntKind.wrap .u64 ((kand .u64 (Int.fdiv x0 (2 ^ (min (Int.toNat 1) 64))) 6148914691236517205) + (kand .u64 x0 6148914691236517205))) (2 ^ (min (Int.toNat 2) 64))) 3689348814741910323) + (kand .u64 (IntKind.wrap .u64 ((kand .u64 (Int.fdiv x0 (2 ^ (min (Int.toNat 1) 64))) 6148914691236517205) + (kand .u64 x0 6148914691236517205))) 3689348814741910323))) (2 ^ (min (Int.toNat 4) 64))) + (IntKind.wrap .u64 ((kand .u64 (Int.fdiv (IntKind.wrap .u64 ((kand .u64 (Int.fdiv x0 (2 ^ (min (Int.toNat 1) 64))) 6148914691236517205) + (kand .u64 x0 6148914691236517205))) (2 ^ (min (Int.toNat 2) 64))) 3689348814741910323) + (kand .u64 (IntKind.wrap .u64 ((kand .u64 (Int.fdiv x0 (2 ^ (min (Int.toNat 1) 64))) 6148914691236517205) + (kand .u64 x0 6148914691236517205))) 3689348814741910323))))) 1085102592571150095) + (Int.fdiv (kand .u64 (IntKind.wrap .u64 ((Int.fdiv (IntKind.wrap .u64 ((kand .u64 (Int.fdiv (IntKind.wrap .u64 ((kand .u64 (Int.fdiv x0 (2 ^ (min (Int.toNat 1) 64))) 6148914691236517205) + (kand .u64 x0 6148914691236517205))) (2 ^ (min (Int.toNat 2) 64))) 3689348814741910323) + (kand .u64 (IntKind.wrap .u64 ((kand .u64 (Int.fdiv x0 (2 ^ (min (Int.toNat 1) 64))) 6148914691236517205) + (kand .u64 x0 6148914691236517205))) 3689348814741910323))) (2 ^ (min (Int.toNat 4) 64))) + (IntKind.wrap .u64 ((kand .u64 (Int.fdiv (IntKind.wrap .u64 ((kand .u64 (Int.fdiv x0 (2 ^ (min (Int.toNat 1) 64))) 6148914691236517205) + (kand .u64 x0 6148914691236517205))) (2 ^ (min (Int.toNat 2) 64))) 3689348814741910323) + (kand .u64 (IntKind.wrap .u64 ((kand .u64 (Int.fdiv x0 (2 ^ (min (Int.toNat 1) 64))) 6148914691236517205) + (kand .u64 x0 6148914691236517205))) 3689348814741910323))))) 1085102592571150095) (2 ^ (min (Int.toNat 8) 64))))) + (Int.fdiv (IntKind.wrap .u64 ((kand .u64 (IntKind.wrap .u64 ((Int.fdiv (IntKind.wrap .u64 ((kand .u64 (Int.fdiv (IntKind.wrap .u64 ((kand .u64 (Int.fdiv x0 (2 ^ (min (Int.toNat 1) 64))) 6148914691236517205) + (kand .u64 x0 6148914691236517205))) (2 ^ (min (Int.toNat 2) 64))) 3689348814741910323) + (kand .u64 (IntKind.wrap .u64 ((kand .u64 (Int.fdiv x0 (2 ^ (min (Int.toNat 1) 64))) 6148914691236517205) + (kand .u64 x0 6148914691236517205))) 3689348814741910323))) (2 ^ (min (Int.toNat 4) 64))) + (IntKind.wrap .u64 ((kand .u64 (Int.fdiv (IntKind.wrap .u64 ((kand .u64 (Int.fdiv x0 (2 ^ (min (Int.toNat 1) 64))) 6148914691236517205) + (kand .u64 x0 6148914691236517205))) (2 ^ (min (Int.toNat 2) 64))) 3689348814741910323) + (kand .u64 (IntKind.wrap .u64 ((kand .u64 (Int.fdiv x0 (2 ^ (min (Int.toNat 1) 64))) 6148914691236517205) + (kand .u64 x0 6148914691236517205))) 3689348814741910323))))) 1085102592571150095) + (Int.fdiv (kand .u64 (IntKind.wrap .u64 ((Int.fdiv (IntKind.wrap .u64 ((kand .u64 (Int.fdiv (IntKind.wrap .u64 ((kand .u64 (Int.fdiv x0 (2 ^ (min (Int.toNat 1) 64))) 6148914691236517205) + (kand .u64 x0 6148914691236517205))) (2 ^ (min (Int.toNat 2) 64))) 3689348814741910323) + (kand .u64 (IntKind.wrap .u64 ((kand .u64 (Int.fdiv x0 (2 ^ (min (Int.toNat 1) 64))) 6148914691236517205) + (kand .u64 x0 6148914691236517205))) 3689348814741910323))) (2 ^ (min (Int.toNat 4) 64))) + (IntKind.wrap .u64 ((kand .u64 (Int.fdiv (IntKind.wrap .u64 ((kand .u64 (Int.fdiv x0 (2 ^ (min (Int.toNat 1) 64))) 6148914691236517205) + (kand .u64 x0 6148914691236517205))) (2 ^ (min (Int.toNat 2) 64))) 3689348814741910323) + (kand .u64 (IntKind.wrap .u64 ((kand .u64 (Int.fdiv x0 (2 ^ (min (Int.toNat 1) 64))) 6148914691236517205) + (kand .u64 x0 6148914691236517205))) 3689348814741910323))))) 1085102592571150095) (2 ^ (min (Int.toNat 8) 64))))) (2 ^ (min (Int.toNat 16) 64))))) + (Int.fdiv (IntKind.wrap .u64 ((IntKind.wrap .u64 ((kand .u64 (IntKind.wrap .u64 ((Int.fdiv (IntKind.wrap .u64 ((kand .u64 (Int.fdiv (IntKind.wrap .u64 ((kand .u64 (Int.fdiv x0 (2 ^ (min (Int.toNat 1) 64))) 6148914691236517205) + (kand .u64 x0 6148914691236517205))) (2 ^ (min (Int.toNat 2) 64))) 3689348814741910323) + (kand .u64 (IntKind.wrap .u64 ((kand .u64 (Int.fdiv x0 (2 ^ (min (Int.toNat 1) 64))) 6148914691236517205) + (kand .u64 x0 6148914691236517205))) 3689348814741910323))) (2 ^ (min (Int.toNat 4) 64))) + (IntKind.wrap .u64 ((kand .u64 (Int.fdiv (IntKind.wrap .u64 ((kand .u64 (Int.fdiv x0 (2 ^ (min (Int.toNat 1) 64))) 6148914691236517205) + (kand .u64 x0 6148914691236517205))) (2 ^ (min (Int.toNat 2) 64))) 3689348814741910323) + (kand .u64 (IntKind.wrap .u64 ((kand .u64 (Int.fdiv x0 (2 ^ (min (Int.toNat 1) 64))) 6148914691236517205) + (kand .u64 x0 6148914691236517205))) 3689348814741910323))))) 1085102592571150095) + (Int.fdiv (kand .u64 (IntKind.wrap .u64 ((Int.fdiv (IntKind.wrap .u64 ((kand .u64 (Int.fdiv (IntKind.wrap .u64 ((kand .u64 (Int.fdiv x0 (2 ^ (min (Int.toNat 1) 64))) 6148914691236517205) + (kand .u64 x0 6148914691236517205))) (2 ^ (min (Int.toNat 2) 64))) 3689348814741910323) + (kand .u64 (IntKind.wrap .u64 ((kand .u64 (Int.fdiv x0 (2 ^ (min (Int.toNat 1) 64))) 6148914691236517205) + (kand .u64 x0 6148914691236517205))) 3689348814741910323))) (2 ^ (min (Int.toNat 4) 64))) + (IntKind.wrap .u64 ((kand .u64 (Int.fdiv (IntKind.wrap .u64 ((kand .u64 (Int.fdiv x0 (2 ^ (min (Int.toNat 1) 64))) 6148914691236517205) + (kand .u64 x0 6148914691236517205))) (2 ^ (min (Int.toNat 2) 64))) 3689348814741910323) + (kand .u64 (IntKind.wrap .u64 ((kand .u64 (Int.fdiv x0 (2 ^ (min (Int.toNat 1) 64))) 6148914691236517205) + (kand .u64 x0 6148914691236517205))) 3689348814741910323))))) 1085102592571150095) (2 ^ (min (Int.toNat 8) 64))))) + (Int.fdiv (IntKind.wrap .u64 ((kand .u64 (IntKind.wrap .u64 ((Int.fdiv (IntKind.wrap .u64 ((kand .u64 (Int.fdiv (IntKind.wrap .u64 ((kand .u64 (Int.fdiv x0 (2 ^ (min (Int.toNat 1) 64))) 6148914691236517205) + (kand .u64 x0 6148914691236517205))) (2 ^ (min (Int.toNat 2) 64))) 3689348814741910323) + (kand .u64 (IntKind.wrap .u64 ((kand .u64 (Int.fdiv x0 (2 ^ (min (Int.toNat 1) 64))) 6148914691236517205) + (kand .u64 x0 6148914691236517205))) 3689348814741910323))) (2 ^ (min (Int.toNat 4) 64))) + (IntKind.wrap .u64 ((kand .u64 (Int.fdiv (IntKind.wrap .u64 ((kand .u64 (Int.fdiv x0 (2 ^ (min (Int.toNat 1) 64))) 6148914691236517205) + (kand .u64 x0 6148914691236517205))) (2 ^ (min (Int.toNat 2) 64))) 3689348814741910323) + (kand .u64 (IntKind.wrap .u64 ((kand .u64 (Int.fdiv x0 (2 ^ (min (Int.toNat 1) 64))) 6148914691236517205) + (kand .u64 x0 6148914691236517205))) 3689348814741910323))))) 1085102592571150095) + (Int.fdiv (kand .u64 (IntKind.wrap .u64 ((Int.fdiv (IntKind.wrap .u64 ((kand .u64 (Int.fdiv (IntKind.wrap .u64 ((kand .u64 (Int.fdiv x0 (2 ^ (min (Int.toNat 1) 64))) 6148914691236517205) + (kand .u64 x0 6148914691236517205))) (2 ^ (min (Int.toNat 2) 64))) 3689348814741910323) + (kand .u64 (IntKind.wrap .u64 ((kand .u64 (Int.fdiv x0 (2 ^ (min (Int.toNat 1) 64))) 6148914691236517205) + (kand .u64 x0 6148914691236517205))) 3689348814741910323))) (2 ^ (min (Int.toNat 4) 64))) + (IntKind.wrap .u64 ((kand .u64 (Int.fdiv (IntKind.wrap .u64 ((kand .u64 (Int.fdiv x0 (2 ^ (min (Int.toNat 1) 64))) 6148914691236517205) + (kand .u64 x0 6148914691236517205))) (2 ^ (min (Int.toNat 2) 64))) 3689348814741910323) + (kand .u64 (IntKind.wrap .u64 ((kand .u64 (Int.fdiv x0 (2 ^ (min (Int.toNat 1) 64))) 6148914691236517205) + (kand .u64 x0 6148914691236517205))) 3689348814741910323))))) 1085102592571150095) (2 ^ (min (Int.toNat 8) 64))))) (2 ^ (min (Int.toNat 16) 64))))) (2 ^ (min (Int.toNat 32) 64)))))) 127)))], []⟩ (here (by kernel_rfl)) ?_
  refine sem_retS (by kernel_rfl) (fun τ hτ => ?_)
  obtain rfl := Option.some.inj h
  exact rk_ret hτ [(2, (vI (kand .i64 (IntKind.wrap .i64 (IntKind.wrap .u64 ((IntKind.wrap .u64 ((IntKind.wrap .u64 ((kand .u64 (IntKind.wrap .u64 ((Int.fdiv (IntKind.wrap .u64 ((kand .u64 (Int.fdiv (IntKind.wrap .u64 ((kand .u64 (Int.fdiv x0 (2 ^ (min (Int.toNat 1) 64))) 6148914691236517205) + (kand .u64 x0 6148914691236517205))) (2 ^ (min (Int.toNat 2) 64))) 3689348814741910323) + (kand .u64 (IntKind.wrap .u64 ((kand .u64 (Int.fdiv x0 (2 ^ (min (Int.toNat 1) 64))) 6148914691236517205) + (kand .u64 x0 6148914691236517205))) 3689348814741910323))) (2 ^ (min (Int.toNat 4) 64))) + (IntKind.wrap .u64 ((kand .u64 (Int.fdiv (IntKind.wrap .u64 ((kand .u64 (Int.fdiv x0 (2 ^ (min (Int.toNat 1) 64))) 6148914691236517205) + (kand .u64 x0 6148914691236517205))) (2 ^ (min (Int.toNat 2) 64))) 3689348814741910323) + (kand .u64 (IntKind.wrap .u64 ((kand .u64 (Int.fdiv x0 (2 ^ (min (Int.toNat 1) 64))) 6148914691236517205) + (kand .u64 x0 6148914691236517205))) 3689348814741910323))))) 1085102592571150095) + (Int.fdiv (kand .u64 (IntKind.wrap .u64 ((Int.fdiv (IntKind.wrap .u64 ((kand .u64 (Int.fdiv (IntKind.wrap .u64 ((kand .u64 (Int.fdiv x0 (2 ^ (min (Int.toNat 1) 64))) 6148914691236517205) + (kand .u64 x0 6148914691236517205))) (2 ^ (min (Int.toNat 2) 64))) 3689348814741910323) + (kand .u64 (IntKind.wrap .u64 ((kand .u64 (Int.fdiv x0 (2 ^ (min (Int.toNat 1) 64))) 6148914691236517205) + (kand .u64 x0 6148914691236517205))) 3689348814741910323))) (2 ^ (min (Int.toNat 4) 64))) + (IntKind.wrap .u64 ((kand .u64 (Int.fdiv (IntKind.wrap .u64 ((kand .u64 (Int.fdiv x0 (2 ^ (min (Int.toNat 1) 64))) 6148914691236517205) + (kand .u64 x0 6148914691236517205))) (2 ^ (min (Int.toNat 2) 64))) 3689348814741910323) + (kand .u64 (IntKind.wrap .u64 ((kand .u64 (Int.fdiv x0 (2 ^ (min (Int.toNat 1) 64))) 6148914691236517205) + (kand .u64 x0 6148914691236517205))) 3689348814741910323))))) 1085102592571150095) (2 ^ (min (Int.toNat 8) 64))))) + (Int.fdiv (IntKind.wrap .u64 ((kand .u64 (IntKind.wrap .u64 ((Int.fdiv (IntKind.wrap .u64 ((kand .u64 (Int.fdiv (IntKind.wrap .u64 ((kand .u64 (Int.fdiv x0 (2 ^ (min (Int.toNat 1) 64))) 6148914691236517205) + (kand .u64 x0 6148914691236517205))) (2 ^ (min (Int.toNat 2) 64))) 3689348814741910323) + (kand .u64 (IntKind.wrap .u64 ((kand .u64 (Int.fdiv x0 (2 ^ (min (Int.toNat 1) 64))) 6148914691236517205) + (kand .u64 x0 6148914691236517205))) 3689348814741910323))) (2 ^ (min (Int.toNat 4) 64))) + (IntKind.wrap .u64 ((kand .u64 (Int.fdiv (IntKind.wrap .u64 ((kand .u64 (Int.fdiv x0 (2 ^ (min (Int.toNat 1) 64))) 6148914691236517205) + (kand .u64 x0 6148914691236517205))) (2 ^ (min (Int.toNat 2) 64))) 3689348814741910323) + (kand .u64 (IntKind.wrap .u64 ((kand .u64 (Int.fdiv x0 (2 ^ (min (Int.toNat 1) 64))) 6148914691236517205) + (kand .u64 x0 6148914691236517205))) 3689348814741910323))))) 1085102592571150095) + (Int.fdiv (kand .u64 (IntKind.wrap .u64 ((Int.fdiv (IntKind.wrap .u64 ((kand .u64 (Int.fdiv (IntKind.wrap .u64 ((kand .u64 (Int.fdiv x0 (2 ^ (min (Int.toNat 1) 64))) 6148914691236517205) + (kand .u64 x0 6148914691236517205))) (2 ^ (min (Int.toNat 2) 64))) 3689348814741910323) + (kand .u64 (IntKind.wrap .u64 ((kand .u64 (Int.fdiv x0 (2 ^ (min (Int.toNat 1) 64))) 6148914691236517205) + (kand .u64 x0 6148914691236517205))) 3689348814741910323))) (2 ^ (min (Int.toNat 4) 64))) + (IntKind.wrap .u64 ((kand .u64 (Int.fdiv (IntKind.wrap .u64 ((kand .u64 (Int.fdiv x0 (2 ^ (min (Int.toNat 1) 64))) 6148914691236517205) + (kand .u64 x0 6148914691236517205))) (2 ^ (min (Int.toNat 2) 64))) 3689348814741910323) + (kand .u64 (IntKind.wrap .u64 ((kand .u64 (Int.fdiv x0 (2 ^ (min (Int.toNat 1) 64))) 6148914691236517205) + (kand .u64 x0 6148914691236517205))) 3689348814741910323))))) 1085102592571150095) (2 ^ (min (Int.toNat 8) 64))))) (2 ^ (min (Int.toNat 16) 64))))) + (Int.fdiv (IntKind.wrap .u64 ((IntKind.wrap .u64 ((kand .u64 (IntKind.wrap .u64 ((Int.fdiv (IntKind.wrap .u64 ((kand .u64 (Int.fdiv (IntKind.wrap .u64 ((kand .u64 (Int.fdiv x0 (2 ^ (min (Int.toNat 1) 64))) 6148914691236517205) + (kand .u64 x0 6148914691236517205))) (2 ^ (min (Int.toNat 2) 64))) 3689348814741910323) + (kand .u64 (IntKind.wrap .u64 ((kand .u64 (Int.fdiv x0 (2 ^ (min (Int.toNat 1) 64))) 6148914691236517205) + (kand .u64 x0 6148914691236517205))) 3689348814741910323))) (2 ^ (min (Int.toNat 4) 64))) + (IntKind.wrap .u64 ((kand .u64 (Int.fdiv (IntKind.wrap .u64 ((kand .u64 (Int.fdiv x0 (2 ^ (min (Int.toNat 1) 64))) 6148914691236517205) + (kand .u64 x0 6148914691236517205))) (2 ^ (min (Int.toNat 2) 64))) 3689348814741910323) + (kand .u64 (IntKind.wrap .u64 ((kand .u64 (Int.fdiv x0 (2 ^ (min (Int.toNat 1) 64))) 6148914691236517205) + (kand .u64 x0 6148914691236517205))) 3689348814741910323))))) 1085102592571150095) + (Int.fdiv (kand .u64 (IntKind.wrap .u64 ((Int.fdiv (IntKind.wrap .u64 ((kand .u64 (Int.fdiv (IntKind.wrap .u64 ((kand .u64 (Int.fdiv x0 (2 ^ (min (Int.toNat 1) 64))) 6148914691236517205) + (kand .u64 x0 6148914691236517205))) (2 ^ (min (Int.toNat 2) 64))) 3689348814741910323) + (kand .u64 (IntKind.wrap .u64 ((kand .u64 (Int.fdiv x0 (2 ^ (min (Int.toNat 1) 64))) 6148914691236517205) + (kand .u64 x0 6148914691236517205))) 3689348814741910323))) (2 ^ (min (Int.toNat 4) 64))) + (IntKind.wrap .u64 ((kand .u64 (Int.fdiv (IntKind.wrap .u64 ((kand .u64 (Int.fdiv x0 (2 ^ (min (Int.toNat 1) 64))) 6148914691236517205) + (kand .u64 x0 6148914691236517205))) (2 ^ (min (Int.toNat 2) 64))) 3689348814741910323) + (kand .u64 (IntKind.wrap .u64 ((kand .u64 (Int.fdiv x0 (2 ^ (min (Int.toNat 1) 64))) 6148914691236517205) + (kand .u64 x0 6148914691236517205))) 3689348814741910323))))) 1085102592571150095) (2 ^ (min (Int.toNat 8) 64))))) + (Int.fdiv (IntKind.wrap .u64 ((kand .u64 (IntKind.wrap .u64 ((Int.fdiv (IntKind.wrap .u64 ((kand .u64 (Int.fdiv (IntKind.wrap .u64 ((kand .u64 (Int.fdiv x0 (2 ^ (min (Int.toNat 1) 64))) 6148914691236517205) + (kand .u64 x0 6148914691236517205))) (2 ^ (min (Int.toNat 2) 64))) 3689348814741910323) + (kand .u64 (IntKind.wrap .u64 ((kand .u64 (Int.fdiv x0 (2 ^ (min (Int.toNat 1) 64))) 6148914691236517205) + (kand .u64 x0 6148914691236517205))) 3689348814741910323))) (2 ^ (min (Int.toNat 4) 64))) + (IntKind.wrap .u64 ((kand .u64 (Int.fdiv (IntKind.wrap .u64 ((kand .u64 (Int.fdiv x0 (2 ^ (min (Int.toNat 1) 64))) 6148914691236517205) + (kand .u64 x0 6148914691236517205))) (2 ^ (min (Int.toNat 2) 64))) 3689348814741910323) + (kand .u64 (IntKind.wrap .u64 ((kand .u64 (Int.fdiv x0 (2 ^ (min (Int.toNat 1) 64))) 6148914691236517205) + (kand .u64 x0 6148914691236517205))) 3689348814741910323))))) 1085102592571150095) + (Int.fdiv (kand .u64 (IntKind.wrap .u64 ((Int.fdiv (IntKind.wrap .u64 ((kand .u64 (Int.fdiv (IntKind.wrap .u64 ((kand .u64 (Int.fdiv x0 (2 ^ (min (Int.toNat 1) 64))) 6148914691236517205) + (kand .u64 x0 6148914691236517205))) (2 ^ (min (Int.toNat 2) 64))) 3689348814741910323) + (kand .u64 (IntKind.wrap .u64 ((kand .u64 (Int.fdiv x0 (2 ^ (min (Int.toNat 1) 64))) 6148914691236517205) + (kand .u64 x0 6148914691236517205))) 3689348814741910323))) (2 ^ (min (Int.toNat 4) 64))) + (IntKind.wrap .u64 ((kand .u64 (Int.fdiv (IntKind.wrap .u64 ((kand .u64 (Int.fdiv x0 (2 ^ (min (Int.toNat 1) 64))) 6148914691236517205) + (kand .u64 x0 6148914691236517205))) (2 ^ (min (Int.toNat 2) 64))) 3689348814741910323) + (kand .u64 (IntKind.wrap .u64 ((kand .u64 (Int.fdiv x0 (2 ^ (min (Int.toNat 1) 64))) 6148914691236517205) + (kand .u64 x0 6148914691236517205))) 3689348814741910323))))) 1085102592571150095) (2 ^ (min (Int.toNat 8) 64))))) (2 ^ (min (Int.toNat 16) 64))))) (2 ^ (min (Int.toNat 32) 64)))))) 127)))] (here (by kernel_rfl)) (by kernel_rfl)
theorem W.bits_OnesCount_ok {x0 : Int} {r : Int} (h : bits_OnesCount x0 = some r) : PC G.P 84 [(vK .u64 x0)] [] (vI r) [] := by
  refine pc_of G (fn := Try.f84) Try.func84 (by kernel_rfl) (by kernel_rfl) (by kernel_rfl) (by kernel_rfl) (by kernel_rfl) ?_
  refine sem_set ⟨[(0, (vK .u64 x0))], []⟩ (by kernel_rfl) ?_
  refine sem_seq (by kernel_rfl) ?_
  refine sem_region (by kernel_rfl) ?_
  refine evs_run 1 (by kernel_rfl) ?_
  refine evs_endS (by kernel_rfl) (fun τ hτ => ?_)
  refine th_normalS hτ ⟨[(0, (vK .u64 x0))], []⟩ (here (by kernel_rfl)) ?_
  refine sem_seq (by kernel_rfl) ?_
  refine sem_condF (by kernel_rfl) (by kernel_rfl) ?_
  refine sem_skipS (by kernel_rfl) (fun τ hτ => ?_)
  refine th_normalS hτ ⟨[(0, (vK .u64 x0))], []⟩ (here (by kernel_rfl)) ?_
  refine sem_seq (by kernel_rfl) ?_
  refine sem_region (by kernel_rfl) ?_
  refine evs_run 1 (by kernel_rfl) ?_
  obtain ⟨r2, hr2, h⟩ := bindS h
  refine evs_callP [] (by kernel_rfl) (W.bits_OnesCount64_ok hr2) (by kernel_rfl) (.inl rfl) (by kernel_rfl) ?_
  refine evs_run 1 (by kernel_rfl) ?_
  refine evs_endS (by kernel_rfl) (fun τ hτ => ?_)
  refine th_normalS hτ ⟨[(2, (vI r2))], []⟩ (here (by kernel_rfl)) ?_
  refine sem_retS (by kernel_rfl) (fun τ hτ => ?_)
  obtain rfl := Option.some.inj h
  exact rk_ret hτ [(2, (vI r2))] (here (by kernel_rfl)) (by kernel_rfl)
theorem W.setup_mounts_ok {stations : Int} {r : (List Int)} (h : setup_mounts stations = some r) : PC G.P 77 [(vI stations)] [] (.row (.top 0) 3) [(0, .row 3 [] (List.map cI r))] := by
  refine pc_of G (fn := Try.f77) Try.func77 (by kernel_rfl) (by kernel_rfl) (by kernel_rfl) (by kernel_rfl) (by kernel_rfl) ?_
  refine sem_set ⟨[(0, (vI stations))], []⟩ (by kernel_rfl) ?_
  refine sem_seq (by kernel_rfl) ?_
  refine sem_region (by kernel_rfl) ?_
  refine evs_run 1 (by kernel_rfl) ?_
  refine evs_endS (by kernel_rfl) (fun τ hτ => ?_)
  refine th_normalS hτ ⟨[(0, (vI stations))], []⟩ (here (by kernel_rfl)) ?_
  refine sem_seq (by kernel_rfl) ?_
  refine sem_region (by kernel_rfl) ?_
  refine evs_run 1 (by kernel_rfl) ?_
  refine evs_endS (by kernel_rfl) (fun τ hτ => ?_)
  refine th_normalS hτ ⟨[(0, (vI stations)), (3, (.row (.top 3) 3))], [(3, .row 3 [] (List.map cI []))]⟩ (here (by kernel_rfl)) ?_
  refine sem_seq (by kernel_rfl) ?_
  refine sem_seq (by kernel_rfl) ?_
  refine sem_region (by kernel_rfl) ?_
  refine evs_run 1 (by kernel_rfl) ?_
  refine evs_endS (by kernel_rfl) (fun τ hτ => ?_)
  refine th_normalS hτ ⟨[(0, (vI stations)), (3, (.row (.top 3) 3)), (5, (vI 0))], [(3, .row 3 [] (List.map cI []))]⟩ (here (by kernel_rfl)) ?_
  refine sem_block (by kernel_rfl) ?_
  obtain ⟨x60, hx60, h⟩ := bindS h
  refine sem_loopS (fun (s41 : Int × (List Int)) => ⟨[(0, (vI stations)), (3, (.row (.top 500000) 3)), (5, (vI s41.1))], [(500000, .row 3 [] (List.map cI s41.2))]⟩) (fun (x60 : (List Int)) => (.exit 0, ⟨[(3, (.row (.top 500000) 3))], [(500000, .row 3 [] (List.map cI x60))]⟩)) (setup_mounts_l2 stations) (0, []) x60 (by kernel_rfl) (subR_prep [] [(3, 500000)] (by kernel_rfl) rfl rfl (by kernel_rfl)) hx60 ?_ ?_ ?_
  · intro s41 r h
    refine sem_seq (by kernel_rfl) ?_
    refine sem_region (by kernel_rfl) ?_
    refine evs_run 1 (by kernel_rfl) ?_
    refine evs_endS (by kernel_rfl) (fun τ hτ => ?_)
    refine th_normalS hτ ⟨[(0, (vI stations)), (3, (.row (.top 500000) 3)), (5, (vI s41.1)), (6, (vB (decide (s41.1 < 512))))], [(500000, .row 3 [] (List.map cI s41.2))]⟩ (here (by kernel_rfl)) ?_
    refine sem_seq (by kernel_rfl) ?_
    refine sem_cond (decide (s41.1 < 512)) (by kernel_rfl) (by kernel_rfl) (fun hb => ?_) (fun hb => ?_)
    · replace h := iteT hb h
      refine sem_skipS (by kernel_rfl) (fun τ hτ => ?_)
      refine th_normalS hτ ⟨[(0, (vI stations)), (3, (.row (.top 500000) 3)), (5, (vI s41.1))], [(500000, .row 3 [] (List.map cI s41.2))]⟩ (here (by kernel_rfl)) ?_
      refine sem_seqJ (fun (j55 : (List Int)) => ⟨[(0, (vI stations)), (3, (.row (.top 500000) 3)), (5, (vI s41.1))], [(500000, .row 3 [] (List.map cI j55))]⟩) (setup_mounts_k1 s41) r (by kernel_rfl) (fun j55 h => ?_) ?_
      · refine sem_region (by kernel_rfl) ?_
        refine evs_run 2 (by kernel_rfl) ?_
        refine evs_endS (by kernel_rfl) (fun τ hτ => ?_)
        obtain rfl := Option.some.inj h
        exact lk_nextS hτ (here (by kernel_rfl))
      refine sem_block (by kernel_rfl) ?_
      refine sem_seq (by kernel_rfl) ?_
      refine sem_region (by kernel_rfl) ?_
      refine evs_run 2 (by kernel_rfl) ?_
      refine evs_endS (by kernel_rfl) (fun τ hτ => ?_)
      refine th_normalS hτ ⟨[(0, (vI stations)), (3, (.row (.top 500000) 3)), (4, (vI s41.1)), (5, (vI s41.1))], [(500000, .row 3 [] (List.map cI s41.2))]⟩ (here (by kernel_rfl)) ?_
      refine sem_seq (by kernel_rfl) ?_
      refine sem_region (by kernel_rfl) ?_
      refine evs_run 2 (by kernel_rfl) ?_
      obtain ⟨r57, hr57, h⟩ := bindS h
      refine evs_callP [] (by kernel_rfl) (W.bits_OnesCount_ok hr57) (by kernel_rfl) (.inl rfl) (by kernel_rfl) ?_
      refine evs_run 2 (by kernel_rfl) ?_
      refine evs_endS (by kernel_rfl) (fun τ hτ => ?_)
      refine th_normalS hτ ⟨[(0, (vI stations)), (3, (.row (.top 500000) 3)), (4, (vI s41.1)), (5, (vI s41.1)), (12, (vB (decide (r57 ≤ stations))))], [(500000, .row 3 [] (List.map cI s41.2))]⟩ (here (by kernel_rfl)) ?_
      refine sem_cond (decide (r57 ≤ stations)) (by kernel_rfl) (by kernel_rfl) (fun hb => ?_) (fun hb => ?_)
      · replace h := iteT hb h
        refine sem_region (by kernel_rfl) ?_
        refine evs_run 3 (by kernel_rfl) ?_
        obtain ⟨l59, hl59, h⟩ := bindS h
        refine evs_op (st_app (c := cI) (l := s41.2) (l2 := [s41.1]) (x := (.sl (List.map cI [s41.1]))) (g := 500000) (e := 3) (sz := 1) (d := 16) (by kernel_rfl) (by kernel_rfl) (by kernel_rfl) (by kernel_rfl) (fun _ => rfl) rfl hl59) ?_
        refine evs_run 1 (by kernel_rfl) ?_
        refine evs_endS (by kernel_rfl) (fun τ hτ => ?_)
        refine bl_normal ?_
        exact jk_normal l59 h hτ (here (by kernel_rfl))
      · replace h := iteF hb h
        refine sem_skipS (by kernel_rfl) (fun τ hτ => ?_)
        refine bl_normal ?_
        exact jk_normal s41.2 h hτ (here (by kernel_rfl))
    · replace h := iteF hb h
      refine sem_exitS 0 (by kernel_rfl) rfl (fun τ hτ => ?_)
      refine th_exit ?_
      obtain rfl := Option.some.inj h
      exact lk_outS hτ rfl (here (by kernel_rfl))
  · intro x
    rfl
  · intro τ hτ
    refine bl_hit (by kernel_rfl) ?_
    refine th_normalS hτ ⟨[(3, (.row (.top 500000) 3))], [(500000, .row 3 [] (List.map cI x60))]⟩ (here (by kernel_rfl)) ?_
    refine sem_seq (by kernel_rfl) ?_
    refine sem_region (by kernel_rfl) ?_
    refine evs_run 2 (by kernel_rfl) ?_
    refine evs_endS (by kernel_rfl) (fun τ hτ => ?_)
    refine th_normalS hτ ⟨[(2, (.row (.top 500000) 3))], [(500000, .row 3 [] (List.map cI x60))]⟩ (here (by kernel_rfl)) ?_
    refine sem_retS (by kernel_rfl) (fun τ hτ => ?_)
    obtain rfl := Option.some.inj h
    exact rk_ret hτ [(2, (.row (.top 0) 3))] (subR_prep [] [(500000, 0)] (by kernel_rfl) rfl rfl (by kernel_rfl)) (by kernel_rfl)
theorem W.setup_bitsOf_ok {l : (List Int)} {r : Int} (h : setup_bitsOf l = some r) : PC G.P 78 [(.sl (List.map cI l))] [] (vI r) [] := by
  refine pc_of G (fn := Try.f78) Try.func78 (by kernel_rfl) (by kernel_rfl) (by kernel_rfl) (by kernel_rfl) (by kernel_rfl) ?_
  refine sem_set ⟨[(0, (.sl (List.map cI l)))], []⟩ (by kernel_rfl) ?_
  refine sem_seq (by kernel_rfl) ?_
  refine sem_region (by kernel_rfl) ?_
  refine evs_run 1 (by kernel_rfl) ?_
  refine evs_endS (by kernel_rfl) (fun τ hτ => ?_)
  refine th_normalS hτ ⟨[(0, (.sl (List.map cI l)))], []⟩ (here (by kernel_rfl)) ?_
  refine sem_seq (by kernel_rfl) ?_
  refine sem_region (by kernel_rfl) ?_
  refine evs_run 1 (by kernel_rfl) ?_
  refine evs_endS (by kernel_rfl) (fun τ hτ => ?_)
  refine th_normalS hτ ⟨[(0, (.sl (List.map cI l))), (3, (vI 0))], []⟩ (here (by kernel_rfl)) ?_
  refine sem_seq (by kernel_rfl) ?_
  refine sem_seq (by kernel_rfl) ?_
  refine sem_region (by kernel_rfl) ?_
  refine evs_run 1 (by kernel_rfl) ?_
  refine evs_op (st_len (c := cI) (l := l) (x := (.sl (List.map cI l))) (by kernel_rfl) (by kernel_rfl)) ?_
  refine evs_run 1 (by kernel_rfl) ?_
  refine evs_endS (by kernel_rfl) (fun τ hτ => ?_)
  refine th_normalS hτ ⟨[(3, (vI 0)), (6, (.sl (List.map cI l))), (7, (vI (l.length : Int))), (8, (vI 0))], []⟩ (here (by kernel_rfl)) ?_
  refine sem_block (by kernel_rfl) ?_
  obtain ⟨x30, hx30, h⟩ := bindS h
  refine sem_loopS (fun (s21 : Int × Int) => ⟨[(3, (vI s21.1)), (6, (.sl (List.map cI l))), (7, (vI (l.length : Int))), (8, (vI s21.2))], []⟩) (fun (x30 : Int) => (.exit 0, ⟨[(3, (vI x30))], []⟩)) (setup_bitsOf_l1 l) (0, 0) x30 (by kernel_rfl) (here (by kernel_rfl)) hx30 ?_ ?_ ?_
  · intro s21 r h
    refine sem_seq (by kernel_rfl) ?_
    refine sem_region (by kernel_rfl) ?_
    refine evs_run 1 (by kernel_rfl) ?_
    refine evs_endS (by kernel_rfl) (fun τ hτ => ?_)
    refine th_normalS hτ ⟨[(3, (vI s21.1)), (6, (.sl (List.map cI l))), (7, (vI (l.length : Int))), (8, (vI s21.2)), (9, (vB (decide (s21.2 < (l.length : Int)))))], []⟩ (here (by kernel_rfl)) ?_
    refine sem_seq (by kernel_rfl) ?_
    refine sem_cond (decide (s21.2 < (l.length : Int))) (by kernel_rfl) (by kernel_rfl) (fun hb => ?_) (fun hb => ?_)
    · replace h := iteT hb h
      refine sem_skipS (by kernel_rfl) (fun τ hτ => ?_)
      refine th_normalS hτ ⟨[(3, (vI s21.1)), (6, (.sl (List.map cI l))), (7, (vI (l.length : Int))), (8, (vI s21.2))], []⟩ (here (by kernel_rfl)) ?_
      refine sem_seq (by kernel_rfl) ?_
      refine sem_block (by kernel_rfl) ?_
      refine sem_seq (by kernel_rfl) ?_
      refine sem_region (by kernel_rfl) ?_
      obtain ⟨x29, hx29, h⟩ := bindS h
      refine evs_op (st_idx (c := cI) (l := l) (i := s21.2) (kd := .i64) (sz := 1) (by kernel_rfl) hx29 rfl) ?_
      refine evs_run 2 (by kernel_rfl) ?_
      refine evs_endS (by kernel_rfl) (fun τ hτ => ?_)
      refine th_normalS hτ ⟨[(3, (vI s21.1)), (5, (vI x29)), (6, (.sl (List.map cI l))), (7, (vI (l.length : Int))), (8, (vI s21.2))], []⟩ (here (by kernel_rfl)) ?_
      refine sem_region (by kernel_rfl) ?_
      refine evs_run 2 (by kernel_rfl) ?_
      obtain ⟨hb, h⟩ := iteN h
      refine evs_op (st_shl (a := 1) (b := x29) (kd := .i64) (k2 := .i64) (by kernel_rfl) (of_decide_eq_true hb)) ?_
      refine evs_run 2 (by kernel_rfl) ?_
      refine evs_endS (by kernel_rfl) (fun τ hτ => ?_)
      refine bl_normal ?_
      refine th_normalS hτ ⟨[(3, (vI (kor .i64 s21.1 (IntKind.wrap .i64 (1 * 2 ^ (min (Int.toNat x29) 64)))))), (6, (.sl (List.map cI l))), (7, (vI (l.length : Int))), (8, (vI s21.2))], []⟩ (here (by kernel_rfl)) ?_
      refine sem_region (by kernel_rfl) ?_
      refine evs_run 2 (by kernel_rfl) ?_
      refine evs_endS (by kernel_rfl) (fun τ hτ => ?_)
      obtain rfl := Option.some.inj h
      exact lk_nextS hτ (here (by kernel_rfl))
    · replace h := iteF hb h
      refine sem_exitS 0 (by kernel_rfl) rfl (fun τ hτ => ?_)
      refine th_exit ?_
      obtain rfl := Option.some.inj h
      exact lk_outS hτ rfl (here (by kernel_rfl))
  · intro x
    rfl
  · intro τ hτ
    refine bl_hit (by kernel_rfl) ?_
    refine th_normalS hτ ⟨[(3, (vI x30))], []⟩ (here (by kernel_rfl)) ?_
    refine sem_seq (by kernel_rfl) ?_
    refine sem_region (by kernel_rfl) ?_
    refine evs_run 2 (by kernel_rfl) ?_
    refine evs_endS (by kernel_rfl) (fun τ hτ => ?_)
    refine th_normalS hτ ⟨[(2, (vI x30))], []⟩ (here (by kernel_rfl)) ?_
    refine sem_retS (by kernel_rfl) (fun τ hτ => ?_)
    obtain rfl := Option.some.inj h
    exact rk_ret hτ [(2, (vI x30))] (here (by kernel_rfl)) (by kernel_rfl)
theorem W.setup_stages_ok {needs : (List (List Int))} {stations : Int} {r : (List setup_stage)} (h : setup_stages needs stations = some r) : PC G.P 72 [(.sl (List.map (cS cI) needs)), (vI stations)] [] (.row (.top 0) 84) [(0, .row 84 [] (List.map c_setup_stage r))] := by
  refine pc_of G (fn := Try.f72) Try.func72 (by kernel_rfl) (by kernel_rfl) (by kernel_rfl) (by kernel_rfl) (by kernel_rfl) ?_
  refine sem_set ⟨[(0, (.sl (List.map (cS cI) needs))), (1, (vI stations))], []⟩ (by kernel_rfl) ?_
  refine sem_seq (by kernel_rfl) ?_
  refine sem_region (by kernel_rfl) ?_
  refine evs_run 1 (by kernel_rfl) ?_
  refine evs_endS (by kernel_rfl) (fun τ hτ => ?_)
  refine th_normalS hτ ⟨[(0, (.sl (List.map (cS cI) needs))), (1, (vI stations))], []⟩ (here (by kernel_rfl)) ?_
  refine sem_seq (by kernel_rfl) ?_
  refine sem_region (by kernel_rfl) ?_
  refine evs_run 1 (by kernel_rfl) ?_
  obtain ⟨r2, hr2, h⟩ := bindS h
  refine evs_callS [] [(0, 700050)] [] (by kernel_rfl) (W.setup_mounts_ok hr2) (by kernel_rfl) (by kernel_rfl) (.inl rfl) ?_
  refine evs_run 1 (by kernel_rfl) ?_
  refine evs_endS (by kernel_rfl) (fun τ hτ => ?_)
  refine th_normalS hτ ⟨[(0, (.sl (List.map (cS cI) needs))), (5, (.row (.top 700050) 3))], [(700050, .row 3 [] (List.map cI r2))]⟩ (here (by kernel_rfl)) ?_
  refine sem_seq (by kernel_rfl) ?_
  refine sem_region (by kernel_rfl) ?_
  refine evs_run 6 (by kernel_rfl) ?_
  refine evs_endS (by kernel_rfl) (fun τ hτ => ?_)
  refine th_normalS hτ ⟨[(0, (.sl (List.map (cS cI) needs))), (5, (.row (.top 700050) 3)), (6, (.ptr 6 0))], [(6, .box [(.mp 22), (.lit (.map none))]), (22, .map (mput [] 0 0)), (700050, .row 3 [] (List.map cI r2))]⟩ (here (by kernel_rfl)) ?_
  refine sem_seq (by kernel_rfl) ?_
  refine sem_region (by kernel_rfl) ?_
  refine evs_run 1 (by kernel_rfl) ?_
  refine evs_endS (by kernel_rfl) (fun τ hτ => ?_)
  refine th_normalS hτ ⟨[(0, (.sl (List.map (cS cI) needs))), (5, (.row (.top 700050) 3)), (6, (.ptr 6 0)), (7, (.row (.top 7) 84))], [(6, .box [(.mp 22), (.lit (.map none))]), (7, .row 84 [] (List.map c_setup_stage [])), (22, .map (mput [] 0 0)), (700050, .row 3 [] (List.map cI r2))]⟩ (here (by kernel_rfl)) ?_
  refine sem_seq (by kernel_rfl) ?_
  refine sem_seq (by kernel_rfl) ?_
  refine sem_region (by kernel_rfl) ?_
  refine evs_run 1 (by kernel_rfl) ?_
  refine evs_op (st_len (c := (cS cI)) (l := needs) (x := (.sl (List.map (cS cI) needs))) (by kernel_rfl) (by kernel_rfl)) ?_
  refine evs_run 1 (by kernel_rfl) ?_
  refine evs_endS (by kernel_rfl) (fun τ hτ => ?_)
  refine th_normalS hτ ⟨[(5, (.row (.top 700050) 3)), (6, (.ptr 6 0)), (7, (.row (.top 7) 84)), (25, (.sl (List.map (cS cI) needs))), (26, (vI (needs.length : Int))), (27, (vI 0))], [(6, .box [(.mp 22), (.lit (.map none))]), (7, .row 84 [] (List.map c_setup_stage [])), (22, .map (mput [] 0 0)), (700050, .row 3 [] (List.map cI r2))]⟩ (here (by kernel_rfl)) ?_
  refine sem_block (by kernel_rfl) ?_
  obtain ⟨x5696, hx5696, h⟩ := bindS h
  refine sem_loopS (fun (s3799 : Int × (List (Int × Int)) × (List setup_stage)) => ⟨[(5, (.row (.top 500000) 3)), (6, (.ptr 500001 0)), (7, (.row (.top 500002) 84)), (25, (.sl (List.map (cS cI) needs))), (26, (vI (needs.length : Int))), (27, (vI s3799.1))], [(500000, .row 3 [] (List.map cI r2)), (500001, .box [(.fmap s3799.2.1), .undef]), (500002, .row 84 [] (List.map c_setup_stage s3799.2.2))]⟩) (fun (x5696 : (List setup_stage)) => (.exit 0, ⟨[(7, (.row (.top 500000) 84))], [(500000, .row 84 [] (List.map c_setup_stage x5696))]⟩)) (setup_stages_l5 needs r2) (0, (mput [] 0 0), []) x5696 (by kernel_rfl) (subR_prep [.frz 22, .drop (.box 6 1)] [(6, 500001), (7, 500002), (700050, 500000)] (by kernel_rfl) rfl rfl (by kernel_rfl)) hx5696 ?_ ?_ ?_
  · intro s3799 r h
    refine sem_seq (by kernel_rfl) ?_
    refine sem_region (by kernel_rfl) ?_
    refine evs_run 1 (by kernel_rfl) ?_
    refine evs_endS (by kernel_rfl) (fun τ hτ => ?_)
    refine th_normalS hτ ⟨[(5, (.row (.top 500000) 3)), (6, (.ptr 500001 0)), (7, (.row (.top 500002) 84)), (25, (.sl (List.map (cS cI) needs))), (26, (vI (needs.length : Int))), (27, (vI s3799.1)), (28, (vB (decide (s3799.1 < (needs.length : Int)))))], [(500000, .row 3 [] (List.map cI r2)), (500001, .box [(.fmap s3799.2.1), .undef]), (500002, .row 84 [] (List.map c_setup_stage s3799.2.2))]⟩ (here (by kernel_rfl)) ?_
    refine sem_seq (by kernel_rfl) ?_
    refine sem_cond (decide (s3799.1 < (needs.length : Int))) (by kernel_rfl) (by kernel_rfl) (fun hb => ?_) (fun hb => ?_)
    · replace h := iteT hb h
      refine sem_skipS (by kernel_rfl) (fun τ hτ => ?_)
      refine th_normalS hτ ⟨[(5, (.row (.top 500000) 3)), (6, (.ptr 500001 0)), (7, (.row (.top 500002) 84)), (25, (.sl (List.map (cS cI) needs))), (26, (vI (needs.length : Int))), (27, (vI s3799.1))], [(500000, .row 3 [] (List.map cI r2)), (500001, .box [(.fmap s3799.2.1), .undef]), (500002, .row 84 [] (List.map c_setup_stage s3799.2.2))]⟩ (here (by kernel_rfl)) ?_
      refine sem_seq (by kernel_rfl) ?_
      refine sem_block (by kernel_rfl) ?_
      refine sem_seq (by kernel_rfl) ?_
      refine sem_region (by kernel_rfl) ?_
      obtain ⟨x5223, hx5223, h⟩ := bindS h
      refine evs_op (st_idx (c := (cS cI)) (l := needs) (i := s3799.1) (kd := .i64) (sz := 1) (by kernel_rfl) hx5223 rfl) ?_
      refine evs_run 2 (by kernel_rfl) ?_
      refine evs_endS (by kernel_rfl) (fun τ hτ => ?_)
      refine th_normalS hτ ⟨[(5, (.row (.top 500000) 3)), (6, (.ptr 500001 0)), (7, (.row (.top 500002) 84)), (9, (.sl (List.map cI x5223))), (25, (.sl (List.map (cS cI) needs))), (26, (vI (needs.length : Int))), (27, (vI s3799.1))], [(500000, .row 3 [] (List.map cI r2)), (500001, .box [(.fmap s3799.2.1), .undef]), (500002, .row 84 [] (List.map c_setup_stage s3799.2.2))]⟩ (here (by kernel_rfl)) ?_
      refine sem_seq (by kernel_rfl) ?_
      refine sem_region (by kernel_rfl) ?_
      refine evs_run 5 (by kernel_rfl) ?_
      refine evs_endS (by kernel_rfl) (fun τ hτ => ?_)
      refine th_normalS hτ ⟨[(5, (.row (.top 500000) 3)), (6, (.ptr 500001 0)), (7, (.row (.top 500002) 84)), (9, (.sl (List.map cI x5223))), (10, (.ptr 10 0)), (25, (.sl (List.map (cS cI) needs))), (26, (vI (needs.length : Int))), (27, (vI s3799.1))], [(10, .box [(.mp 31), (.mp 32)]), (31, .map []), (32, .map []), (500000, .row 3 [] (List.map cI r2)), (500001, .box [(.fmap s3799.2.1), .undef]), (500002, .row 84 [] (List.map c_setup_stage s3799.2.2))]⟩ (here (by kernel_rfl)) ?_
      refine sem_seq (by kernel_rfl) ?_
      refine sem_region (by kernel_rfl) ?_
      refine evs_run 1 (by kernel_rfl) ?_
      obtain ⟨r5225, hr5225, h⟩ := bindS h
      refine evs_callP [] (by kernel_rfl) (W.setup_bitsOf_ok hr5225) (by kernel_rfl) (.inl rfl) (by kernel_rfl) ?_
      refine evs_run 1 (by kernel_rfl) ?_
      refine evs_endS (by kernel_rfl) (fun τ hτ => ?_)
      refine th_normalS hτ ⟨[(5, (.row (.top 500000) 3)), (6, (.ptr 500001 0)), (7, (.row (.top 500002) 84)), (10, (.ptr 10 0)), (11, (vI r5225)), (25, (.sl (List.map (cS cI) needs))), (26, (vI (needs.length : Int))), (27, (vI s3799.1))], [(10, .box [(.mp 31), (.mp 32)]), (31, .map []), (32, .map []), (500000, .row 3 [] (List.map cI r2)), (500001, .box [(.fmap s3799.2.1), .undef]), (500002, .row 84 [] (List.map c_setup_stage s3799.2.2))]⟩ (here (by kernel_rfl)) ?_
      refine sem_seq (by kernel_rfl) ?_
      refine sem_seq (by kernel_rfl) ?_
      refine sem_region (by kernel_rfl) ?_
      refine evs_run 1 (by kernel_rfl) ?_
      refine evs_op (st_len (c := cI) (l := r2) (x := (.row (.top 500000) 3)) (by kernel_rfl) (by kernel_rfl)) ?_
      refine evs_run 1 (by kernel_rfl) ?_
      refine evs_endS (by kernel_rfl) (fun τ hτ => ?_)
      refine th_normalS hτ ⟨[(5, (.row (.top 500000) 3)), (6, (.ptr 500001 0)), (7, (.row (.top 500002) 84)), (10, (.ptr 10 0)), (11, (vI r5225)), (25, (.sl (List.map (cS cI) needs))), (26, (vI (needs.length : Int))), (27, (vI s3799.1)), (36, (.row (.top 500000) 3)), (37, (vI (r2.length : Int))), (38, (vI 0))], [(10, .box [(.mp 31), (.mp 32)]), (31, .map []), (32, .map []), (500000, .row 3 [] (List.map cI r2)), (500001, .box [(.fmap s3799.2.1), .undef]), (500002, .row 84 [] (List.map c_setup_stage s3799.2.2))]⟩ (here (by kernel_rfl)) ?_
      refine sem_block (by kernel_rfl) ?_
      obtain ⟨x5693, hx5693, h⟩ := bindS h
      refine sem_loopS (fun (s5538 : Int × (List (Int × Int)) × (List (Int × Int))) => ⟨[(5, (.row (.top 500000) 3)), (6, (.ptr 500001 0)), (7, (.row (.top 500002) 84)), (10, (.ptr 500003 0)), (11, (vI r5225)), (25, (.sl (List.map (cS cI) needs))), (26, (vI (needs.length : Int))), (27, (vI s3799.1)), (36, (.row (.top 500000) 3)), (37, (vI (r2.length : Int))), (38, (vI s5538.1))], [(500000, .row 3 [] (List.map cI r2)), (500001, .box [(.fmap s3799.2.1), .undef]), (500002, .row 84 [] (List.map c_setup_stage s3799.2.2)), (500003, .box [(.mp 500004), (.mp 500005)]), (500004, .map s5538.2.1), (500005, .map s5538.2.2)]⟩) (fun (x5693 : (List (Int × Int)) × (List (Int × Int))) => (.exit 2, ⟨[(5, (.row (.top 500000) 3)), (6, (.ptr 500001 0)), (7, (.row (.top 500002) 84)), (10, (.ptr 500003 0)), (25, (.sl (List.map (cS cI) needs))), (26, (vI (needs.length : Int))), (27, (vI s3799.1))], [(500000, .row 3 [] (List.map cI r2)), (500001, .box [(.fmap s3799.2.1), .undef]), (500002, .row 84 [] (List.map c_setup_stage s3799.2.2)), (500003, .box [(.mp 500004), (.mp 500005)]), (500004, .map x5693.1), (500005, .map x5693.2)]⟩)) (setup_stages_l4 r2 s3799 r5225) (0, [], []) x5693 (by kernel_rfl) (subR_prep [] [(10, 500003), (31, 500004), (32, 500005), (500000, 500000), (500001, 500001), (500002, 500002)] (by kernel_rfl) rfl rfl (by kernel_rfl)) hx5693 ?_ ?_ ?_
      · intro s5538 r h
        refine sem_seq (by kernel_rfl) ?_
        refine sem_region (by kernel_rfl) ?_
        refine evs_run 1 (by kernel_rfl) ?_
        refine evs_endS (by kernel_rfl) (fun τ hτ => ?_)
        refine th_normalS hτ ⟨[(5, (.row (.top 500000) 3)), (6, (.ptr 500001 0)), (7, (.row (.top 500002) 84)), (10, (.ptr 500003 0)), (11, (vI r5225)), (25, (.sl (List.map (cS cI) needs))), (26, (vI (needs.length : Int))), (27, (vI s3799.1)), (36, (.row (.top 500000) 3)), (37, (vI (r2.length : Int))), (38, (vI s5538.1)), (39, (vB (decide (s5538.1 < (r2.length : Int)))))], [(500000, .row 3 [] (List.map cI r2)), (500001, .box [(.fmap s3799.2.1), .undef]), (500002, .row 84 [] (List.map c_setup_stage s3799.2.2)), (500003, .box [(.mp 500004), (.mp 500005)]), (500004, .map s5538.2.1), (500005, .map s5538.2.2)]⟩ (here (by kernel_rfl)) ?_
        refine sem_seq (by kernel_rfl) ?_
        refine sem_cond (decide (s5538.1 < (r2.length : Int))) (by kernel_rfl) (by kernel_rfl) (fun hb => ?_) (fun hb => ?_)
        · replace h := iteT hb h
          refine sem_skipS (by kernel_rfl) (fun τ hτ => ?_)
          refine th_normalS hτ ⟨[(5, (.row (.top 500000) 3)), (6, (.ptr 500001 0)), (7, (.row (.top 500002) 84)), (10, (.ptr 500003 0)), (11, (vI r5225)), (25, (.sl (List.map (cS cI) needs))), (26, (vI (needs.length : Int))), (27, (vI s3799.1)), (36, (.row (.top 500000) 3)), (37, (vI (r2.length : Int))), (38, (vI s5538.1))], [(500000, .row 3 [] (List.map cI r2)), (500001, .box [(.fmap s3799.2.1), .undef]), (500002, .row 84 [] (List.map c_setup_stage s3799.2.2)), (500003, .box [(.mp 500004), (.mp 500005)]), (500004, .map s5538.2.1), (500005, .map s5538.2.2)]⟩ (here (by kernel_rfl)) ?_
          refine sem_seqJ (fun (j5654 : (List (Int × Int)) × (List (Int × Int))) => ⟨[(5, (.row (.top 500000) 3)), (6, (.ptr 500001 0)), (7, (.row (.top 500002) 84)), (10, (.ptr 500003 0)), (11, (vI r5225)), (25, (.sl (List.map (cS cI) needs))), (26, (vI (needs.length : Int))), (27, (vI s3799.1)), (36, (.row (.top 500000) 3)), (37, (vI (r2.length : Int))), (38, (vI s5538.1))], [(500000, .row 3 [] (List.map cI r2)), (500001, .box [(.fmap s3799.2.1), .undef]), (500002, .row 84 [] (List.map c_setup_stage s3799.2.2)), (500003, .box [(.mp 500004), (.mp 500005)]), (500004, .map j5654.1), (500005, .map j5654.2)]⟩) (setup_stages_k1 s5538) r (by kernel_rfl) (fun j5654 h => ?_) ?_
          · refine sem_region (by kernel_rfl) ?_
            refine evs_run 2 (by kernel_rfl) ?_
            refine evs_endS (by kernel_rfl) (fun τ hτ => ?_)
            obtain rfl := Option.some.inj h
            exact lk_nextS hτ (here (by kernel_rfl))
          refine sem_block (by kernel_rfl) ?_
          refine sem_seq (by kernel_rfl) ?_
          refine sem_region (by kernel_rfl) ?_
          obtain ⟨x5656, hx5656, h⟩ := bindS h
          refine evs_op (st_idxO (c := cI) (l := r2) (i := s5538.1) (kd := .i64) (kk := (.top 500000)) (e := 3) (sz := 1) (by kernel_rfl) (by kernel_rfl) hx5656 rfl) ?_
          refine evs_op (st_ldO (c := cI) (l := r2) (i := (Int.toNat s5538.1)) (v := (vI x5656)) (agg := false) (sz := 1) (kk := (.top 500000)) (e := 3) (off := 0) (J := []) (by kernel_rfl) (by kernel_rfl) (by kernel_rfl) ((idxS hx5656).2) (by kernel_rfl)) ?_
          refine evs_run 1 (by kernel_rfl) ?_
          refine evs_endS (by kernel_rfl) (fun τ hτ => ?_)
          refine th_normalS hτ ⟨[(5, (.row (.top 500000) 3)), (6, (.ptr 500001 0)), (7, (.row (.top 500002) 84)), (10, (.ptr 500003 0)), (11, (vI r5225)), (13, (vI x5656)), (25, (.sl (List.map (cS cI) needs))), (26, (vI (needs.length : Int))), (27, (vI s3799.1)), (36, (.row (.top 500000) 3)), (37, (vI (r2.length : Int))), (38, (vI s5538.1))], [(500000, .row 3 [] (List.map cI r2)), (500001, .box [(.fmap s3799.2.1), .undef]), (500002, .row 84 [] (List.map c_setup_stage s3799.2.2)), (500003, .box [(.mp 500004), (.mp 500005)]), (500004, .map s5538.2.1), (500005, .map s5538.2.2)]⟩ (here (by kernel_rfl)) ?_
          refine sem_seq (by kernel_rfl) ?_
          refine sem_seq (by kernel_rfl) ?_
          refine sem_region (by kernel_rfl) ?_
          refine evs_run 4 (by kernel_rfl) ?_
          refine evs_endS (by kernel_rfl) (fun τ hτ => ?_)
          refine th_normalS hτ ⟨[(5, (.row (.top 500000) 3)), (6, (.ptr 500001 0)), (7, (.row (.top 500002) 84)), (10, (.ptr 500003 0)), (11, (vI r5225)), (13, (vI x5656)), (25, (.sl (List.map (cS cI) needs))), (26, (vI (needs.length : Int))), (27, (vI s3799.1)), (36, (.row (.top 500000) 3)), (37, (vI (r2.length : Int))), (38, (vI s5538.1)), (45, (vB ((kand .i64 x5656 r5225) == 0)))], [(500000, .row 3 [] (List.map cI r2)), (500001, .box [(.fmap s3799.2.1), .undef]), (500002, .row 84 [] (List.map c_setup_stage s3799.2.2)), (500003, .box [(.mp 500004), (.mp 500005)]), (500004, .map s5538.2.1), (500005, .map s5538.2.2)]⟩ (here (by kernel_rfl)) ?_
          refine sem_cond ((kand .i64 x5656 r5225) == 0) (by kernel_rfl) (by kernel_rfl) (fun hb => ?_) (fun hb => ?_)
          · replace h := iteT hb h
            refine sem_exitS 3 (by kernel_rfl) rfl (fun τ hτ => ?_)
            refine th_exit ?_
            refine bl_hit (by kernel_rfl) ?_
            exact jk_normal (s5538.2.1, s5538.2.2) h hτ (here (by kernel_rfl))
          · replace h := iteF hb h
            refine sem_skipS (by kernel_rfl) (fun τ hτ => ?_)
            refine th_normalS hτ ⟨[(5, (.row (.top 500000) 3)), (6, (.ptr 500001 0)), (7, (.row (.top 500002) 84)), (10, (.ptr 500003 0)), (11, (vI r5225)), (13, (vI x5656)), (25, (.sl (List.map (cS cI) needs))), (26, (vI (needs.length : Int))), (27, (vI s3799.1)), (36, (.row (.top 500000) 3)), (37, (vI (r2.length : Int))), (38, (vI s5538.1))], [(500000, .row 3 [] (List.map cI r2)), (500001, .box [(.fmap s3799.2.1), .undef]), (500002, .row 84 [] (List.map c_setup_stage s3799.2.2)), (500003, .box [(.mp 500004), (.mp 500005)]), (500004, .map s5538.2.1), (500005, .map s5538.2.2)]⟩ (here (by kernel_rfl)) ?_
            refine sem_seq (by kernel_rfl) ?_
            refine sem_region (by kernel_rfl) ?_
            refine evs_run 1 (by kernel_rfl) ?_
            refine evs_op (st_len (c := cI) (l := r2) (x := (.row (.top 500000) 3)) (by kernel_rfl) (by kernel_rfl)) ?_
            refine evs_run 1 (by kernel_rfl) ?_
            refine evs_endS (by kernel_rfl) (fun τ hτ => ?_)
            refine th_normalS hτ ⟨[(5, (.row (.top 500000) 3)), (6, (.ptr 500001 0)), (7, (.row (.top 500002) 84)), (10, (.ptr 500003 0)), (11, (vI r5225)), (13, (vI x5656)), (25, (.sl (List.map (cS cI) needs))), (26, (vI (needs.length : Int))), (27, (vI s3799.1)), (36, (.row (.top 500000) 3)), (37, (vI (r2.length : Int))), (38, (vI s5538.1)), (46, (.row (.top 500000) 3)), (47, (vI (r2.length : Int))), (48, (vI 0))], [(500000, .row 3 [] (List.map cI r2)), (500001, .box [(.fmap s3799.2.1), .undef]), (500002, .row 84 [] (List.map c_setup_stage s3799.2.2)), (500003, .box [(.mp 500004), (.mp 500005)]), (500004, .map s5538.2.1), (500005, .map s5538.2.2)]⟩ (here (by kernel_rfl)) ?_
            refine sem_block (by kernel_rfl) ?_
            obtain ⟨x5692, hx5692, h⟩ := bindS h
            refine sem_loopS (fun (s5669 : Int × (List (Int × Int)) × (List (Int × Int))) => ⟨[(5, (.row (.top 500000) 3)), (6, (.ptr 500001 0)), (7, (.row (.top 500002) 84)), (10, (.ptr 500003 0)), (11, (vI r5225)), (13, (vI x5656)), (25, (.sl (List.map (cS cI) needs))), (26, (vI (needs.length : Int))), (27, (vI s3799.1)), (36, (.row (.top 500000) 3)), (37, (vI (r2.length : Int))), (38, (vI s5538.1)), (46, (.row (.top 500000) 3)), (47, (vI (r2.length : Int))), (48, (vI s5669.1))], [(500000, .row 3 [] (List.map cI r2)), (500001, .box [(.fmap s3799.2.1), .undef]), (500002, .row 84 [] (List.map c_setup_stage s3799.2.2)), (500003, .box [(.mp 500004), (.mp 500005)]), (500004, .map s5669.2.1), (500005, .map s5669.2.2)]⟩) (fun (x5692 : (List (Int × Int)) × (List (Int × Int))) => (.exit 4, ⟨[(5, (.row (.top 500000) 3)), (6, (.ptr 500001 0)), (7, (.row (.top 500002) 84)), (10, (.ptr 500003 0)), (11, (vI r5225)), (25, (.sl (List.map (cS cI) needs))), (26, (vI (needs.length : Int))), (27, (vI s3799.1)), (36, (.row (.top 500000) 3)), (37, (vI (r2.length : Int))), (38, (vI s5538.1))], [(500000, .row 3 [] (List.map cI r2)), (500001, .box [(.fmap s3799.2.1), .undef]), (500002, .row 84 [] (List.map c_setup_stage s3799.2.2)), (500003, .box [(.mp 500004), (.mp 500005)]), (500004, .map x5692.1), (500005, .map x5692.2)]⟩)) (setup_stages_l3 r2 s3799 x5656) (0, s5538.2.1, s5538.2.2) x5692 (by kernel_rfl) (here (by kernel_rfl)) hx5692 ?_ ?_ ?_
            · intro s5669 r h
              refine sem_seq (by kernel_rfl) ?_
              refine sem_region (by kernel_rfl) ?_
              refine evs_run 1 (by kernel_rfl) ?_
              refine evs_endS (by kernel_rfl) (fun τ hτ => ?_)
              refine th_normalS hτ ⟨[(5, (.row (.top 500000) 3)), (6, (.ptr 500001 0)), (7, (.row (.top 500002) 84)), (10, (.ptr 500003 0)), (11, (vI r5225)), (13, (vI x5656)), (25, (.sl (List.map (cS cI) needs))), (26, (vI (needs.length : Int))), (27, (vI s3799.1)), (36, (.row (.top 500000) 3)), (37, (vI (r2.length : Int))), (38, (vI s5538.1)), (46, (.row (.top 500000) 3)), (47, (vI (r2.length : Int))), (48, (vI s5669.1)), (49, (vB (decide (s5669.1 < (r2.length : Int)))))], [(500000, .row 3 [] (List.map cI r2)), (500001, .box [(.fmap s3799.2.1), .undef]), (500002, .row 84 [] (List.map c_setup_stage s3799.2.2)), (500003, .box [(.mp 500004), (.mp 500005)]), (500004, .map s5669.2.1), (500005, .map s5669.2.2)]⟩ (here (by kernel_rfl)) ?_
              refine sem_seq (by kernel_rfl) ?_
              refine sem_cond (decide (s5669.1 < (r2.length : Int))) (by kernel_rfl) (by kernel_rfl) (fun hb => ?_) (fun hb => ?_)
              · replace h := iteT hb h
                refine sem_skipS (by kernel_rfl) (fun τ hτ => ?_)
                refine th_normalS hτ ⟨[(5, (.row (.top 500000) 3)), (6, (.ptr 500001 0)), (7, (.row (.top 500002) 84)), (10, (.ptr 500003 0)), (11, (vI r5225)), (13, (vI x5656)), (25, (.sl (List.map (cS cI) needs))), (26, (vI (needs.length : Int))), (27, (vI s3799.1)), (36, (.row (.top 500000) 3)), (37, (vI (r2.length : Int))), (38, (vI s5538.1)), (46, (.row (.top 500000) 3)), (47, (vI (r2.length : Int))), (48, (vI s5669.1))], [(500000, .row 3 [] (List.map cI r2)), (500001, .box [(.fmap s3799.2.1), .undef]), (500002, .row 84 [] (List.map c_setup_stage s3799.2.2)), (500003, .box [(.mp 500004), (.mp 500005)]), (500004, .map s5669.2.1), (500005, .map s5669.2.2)]⟩ (here (by kernel_rfl)) ?_
                refine sem_seqJ (fun (j5686 : (List (Int × Int)) × (List (Int × Int))) => ⟨[(5, (.row (.top 500000) 3)), (6, (.ptr 500001 0)), (7, (.row (.top 500002) 84)), (10, (.ptr 500003 0)), (11, (vI r5225)), (13, (vI x5656)), (25, (.sl (List.map (cS cI) needs))), (26, (vI (needs.length : Int))), (27, (vI s3799.1)), (36, (.row (.top 500000) 3)), (37, (vI (r2.length : Int))), (38, (vI s5538.1)), (46, (.row (.top 500000) 3)), (47, (vI (r2.length : Int))), (48, (vI s5669.1))], [(500000, .row 3 [] (List.map cI r2)), (500001, .box [(.fmap s3799.2.1), .undef]), (500002, .row 84 [] (List.map c_setup_stage s3799.2.2)), (500003, .box [(.mp 500004), (.mp 500005)]), (500004, .map j5686.1), (500005, .map j5686.2)]⟩) (setup_stages_k2 s5669) r (by kernel_rfl) (fun j5686 h => ?_) ?_
                · refine sem_region (by kernel_rfl) ?_
                  refine evs_run 2 (by kernel_rfl) ?_
                  refine evs_endS (by kernel_rfl) (fun τ hτ => ?_)
                  obtain rfl := Option.some.inj h
                  exact lk_nextS hτ (here (by kernel_rfl))
                refine sem_block (by kernel_rfl) ?_
                refine sem_seq (by kernel_rfl) ?_
                refine sem_region (by kernel_rfl) ?_
                obtain ⟨x5688, hx5688, h⟩ := bindS h
                refine evs_op (st_idxO (c := cI) (l := r2) (i := s5669.1) (kd := .i64) (kk := (.top 500000)) (e := 3) (sz := 1) (by kernel_rfl) (by kernel_rfl) hx5688 rfl) ?_
                refine evs_op (st_ldO (c := cI) (l := r2) (i := (Int.toNat s5669.1)) (v := (vI x5688)) (agg := false) (sz := 1) (kk := (.top 500000)) (e := 3) (off := 0) (J := []) (by kernel_rfl) (by kernel_rfl) (by kernel_rfl) ((idxS hx5688).2) (by kernel_rfl)) ?_
                refine evs_run 1 (by kernel_rfl) ?_
                refine evs_endS (by kernel_rfl) (fun τ hτ => ?_)
                refine th_normalS hτ ⟨[(5, (.row (.top 500000) 3)), (6, (.ptr 500001 0)), (7, (.row (.top 500002) 84)), (10, (.ptr 500003 0)), (11, (vI r5225)), (13, (vI x5656)), (15, (vI x5688)), (25, (.sl (List.map (cS cI) needs))), (26, (vI (needs.length : Int))), (27, (vI s3799.1)), (36, (.row (.top 500000) 3)), (37, (vI (r2.length : Int))), (38, (vI s5538.1)), (46, (.row (.top 500000) 3)), (47, (vI (r2.length : Int))), (48, (vI s5669.1))], [(500000, .row 3 [] (List.map cI r2)), (500001, .box [(.fmap s3799.2.1), .undef]), (500002, .row 84 [] (List.map c_setup_stage s3799.2.2)), (500003, .box [(.mp 500004), (.mp 500005)]), (500004, .map s5669.2.1), (500005, .map s5669.2.2)]⟩ (here (by kernel_rfl)) ?_
                refine sem_seq (by kernel_rfl) ?_
                refine sem_region (by kernel_rfl) ?_
                refine evs_run 9 (by kernel_rfl) ?_
                refine evs_endS (by kernel_rfl) (fun τ hτ => ?_)
                refine th_normalS hτ ⟨[(5, (.row (.top 500000) 3)), (6, (.ptr 500001 0)), (7, (.row (.top 500002) 84)), (10, (.ptr 500003 0)), (11, (vI r5225)), (13, (vI x5656)), (15, (vI x5688)), (16, (vI ((mfind s3799.2.1 x5688).getD 0))), (17, (vB ((mfind s3799.2.1 x5688).isSome))), (25, (.sl (List.map (cS cI) needs))), (26, (vI (needs.length : Int))), (27, (vI s3799.1)), (36, (.row (.top 500000) 3)), (37, (vI (r2.length : Int))), (38, (vI s5538.1)), (46, (.row (.top 500000) 3)), (47, (vI (r2.length : Int))), (48, (vI s5669.1))], [(500000, .row 3 [] (List.map cI r2)), (500001, .box [(.fmap s3799.2.1), .undef]), (500002, .row 84 [] (List.map c_setup_stage s3799.2.2)), (500003, .box [(.mp 500004), (.mp 500005)]), (500004, .map s5669.2.1), (500005, .map s5669.2.2)]⟩ (here (by kernel_rfl)) ?_
                refine sem_seq (by kernel_rfl) ?_
                refine sem_seq (by kernel_rfl) ?_
                refine sem_region (by kernel_rfl) ?_
                refine evs_run 2 (by kernel_rfl) ?_
                refine evs_endS (by kernel_rfl) (fun τ hτ => ?_)
                refine th_normalS hτ ⟨[(5, (.row (.top 500000) 3)), (6, (.ptr 500001 0)), (7, (.row (.top 500002) 84)), (10, (.ptr 500003 0)), (11, (vI r5225)), (13, (vI x5656)), (15, (vI x5688)), (16, (vI ((mfind s3799.2.1 x5688).getD 0))), (25, (.sl (List.map (cS cI) needs))), (26, (vI (needs.length : Int))), (27, (vI s3799.1)), (36, (.row (.top 500000) 3)), (37, (vI (r2.length : Int))), (38, (vI s5538.1)), (46, (.row (.top 500000) 3)), (47, (vI (r2.length : Int))), (48, (vI s5669.1)), (60, (vB (!(mfind s3799.2.1 x5688).isSome)))], [(500000, .row 3 [] (List.map cI r2)), (500001, .box [(.fmap s3799.2.1), .undef]), (500002, .row 84 [] (List.map c_setup_stage s3799.2.2)), (500003, .box [(.mp 500004), (.mp 500005)]), (500004, .map s5669.2.1), (500005, .map s5669.2.2)]⟩ (here (by kernel_rfl)) ?_
                refine sem_cond (!(mfind s3799.2.1 x5688).isSome) (by kernel_rfl) (by kernel_rfl) (fun hb => ?_) (fun hb => ?_)
                · replace h := iteT hb h
                  refine sem_exitS 5 (by kernel_rfl) rfl (fun τ hτ => ?_)
                  refine th_exit ?_
                  refine bl_hit (by kernel_rfl) ?_
                  exact jk_normal (s5669.2.1, s5669.2.2) h hτ (here (by kernel_rfl))
                · replace h := iteF hb h
                  refine sem_skipS (by kernel_rfl) (fun τ hτ => ?_)
                  refine th_normalS hτ ⟨[(5, (.row (.top 500000) 3)), (6, (.ptr 500001 0)), (7, (.row (.top 500002) 84)), (10, (.ptr 500003 0)), (11, (vI r5225)), (13, (vI x5656)), (15, (vI x5688)), (16, (vI ((mfind s3799.2.1 x5688).getD 0))), (25, (.sl (List.map (cS cI) needs))), (26, (vI (needs.length : Int))), (27, (vI s3799.1)), (36, (.row (.top 500000) 3)), (37, (vI (r2.length : Int))), (38, (vI s5538.1)), (46, (.row (.top 500000) 3)), (47, (vI (r2.length : Int))), (48, (vI s5669.1))], [(500000, .row 3 [] (List.map cI r2)), (500001, .box [(.fmap s3799.2.1), .undef]), (500002, .row 84 [] (List.map c_setup_stage s3799.2.2)), (500003, .box [(.mp 500004), (.mp 500005)]), (500004, .map s5669.2.1), (500005, .map s5669.2.2)]⟩ (here (by kernel_rfl)) ?_
                  refine sem_seq (by kernel_rfl) ?_
                  refine sem_region (by kernel_rfl) ?_
                  refine evs_run 5 (by kernel_rfl) ?_
                  obtain ⟨r5690, hr5690, h⟩ := bindS h
                  refine evs_callP [] (by kernel_rfl) (W.bits_OnesCount_ok hr5690) (by kernel_rfl) (.inl rfl) (by kernel_rfl) ?_
                  refine evs_run 2 (by kernel_rfl) ?_
                  refine evs_endS (by kernel_rfl) (fun τ hτ => ?_)
                  refine th_normalS hτ ⟨[(5, (.row (.top 500000) 3)), (6, (.ptr 500001 0)), (7, (.row (.top 500002) 84)), (10, (.ptr 500003 0)), (11, (vI r5225)), (13, (vI x5656)), (15, (vI x5688)), (16, (vI (iadd ((mfind s3799.2.1 x5688).getD 0) r5690))), (25, (.sl (List.map (cS cI) needs))), (26, (vI (needs.length : Int))), (27, (vI s3799.1)), (36, (.row (.top 500000) 3)), (37, (vI (r2.length : Int))), (38, (vI s5538.1)), (46, (.row (.top 500000) 3)), (47, (vI (r2.length : Int))), (48, (vI s5669.1))], [(500000, .row 3 [] (List.map cI r2)), (500001, .box [(.fmap s3799.2.1), .undef]), (500002, .row 84 [] (List.map c_setup_stage s3799.2.2)), (500003, .box [(.mp 500004), (.mp 500005)]), (500004, .map s5669.2.1), (500005, .map s5669.2.2)]⟩ (here (by kernel_rfl)) ?_
                  refine sem_seq (by kernel_rfl) ?_
                  refine sem_region (by kernel_rfl) ?_
                  refine evs_run 9 (by kernel_rfl) ?_
                  refine evs_endS (by kernel_rfl) (fun τ hτ => ?_)
                  refine th_normalS hτ ⟨[(5, (.row (.top 500000) 3)), (6, (.ptr 500001 0)), (7, (.row (.top 500002) 84)), (10, (.ptr 500003 0)), (11, (vI r5225)), (13, (vI x5656)), (15, (vI x5688)), (16, (vI (iadd ((mfind s3799.2.1 x5688).getD 0) r5690))), (18, (vI ((mfind s5669.2.1 x5656).getD 0))), (19, (vB ((mfind s5669.2.1 x5656).isSome))), (25, (.sl (List.map (cS cI) needs))), (26, (vI (needs.length : Int))), (27, (vI s3799.1)), (36, (.row (.top 500000) 3)), (37, (vI (r2.length : Int))), (38, (vI s5538.1)), (46, (.row (.top 500000) 3)), (47, (vI (r2.length : Int))), (48, (vI s5669.1))], [(500000, .row 3 [] (List.map cI r2)), (500001, .box [(.fmap s3799.2.1), .undef]), (500002, .row 84 [] (List.map c_setup_stage s3799.2.2)), (500003, .box [(.mp 500004), (.mp 500005)]), (500004, .map s5669.2.1), (500005, .map s5669.2.2)]⟩ (here (by kernel_rfl)) ?_
                  refine sem_seq (by kernel_rfl) ?_
                  obtain ⟨j5691, hj5691, h⟩ := bindS h
                  refine sem_regionC ⟨[(5, (.row (.top 500000) 3)), (6, (.ptr 500001 0)), (7, (.row (.top 500002) 84)), (10, (.ptr 500003 0)), (11, (vI r5225)), (13, (vI x5656)), (15, (vI x5688)), (16, (vI (iadd ((mfind s3799.2.1 x5688).getD 0) r5690))), (25, (.sl (List.map (cS cI) needs))), (26, (vI (needs.length : Int))), (27, (vI s3799.1)), (36, (.row (.top 500000) 3)), (37, (vI (r2.length : Int))), (38, (vI s5538.1)), (46, (.row (.top 500000) 3)), (47, (vI (r2.length : Int))), (48, (vI s5669.1)), (81, (vB j5691))], [(500000, .row 3 [] (List.map cI r2)), (500001, .box [(.fmap s3799.2.1), .undef]), (500002, .row 84 [] (List.map c_setup_stage s3799.2.2)), (500003, .box [(.mp 500004), (.mp 500005)]), (500004, .map s5669.2.1), (500005, .map s5669.2.2)]⟩ (by kernel_rfl) ?_ (fun τ hτ => ?_)
                  · replace h := hj5691
                    refine evs_run 3 (by kernel_rfl) ?_
                    refine evs_split ((mfind s5669.2.1 x5656).isSome) (fun b0 => ⟨[(5, (.row (.top 500000) 3)), (6, (.ptr 500001 0)), (7, (.row (.top 500002) 84)), (10, (.ptr 500003 0)), (11, (vI r5225)), (13, (vI x5656)), (15, (vI x5688)), (16, (vI (iadd ((mfind s3799.2.1 x5688).getD 0) r5690))), (18, (vI ((mfind s5669.2.1 x5656).getD 0))), (25, (.sl (List.map (cS cI) needs))), (26, (vI (needs.length : Int))), (27, (vI s3799.1)), (36, (.row (.top 500000) 3)), (37, (vI (r2.length : Int))), (38, (vI s5538.1)), (46, (.row (.top 500000) 3)), (47, (vI (r2.length : Int))), (48, (vI s5669.1)), (77, (vB (!b0)))], [(500000, .row 3 [] (List.map cI r2)), (500001, .box [(.fmap s3799.2.1), .undef]), (500002, .row 84 [] (List.map c_setup_stage s3799.2.2)), (500003, .box [(.mp 500004), (.mp 500005)]), (500004, .map s5669.2.1), (500005, .map s5669.2.2)]⟩) (by kernel_rfl) (fun hb => ?_) (fun hb => ?_)
                    · replace h := iteT hb h
                      refine evs_run 4 (by kernel_rfl) ?_
                      refine evs_endS (by kernel_rfl) (fun τ hτ => ?_)
                      obtain rfl := Option.some.inj h
                      exact leafC hτ (here (by kernel_rfl))
                    · replace h := iteF hb h
                      refine evs_run 4 (by kernel_rfl) ?_
                      refine evs_endS (by kernel_rfl) (fun τ hτ => ?_)
                      obtain rfl := Option.some.inj h
                      exact leafC hτ (here (by kernel_rfl))
                  refine th_normalS hτ ⟨[(5, (.row (.top 500000) 3)), (6, (.ptr 500001 0)), (7, (.row (.top 500002) 84)), (10, (.ptr 500003 0)), (11, (vI r5225)), (13, (vI x5656)), (15, (vI x5688)), (16, (vI (iadd ((mfind s3799.2.1 x5688).getD 0) r5690))), (25, (.sl (List.map (cS cI) needs))), (26, (vI (needs.length : Int))), (27, (vI s3799.1)), (36, (.row (.top 500000) 3)), (37, (vI (r2.length : Int))), (38, (vI s5538.1)), (46, (.row (.top 500000) 3)), (47, (vI (r2.length : Int))), (48, (vI s5669.1)), (81, (vB j5691))], [(500000, .row 3 [] (List.map cI r2)), (500001, .box [(.fmap s3799.2.1), .undef]), (500002, .row 84 [] (List.map c_setup_stage s3799.2.2)), (500003, .box [(.mp 500004), (.mp 500005)]), (500004, .map s5669.2.1), (500005, .map s5669.2.2)]⟩ (here (by kernel_rfl)) ?_
                  refine sem_cond j5691 (by kernel_rfl) (by kernel_rfl) (fun hb => ?_) (fun hb => ?_)
                  · replace h := iteT hb h
                    refine sem_drawN [(8, [500004])] [] [] [(3, [500004]), (4, [500004]), (5, [500004]), (7, [500004])] [] 9 (by kernel_rfl) (by kernel_rfl) (by kernel_rfl) ?_
                    refine evd_run 8 (by kernel_rfl) ?_
                    refine evd_set (g := 500004) (ob := .map (mput s5669.2.1 x5656 (iadd ((mfind s3799.2.1 x5688).getD 0) r5690))) (v := vU) (by kernel_rfl) (by kernel_rfl) (by kernel_rfl) (by kernel_rfl) (by kernel_rfl) ?_
                    refine evd_end (by kernel_rfl) ?_
                    refine evo_run 1 (by kernel_rfl) ?_
                    refine evo_endS (by kernel_rfl) (fun τ hτ => ?_)
                    refine bl_normal ?_
                    exact jk_normal ((mput s5669.2.1 x5656 (iadd ((mfind s3799.2.1 x5688).getD 0) r5690)), (mput s5669.2.2 x5656 x5688)) h hτ (here (by kernel_rfl))
                  · replace h := iteF hb h
                    refine sem_skipS (by kernel_rfl) (fun τ hτ => ?_)
                    refine bl_normal ?_
                    exact jk_normal (s5669.2.1, s5669.2.2) h hτ (here (by kernel_rfl))
              · replace h := iteF hb h
                refine sem_exitS 4 (by kernel_rfl) rfl (fun τ hτ => ?_)
                refine th_exit ?_
                obtain rfl := Option.some.inj h
                exact lk_outS hτ rfl (here (by kernel_rfl))
            · intro x
              rfl
            · intro τ hτ
              refine bl_hit (by kernel_rfl) ?_
              refine bl_normal ?_
              exact jk_normal (x5692.1, x5692.2) h hτ (here (by kernel_rfl))
        · replace h := iteF hb h
          refine sem_exitS 2 (by kernel_rfl) rfl (fun τ hτ => ?_)
          refine th_exit ?_
          obtain rfl := Option.some.inj h
          exact lk_outS hτ rfl (here (by kernel_rfl))
      · intro x
        rfl
      · intro τ hτ
        refine bl_hit (by kernel_rfl) ?_
        refine th_normalS hτ ⟨[(5, (.row (.top 500000) 3)), (6, (.ptr 500001 0)), (7, (.row (.top 500002) 84)), (10, (.ptr 500003 0)), (25, (.sl (List.map (cS cI) needs))), (26, (vI (needs.length : Int))), (27, (vI s3799.1))], [(500000, .row 3 [] (List.map cI r2)), (500001, .box [(.fmap s3799.2.1), .undef]), (500002, .row 84 [] (List.map c_setup_stage s3799.2.2)), (500003, .box [(.mp 500004), (.mp 500005)]), (500004, .map x5693.1), (500005, .map x5693.2)]⟩ (here (by kernel_rfl)) ?_
        refine sem_seq (by kernel_rfl) ?_
        refine sem_region (by kernel_rfl) ?_
        refine evs_run 2 (by kernel_rfl) ?_
        refine evs_prep [.frz 500004, .frz 500005] (by kernel_rfl) ?_
        refine evs_run 1 (by kernel_rfl) ?_
        obtain ⟨l5695, hl5695, h⟩ := bindS h
        refine evs_op (st_app (c := c_setup_stage) (l := s3799.2.2) (l2 := [(setup_stage.mk x5693.1 x5693.2)]) (x := (.sl (List.map c_setup_stage [(setup_stage.mk x5693.1 x5693.2)]))) (g := 500002) (e := 84) (sz := 2) (d := 95) (by kernel_rfl) (by kernel_rfl) (by kernel_rfl) (by kernel_rfl) (fun _ => rfl) rfl hl5695) ?_
        refine evs_run 1 (by kernel_rfl) ?_
        refine evs_endS (by kernel_rfl) (fun τ hτ => ?_)
        refine th_normalS hτ ⟨[(5, (.row (.top 500000) 3)), (6, (.ptr 500001 0)), (7, (.row (.top 500002) 84)), (10, (.ptr 500003 0)), (25, (.sl (List.map (cS cI) needs))), (26, (vI (needs.length : Int))), (27, (vI s3799.1))], [(500000, .row 3 [] (List.map cI r2)), (500001, .box [(.fmap s3799.2.1), .undef]), (500002, .row 84 [] (List.map c_setup_stage l5695)), (500003, .box [(.fmap x5693.1), (.fmap x5693.2)])]⟩ (here (by kernel_rfl)) ?_
        refine sem_region (by kernel_rfl) ?_
        refine evs_run 2 (by kernel_rfl) ?_
        refine evs_endS (by kernel_rfl) (fun τ hτ => ?_)
        refine bl_normal ?_
        refine th_normalS hτ ⟨[(5, (.row (.top 500000) 3)), (6, (.ptr 500001 0)), (7, (.row (.top 500002) 84)), (25, (.sl (List.map (cS cI) needs))), (26, (vI (needs.length : Int))), (27, (vI s3799.1))], [(500000, .row 3 [] (List.map cI r2)), (500001, .box [(.fmap x5693.1), (.fmap x5693.2)]), (500002, .row 84 [] (List.map c_setup_stage l5695))]⟩ (here (by kernel_rfl)) ?_
        refine sem_region (by kernel_rfl) ?_
        refine evs_run 2 (by kernel_rfl) ?_
        refine evs_endS (by kernel_rfl) (fun τ hτ => ?_)
        obtain rfl := Option.some.inj h
        exact lk_nextS hτ (subR_prep [.drop (.box 500001 1)] [(500000, 500000), (500001, 500001), (500002, 500002)] (by kernel_rfl) rfl rfl (by kernel_rfl))
    · replace h := iteF hb h
      refine sem_exitS 0 (by kernel_rfl) rfl (fun τ hτ => ?_)
      refine th_exit ?_
      obtain rfl := Option.some.inj h
      exact lk_outS hτ rfl (subR_prep [] [(500002, 500000)] (by kernel_rfl) rfl rfl (by kernel_rfl))
  · intro x
    rfl
  · intro τ hτ
    refine bl_hit (by kernel_rfl) ?_
    refine th_normalS hτ ⟨[(7, (.row (.top 500000) 84))], [(500000, .row 84 [] (List.map c_setup_stage x5696))]⟩ (here (by kernel_rfl)) ?_
    refine sem_seq (by kernel_rfl) ?_
    refine sem_region (by kernel_rfl) ?_
    refine evs_run 2 (by kernel_rfl) ?_
    refine evs_endS (by kernel_rfl) (fun τ hτ => ?_)
    refine th_normalS hτ ⟨[(4, (.row (.top 500000) 84))], [(500000, .row 84 [] (List.map c_setup_stage x5696))]⟩ (here (by kernel_rfl)) ?_
    refine sem_retS (by kernel_rfl) (fun τ hτ => ?_)
    obtain rfl := Option.some.inj h
    exact rk_ret hτ [(4, (.row (.top 0) 84))] (subR_prep [] [(500000, 0)] (by kernel_rfl) rfl rfl (by kernel_rfl)) (by kernel_rfl)
theorem W.setup_stage_best_ok {t : setup_stage} {r : Int} (h : setup_stage_best t = some r) : PC G.P 73 [(.agg [(.fmap t.changes), (.fmap t.before)])] [] (vI r) [] := by
  obtain ⟨m, b⟩ := t
  replace h : bestM m = some r := h
  obtain ⟨hok, hr⟩ := bestM_some h
  refine pc_of G (fn := Try.f73) Try.func73 (by kernel_rfl) (by kernel_rfl) (by kernel_rfl) (by kernel_rfl) (by kernel_rfl) ?_
  refine sem_set ⟨[(0, (.agg [(.fmap m), (.fmap b)]))], []⟩ (by kernel_rfl) ?_
  refine sem_seq (by kernel_rfl) ?_
  refine sem_region (by kernel_rfl) ?_
  refine evs_run 2 (by kernel_rfl) ?_
  refine evs_endS (by kernel_rfl) (fun τ hτ => ?_)
  refine th_normalS hτ ⟨[(1, .ptr 1 0)], [(1, .box [.fmap m, .fmap b])]⟩ (here (by kernel_rfl)) ?_
  refine sem_seq (by kernel_rfl) ?_
  refine sem_region (by kernel_rfl) ?_
  refine evs_run 1 (by kernel_rfl) ?_
  refine evs_endS (by kernel_rfl) (fun τ hτ => ?_)
  refine th_normalS hτ ⟨[(1, .ptr 1 0), (3, vI (-1))], [(1, .box [.fmap m, .fmap b])]⟩ (here (by kernel_rfl)) ?_
  refine sem_seq (by kernel_rfl) ?_
  refine sem_seq (by kernel_rfl) ?_
  refine sem_region (by kernel_rfl) ?_
  refine evs_run 2 (by kernel_rfl) ?_
  refine evs_range (m := m) (d := 8) (by kernel_rfl) ?_
  refine evs_endS (by kernel_rfl) (fun τ hτ => ?_)
  refine th_normalS hτ ⟨[(1, .ptr 1 0), (3, vI (-1)), (8, .ptr 8 0)], [(1, .box [.fmap m, .fmap b]), (8, .it m none)]⟩ (here (by kernel_rfl)) ?_
  refine sem_block (by kernel_rfl) ?_
  refine sem_loop_rel (fun (s : List (Int × Int) × Option (Int × Int) × Int) => ⟨[(1, .ptr 1 0), (3, vI s.2.2), (8, .ptr 8 0)], [(1, .box [.fmap m, .fmap b]), (8, .it s.1 s.2.1)]⟩) (fun s => BestI m s.1 s.2.2) (fun s => s.1.length) (m, none, (-1)) (by kernel_rfl) (here (by kernel_rfl)) (best_start hok) ?_
  rintro ⟨left, cur, out⟩ hI
  refine sem_seq (by kernel_rfl) ?_
  refine sem_region (by kernel_rfl) ?_
  refine evs_next (g := 8) (left := left) (cur := cur) (by kernel_rfl) (by kernel_rfl) (fun hl => ?_) (fun i kv hkv => ?_)
  · refine evs_run 1 (by kernel_rfl) ?_
    refine evs_endS (by kernel_rfl) (fun τ hτ => ?_)
    refine th_normalS hτ ⟨[(3, vI out), (10, vB false)], []⟩ (here (by kernel_rfl)) ?_
    refine sem_seq (by kernel_rfl) ?_
    refine sem_condF (by kernel_rfl) (by kernel_rfl) ?_
    refine sem_exitS 0 (by kernel_rfl) rfl (fun τ hτ => ?_)
    refine th_exit ?_
    refine .inr ⟨rfl, ?_⟩
    refine bl_hit (by kernel_rfl) ?_
    obtain rfl : out = r := best_end hok hI hl hr
    refine th_normalS hτ ⟨[(3, vI out)], []⟩ (here (by kernel_rfl)) ?_
    refine sem_seq (by kernel_rfl) ?_
    refine sem_region (by kernel_rfl) ?_
    refine evs_run 2 (by kernel_rfl) ?_
    refine evs_endS (by kernel_rfl) (fun τ hτ => ?_)
    refine th_normalS hτ ⟨[(2, vI out)], []⟩ (here (by kernel_rfl)) ?_
    refine sem_retS (by kernel_rfl) (fun τ hτ => ?_)
    exact rk_ret hτ [(2, vI out)] (here (by kernel_rfl)) (by kernel_rfl)
  · obtain ⟨k, v⟩ := kv
    obtain ⟨left', hl'⟩ : ∃ l, left.eraseIdx i = l := ⟨_, rfl⟩
    rw [hl']
    refine evs_run 1 (by kernel_rfl) ?_
    refine evs_endS (by kernel_rfl) (fun τ hτ => ?_)
    refine th_normalS hτ ⟨[(1, .ptr 1 0), (3, vI out), (8, .ptr 8 0), (10, vB true)], [(1, .box [.fmap m, .fmap b]), (8, .it left' (some (k, v)))]⟩ (here (by kernel_rfl)) ?_
    refine sem_seq (by kernel_rfl) ?_
    refine sem_condT (by kernel_rfl) (by kernel_rfl) ?_
    refine sem_skipS (by kernel_rfl) (fun τ hτ => ?_)
    refine th_normalS hτ ⟨[(1, .ptr 1 0), (3, vI out), (8, .ptr 8 0)], [(1, .box [.fmap m, .fmap b]), (8, .it left' (some (k, v)))]⟩ (here (by kernel_rfl)) ?_
    obtain ⟨o2, ho2⟩ : ∃ o2, bestStep m out (k, v) = o2 := ⟨_, rfl⟩
    have h := setup_stage_best_body_eq m out k v
    rw [ho2] at h
    refine sem_block (by kernel_rfl) ?_
    refine sem_seq (by kernel_rfl) ?_
    refine sem_region (by kernel_rfl) ?_
    refine evs_entry (g := 8) (left := left') (u := k) (v := v) (by kernel_rfl) (by kernel_rfl) ?_
    refine evs_run 4 (by kernel_rfl) ?_
    refine evs_endS (by kernel_rfl) (fun τ hτ => ?_)
    refine th_normalS hτ ⟨[(1, (.ptr 1 0)), (3, (vI out)), (4, (vI k)), (5, (vI v)), (8, (.ptr 8 0))], [(1, .box [(.fmap m), (.fmap b)]), (8, .it left' (some (k, v)))]⟩ (here (by kernel_rfl)) ?_
    refine sem_seq (by kernel_rfl) ?_
    obtain ⟨j1, hj1, h⟩ := bindS h
    refine sem_regionC ⟨[(1, (.ptr 500000 0)), (3, (vI out)), (4, (vI k)), (8, (.ptr 500001 0)), (36, (vB j1))], [(500000, .box [(.fmap m), (.fmap b)]), (500001, .it left' (some (k, v)))]⟩ (by kernel_rfl) ?_ (fun τ hτ => ?_)
    · replace h := hj1
      refine evs_run 3 (by kernel_rfl) ?_
      refine evs_split (decide (out < 0)) (fun b0 => ⟨[(1, (.ptr 1 0)), (3, (vI out)), (4, (vI k)), (5, (vI v)), (8, (.ptr 8 0)), (16, (vB b0))], [(1, .box [(.fmap m), (.fmap b)]), (8, .it left' (some (k, v)))]⟩) (by kernel_rfl) (fun hb => ?_) (fun hb => ?_)
      · replace h := iteT hb h
        refine evs_run 20 (by kernel_rfl) ?_
        refine evs_endS (by kernel_rfl) (fun τ hτ => ?_)
        obtain rfl := Option.some.inj h
        exact leafC hτ (subR_prep [] [(1, 500000), (8, 500001)] (by kernel_rfl) rfl rfl (by kernel_rfl))
      · replace h := iteF hb h
        refine evs_run 8 (by kernel_rfl) ?_
        refine evs_split (decide (v < ((mfind m out).getD 0))) (fun b0 => ⟨[(1, (.ptr 1 0)), (3, (vI out)), (4, (vI k)), (5, (vI v)), (8, (.ptr 8 0)), (24, (vB b0))], [(1, .box [(.fmap m), (.fmap b)]), (8, .it left' (some (k, v)))]⟩) (by kernel_rfl) (fun hb => ?_) (fun hb => ?_)
        · replace h := iteT hb h
          refine evs_run 12 (by kernel_rfl) ?_
          refine evs_endS (by kernel_rfl) (fun τ hτ => ?_)
          obtain rfl := Option.some.inj h
          exact leafC hτ (subR_prep [] [(1, 500000), (8, 500001)] (by kernel_rfl) rfl rfl (by kernel_rfl))
        · replace h := iteF hb h
          refine evs_run 7 (by kernel_rfl) ?_
          refine evs_split (v == ((mfind m out).getD 0)) (fun b0 => ⟨[(1, (.ptr 1 0)), (3, (vI out)), (4, (vI k)), (8, (.ptr 8 0)), (24, (vB false)), (31, (vB b0))], [(1, .box [(.fmap m), (.fmap b)]), (8, .it left' (some (k, v)))]⟩) (by kernel_rfl) (fun hb => ?_) (fun hb => ?_)
          · replace h := iteT hb h
            refine evs_run 5 (by kernel_rfl) ?_
            refine evs_endS (by kernel_rfl) (fun τ hτ => ?_)
            obtain rfl := Option.some.inj h
            exact leafC hτ (subR_prep [] [(1, 500000), (8, 500001)] (by kernel_rfl) rfl rfl (by kernel_rfl))
          · replace h := iteF hb h
            refine evs_run 5 (by kernel_rfl) ?_
            refine evs_endS (by kernel_rfl) (fun τ hτ => ?_)
            obtain rfl := Option.some.inj h
            exact leafC hτ (subR_prep [] [(1, 500000), (8, 500001)] (by kernel_rfl) rfl rfl (by kernel_rfl))
    refine th_normalS hτ ⟨[(1, (.ptr 500000 0)), (3, (vI out)), (4, (vI k)), (8, (.ptr 500001 0)), (36, (vB j1))], [(500000, .box [(.fmap m), (.fmap b)]), (500001, .it left' (some (k, v)))]⟩ (here (by kernel_rfl)) ?_
    refine sem_cond j1 (by kernel_rfl) (by kernel_rfl) (fun hb => ?_) (fun hb => ?_)
    · replace h := iteT hb h
      refine sem_region (by kernel_rfl) ?_
      refine evs_run 2 (by kernel_rfl) ?_
      refine evs_endS (by kernel_rfl) (fun τ hτ => ?_)
      refine bl_normal ?_
      obtain rfl := Option.some.inj h
      exact .inl ⟨rfl, (left', some (k, v), _), hl' ▸ best_step hI hkv ho2, hl' ▸ best_less hkv, leafR hτ (subR_of [(500000, 1), (500001, 8)] rfl rfl (by kernel_rfl))⟩
    · replace h := iteF hb h
      refine sem_skipS (by kernel_rfl) (fun τ hτ => ?_)
      refine bl_normal ?_
      obtain rfl := Option.some.inj h
      exact .inl ⟨rfl, (left', some (k, v), _), hl' ▸ best_step hI hkv ho2, hl' ▸ best_less hkv, leafR hτ (subR_of [(500000, 1), (500001, 8)] rfl rfl (by kernel_rfl))⟩
theorem W.setup_fewest_ok {needs : (List (List Int))} {stations : Int} {r : Int} (h : setup_fewest needs stations = some r) : PC G.P 44 [(.sl (List.map (cS cI) needs)), (vI stations)] [] (vI r) [] := by
  refine pc_of G (fn := Try.f44) Try.func44 (by kernel_rfl) (by kernel_rfl) (by kernel_rfl) (by kernel_rfl) (by kernel_rfl) ?_
  refine sem_set ⟨[(0, (.sl (List.map (cS cI) needs))), (1, (vI stations))], []⟩ (by kernel_rfl) ?_
  refine sem_seq (by kernel_rfl) ?_
  refine sem_region (by kernel_rfl) ?_
  refine evs_run 1 (by kernel_rfl) ?_
  refine evs_endS (by kernel_rfl) (fun τ hτ => ?_)
  refine th_normalS hτ ⟨[(0, (.sl (List.map (cS cI) needs))), (1, (vI stations))], []⟩ (here (by kernel_rfl)) ?_
  refine sem_seq (by kernel_rfl) ?_
  refine sem_seq (by kernel_rfl) ?_
  refine sem_region (by kernel_rfl) ?_
  refine evs_run 1 (by kernel_rfl) ?_
  refine evs_op (st_len (c := (cS cI)) (l := needs) (x := (.sl (List.map (cS cI) needs))) (by kernel_rfl) (by kernel_rfl)) ?_
  refine evs_run 1 (by kernel_rfl) ?_
  refine evs_endS (by kernel_rfl) (fun τ hτ => ?_)
  refine th_normalS hτ ⟨[(0, (.sl (List.map (cS cI) needs))), (1, (vI stations)), (9, (vB ((needs.length : Int) == 0)))], []⟩ (here (by kernel_rfl)) ?_
  refine sem_cond ((needs.length : Int) == 0) (by kernel_rfl) (by kernel_rfl) (fun hb => ?_) (fun hb => ?_)
  · replace h := iteT hb h
    refine sem_seq (by kernel_rfl) ?_
    refine sem_region (by kernel_rfl) ?_
    refine evs_run 1 (by kernel_rfl) ?_
    refine evs_endS (by kernel_rfl) (fun τ hτ => ?_)
    refine th_normalS hτ ⟨[(4, (vI 0))], []⟩ (here (by kernel_rfl)) ?_
    refine sem_retS (by kernel_rfl) (fun τ hτ => ?_)
    refine th_ret ?_
    obtain rfl := Option.some.inj h
    exact rk_ret hτ [(4, (vI 0))] (here (by kernel_rfl)) (by kernel_rfl)
  · replace h := iteF hb h
    refine sem_skipS (by kernel_rfl) (fun τ hτ => ?_)
    refine th_normalS hτ ⟨[(0, (.sl (List.map (cS cI) needs))), (1, (vI stations))], []⟩ (here (by kernel_rfl)) ?_
    refine sem_seq (by kernel_rfl) ?_
    refine sem_region (by kernel_rfl) ?_
    refine evs_run 2 (by kernel_rfl) ?_
    obtain ⟨r2, hr2, h⟩ := bindS h
    refine evs_callS [] [(0, 700100)] [] (by kernel_rfl) (W.setup_stages_ok hr2) (by kernel_rfl) (by kernel_rfl) (.inl rfl) ?_
    refine evs_run 1 (by kernel_rfl) ?_
    refine evs_endS (by kernel_rfl) (fun τ hτ => ?_)
    refine th_normalS hτ ⟨[(5, (.row (.top 700100) 84))], [(700100, .row 84 [] (List.map c_setup_stage r2))]⟩ (here (by kernel_rfl)) ?_
    refine sem_seq (by kernel_rfl) ?_
    refine sem_region (by kernel_rfl) ?_
    refine evs_run 2 (by kernel_rfl) ?_
    refine evs_op (st_len (c := c_setup_stage) (l := r2) (x := (.row (.top 700100) 84)) (by kernel_rfl) (by kernel_rfl)) ?_
    refine evs_run 1 (by kernel_rfl) ?_
    obtain ⟨x4, hx4, h⟩ := bindS h
    refine evs_op (st_idxO (c := c_setup_stage) (l := r2) (i := (isub (r2.length : Int) 1)) (kd := .i64) (kk := (.top 700100)) (e := 84) (sz := 2) (by kernel_rfl) (by kernel_rfl) hx4 rfl) ?_
    refine evs_op (st_ldO (c := c_setup_stage) (l := r2) (i := (Int.toNat (isub (r2.length : Int) 1))) (v := (.agg [(.fmap x4.changes), (.fmap x4.before)])) (agg := true) (sz := 2) (kk := (.top 700100)) (e := 84) (off := 0) (J := []) (by kernel_rfl) (by kernel_rfl) (by kernel_rfl) ((idxS hx4).2) (by kernel_rfl)) ?_
    refine evs_run 2 (by kernel_rfl) ?_
    refine evs_endS (by kernel_rfl) (fun τ hτ => ?_)
    refine th_normalS hτ ⟨[(6, (.ptr 6 0))], [(6, .box [(.fmap x4.changes), (.fmap x4.before)])]⟩ (here (by kernel_rfl)) ?_
    refine sem_seq (by kernel_rfl) ?_
    refine sem_drawN [] [] [] [] [] 4 (by kernel_rfl) (by kernel_rfl) (by kernel_rfl) ?_
    refine evd_run 3 (by kernel_rfl) ?_
    obtain ⟨r7, hr7, h⟩ := bindS h
    refine evd_callS [] [] (by kernel_rfl) (by kernel_rfl) (W.setup_stage_best_ok hr7) (by kernel_rfl) (.inl rfl) (by kernel_rfl) (by kernel_rfl) ?_
    refine evd_end (by kernel_rfl) ?_
    refine evo_run 2 (by kernel_rfl) ?_
    refine evo_endS (by kernel_rfl) (fun τ hτ => ?_)
    refine th_normalS hτ ⟨[(4, (vI ((mfind x4.changes r7).getD 0)))], []⟩ (here (by kernel_rfl)) ?_
    refine sem_retS (by kernel_rfl) (fun τ hτ => ?_)
    obtain rfl := Option.some.inj h
    exact rk_ret hτ [(4, (vI ((mfind x4.changes r7).getD 0)))] (here (by kernel_rfl)) (by kernel_rfl)
theorem W.setup_Least_ok {needs : (List (List Int))} {stations : Int} {r : Int × Int} (h : setup_Least needs stations = some r) : PC G.P 17 [(.sl (List.map (cS cI) needs)), (vI stations)] [] (.tup [(vI r.1), (vI r.2)]) [] := by
  refine pc_of G (fn := Try.f17) Try.func17 (by kernel_rfl) (by kernel_rfl) (by kernel_rfl) (by kernel_rfl) (by kernel_rfl) ?_
  refine sem_set ⟨[(0, (.sl (List.map (cS cI) needs))), (1, (vI stations))], []⟩ (by kernel_rfl) ?_
  refine sem_seq (by kernel_rfl) ?_
  refine sem_region (by kernel_rfl) ?_
  refine evs_run 2 (by kernel_rfl) ?_
  refine evs_endS (by kernel_rfl) (fun τ hτ => ?_)
  refine th_normalS hτ ⟨[(0, (.sl (List.map (cS cI) needs))), (1, (vI stations))], []⟩ (here (by kernel_rfl)) ?_
  refine sem_seq (by kernel_rfl) ?_
  refine sem_seq (by kernel_rfl) ?_
  refine sem_region (by kernel_rfl) ?_
  refine evs_run 2 (by kernel_rfl) ?_
  obtain ⟨r4, hr4, h⟩ := bindS h
  refine evs_callP [] (by kernel_rfl) (W.setup_check_ok hr4) (by kernel_rfl) (.inl rfl) (by kernel_rfl) ?_
  refine evs_run 1 (by kernel_rfl) ?_
  refine evs_endS (by kernel_rfl) (fun τ hτ => ?_)
  refine th_normalS hτ ⟨[(0, (.sl (List.map (cS cI) needs))), (1, (vI stations)), (6, (vI r4))], []⟩ (here (by kernel_rfl)) ?_
  refine sem_seq (by kernel_rfl) ?_
  refine sem_region (by kernel_rfl) ?_
  refine evs_run 2 (by kernel_rfl) ?_
  refine evs_endS (by kernel_rfl) (fun τ hτ => ?_)
  refine th_normalS hτ ⟨[(0, (.sl (List.map (cS cI) needs))), (1, (vI stations)), (6, (vI r4)), (11, (vB (r4 != 0)))], []⟩ (here (by kernel_rfl)) ?_
  refine sem_cond (r4 != 0) (by kernel_rfl) (by kernel_rfl) (fun hb => ?_) (fun hb => ?_)
  · replace h := iteT hb h
    refine sem_seq (by kernel_rfl) ?_
    refine sem_region (by kernel_rfl) ?_
    refine evs_run 3 (by kernel_rfl) ?_
    refine evs_endS (by kernel_rfl) (fun τ hτ => ?_)
    refine th_normalS hτ ⟨[(4, (vI 0)), (5, (vI r4))], []⟩ (here (by kernel_rfl)) ?_
    refine sem_retS (by kernel_rfl) (fun τ hτ => ?_)
    refine th_ret ?_
    obtain rfl := Option.some.inj h
    exact rk_ret hτ [(4, (vI 0)), (5, (vI r4))] (here (by kernel_rfl)) (by kernel_rfl)
  · replace h := iteF hb h
    refine sem_skipS (by kernel_rfl) (fun τ hτ => ?_)
    refine th_normalS hτ ⟨[(0, (.sl (List.map (cS cI) needs))), (1, (vI stations))], []⟩ (here (by kernel_rfl)) ?_
    refine sem_seq (by kernel_rfl) ?_
    refine sem_region (by kernel_rfl) ?_
    refine evs_run 2 (by kernel_rfl) ?_
    obtain ⟨r6, hr6, h⟩ := bindS h
    refine evs_callP [] (by kernel_rfl) (W.setup_fewest_ok hr6) (by kernel_rfl) (.inl rfl) (by kernel_rfl) ?_
    refine evs_run 2 (by kernel_rfl) ?_
    refine evs_endS (by kernel_rfl) (fun τ hτ => ?_)
    refine th_normalS hτ ⟨[(4, (vI r6)), (5, (vI 0))], []⟩ (here (by kernel_rfl)) ?_
    refine sem_retS (by kernel_rfl) (fun τ hτ => ?_)
    obtain rfl := Option.some.inj h
    exact rk_ret hτ [(4, (vI r6)), (5, (vI 0))] (here (by kernel_rfl)) (by kernel_rfl)
theorem W.sheetmetallaw05_known_ok {r : Bool} (h : sheetmetallaw05_known = some r) : PC G.P 16 [] [] (vB r) [] := by
  refine pc_of G (fn := Try.f16) Try.func16 (by kernel_rfl) (by kernel_rfl) (by kernel_rfl) (by kernel_rfl) (by kernel_rfl) ?_
  refine sem_set ⟨[], []⟩ (by kernel_rfl) ?_
  refine sem_seq (by kernel_rfl) ?_
  refine sem_region (by kernel_rfl) ?_
  refine evs_run 1 (by kernel_rfl) ?_
  refine evs_endS (by kernel_rfl) (fun τ hτ => ?_)
  refine th_normalS hτ ⟨[], []⟩ (here (by kernel_rfl)) ?_
  refine sem_seq (by kernel_rfl) ?_
  refine sem_region (by kernel_rfl) ?_
  refine evs_run 5 (by kernel_rfl) ?_
  obtain ⟨r2, hr2, h⟩ := bindS h
  refine evs_callP [] (by kernel_rfl) (W.setup_Least_ok hr2) (by kernel_rfl) (.inl rfl) (by kernel_rfl) ?_
  refine evs_run 5 (by kernel_rfl) ?_
  refine evs_endS (by kernel_rfl) (fun τ hτ => ?_)
  refine th_normalS hτ ⟨[(1, (vI r2.1)), (2, (vI r2.2))], []⟩ (here (by kernel_rfl)) ?_
  refine sem_seq (by kernel_rfl) ?_
  refine sem_region (by kernel_rfl) ?_
  refine evs_run 5 (by kernel_rfl) ?_
  obtain ⟨r4, hr4, h⟩ := bindS h
  refine evs_callP [] (by kernel_rfl) (W.setup_Least_ok hr4) (by kernel_rfl) (.inl rfl) (by kernel_rfl) ?_
  refine evs_run 5 (by kernel_rfl) ?_
  refine evs_endS (by kernel_rfl) (fun τ hτ => ?_)
  refine th_normalS hτ ⟨[(1, (vI r2.1)), (2, (vI r2.2)), (3, (vI r4.1)), (4, (vI r4.2))], []⟩ (here (by kernel_rfl)) ?_
  refine sem_seq (by kernel_rfl) ?_
  obtain ⟨j5, hj5, h⟩ := bindS h
  refine sem_regionC ⟨[(0, (vB j5))], []⟩ (by kernel_rfl) ?_ (fun τ hτ => ?_)
  · replace h := hj5
    refine evs_run 3 (by kernel_rfl) ?_
    refine evs_split (r2.1 == 4) (fun b0 => ⟨[(2, (vI r2.2)), (3, (vI r4.1)), (4, (vI r4.2)), (25, (vB b0))], []⟩) (by kernel_rfl) (fun hb => ?_) (fun hb => ?_)
    · replace h := iteT hb h
      refine evs_run 4 (by kernel_rfl) ?_
      refine evs_split (r2.2 == 0) (fun b0 => ⟨[(3, (vI r4.1)), (4, (vI r4.2)), (29, (vB b0))], []⟩) (by kernel_rfl) (fun hb => ?_) (fun hb => ?_)
      · replace h := iteT hb h
        refine evs_run 4 (by kernel_rfl) ?_
        refine evs_split (r4.1 == 2) (fun b0 => ⟨[(4, (vI r4.2)), (33, (vB b0))], []⟩) (by kernel_rfl) (fun hb => ?_) (fun hb => ?_)
        · replace h := iteT hb h
          refine evs_run 4 (by kernel_rfl) ?_
          refine evs_endS (by kernel_rfl) (fun τ hτ => ?_)
          obtain rfl := Option.some.inj h
          exact leafC hτ (here (by kernel_rfl))
        · replace h := iteF hb h
          refine evs_run 4 (by kernel_rfl) ?_
          refine evs_endS (by kernel_rfl) (fun τ hτ => ?_)
          obtain rfl := Option.some.inj h
          exact leafC hτ (here (by kernel_rfl))
      · replace h := iteF hb h
        refine evs_run 8 (by kernel_rfl) ?_
        refine evs_endS (by kernel_rfl) (fun τ hτ => ?_)
        obtain rfl := Option.some.inj h
        exact leafC hτ (here (by kernel_rfl))
    · replace h := iteF hb h
      refine evs_run 12 (by kernel_rfl) ?_
      refine evs_endS (by kernel_rfl) (fun τ hτ => ?_)
      obtain rfl := Option.some.inj h
      exact leafC hτ (here (by kernel_rfl))
  refine th_normalS hτ ⟨[(0, (vB j5))], []⟩ (here (by kernel_rfl)) ?_
  refine sem_retS (by kernel_rfl) (fun τ hτ => ?_)
  obtain rfl := Option.some.inj h
  exact rk_ret hτ [(0, (vB j5))] (here (by kernel_rfl)) (by kernel_rfl)
theorem W.sheetmetalref05_within_ok {n : Int} {lo : Int} {hi : Int} {r : Bool} (h : sheetmetalref05_within n lo hi = some r) : PC G.P 66 [(vI n), (vI lo), (vI hi)] [] (vB r) [] := by
  refine pc_of G (fn := Try.f66) Try.func66 (by kernel_rfl) (by kernel_rfl) (by kernel_rfl) (by kernel_rfl) (by kernel_rfl) ?_
  refine sem_set ⟨[(0, (vI n)), (1, (vI lo)), (2, (vI hi))], []⟩ (by kernel_rfl) ?_
  refine sem_seq (by kernel_rfl) ?_
  refine sem_region (by kernel_rfl) ?_
  refine evs_run 1 (by kernel_rfl) ?_
  refine evs_endS (by kernel_rfl) (fun τ hτ => ?_)
  refine th_normalS hτ ⟨[(0, (vI n)), (1, (vI lo)), (2, (vI hi))], []⟩ (here (by kernel_rfl)) ?_
  refine sem_seq (by kernel_rfl) ?_
  obtain ⟨j1, hj1, h⟩ := bindS h
  refine sem_regionC ⟨[(6, (vB j1))], []⟩ (by kernel_rfl) ?_ (fun τ hτ => ?_)
  · replace h := hj1
    refine evs_run 4 (by kernel_rfl) ?_
    refine evs_split (decide (n ≥ lo)) (fun b0 => ⟨[(0, (vI n)), (2, (vI hi)), (10, (vB b0))], []⟩) (by kernel_rfl) (fun hb => ?_) (fun hb => ?_)
    · replace h := iteT hb h
      refine evs_run 5 (by kernel_rfl) ?_
      refine evs_endS (by kernel_rfl) (fun τ hτ => ?_)
      obtain rfl := Option.some.inj h
      exact leafC hτ (here (by kernel_rfl))
    · replace h := iteF hb h
      refine evs_run 5 (by kernel_rfl) ?_
      refine evs_endS (by kernel_rfl) (fun τ hτ => ?_)
      obtain rfl := Option.some.inj h
      exact leafC hτ (here (by kernel_rfl))
  refine th_normalS hτ ⟨[(6, (vB j1))], []⟩ (here (by kernel_rfl)) ?_
  refine sem_retS (by kernel_rfl) (fun τ hτ => ?_)
  obtain rfl := Option.some.inj h
  exact rk_ret hτ [(6, (vB j1))] (here (by kernel_rfl)) (by kernel_rfl)
theorem W.sheetmetalref05_isSet_ok {l : (List Int)} {r : Bool} (h : sheetmetalref05_isSet l = some r) : PC G.P 52 [(.sl (List.map cI l))] [] (vB r) [] := by
  refine pc_of G (fn := Try.f52) Try.func52 (by kernel_rfl) (by kernel_rfl) (by kernel_rfl) (by kernel_rfl) (by kernel_rfl) ?_
  refine sem_set ⟨[(0, (.sl (List.map cI l)))], []⟩ (by kernel_rfl) ?_
  refine sem_seq (by kernel_rfl) ?_
  refine sem_region (by kernel_rfl) ?_
  refine evs_run 1 (by kernel_rfl) ?_
  refine evs_endS (by kernel_rfl) (fun τ hτ => ?_)
  refine th_normalS hτ ⟨[(0, (.sl (List.map cI l)))], []⟩ (here (by kernel_rfl)) ?_
  refine sem_seq (by kernel_rfl) ?_
  refine sem_seq (by kernel_rfl) ?_
  refine sem_region (by kernel_rfl) ?_
  refine evs_run 1 (by kernel_rfl) ?_
  refine evs_endS (by kernel_rfl) (fun τ hτ => ?_)
  refine th_normalS hτ ⟨[(0, (.sl (List.map cI l))), (3, (vI 0))], []⟩ (here (by kernel_rfl)) ?_
  refine sem_block (by kernel_rfl) ?_
  obtain ⟨x140, hx140, h⟩ := bindS h
  refine sem_loopS (fun (s87 : Int) => ⟨[(0, (.sl (List.map cI l))), (3, (vI s87))], []⟩) (fun (x140 : Unit ⊕ Unit) => match x140 with | .inl j141 => (.ret, ⟨[(2, (vB false))], []⟩) | .inr j142 => (.exit 0, ⟨[], []⟩)) (sheetmetalref05_isSet_l1 l) 0 x140 (by kernel_rfl) (here (by kernel_rfl)) hx140 ?_ ?_ ?_
  · intro s87 r h
    refine sem_seq (by kernel_rfl) ?_
    refine sem_seq (by kernel_rfl) ?_
    refine sem_region (by kernel_rfl) ?_
    refine evs_run 2 (by kernel_rfl) ?_
    refine evs_op (st_len (c := cI) (l := l) (x := (.sl (List.map cI l))) (by kernel_rfl) (by kernel_rfl)) ?_
    refine evs_run 1 (by kernel_rfl) ?_
    refine evs_endS (by kernel_rfl) (fun τ hτ => ?_)
    refine th_normalS hτ ⟨[(0, (.sl (List.map cI l))), (3, (vI s87)), (7, (vB (decide (s87 < (l.length : Int)))))], []⟩ (here (by kernel_rfl)) ?_
    refine sem_cond (decide (s87 < (l.length : Int))) (by kernel_rfl) (by kernel_rfl) (fun hb => ?_) (fun hb => ?_)
    · replace h := iteT hb h
      refine sem_skipS (by kernel_rfl) (fun τ hτ => ?_)
      refine th_normalS hτ ⟨[(0, (.sl (List.map cI l))), (3, (vI s87))], []⟩ (here (by kernel_rfl)) ?_
      refine sem_seq (by kernel_rfl) ?_
      refine sem_block (by kernel_rfl) ?_
      refine sem_seq (by kernel_rfl) ?_
      obtain ⟨j135, hj135, h⟩ := bindS h
      refine sem_drawP ⟨[(0, (.sl (List.map cI l))), (3, (vI s87)), (31, (vB j135))], []⟩ [] [] [] [] [] 19 (by kernel_rfl) (by kernel_rfl) (by kernel_rfl) ?_ (fun τ hτ => ?_)
      · replace h := hj135
        refine evd_run 2 (by kernel_rfl) ?_
        obtain ⟨x136, hx136, h⟩ := bindS h
        refine evd_val (by kernel_rfl) (st_idx (c := cI) (l := l) (i := s87) (kd := .i64) (sz := 1) (by kernel_rfl) hx136 rfl) (by kernel_rfl) (by kernel_rfl) ?_
        refine evd_run 1 (by kernel_rfl) ?_
        obtain ⟨r137, hr137, h⟩ := bindS h
        refine evd_callS [] [] (by kernel_rfl) (by kernel_rfl) (W.sheetmetalref05_within_ok hr137) (by kernel_rfl) (.inl rfl) (by kernel_rfl) (by kernel_rfl) ?_
        refine evd_run 2 (by kernel_rfl) ?_
        refine evd_split r137 (fun b0 => ⟨[(16, (vB (!b0))), (15, (vB (!b0))), (14, (vB b0)), (13, (vI x136)), (12, (.vptr [(vI x136)] 0)), (11, (vI s87)), (10, (.sl (List.map cI l))), (0, (.sl (List.map cI l))), (3, (vI s87))], []⟩) (by kernel_rfl) (fun hb => ?_) (fun hb => ?_)
        · replace h := iteT hb h
          refine evd_run 3 (by kernel_rfl) ?_
          refine evd_split (decide (s87 > 0)) (fun b0 => ⟨[(19, (vB b0)), (18, (vB b0)), (17, (vI s87)), (16, (vB false)), (15, (vB false)), (14, (vB true)), (13, (vI x136)), (12, (.vptr [(vI x136)] 0)), (11, (vI s87)), (10, (.sl (List.map cI l))), (0, (.sl (List.map cI l))), (3, (vI s87))], []⟩) (by kernel_rfl) (fun hb => ?_) (fun hb => ?_)
          · replace h := iteT hb h
            refine evd_run 2 (by kernel_rfl) ?_
            obtain ⟨x138, hx138, h⟩ := bindS h
            refine evd_val (by kernel_rfl) (st_idx (c := cI) (l := l) (i := s87) (kd := .i64) (sz := 1) (by kernel_rfl) hx138 rfl) (by kernel_rfl) (by kernel_rfl) ?_
            refine evd_run 4 (by kernel_rfl) ?_
            obtain ⟨x139, hx139, h⟩ := bindS h
            refine evd_val (by kernel_rfl) (st_idx (c := cI) (l := l) (i := (isub s87 1)) (kd := .i64) (sz := 1) (by kernel_rfl) hx139 rfl) (by kernel_rfl) (by kernel_rfl) ?_
            refine evd_run 1 (by kernel_rfl) ?_
            refine evd_end (by kernel_rfl) ?_
            refine evo_run 3 (by kernel_rfl) ?_
            refine evo_endS (by kernel_rfl) (fun τ hτ => ?_)
            obtain rfl := Option.some.inj h
            exact leafC hτ (here (by kernel_rfl))
          · replace h := iteF hb h
            refine evd_run 9 (by kernel_rfl) ?_
            refine evd_end (by kernel_rfl) ?_
            refine evo_run 3 (by kernel_rfl) ?_
            refine evo_endS (by kernel_rfl) (fun τ hτ => ?_)
            obtain rfl := Option.some.inj h
            exact leafC hτ (here (by kernel_rfl))
        · replace h := iteF hb h
          refine evd_run 12 (by kernel_rfl) ?_
          refine evd_end (by kernel_rfl) ?_
          refine evo_run 3 (by kernel_rfl) ?_
          refine evo_endS (by kernel_rfl) (fun τ hτ => ?_)
          obtain rfl := Option.some.inj h
          exact leafC hτ (here (by kernel_rfl))
      refine th_normalS hτ ⟨[(0, (.sl (List.map cI l))), (3, (vI s87)), (31, (vB j135))], []⟩ (here (by kernel_rfl)) ?_
      refine sem_cond j135 (by kernel_rfl) (by kernel_rfl) (fun hb => ?_) (fun hb => ?_)
      · replace h := iteT hb h
        refine sem_seq (by kernel_rfl) ?_
        refine sem_region (by kernel_rfl) ?_
        refine evs_run 1 (by kernel_rfl) ?_
        refine evs_endS (by kernel_rfl) (fun τ hτ => ?_)
        refine th_normalS hτ ⟨[(2, (vB false))], []⟩ (here (by kernel_rfl)) ?_
        refine sem_retS (by kernel_rfl) (fun τ hτ => ?_)
        refine bl_ret ?_
        refine th_ret ?_
        obtain rfl := Option.some.inj h
        exact lk_outS hτ rfl (here (by kernel_rfl))
      · replace h := iteF hb h
        refine sem_skipS (by kernel_rfl) (fun τ hτ => ?_)
        refine bl_normal ?_
        refine th_normalS hτ ⟨[(0, (.sl (List.map cI l))), (3, (vI s87))], []⟩ (here (by kernel_rfl)) ?_
        refine sem_region (by kernel_rfl) ?_
        refine evs_run 3 (by kernel_rfl) ?_
        refine evs_endS (by kernel_rfl) (fun τ hτ => ?_)
        obtain rfl := Option.some.inj h
        exact lk_nextS hτ (here (by kernel_rfl))
    · replace h := iteF hb h
      refine sem_exitS 0 (by kernel_rfl) rfl (fun τ hτ => ?_)
      refine th_exit ?_
      obtain rfl := Option.some.inj h
      exact lk_outS hτ rfl (here (by kernel_rfl))
  · intro x
    rcases x with _ | _ <;> rfl
  · intro τ hτ
    rcases x140 with j141 | j142
    · refine bl_ret ?_
      refine th_ret ?_
      obtain rfl := Option.some.inj h
      exact rk_ret hτ [(2, (vB false))] (here (by kernel_rfl)) (by kernel_rfl)
    · refine bl_hit (by kernel_rfl) ?_
      refine th_normalS hτ ⟨[], []⟩ (here (by kernel_rfl)) ?_
      refine sem_seq (by kernel_rfl) ?_
      refine sem_region (by kernel_rfl) ?_
      refine evs_run 1 (by kernel_rfl) ?_
      refine evs_endS (by kernel_rfl) (fun τ hτ => ?_)
      refine th_normalS hτ ⟨[(2, (vB true))], []⟩ (here (by kernel_rfl)) ?_
      refine sem_retS (by kernel_rfl) (fun τ hτ => ?_)
      obtain rfl := Option.some.inj h
      exact rk_ret hτ [(2, (vB true))] (here (by kernel_rfl)) (by kernel_rfl)
theorem W.sheetmetalref05_Validate_ok {needs : (List (List Int))} {r : Int} (h : sheetmetalref05_Validate needs = some r) : PC G.P 38 [(.sl (List.map (cS cI) needs))] [] (vI r) [] := by
  refine pc_of G (fn := Try.f38) Try.func38 (by kernel_rfl) (by kernel_rfl) (by kernel_rfl) (by kernel_rfl) (by kernel_rfl) ?_
  refine sem_set ⟨[(0, (.sl (List.map (cS cI) needs)))], []⟩ (by kernel_rfl) ?_
  refine sem_seq (by kernel_rfl) ?_
  refine sem_region (by kernel_rfl) ?_
  refine evs_run 1 (by kernel_rfl) ?_
  refine evs_endS (by kernel_rfl) (fun τ hτ => ?_)
  refine th_normalS hτ ⟨[(0, (.sl (List.map (cS cI) needs)))], []⟩ (here (by kernel_rfl)) ?_
  refine sem_seq (by kernel_rfl) ?_
  refine sem_seq (by kernel_rfl) ?_
  refine sem_region (by kernel_rfl) ?_
  refine evs_run 1 (by kernel_rfl) ?_
  refine evs_op (st_len (c := (cS cI)) (l := needs) (x := (.sl (List.map (cS cI) needs))) (by kernel_rfl) (by kernel_rfl)) ?_
  refine evs_run 1 (by kernel_rfl) ?_
  refine evs_endS (by kernel_rfl) (fun τ hτ => ?_)
  refine th_normalS hτ ⟨[(0, (.sl (List.map (cS cI) needs))), (6, (vB (decide ((needs.length : Int) > 24))))], []⟩ (here (by kernel_rfl)) ?_
  refine sem_cond (decide ((needs.length : Int) > 24)) (by kernel_rfl) (by kernel_rfl) (fun hb => ?_) (fun hb => ?_)
  · replace h := iteT hb h
    refine sem_seq (by kernel_rfl) ?_
    refine sem_region (by kernel_rfl) ?_
    refine evs_run 1 (by kernel_rfl) ?_
    refine evs_endS (by kernel_rfl) (fun τ hτ => ?_)
    refine th_normalS hτ ⟨[(2, (vI 4))], []⟩ (here (by kernel_rfl)) ?_
    refine sem_retS (by kernel_rfl) (fun τ hτ => ?_)
    refine th_ret ?_
    obtain rfl := Option.some.inj h
    exact rk_ret hτ [(2, (vI 4))] (here (by kernel_rfl)) (by kernel_rfl)
  · replace h := iteF hb h
    refine sem_skipS (by kernel_rfl) (fun τ hτ => ?_)
    refine th_normalS hτ ⟨[(0, (.sl (List.map (cS cI) needs)))], []⟩ (here (by kernel_rfl)) ?_
    refine sem_seq (by kernel_rfl) ?_
    refine sem_seq (by kernel_rfl) ?_
    refine sem_region (by kernel_rfl) ?_
    refine evs_run 1 (by kernel_rfl) ?_
    refine evs_endS (by kernel_rfl) (fun τ hτ => ?_)
    refine th_normalS hτ ⟨[(0, (.sl (List.map (cS cI) needs))), (3, (vI 0))], []⟩ (here (by kernel_rfl)) ?_
    refine sem_block (by kernel_rfl) ?_
    obtain ⟨x92, hx92, h⟩ := bindS h
    refine sem_loopS (fun (s63 : Int) => ⟨[(0, (.sl (List.map (cS cI) needs))), (3, (vI s63))], []⟩) (fun (x92 : Unit ⊕ Unit) => match x92 with | .inl j93 => (.ret, ⟨[(2, (vI 1))], []⟩) | .inr j94 => (.exit 0, ⟨[], []⟩)) (sheetmetalref05_Validate_l1 needs) 0 x92 (by kernel_rfl) (here (by kernel_rfl)) hx92 ?_ ?_ ?_
    · intro s63 r h
      refine sem_seq (by kernel_rfl) ?_
      refine sem_seq (by kernel_rfl) ?_
      refine sem_region (by kernel_rfl) ?_
      refine evs_run 2 (by kernel_rfl) ?_
      refine evs_op (st_len (c := (cS cI)) (l := needs) (x := (.sl (List.map (cS cI) needs))) (by kernel_rfl) (by kernel_rfl)) ?_
      refine evs_run 1 (by kernel_rfl) ?_
      refine evs_endS (by kernel_rfl) (fun τ hτ => ?_)
      refine th_normalS hτ ⟨[(0, (.sl (List.map (cS cI) needs))), (3, (vI s63)), (10, (vB (decide (s63 < (needs.length : Int)))))], []⟩ (here (by kernel_rfl)) ?_
      refine sem_cond (decide (s63 < (needs.length : Int))) (by kernel_rfl) (by kernel_rfl) (fun hb => ?_) (fun hb => ?_)
      · replace h := iteT hb h
        refine sem_skipS (by kernel_rfl) (fun τ hτ => ?_)
        refine th_normalS hτ ⟨[(0, (.sl (List.map (cS cI) needs))), (3, (vI s63))], []⟩ (here (by kernel_rfl)) ?_
        refine sem_seq (by kernel_rfl) ?_
        refine sem_block (by kernel_rfl) ?_
        refine sem_seq (by kernel_rfl) ?_
        obtain ⟨j88, hj88, h⟩ := bindS h
        refine sem_regionC ⟨[(0, (.sl (List.map (cS cI) needs))), (3, (vI s63)), (26, (vB j88))], []⟩ (by kernel_rfl) ?_ (fun τ hτ => ?_)
        · replace h := hj88
          refine evs_run 2 (by kernel_rfl) ?_
          obtain ⟨x89, hx89, h⟩ := bindS h
          refine evs_op (st_idx (c := (cS cI)) (l := needs) (i := s63) (kd := .i64) (sz := 1) (by kernel_rfl) hx89 rfl) ?_
          refine evs_run 1 (by kernel_rfl) ?_
          refine evs_op (st_len (c := cI) (l := x89) (x := (.sl (List.map cI x89))) (by kernel_rfl) (by kernel_rfl)) ?_
          refine evs_run 2 (by kernel_rfl) ?_
          refine evs_split ((x89.length : Int) == 0) (fun b0 => ⟨[(0, (.sl (List.map (cS cI) needs))), (3, (vI s63)), (19, (vB b0))], []⟩) (by kernel_rfl) (fun hb => ?_) (fun hb => ?_)
          · replace h := iteT hb h
            refine evs_run 7 (by kernel_rfl) ?_
            refine evs_endS (by kernel_rfl) (fun τ hτ => ?_)
            obtain rfl := Option.some.inj h
            exact leafC hτ (here (by kernel_rfl))
          · replace h := iteF hb h
            refine evs_run 2 (by kernel_rfl) ?_
            obtain ⟨x90, hx90, h⟩ := bindS h
            refine evs_op (st_idx (c := (cS cI)) (l := needs) (i := s63) (kd := .i64) (sz := 1) (by kernel_rfl) hx90 rfl) ?_
            refine evs_run 1 (by kernel_rfl) ?_
            obtain ⟨r91, hr91, h⟩ := bindS h
            refine evs_callP [] (by kernel_rfl) (W.sheetmetalref05_isSet_ok hr91) (by kernel_rfl) (.inl rfl) (by kernel_rfl) ?_
            refine evs_run 2 (by kernel_rfl) ?_
            refine evs_endS (by kernel_rfl) (fun τ hτ => ?_)
            obtain rfl := Option.some.inj h
            exact leafC hτ (here (by kernel_rfl))
        refine th_normalS hτ ⟨[(0, (.sl (List.map (cS cI) needs))), (3, (vI s63)), (26, (vB j88))], []⟩ (here (by kernel_rfl)) ?_
        refine sem_cond j88 (by kernel_rfl) (by kernel_rfl) (fun hb => ?_) (fun hb => ?_)
        · replace h := iteT hb h
          refine sem_seq (by kernel_rfl) ?_
          refine sem_region (by kernel_rfl) ?_
          refine evs_run 1 (by kernel_rfl) ?_
          refine evs_endS (by kernel_rfl) (fun τ hτ => ?_)
          refine th_normalS hτ ⟨[(2, (vI 1))], []⟩ (here (by kernel_rfl)) ?_
          refine sem_retS (by kernel_rfl) (fun τ hτ => ?_)
          refine bl_ret ?_
          refine th_ret ?_
          obtain rfl := Option.some.inj h
          exact lk_outS hτ rfl (here (by kernel_rfl))
        · replace h := iteF hb h
          refine sem_skipS (by kernel_rfl) (fun τ hτ => ?_)
          refine bl_normal ?_
          refine th_normalS hτ ⟨[(0, (.sl (List.map (cS cI) needs))), (3, (vI s63))], []⟩ (here (by kernel_rfl)) ?_
          refine sem_region (by kernel_rfl) ?_
          refine evs_run 3 (by kernel_rfl) ?_
          refine evs_endS (by kernel_rfl) (fun τ hτ => ?_)
          obtain rfl := Option.some.inj h
          exact lk_nextS hτ (here (by kernel_rfl))
      · replace h := iteF hb h
        refine sem_exitS 0 (by kernel_rfl) rfl (fun τ hτ => ?_)
        refine th_exit ?_
        obtain rfl := Option.some.inj h
        exact lk_outS hτ rfl (here (by kernel_rfl))
    · intro x
      rcases x with _ | _ <;> rfl
    · intro τ hτ
      rcases x92 with j93 | j94
      · refine bl_ret ?_
        refine th_ret ?_
        obtain rfl := Option.some.inj h
        exact rk_ret hτ [(2, (vI 1))] (here (by kernel_rfl)) (by kernel_rfl)
      · refine bl_hit (by kernel_rfl) ?_
        refine th_normalS hτ ⟨[], []⟩ (here (by kernel_rfl)) ?_
        refine sem_seq (by kernel_rfl) ?_
        refine sem_region (by kernel_rfl) ?_
        refine evs_run 1 (by kernel_rfl) ?_
        refine evs_endS (by kernel_rfl) (fun τ hτ => ?_)
        refine th_normalS hτ ⟨[(2, (vI 0))], []⟩ (here (by kernel_rfl)) ?_
        refine sem_retS (by kernel_rfl) (fun τ hτ => ?_)
        obtain rfl := Option.some.inj h
        exact rk_ret hτ [(2, (vI 0))] (here (by kernel_rfl)) (by kernel_rfl)
theorem W.sheetmetalref05_count_ok {n : Int} {r : Int} (h : sheetmetalref05_count n = some r) : PC G.P 79 [(vI n)] [] (vI r) [] := by
  refine pc_of G (fn := Try.f79) Try.func79 (by kernel_rfl) (by kernel_rfl) (by kernel_rfl) (by kernel_rfl) (by kernel_rfl) ?_
  refine sem_set ⟨[(0, (vI n))], []⟩ (by kernel_rfl) ?_
  refine sem_seq (by kernel_rfl) ?_
  refine sem_region (by kernel_rfl) ?_
  refine evs_run 1 (by kernel_rfl) ?_
  refine evs_endS (by kernel_rfl) (fun τ hτ => ?_)
  refine th_normalS hτ ⟨[(0, (vI n))], []⟩ (here (by kernel_rfl)) ?_
  refine sem_seq (by kernel_rfl) ?_
  refine sem_region (by kernel_rfl) ?_
  refine evs_run 1 (by kernel_rfl) ?_
  refine evs_endS (by kernel_rfl) (fun τ hτ => ?_)
  refine th_normalS hτ ⟨[(0, (vI n)), (3, (vI 0))], []⟩ (here (by kernel_rfl)) ?_
  refine sem_seq (by kernel_rfl) ?_
  refine sem_block (by kernel_rfl) ?_
  obtain ⟨x6, hx6, h⟩ := bindS h
  refine sem_loopS (fun (s5 : Int × Int) => ⟨[(0, (vI s5.1)), (3, (vI s5.2))], []⟩) (fun (x6 : Int) => (.exit 0, ⟨[(3, (vI x6))], []⟩)) (sheetmetalref05_count_l1) (n, 0) x6 (by kernel_rfl) (here (by kernel_rfl)) hx6 ?_ ?_ ?_
  · intro s5 r h
    refine sem_seq (by kernel_rfl) ?_
    refine sem_seq (by kernel_rfl) ?_
    refine sem_region (by kernel_rfl) ?_
    refine evs_run 2 (by kernel_rfl) ?_
    refine evs_endS (by kernel_rfl) (fun τ hτ => ?_)
    refine th_normalS hτ ⟨[(0, (vI s5.1)), (3, (vI s5.2)), (5, (vB (decide (s5.1 > 0))))], []⟩ (here (by kernel_rfl)) ?_
    refine sem_cond (decide (s5.1 > 0)) (by kernel_rfl) (by kernel_rfl) (fun hb => ?_) (fun hb => ?_)
    · replace h := iteT hb h
      refine sem_skipS (by kernel_rfl) (fun τ hτ => ?_)
      refine th_normalS hτ ⟨[(0, (vI s5.1)), (3, (vI s5.2))], []⟩ (here (by kernel_rfl)) ?_
      refine sem_block (by kernel_rfl) ?_
      refine sem_seq (by kernel_rfl) ?_
      refine sem_region (by kernel_rfl) ?_
      refine evs_run 5 (by kernel_rfl) ?_
      refine evs_endS (by kernel_rfl) (fun τ hτ => ?_)
      refine th_normalS hτ ⟨[(0, (vI s5.1)), (3, (vI (iadd s5.2 (kand .i64 s5.1 1))))], []⟩ (here (by kernel_rfl)) ?_
      refine sem_region (by kernel_rfl) ?_
      refine evs_run 3 (by kernel_rfl) ?_
      refine evs_endS (by kernel_rfl) (fun τ hτ => ?_)
      refine bl_normal ?_
      obtain rfl := Option.some.inj h
      exact lk_nextS hτ (here (by kernel_rfl))
    · replace h := iteF hb h
      refine sem_exitS 0 (by kernel_rfl) rfl (fun τ hτ => ?_)
      refine th_exit ?_
      obtain rfl := Option.some.inj h
      exact lk_outS hτ rfl (here (by kernel_rfl))
  · intro x
    rfl
  · intro τ hτ
    refine bl_hit (by kernel_rfl) ?_
    refine th_normalS hτ ⟨[(3, (vI x6))], []⟩ (here (by kernel_rfl)) ?_
    refine sem_seq (by kernel_rfl) ?_
    refine sem_region (by kernel_rfl) ?_
    refine evs_run 2 (by kernel_rfl) ?_
    refine evs_endS (by kernel_rfl) (fun τ hτ => ?_)
    refine th_normalS hτ ⟨[(2, (vI x6))], []⟩ (here (by kernel_rfl)) ?_
    refine sem_retS (by kernel_rfl) (fun τ hτ => ?_)
    obtain rfl := Option.some.inj h
    exact rk_ret hτ [(2, (vI x6))] (here (by kernel_rfl)) (by kernel_rfl)
end Go.Proofs.Ytppmnjiibmomoaa
