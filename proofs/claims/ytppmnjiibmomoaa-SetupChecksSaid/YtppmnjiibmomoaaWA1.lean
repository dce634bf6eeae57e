/- Each Go function does what its model says; written by a program out of the translation. -/
import Derived.Test.YtppmnjiibmomoaaWA
import Derived.Test.YtppmnjiibmomoaaSeMA
set_option linter.unusedVariables false
set_option linter.unusedSimpArgs false
set_option linter.unusedSectionVars false
namespace Go.Proofs.Ytppmnjiibmomoaa
open Go Go.VI Go.SM Go.Proofs
set_option maxRecDepth 100000
set_option maxHeartbeats 4000000
theorem W.sheetmetallaw05_SetupStations_ok {needs : (List (List Int))} {a : Int} {r : Bool} (h : sheetmetallaw05_SetupStations needs a = some r) : PC G.P 3 [(.sl (List.map (cS cI) needs)), (vI a)] [] (vB r) [] := by
  refine pc_of G (fn := Try.f3) Try.func3 (by as_aux_lemma => kernel_rfl) (by as_aux_lemma => kernel_rfl) (by as_aux_lemma => kernel_rfl) (by as_aux_lemma => kernel_rfl) (by as_aux_lemma => kernel_rfl) ?_
  refine sem_set ⟨[(0, (.sl (List.map (cS cI) needs))), (1, (vI a))], []⟩ (by as_aux_lemma => kernel_rfl) ?_
  refine sem_seq (by as_aux_lemma => kernel_rfl) ?_
  refine sem_region (by as_aux_lemma => kernel_rfl) ?_
  refine evs_run 1 (by as_aux_lemma => kernel_rfl) ?_
  refine evs_endS (by as_aux_lemma => kernel_rfl) (fun τ hτ => ?_)
  refine th_normalS hτ ⟨[(0, (.sl (List.map (cS cI) needs))), (1, (vI a))], []⟩ (here (by as_aux_lemma => kernel_rfl)) ?_
  refine sem_seq (by as_aux_lemma => kernel_rfl) ?_
  refine sem_seq (by as_aux_lemma => kernel_rfl) ?_
  obtain ⟨j7, hj7, h⟩ := bindS h
  refine sem_regionC ⟨[(0, (.sl (List.map (cS cI) needs))), (1, (vI a)), (16, (vB j7))], []⟩ (by as_aux_lemma => kernel_rfl) ?_ (fun τ hτ => ?_)
  · replace h := hj7
    refine evs_run 1 (by as_aux_lemma => kernel_rfl) ?_
    obtain ⟨r8, hr8, h⟩ := bindS h
    refine evs_callS [] [] [] (by as_aux_lemma => kernel_rfl) (W.sheetmetallaw05_heavy_ok hr8) (by as_aux_lemma => kernel_rfl) (by as_aux_lemma => kernel_rfl) (.inl rfl) ?_
    refine evs_run 1 (by as_aux_lemma => kernel_rfl) ?_
    refine evs_split r8 (fun b0 => ⟨[(0, (.sl (List.map (cS cI) needs))), (1, (vI a)), (13, (vB b0))], []⟩) (by as_aux_lemma => kernel_rfl) (fun hb => ?_) (fun hb => ?_)
    · replace h := iteT hb h
      refine evs_run 3 (by as_aux_lemma => kernel_rfl) ?_
      refine evs_endS (by as_aux_lemma => kernel_rfl) (fun τ hτ => ?_)
      obtain rfl := Option.some.inj h
      exact leafC hτ (here (by as_aux_lemma => kernel_rfl))
    · replace h := iteF hb h
      refine evs_run 3 (by as_aux_lemma => kernel_rfl) ?_
      refine evs_endS (by as_aux_lemma => kernel_rfl) (fun τ hτ => ?_)
      obtain rfl := Option.some.inj h
      exact leafC hτ (here (by as_aux_lemma => kernel_rfl))
  refine th_normalS hτ ⟨[(0, (.sl (List.map (cS cI) needs))), (1, (vI a)), (16, (vB j7))], []⟩ (here (by as_aux_lemma => kernel_rfl)) ?_
  refine sem_cond j7 (by as_aux_lemma => kernel_rfl) (by as_aux_lemma => kernel_rfl) (fun hb => ?_) (fun hb => ?_)
  · replace h := iteT hb h
    refine sem_seq (by as_aux_lemma => kernel_rfl) ?_
    refine sem_region (by as_aux_lemma => kernel_rfl) ?_
    obtain ⟨r10, hr10, h⟩ := bindS h
    refine evs_callS [] [] [] (by as_aux_lemma => kernel_rfl) (W.sheetmetallaw05_known_ok hr10) (by as_aux_lemma => kernel_rfl) (by as_aux_lemma => kernel_rfl) (.inl rfl) ?_
    refine evs_run 1 (by as_aux_lemma => kernel_rfl) ?_
    refine evs_endS (by as_aux_lemma => kernel_rfl) (fun τ hτ => ?_)
    refine th_normalS hτ ⟨[(4, (vB r10))], []⟩ (here (by as_aux_lemma => kernel_rfl)) ?_
    refine sem_retS (by as_aux_lemma => kernel_rfl) (fun τ hτ => ?_)
    refine th_ret ?_
    obtain rfl := Option.some.inj h
    exact rk_ret hτ [(4, (vB r10))] (here (by as_aux_lemma => kernel_rfl)) (by as_aux_lemma => kernel_rfl)
  · replace h := iteF hb h
    refine sem_skipS (by as_aux_lemma => kernel_rfl) (fun τ hτ => ?_)
    refine th_normalS hτ ⟨[(0, (.sl (List.map (cS cI) needs))), (1, (vI a))], []⟩ (here (by as_aux_lemma => kernel_rfl)) ?_
    refine sem_seq (by as_aux_lemma => kernel_rfl) ?_
    refine sem_region (by as_aux_lemma => kernel_rfl) ?_
    refine evs_run 2 (by as_aux_lemma => kernel_rfl) ?_
    obtain ⟨r12, hr12, h⟩ := bindS h
    refine evs_callS [] [] [] (by as_aux_lemma => kernel_rfl) (W.setup_Least_ok hr12) (by as_aux_lemma => kernel_rfl) (by as_aux_lemma => kernel_rfl) (.inl rfl) ?_
    refine evs_run 5 (by as_aux_lemma => kernel_rfl) ?_
    refine evs_endS (by as_aux_lemma => kernel_rfl) (fun τ hτ => ?_)
    refine th_normalS hτ ⟨[(0, (.sl (List.map (cS cI) needs))), (1, (vI a)), (5, (vI r12.1)), (6, (vI r12.2))], []⟩ (here (by as_aux_lemma => kernel_rfl)) ?_
    refine sem_seq (by as_aux_lemma => kernel_rfl) ?_
    refine sem_seq (by as_aux_lemma => kernel_rfl) ?_
    refine sem_region (by as_aux_lemma => kernel_rfl) ?_
    refine evs_run 2 (by as_aux_lemma => kernel_rfl) ?_
    refine evs_endS (by as_aux_lemma => kernel_rfl) (fun τ hτ => ?_)
    refine th_normalS hτ ⟨[(0, (.sl (List.map (cS cI) needs))), (1, (vI a)), (5, (vI r12.1)), (25, (vB (r12.2 != 0)))], []⟩ (here (by as_aux_lemma => kernel_rfl)) ?_
    refine sem_cond (r12.2 != 0) (by as_aux_lemma => kernel_rfl) (by as_aux_lemma => kernel_rfl) (fun hb => ?_) (fun hb => ?_)
    · replace h := iteT hb h
      refine sem_seq (by as_aux_lemma => kernel_rfl) ?_
      obtain ⟨j17, hj17, h⟩ := bindS h
      refine sem_regionC ⟨[(4, (vB j17))], []⟩ (by as_aux_lemma => kernel_rfl) ?_ (fun τ hτ => ?_)
      · replace h := hj17
        refine evs_run 3 (by as_aux_lemma => kernel_rfl) ?_
        refine evs_split (r12.1 == 0) (fun b0 => ⟨[(28, (vB b0))], []⟩) (by as_aux_lemma => kernel_rfl) (fun hb => ?_) (fun hb => ?_)
        · replace h := iteT hb h
          obtain ⟨r18, hr18, h⟩ := bindS h
          refine evs_callS [] [] [] (by as_aux_lemma => kernel_rfl) (W.sheetmetallaw05_known_ok hr18) (by as_aux_lemma => kernel_rfl) (by as_aux_lemma => kernel_rfl) (.inl rfl) ?_
          refine evs_run 2 (by as_aux_lemma => kernel_rfl) ?_
          refine evs_endS (by as_aux_lemma => kernel_rfl) (fun τ hτ => ?_)
          obtain rfl := Option.some.inj h
          exact leafC hτ (here (by as_aux_lemma => kernel_rfl))
        · replace h := iteF hb h
          refine evs_run 3 (by as_aux_lemma => kernel_rfl) ?_
          refine evs_endS (by as_aux_lemma => kernel_rfl) (fun τ hτ => ?_)
          obtain rfl := Option.some.inj h
          exact leafC hτ (here (by as_aux_lemma => kernel_rfl))
      refine th_normalS hτ ⟨[(4, (vB j17))], []⟩ (here (by as_aux_lemma => kernel_rfl)) ?_
      refine sem_retS (by as_aux_lemma => kernel_rfl) (fun τ hτ => ?_)
      refine th_ret ?_
      obtain rfl := Option.some.inj h
      exact rk_ret hτ [(4, (vB j17))] (here (by as_aux_lemma => kernel_rfl)) (by as_aux_lemma => kernel_rfl)
    · replace h := iteF hb h
      refine sem_skipS (by as_aux_lemma => kernel_rfl) (fun τ hτ => ?_)
      refine th_normalS hτ ⟨[(0, (.sl (List.map (cS cI) needs))), (1, (vI a)), (5, (vI r12.1))], []⟩ (here (by as_aux_lemma => kernel_rfl)) ?_
      refine sem_seq (by as_aux_lemma => kernel_rfl) ?_
      refine sem_region (by as_aux_lemma => kernel_rfl) ?_
      refine evs_run 3 (by as_aux_lemma => kernel_rfl) ?_
      obtain ⟨r20, hr20, h⟩ := bindS h
      refine evs_callS [] [] [] (by as_aux_lemma => kernel_rfl) (W.setup_Least_ok hr20) (by as_aux_lemma => kernel_rfl) (by as_aux_lemma => kernel_rfl) (.inl rfl) ?_
      refine evs_run 5 (by as_aux_lemma => kernel_rfl) ?_
      refine evs_endS (by as_aux_lemma => kernel_rfl) (fun τ hτ => ?_)
      refine th_normalS hτ ⟨[(0, (.sl (List.map (cS cI) needs))), (1, (vI a)), (5, (vI r12.1)), (7, (vI r20.1)), (8, (vI r20.2))], []⟩ (here (by as_aux_lemma => kernel_rfl)) ?_
      refine sem_seq (by as_aux_lemma => kernel_rfl) ?_
      refine sem_seq (by as_aux_lemma => kernel_rfl) ?_
      obtain ⟨j22, hj22, h⟩ := bindS h
      refine sem_regionC ⟨[(0, (.sl (List.map (cS cI) needs))), (1, (vI a)), (5, (vI r12.1)), (44, (vB j22))], []⟩ (by as_aux_lemma => kernel_rfl) ?_ (fun τ hτ => ?_)
      · replace h := hj22
        refine evs_run 3 (by as_aux_lemma => kernel_rfl) ?_
        refine evs_split (r20.2 != 0) (fun b0 => ⟨[(0, (.sl (List.map (cS cI) needs))), (1, (vI a)), (5, (vI r12.1)), (7, (vI r20.1)), (40, (vB b0))], []⟩) (by as_aux_lemma => kernel_rfl) (fun hb => ?_) (fun hb => ?_)
        · replace h := iteT hb h
          refine evs_run 4 (by as_aux_lemma => kernel_rfl) ?_
          refine evs_endS (by as_aux_lemma => kernel_rfl) (fun τ hτ => ?_)
          obtain rfl := Option.some.inj h
          exact leafC hτ (here (by as_aux_lemma => kernel_rfl))
        · replace h := iteF hb h
          refine evs_run 4 (by as_aux_lemma => kernel_rfl) ?_
          refine evs_endS (by as_aux_lemma => kernel_rfl) (fun τ hτ => ?_)
          obtain rfl := Option.some.inj h
          exact leafC hτ (here (by as_aux_lemma => kernel_rfl))
      refine th_normalS hτ ⟨[(0, (.sl (List.map (cS cI) needs))), (1, (vI a)), (5, (vI r12.1)), (44, (vB j22))], []⟩ (here (by as_aux_lemma => kernel_rfl)) ?_
      refine sem_cond j22 (by as_aux_lemma => kernel_rfl) (by as_aux_lemma => kernel_rfl) (fun hb => ?_) (fun hb => ?_)
      · replace h := iteT hb h
        refine sem_seq (by as_aux_lemma => kernel_rfl) ?_
        refine sem_region (by as_aux_lemma => kernel_rfl) ?_
        refine evs_run 1 (by as_aux_lemma => kernel_rfl) ?_
        refine evs_endS (by as_aux_lemma => kernel_rfl) (fun τ hτ => ?_)
        refine th_normalS hτ ⟨[(4, (vB false))], []⟩ (here (by as_aux_lemma => kernel_rfl)) ?_
        refine sem_retS (by as_aux_lemma => kernel_rfl) (fun τ hτ => ?_)
        refine th_ret ?_
        obtain rfl := Option.some.inj h
        exact rk_ret hτ [(4, (vB false))] (here (by as_aux_lemma => kernel_rfl)) (by as_aux_lemma => kernel_rfl)
      · replace h := iteF hb h
        refine sem_skipS (by as_aux_lemma => kernel_rfl) (fun τ hτ => ?_)
        refine th_normalS hτ ⟨[(0, (.sl (List.map (cS cI) needs))), (1, (vI a)), (5, (vI r12.1))], []⟩ (here (by as_aux_lemma => kernel_rfl)) ?_
        refine sem_seq (by as_aux_lemma => kernel_rfl) ?_
        refine sem_seq (by as_aux_lemma => kernel_rfl) ?_
        refine sem_region (by as_aux_lemma => kernel_rfl) ?_
        refine evs_run 1 (by as_aux_lemma => kernel_rfl) ?_
        refine evs_op (st_len (c := (cS cI)) (l := needs) (x := (.sl (List.map (cS cI) needs))) (by as_aux_lemma => kernel_rfl) (by as_aux_lemma => kernel_rfl)) ?_
        refine evs_run 1 (by as_aux_lemma => kernel_rfl) ?_
        refine evs_endS (by as_aux_lemma => kernel_rfl) (fun τ hτ => ?_)
        refine th_normalS hτ ⟨[(0, (.sl (List.map (cS cI) needs))), (1, (vI a)), (5, (vI r12.1)), (47, (vB ((needs.length : Int) == 0)))], []⟩ (here (by as_aux_lemma => kernel_rfl)) ?_
        refine sem_cond ((needs.length : Int) == 0) (by as_aux_lemma => kernel_rfl) (by as_aux_lemma => kernel_rfl) (fun hb => ?_) (fun hb => ?_)
        · replace h := iteT hb h
          refine sem_seq (by as_aux_lemma => kernel_rfl) ?_
          obtain ⟨j27, hj27, h⟩ := bindS h
          refine sem_regionC ⟨[(4, (vB j27))], []⟩ (by as_aux_lemma => kernel_rfl) ?_ (fun τ hτ => ?_)
          · replace h := hj27
            refine evs_run 3 (by as_aux_lemma => kernel_rfl) ?_
            refine evs_split (r12.1 == 0) (fun b0 => ⟨[(50, (vB b0))], []⟩) (by as_aux_lemma => kernel_rfl) (fun hb => ?_) (fun hb => ?_)
            · replace h := iteT hb h
              obtain ⟨r28, hr28, h⟩ := bindS h
              refine evs_callS [] [] [] (by as_aux_lemma => kernel_rfl) (W.sheetmetallaw05_known_ok hr28) (by as_aux_lemma => kernel_rfl) (by as_aux_lemma => kernel_rfl) (.inl rfl) ?_
              refine evs_run 2 (by as_aux_lemma => kernel_rfl) ?_
              refine evs_endS (by as_aux_lemma => kernel_rfl) (fun τ hτ => ?_)
              obtain rfl := Option.some.inj h
              exact leafC hτ (here (by as_aux_lemma => kernel_rfl))
            · replace h := iteF hb h
              refine evs_run 3 (by as_aux_lemma => kernel_rfl) ?_
              refine evs_endS (by as_aux_lemma => kernel_rfl) (fun τ hτ => ?_)
              obtain rfl := Option.some.inj h
              exact leafC hτ (here (by as_aux_lemma => kernel_rfl))
          refine th_normalS hτ ⟨[(4, (vB j27))], []⟩ (here (by as_aux_lemma => kernel_rfl)) ?_
          refine sem_retS (by as_aux_lemma => kernel_rfl) (fun τ hτ => ?_)
          refine th_ret ?_
          obtain rfl := Option.some.inj h
          exact rk_ret hτ [(4, (vB j27))] (here (by as_aux_lemma => kernel_rfl)) (by as_aux_lemma => kernel_rfl)
        · replace h := iteF hb h
          refine sem_skipS (by as_aux_lemma => kernel_rfl) (fun τ hτ => ?_)
          refine th_normalS hτ ⟨[(0, (.sl (List.map (cS cI) needs))), (1, (vI a)), (5, (vI r12.1))], []⟩ (here (by as_aux_lemma => kernel_rfl)) ?_
          refine sem_seq (by as_aux_lemma => kernel_rfl) ?_
          refine sem_region (by as_aux_lemma => kernel_rfl) ?_
          refine evs_run 2 (by as_aux_lemma => kernel_rfl) ?_
          refine evs_op (st_len (c := (cS cI)) (l := needs) (x := (.sl (List.map (cS cI) needs))) (by as_aux_lemma => kernel_rfl) (by as_aux_lemma => kernel_rfl)) ?_
          refine evs_run 1 (by as_aux_lemma => kernel_rfl) ?_
          obtain ⟨l31, hl31, h⟩ := bindS h
          refine evs_op (st_slH (c := (cS cI)) (l := needs) (sz := 1) (hi := (isub (needs.length : Int) 1)) (k2 := .i64) (by as_aux_lemma => kernel_rfl) hl31) ?_
          refine evs_run 1 (by as_aux_lemma => kernel_rfl) ?_
          obtain ⟨r32, hr32, h⟩ := bindS h
          refine evs_callS [] [] [] (by as_aux_lemma => kernel_rfl) (W.setup_Least_ok hr32) (by as_aux_lemma => kernel_rfl) (by as_aux_lemma => kernel_rfl) (.inl rfl) ?_
          refine evs_run 5 (by as_aux_lemma => kernel_rfl) ?_
          refine evs_endS (by as_aux_lemma => kernel_rfl) (fun τ hτ => ?_)
          refine th_normalS hτ ⟨[(5, (vI r12.1)), (9, (vI r32.1)), (10, (vI r32.2))], []⟩ (here (by as_aux_lemma => kernel_rfl)) ?_
          refine sem_seq (by as_aux_lemma => kernel_rfl) ?_
          obtain ⟨j34, hj34, h⟩ := bindS h
          refine sem_regionC ⟨[(4, (vB j34))], []⟩ (by as_aux_lemma => kernel_rfl) ?_ (fun τ hτ => ?_)
          · replace h := hj34
            refine evs_run 3 (by as_aux_lemma => kernel_rfl) ?_
            refine evs_split (r32.2 == 0) (fun b0 => ⟨[(5, (vI r12.1)), (9, (vI r32.1)), (65, (vB b0))], []⟩) (by as_aux_lemma => kernel_rfl) (fun hb => ?_) (fun hb => ?_)
            · replace h := iteT hb h
              refine evs_run 5 (by as_aux_lemma => kernel_rfl) ?_
              refine evs_split (decide (r32.1 ≤ r12.1)) (fun b0 => ⟨[(5, (vI r12.1)), (9, (vI r32.1)), (70, (vB b0))], []⟩) (by as_aux_lemma => kernel_rfl) (fun hb => ?_) (fun hb => ?_)
              · replace h := iteT hb h
                refine evs_run 6 (by as_aux_lemma => kernel_rfl) ?_
                refine evs_split (decide (r12.1 ≤ (iadd r32.1 1))) (fun b0 => ⟨[(76, (vB b0))], []⟩) (by as_aux_lemma => kernel_rfl) (fun hb => ?_) (fun hb => ?_)
                · replace h := iteT hb h
                  obtain ⟨r35, hr35, h⟩ := bindS h
                  refine evs_callS [] [] [] (by as_aux_lemma => kernel_rfl) (W.sheetmetallaw05_known_ok hr35) (by as_aux_lemma => kernel_rfl) (by as_aux_lemma => kernel_rfl) (.inl rfl) ?_
                  refine evs_run 2 (by as_aux_lemma => kernel_rfl) ?_
                  refine evs_endS (by as_aux_lemma => kernel_rfl) (fun τ hτ => ?_)
                  obtain rfl := Option.some.inj h
                  exact leafC hτ (here (by as_aux_lemma => kernel_rfl))
                · replace h := iteF hb h
                  refine evs_run 3 (by as_aux_lemma => kernel_rfl) ?_
                  refine evs_endS (by as_aux_lemma => kernel_rfl) (fun τ hτ => ?_)
                  obtain rfl := Option.some.inj h
                  exact leafC hτ (here (by as_aux_lemma => kernel_rfl))
              · replace h := iteF hb h
                refine evs_run 9 (by as_aux_lemma => kernel_rfl) ?_
                refine evs_endS (by as_aux_lemma => kernel_rfl) (fun τ hτ => ?_)
                obtain rfl := Option.some.inj h
                exact leafC hτ (here (by as_aux_lemma => kernel_rfl))
            · replace h := iteF hb h
              refine evs_run 14 (by as_aux_lemma => kernel_rfl) ?_
              refine evs_endS (by as_aux_lemma => kernel_rfl) (fun τ hτ => ?_)
              obtain rfl := Option.some.inj h
              exact leafC hτ (here (by as_aux_lemma => kernel_rfl))
          refine th_normalS hτ ⟨[(4, (vB j34))], []⟩ (here (by as_aux_lemma => kernel_rfl)) ?_
          refine sem_retS (by as_aux_lemma => kernel_rfl) (fun τ hτ => ?_)
          obtain rfl := Option.some.inj h
          exact rk_ret hτ [(4, (vB j34))] (here (by as_aux_lemma => kernel_rfl)) (by as_aux_lemma => kernel_rfl)
theorem W.setup_validWindow_ok {needs : (List (List Int))} {w : Window} {r : Bool} (h : setup_validWindow needs w = some r) : PC G.P 45 [(.sl (List.map (cS cI) needs)), (.agg [(vI w.From), (vI w.To)])] [] (vB r) [] := by
  refine pc_of G (fn := Try.f45) Try.func45 (by as_aux_lemma => kernel_rfl) (by as_aux_lemma => kernel_rfl) (by as_aux_lemma => kernel_rfl) (by as_aux_lemma => kernel_rfl) (by as_aux_lemma => kernel_rfl) ?_
  refine sem_set ⟨[(0, (.sl (List.map (cS cI) needs))), (1, (.agg [(vI w.From), (vI w.To)]))], []⟩ (by as_aux_lemma => kernel_rfl) ?_
  refine sem_seq (by as_aux_lemma => kernel_rfl) ?_
  refine sem_region (by as_aux_lemma => kernel_rfl) ?_
  refine evs_run 2 (by as_aux_lemma => kernel_rfl) ?_
  refine evs_endS (by as_aux_lemma => kernel_rfl) (fun τ hτ => ?_)
  refine th_normalS hτ ⟨[(0, (.sl (List.map (cS cI) needs))), (3, (.ptr 3 0))], [(3, .box [(vI w.From), (vI w.To)])]⟩ (here (by as_aux_lemma => kernel_rfl)) ?_
  refine sem_seq (by as_aux_lemma => kernel_rfl) ?_
  obtain ⟨j1, hj1, h⟩ := bindS h
  refine sem_regionC ⟨[(4, (vB j1))], []⟩ (by as_aux_lemma => kernel_rfl) ?_ (fun τ hτ => ?_)
  · replace h := hj1
    refine evs_run 4 (by as_aux_lemma => kernel_rfl) ?_
    refine evs_split (decide (w.From ≥ 0)) (fun b0 => ⟨[(0, (.sl (List.map (cS cI) needs))), (3, (.ptr 3 0)), (8, (vB b0))], [(3, .box [(vI w.From), (vI w.To)])]⟩) (by as_aux_lemma => kernel_rfl) (fun hb => ?_) (fun hb => ?_)
    · replace h := iteT hb h
      refine evs_run 7 (by as_aux_lemma => kernel_rfl) ?_
      refine evs_split (decide (w.From ≤ w.To)) (fun b0 => ⟨[(0, (.sl (List.map (cS cI) needs))), (3, (.ptr 3 0)), (15, (vB b0))], [(3, .box [(vI w.From), (vI w.To)])]⟩) (by as_aux_lemma => kernel_rfl) (fun hb => ?_) (fun hb => ?_)
      · replace h := iteT hb h
        refine evs_run 3 (by as_aux_lemma => kernel_rfl) ?_
        refine evs_op (st_len (c := (cS cI)) (l := needs) (x := (.sl (List.map (cS cI) needs))) (by as_aux_lemma => kernel_rfl) (by as_aux_lemma => kernel_rfl)) ?_
        refine evs_run 3 (by as_aux_lemma => kernel_rfl) ?_
        refine evs_endS (by as_aux_lemma => kernel_rfl) (fun τ hτ => ?_)
        obtain rfl := Option.some.inj h
        exact leafC hτ (here (by as_aux_lemma => kernel_rfl))
      · replace h := iteF hb h
        refine evs_run 7 (by as_aux_lemma => kernel_rfl) ?_
        refine evs_endS (by as_aux_lemma => kernel_rfl) (fun τ hτ => ?_)
        obtain rfl := Option.some.inj h
        exact leafC hτ (here (by as_aux_lemma => kernel_rfl))
    · replace h := iteF hb h
      refine evs_run 14 (by as_aux_lemma => kernel_rfl) ?_
      refine evs_endS (by as_aux_lemma => kernel_rfl) (fun τ hτ => ?_)
      obtain rfl := Option.some.inj h
      exact leafC hτ (here (by as_aux_lemma => kernel_rfl))
  refine th_normalS hτ ⟨[(4, (vB j1))], []⟩ (here (by as_aux_lemma => kernel_rfl)) ?_
  refine sem_retS (by as_aux_lemma => kernel_rfl) (fun τ hτ => ?_)
  obtain rfl := Option.some.inj h
  exact rk_ret hτ [(4, (vB j1))] (here (by as_aux_lemma => kernel_rfl)) (by as_aux_lemma => kernel_rfl)
theorem W.setup_blocked_ok {needs : (List (List Int))} {stations : Int} {w : Window} {r : Bool} (h : setup_blocked needs stations w = some r) : PC G.P 46 [(.sl (List.map (cS cI) needs)), (vI stations), (.agg [(vI w.From), (vI w.To)])] [] (vB r) [] := by
  refine pc_of G (fn := Try.f46) Try.func46 (by as_aux_lemma => kernel_rfl) (by as_aux_lemma => kernel_rfl) (by as_aux_lemma => kernel_rfl) (by as_aux_lemma => kernel_rfl) (by as_aux_lemma => kernel_rfl) ?_
  refine sem_set ⟨[(0, (.sl (List.map (cS cI) needs))), (1, (vI stations)), (2, (.agg [(vI w.From), (vI w.To)]))], []⟩ (by as_aux_lemma => kernel_rfl) ?_
  refine sem_seq (by as_aux_lemma => kernel_rfl) ?_
  refine sem_region (by as_aux_lemma => kernel_rfl) ?_
  refine evs_run 2 (by as_aux_lemma => kernel_rfl) ?_
  refine evs_endS (by as_aux_lemma => kernel_rfl) (fun τ hτ => ?_)
  refine th_normalS hτ ⟨[(0, (.sl (List.map (cS cI) needs))), (1, (vI stations)), (5, (.ptr 5 0))], [(5, .box [(vI w.From), (vI w.To)])]⟩ (here (by as_aux_lemma => kernel_rfl)) ?_
  refine sem_scope (by as_aux_lemma => kernel_rfl) ?_
  refine sem_seq (by as_aux_lemma => kernel_rfl) ?_
  refine sem_labelS (by as_aux_lemma => kernel_rfl) (fun τ hτ => ?_)
  refine th_normalS hτ ⟨[(0, (.sl (List.map (cS cI) needs))), (1, (vI stations)), (5, (.ptr 5 0))], [(5, .box [(vI w.From), (vI w.To)])]⟩ (here (by as_aux_lemma => kernel_rfl)) ?_
  refine sem_seq (by as_aux_lemma => kernel_rfl) ?_
  refine sem_seq (by as_aux_lemma => kernel_rfl) ?_
  refine sem_region (by as_aux_lemma => kernel_rfl) ?_
  refine evs_run 1 (by as_aux_lemma => kernel_rfl) ?_
  obtain ⟨r393, hr393, h⟩ := bindS h
  refine evs_callS [] [(0, 700050)] [] (by as_aux_lemma => kernel_rfl) (W.setup_mounts_ok hr393) (by as_aux_lemma => kernel_rfl) (by as_aux_lemma => kernel_rfl) (.inl rfl) ?_
  refine evs_op (st_len (c := cI) (l := r393) (x := (.row (.top 700050) 3)) (by as_aux_lemma => kernel_rfl) (by as_aux_lemma => kernel_rfl)) ?_
  refine evs_run 1 (by as_aux_lemma => kernel_rfl) ?_
  refine evs_endS (by as_aux_lemma => kernel_rfl) (fun τ hτ => ?_)
  refine th_normalS hτ ⟨[(0, (.sl (List.map (cS cI) needs))), (5, (.ptr 5 0)), (12, (.row (.top 700050) 3)), (13, (vI (r393.length : Int))), (14, (vI 0))], [(5, .box [(vI w.From), (vI w.To)]), (700050, .row 3 [] (List.map cI r393))]⟩ (here (by as_aux_lemma => kernel_rfl)) ?_
  refine sem_block (by as_aux_lemma => kernel_rfl) ?_
  obtain ⟨x780, hx780, h⟩ := bindS h
  refine sem_loopS (fun (s523 : Int) => ⟨[(0, (.sl (List.map (cS cI) needs))), (5, (.ptr 500000 0)), (12, (.row (.top 500001) 3)), (13, (vI (r393.length : Int))), (14, (vI s523))], [(500000, .box [(vI w.From), (vI w.To)]), (500001, .row 3 [] (List.map cI r393))]⟩) (fun (x780 : Unit ⊕ Unit) => match x780 with | .inl j781 => (.ret, ⟨[(6, (vB false))], []⟩) | .inr j782 => (.exit 0, ⟨[], []⟩)) (setup_blocked_l2 needs w r393) 0 x780 (by as_aux_lemma => kernel_rfl) (subR_prep [] [(5, 500000), (700050, 500001)] (by as_aux_lemma => kernel_rfl) rfl rfl (by as_aux_lemma => kernel_rfl)) hx780 ?_ ?_ ?_
  · intro s523 r h
    refine sem_seq (by as_aux_lemma => kernel_rfl) ?_
    refine sem_region (by as_aux_lemma => kernel_rfl) ?_
    refine evs_run 1 (by as_aux_lemma => kernel_rfl) ?_
    refine evs_endS (by as_aux_lemma => kernel_rfl) (fun τ hτ => ?_)
    refine th_normalS hτ ⟨[(0, (.sl (List.map (cS cI) needs))), (5, (.ptr 500000 0)), (12, (.row (.top 500001) 3)), (13, (vI (r393.length : Int))), (14, (vI s523)), (15, (vB (decide (s523 < (r393.length : Int)))))], [(500000, .box [(vI w.From), (vI w.To)]), (500001, .row 3 [] (List.map cI r393))]⟩ (here (by as_aux_lemma => kernel_rfl)) ?_
    refine sem_seq (by as_aux_lemma => kernel_rfl) ?_
    refine sem_cond (decide (s523 < (r393.length : Int))) (by as_aux_lemma => kernel_rfl) (by as_aux_lemma => kernel_rfl) (fun hb => ?_) (fun hb => ?_)
    · replace h := iteT hb h
      refine sem_skipS (by as_aux_lemma => kernel_rfl) (fun τ hτ => ?_)
      refine th_normalS hτ ⟨[(0, (.sl (List.map (cS cI) needs))), (5, (.ptr 500000 0)), (12, (.row (.top 500001) 3)), (13, (vI (r393.length : Int))), (14, (vI s523))], [(500000, .box [(vI w.From), (vI w.To)]), (500001, .row 3 [] (List.map cI r393))]⟩ (here (by as_aux_lemma => kernel_rfl)) ?_
      refine sem_seq (by as_aux_lemma => kernel_rfl) ?_
      refine sem_block (by as_aux_lemma => kernel_rfl) ?_
      refine sem_seq (by as_aux_lemma => kernel_rfl) ?_
      refine sem_region (by as_aux_lemma => kernel_rfl) ?_
      obtain ⟨x717, hx717, h⟩ := bindS h
      refine evs_op (st_idxO (c := cI) (l := r393) (i := s523) (kd := .i64) (kk := (.top 500001)) (e := 3) (sz := 1) (by as_aux_lemma => kernel_rfl) (by as_aux_lemma => kernel_rfl) hx717 rfl) ?_
      refine evs_op (st_ldO (c := cI) (l := r393) (i := (Int.toNat s523)) (v := (vI x717)) (agg := false) (sz := 1) (kk := (.top 500001)) (e := 3) (off := 0) (J := []) (by as_aux_lemma => kernel_rfl) (by as_aux_lemma => kernel_rfl) (by as_aux_lemma => kernel_rfl) ((idxS hx717).2) (by as_aux_lemma => kernel_rfl)) ?_
      refine evs_run 1 (by as_aux_lemma => kernel_rfl) ?_
      refine evs_endS (by as_aux_lemma => kernel_rfl) (fun τ hτ => ?_)
      refine th_normalS hτ ⟨[(0, (.sl (List.map (cS cI) needs))), (5, (.ptr 500000 0)), (8, (vI x717)), (12, (.row (.top 500001) 3)), (13, (vI (r393.length : Int))), (14, (vI s523))], [(500000, .box [(vI w.From), (vI w.To)]), (500001, .row 3 [] (List.map cI r393))]⟩ (here (by as_aux_lemma => kernel_rfl)) ?_
      refine sem_seq (by as_aux_lemma => kernel_rfl) ?_
      refine sem_seq (by as_aux_lemma => kernel_rfl) ?_
      refine sem_region (by as_aux_lemma => kernel_rfl) ?_
      refine evs_run 6 (by as_aux_lemma => kernel_rfl) ?_
      obtain ⟨l750, hl750, h⟩ := bindS h
      refine evs_op (st_sl (c := (cS cI)) (l := needs) (sz := 1) (lo := w.From) (k1 := .i64) (hi := (iadd w.To 1)) (k2 := .i64) (by as_aux_lemma => kernel_rfl) (fun _ => rfl) hl750) ?_
      refine evs_op (st_len (c := (cS cI)) (l := l750) (x := (.sl (List.map (cS cI) l750))) (by as_aux_lemma => kernel_rfl) (by as_aux_lemma => kernel_rfl)) ?_
      refine evs_run 1 (by as_aux_lemma => kernel_rfl) ?_
      refine evs_endS (by as_aux_lemma => kernel_rfl) (fun τ hτ => ?_)
      refine th_normalS hτ ⟨[(0, (.sl (List.map (cS cI) needs))), (5, (.ptr 500000 0)), (8, (vI x717)), (12, (.row (.top 500001) 3)), (13, (vI (r393.length : Int))), (14, (vI s523)), (24, (.sl (List.map (cS cI) l750))), (25, (vI (l750.length : Int))), (26, (vI 0))], [(500000, .box [(vI w.From), (vI w.To)]), (500001, .row 3 [] (List.map cI r393))]⟩ (here (by as_aux_lemma => kernel_rfl)) ?_
      refine sem_block (by as_aux_lemma => kernel_rfl) ?_
      obtain ⟨x777, hx777, h⟩ := bindS h
      refine sem_loopS (fun (s760 : Int) => ⟨[(0, (.sl (List.map (cS cI) needs))), (5, (.ptr 500000 0)), (8, (vI x717)), (12, (.row (.top 500001) 3)), (13, (vI (r393.length : Int))), (14, (vI s523)), (24, (.sl (List.map (cS cI) l750))), (25, (vI (l750.length : Int))), (26, (vI s760))], [(500000, .box [(vI w.From), (vI w.To)]), (500001, .row 3 [] (List.map cI r393))]⟩) (fun (x777 : Unit ⊕ Unit) => match x777 with | .inl j778 => (.exit 1, ⟨[(0, (.sl (List.map (cS cI) needs))), (5, (.ptr 500000 0)), (12, (.row (.top 500001) 3)), (13, (vI (r393.length : Int))), (14, (vI s523))], [(500000, .box [(vI w.From), (vI w.To)]), (500001, .row 3 [] (List.map cI r393))]⟩) | .inr j779 => (.exit 2, ⟨[], []⟩)) (setup_blocked_l1 x717 l750) 0 x777 (by as_aux_lemma => kernel_rfl) (here (by as_aux_lemma => kernel_rfl)) hx777 ?_ ?_ ?_
      · intro s760 r h
        refine sem_seq (by as_aux_lemma => kernel_rfl) ?_
        refine sem_region (by as_aux_lemma => kernel_rfl) ?_
        refine evs_run 1 (by as_aux_lemma => kernel_rfl) ?_
        refine evs_endS (by as_aux_lemma => kernel_rfl) (fun τ hτ => ?_)
        refine th_normalS hτ ⟨[(0, (.sl (List.map (cS cI) needs))), (5, (.ptr 500000 0)), (8, (vI x717)), (12, (.row (.top 500001) 3)), (13, (vI (r393.length : Int))), (14, (vI s523)), (24, (.sl (List.map (cS cI) l750))), (25, (vI (l750.length : Int))), (26, (vI s760)), (27, (vB (decide (s760 < (l750.length : Int)))))], [(500000, .box [(vI w.From), (vI w.To)]), (500001, .row 3 [] (List.map cI r393))]⟩ (here (by as_aux_lemma => kernel_rfl)) ?_
        refine sem_seq (by as_aux_lemma => kernel_rfl) ?_
        refine sem_cond (decide (s760 < (l750.length : Int))) (by as_aux_lemma => kernel_rfl) (by as_aux_lemma => kernel_rfl) (fun hb => ?_) (fun hb => ?_)
        · replace h := iteT hb h
          refine sem_skipS (by as_aux_lemma => kernel_rfl) (fun τ hτ => ?_)
          refine th_normalS hτ ⟨[(0, (.sl (List.map (cS cI) needs))), (5, (.ptr 500000 0)), (8, (vI x717)), (12, (.row (.top 500001) 3)), (13, (vI (r393.length : Int))), (14, (vI s523)), (24, (.sl (List.map (cS cI) l750))), (25, (vI (l750.length : Int))), (26, (vI s760))], [(500000, .box [(vI w.From), (vI w.To)]), (500001, .row 3 [] (List.map cI r393))]⟩ (here (by as_aux_lemma => kernel_rfl)) ?_
          refine sem_seq (by as_aux_lemma => kernel_rfl) ?_
          refine sem_block (by as_aux_lemma => kernel_rfl) ?_
          refine sem_seq (by as_aux_lemma => kernel_rfl) ?_
          refine sem_region (by as_aux_lemma => kernel_rfl) ?_
          obtain ⟨x774, hx774, h⟩ := bindS h
          refine evs_op (st_idx (c := (cS cI)) (l := l750) (i := s760) (kd := .i64) (sz := 1) (by as_aux_lemma => kernel_rfl) hx774 rfl) ?_
          refine evs_run 2 (by as_aux_lemma => kernel_rfl) ?_
          refine evs_endS (by as_aux_lemma => kernel_rfl) (fun τ hτ => ?_)
          refine th_normalS hτ ⟨[(0, (.sl (List.map (cS cI) needs))), (5, (.ptr 500000 0)), (8, (vI x717)), (10, (.sl (List.map cI x774))), (12, (.row (.top 500001) 3)), (13, (vI (r393.length : Int))), (14, (vI s523)), (24, (.sl (List.map (cS cI) l750))), (25, (vI (l750.length : Int))), (26, (vI s760))], [(500000, .box [(vI w.From), (vI w.To)]), (500001, .row 3 [] (List.map cI r393))]⟩ (here (by as_aux_lemma => kernel_rfl)) ?_
          refine sem_seq (by as_aux_lemma => kernel_rfl) ?_
          refine sem_region (by as_aux_lemma => kernel_rfl) ?_
          refine evs_run 2 (by as_aux_lemma => kernel_rfl) ?_
          obtain ⟨r776, hr776, h⟩ := bindS h
          refine evs_callS [] [] [] (by as_aux_lemma => kernel_rfl) (W.setup_bitsOf_ok hr776) (by as_aux_lemma => kernel_rfl) (by as_aux_lemma => kernel_rfl) (.inl rfl) ?_
          refine evs_run 2 (by as_aux_lemma => kernel_rfl) ?_
          refine evs_endS (by as_aux_lemma => kernel_rfl) (fun τ hτ => ?_)
          refine th_normalS hτ ⟨[(0, (.sl (List.map (cS cI) needs))), (5, (.ptr 500000 0)), (8, (vI x717)), (12, (.row (.top 500001) 3)), (13, (vI (r393.length : Int))), (14, (vI s523)), (24, (.sl (List.map (cS cI) l750))), (25, (vI (l750.length : Int))), (26, (vI s760)), (34, (vB ((kand .i64 x717 r776) == 0)))], [(500000, .box [(vI w.From), (vI w.To)]), (500001, .row 3 [] (List.map cI r393))]⟩ (here (by as_aux_lemma => kernel_rfl)) ?_
          refine sem_cond ((kand .i64 x717 r776) == 0) (by as_aux_lemma => kernel_rfl) (by as_aux_lemma => kernel_rfl) (fun hb => ?_) (fun hb => ?_)
          · replace h := iteT hb h
            refine sem_exitS 1 (by as_aux_lemma => kernel_rfl) rfl (fun τ hτ => ?_)
            refine bl_miss (by as_aux_lemma => kernel_rfl) ?_
            refine th_exit ?_
            obtain rfl := Option.some.inj h
            exact lk_outS hτ rfl (here (by as_aux_lemma => kernel_rfl))
          · replace h := iteF hb h
            refine sem_skipS (by as_aux_lemma => kernel_rfl) (fun τ hτ => ?_)
            refine bl_normal ?_
            refine th_normalS hτ ⟨[(0, (.sl (List.map (cS cI) needs))), (5, (.ptr 500000 0)), (8, (vI x717)), (12, (.row (.top 500001) 3)), (13, (vI (r393.length : Int))), (14, (vI s523)), (24, (.sl (List.map (cS cI) l750))), (25, (vI (l750.length : Int))), (26, (vI s760))], [(500000, .box [(vI w.From), (vI w.To)]), (500001, .row 3 [] (List.map cI r393))]⟩ (here (by as_aux_lemma => kernel_rfl)) ?_
            refine sem_region (by as_aux_lemma => kernel_rfl) ?_
            refine evs_run 2 (by as_aux_lemma => kernel_rfl) ?_
            refine evs_endS (by as_aux_lemma => kernel_rfl) (fun τ hτ => ?_)
            obtain rfl := Option.some.inj h
            exact lk_nextS hτ (here (by as_aux_lemma => kernel_rfl))
        · replace h := iteF hb h
          refine sem_exitS 2 (by as_aux_lemma => kernel_rfl) rfl (fun τ hτ => ?_)
          refine th_exit ?_
          obtain rfl := Option.some.inj h
          exact lk_outS hτ rfl (here (by as_aux_lemma => kernel_rfl))
      · intro x
        rcases x with _ | _ <;> rfl
      · intro τ hτ
        rcases x777 with j778 | j779
        · refine bl_miss (by as_aux_lemma => kernel_rfl) ?_
          refine th_exit ?_
          refine bl_hit (by as_aux_lemma => kernel_rfl) ?_
          refine th_normalS hτ ⟨[(0, (.sl (List.map (cS cI) needs))), (5, (.ptr 500000 0)), (12, (.row (.top 500001) 3)), (13, (vI (r393.length : Int))), (14, (vI s523))], [(500000, .box [(vI w.From), (vI w.To)]), (500001, .row 3 [] (List.map cI r393))]⟩ (here (by as_aux_lemma => kernel_rfl)) ?_
          refine sem_region (by as_aux_lemma => kernel_rfl) ?_
          refine evs_run 2 (by as_aux_lemma => kernel_rfl) ?_
          refine evs_endS (by as_aux_lemma => kernel_rfl) (fun τ hτ => ?_)
          obtain rfl := Option.some.inj h
          exact lk_nextS hτ (here (by as_aux_lemma => kernel_rfl))
        · refine bl_hit (by as_aux_lemma => kernel_rfl) ?_
          refine th_normalS hτ ⟨[], []⟩ (here (by as_aux_lemma => kernel_rfl)) ?_
          refine sem_seq (by as_aux_lemma => kernel_rfl) ?_
          refine sem_region (by as_aux_lemma => kernel_rfl) ?_
          refine evs_run 1 (by as_aux_lemma => kernel_rfl) ?_
          refine evs_endS (by as_aux_lemma => kernel_rfl) (fun τ hτ => ?_)
          refine th_normalS hτ ⟨[(6, (vB false))], []⟩ (here (by as_aux_lemma => kernel_rfl)) ?_
          refine sem_retS (by as_aux_lemma => kernel_rfl) (fun τ hτ => ?_)
          refine bl_ret ?_
          refine th_ret ?_
          obtain rfl := Option.some.inj h
          exact lk_outS hτ rfl (here (by as_aux_lemma => kernel_rfl))
    · replace h := iteF hb h
      refine sem_exitS 0 (by as_aux_lemma => kernel_rfl) rfl (fun τ hτ => ?_)
      refine th_exit ?_
      obtain rfl := Option.some.inj h
      exact lk_outS hτ rfl (here (by as_aux_lemma => kernel_rfl))
  · intro x
    rcases x with _ | _ <;> rfl
  · intro τ hτ
    rcases x780 with j781 | j782
    · refine bl_ret ?_
      refine th_ret ?_
      obtain rfl := Option.some.inj h
      exact rk_ret hτ [(6, (vB false))] (here (by as_aux_lemma => kernel_rfl)) (by as_aux_lemma => kernel_rfl)
    · refine bl_hit (by as_aux_lemma => kernel_rfl) ?_
      refine th_normalS hτ ⟨[], []⟩ (here (by as_aux_lemma => kernel_rfl)) ?_
      refine sem_seq (by as_aux_lemma => kernel_rfl) ?_
      refine sem_region (by as_aux_lemma => kernel_rfl) ?_
      refine evs_run 1 (by as_aux_lemma => kernel_rfl) ?_
      refine evs_endS (by as_aux_lemma => kernel_rfl) (fun τ hτ => ?_)
      refine th_normalS hτ ⟨[(6, (vB true))], []⟩ (here (by as_aux_lemma => kernel_rfl)) ?_
      refine sem_retS (by as_aux_lemma => kernel_rfl) (fun τ hτ => ?_)
      obtain rfl := Option.some.inj h
      exact rk_ret hτ [(6, (vB true))] (here (by as_aux_lemma => kernel_rfl)) (by as_aux_lemma => kernel_rfl)
theorem W.setup_CheckBound_ok {needs : (List (List Int))} {a : Int} {a2 : (List Window)} {r : Int × Int} (h : setup_CheckBound needs a a2 = some r) : PC G.P 18 [(.sl (List.map (cS cI) needs)), (vI a), (.sl (List.map c_Window a2))] [] (.tup [(vI r.1), (vI r.2)]) [] := by
  refine pc_of G (fn := Try.f18) Try.func18 (by as_aux_lemma => kernel_rfl) (by as_aux_lemma => kernel_rfl) (by as_aux_lemma => kernel_rfl) (by as_aux_lemma => kernel_rfl) (by as_aux_lemma => kernel_rfl) ?_
  refine sem_set ⟨[(0, (.sl (List.map (cS cI) needs))), (1, (vI a)), (2, (.sl (List.map c_Window a2)))], []⟩ (by as_aux_lemma => kernel_rfl) ?_
  refine sem_seq (by as_aux_lemma => kernel_rfl) ?_
  refine sem_region (by as_aux_lemma => kernel_rfl) ?_
  refine evs_run 2 (by as_aux_lemma => kernel_rfl) ?_
  refine evs_endS (by as_aux_lemma => kernel_rfl) (fun τ hτ => ?_)
  refine th_normalS hτ ⟨[(0, (.sl (List.map (cS cI) needs))), (1, (vI a)), (2, (.sl (List.map c_Window a2)))], []⟩ (here (by as_aux_lemma => kernel_rfl)) ?_
  refine sem_seq (by as_aux_lemma => kernel_rfl) ?_
  refine sem_seq (by as_aux_lemma => kernel_rfl) ?_
  refine sem_region (by as_aux_lemma => kernel_rfl) ?_
  refine evs_run 2 (by as_aux_lemma => kernel_rfl) ?_
  obtain ⟨r4, hr4, h⟩ := bindS h
  refine evs_callS [] [] [] (by as_aux_lemma => kernel_rfl) (W.setup_check_ok hr4) (by as_aux_lemma => kernel_rfl) (by as_aux_lemma => kernel_rfl) (.inl rfl) ?_
  refine evs_run 1 (by as_aux_lemma => kernel_rfl) ?_
  refine evs_endS (by as_aux_lemma => kernel_rfl) (fun τ hτ => ?_)
  refine th_normalS hτ ⟨[(0, (.sl (List.map (cS cI) needs))), (1, (vI a)), (2, (.sl (List.map c_Window a2))), (8, (vI r4))], []⟩ (here (by as_aux_lemma => kernel_rfl)) ?_
  refine sem_seq (by as_aux_lemma => kernel_rfl) ?_
  refine sem_region (by as_aux_lemma => kernel_rfl) ?_
  refine evs_run 2 (by as_aux_lemma => kernel_rfl) ?_
  refine evs_endS (by as_aux_lemma => kernel_rfl) (fun τ hτ => ?_)
  refine th_normalS hτ ⟨[(0, (.sl (List.map (cS cI) needs))), (1, (vI a)), (2, (.sl (List.map c_Window a2))), (8, (vI r4)), (18, (vB (r4 != 0)))], []⟩ (here (by as_aux_lemma => kernel_rfl)) ?_
  refine sem_cond (r4 != 0) (by as_aux_lemma => kernel_rfl) (by as_aux_lemma => kernel_rfl) (fun hb => ?_) (fun hb => ?_)
  · replace h := iteT hb h
    refine sem_seq (by as_aux_lemma => kernel_rfl) ?_
    refine sem_region (by as_aux_lemma => kernel_rfl) ?_
    refine evs_run 3 (by as_aux_lemma => kernel_rfl) ?_
    refine evs_endS (by as_aux_lemma => kernel_rfl) (fun τ hτ => ?_)
    refine th_normalS hτ ⟨[(6, (vI 0)), (7, (vI r4))], []⟩ (here (by as_aux_lemma => kernel_rfl)) ?_
    refine sem_retS (by as_aux_lemma => kernel_rfl) (fun τ hτ => ?_)
    refine th_ret ?_
    obtain rfl := Option.some.inj h
    exact rk_ret hτ [(6, (vI 0)), (7, (vI r4))] (here (by as_aux_lemma => kernel_rfl)) (by as_aux_lemma => kernel_rfl)
  · replace h := iteF hb h
    refine sem_skipS (by as_aux_lemma => kernel_rfl) (fun τ hτ => ?_)
    refine th_normalS hτ ⟨[(0, (.sl (List.map (cS cI) needs))), (1, (vI a)), (2, (.sl (List.map c_Window a2)))], []⟩ (here (by as_aux_lemma => kernel_rfl)) ?_
    refine sem_seq (by as_aux_lemma => kernel_rfl) ?_
    refine sem_seq (by as_aux_lemma => kernel_rfl) ?_
    refine sem_region (by as_aux_lemma => kernel_rfl) ?_
    refine evs_run 1 (by as_aux_lemma => kernel_rfl) ?_
    refine evs_op (st_len (c := c_Window) (l := a2) (x := (.sl (List.map c_Window a2))) (by as_aux_lemma => kernel_rfl) (by as_aux_lemma => kernel_rfl)) ?_
    refine evs_run 1 (by as_aux_lemma => kernel_rfl) ?_
    refine evs_endS (by as_aux_lemma => kernel_rfl) (fun τ hτ => ?_)
    refine th_normalS hτ ⟨[(0, (.sl (List.map (cS cI) needs))), (1, (vI a)), (2, (.sl (List.map c_Window a2))), (20, (.sl (List.map c_Window a2))), (21, (vI (a2.length : Int))), (22, (vI 0))], []⟩ (here (by as_aux_lemma => kernel_rfl)) ?_
    refine sem_block (by as_aux_lemma => kernel_rfl) ?_
    obtain ⟨x60, hx60, h⟩ := bindS h
    refine sem_loopS (fun (s43 : Int) => ⟨[(0, (.sl (List.map (cS cI) needs))), (1, (vI a)), (2, (.sl (List.map c_Window a2))), (20, (.sl (List.map c_Window a2))), (21, (vI (a2.length : Int))), (22, (vI s43))], []⟩) (fun (x60 : Unit ⊕ Unit) => match x60 with | .inl j61 => (.ret, ⟨[(6, (vI 0)), (7, (vI 1))], []⟩) | .inr j62 => (.exit 0, ⟨[(0, (.sl (List.map (cS cI) needs))), (1, (vI a)), (2, (.sl (List.map c_Window a2)))], []⟩)) (setup_CheckBound_l1 needs a2) 0 x60 (by as_aux_lemma => kernel_rfl) (here (by as_aux_lemma => kernel_rfl)) hx60 ?_ ?_ ?_
    · intro s43 r h
      refine sem_seq (by as_aux_lemma => kernel_rfl) ?_
      refine sem_region (by as_aux_lemma => kernel_rfl) ?_
      refine evs_run 1 (by as_aux_lemma => kernel_rfl) ?_
      refine evs_endS (by as_aux_lemma => kernel_rfl) (fun τ hτ => ?_)
      refine th_normalS hτ ⟨[(0, (.sl (List.map (cS cI) needs))), (1, (vI a)), (2, (.sl (List.map c_Window a2))), (20, (.sl (List.map c_Window a2))), (21, (vI (a2.length : Int))), (22, (vI s43)), (23, (vB (decide (s43 < (a2.length : Int)))))], []⟩ (here (by as_aux_lemma => kernel_rfl)) ?_
      refine sem_seq (by as_aux_lemma => kernel_rfl) ?_
      refine sem_cond (decide (s43 < (a2.length : Int))) (by as_aux_lemma => kernel_rfl) (by as_aux_lemma => kernel_rfl) (fun hb => ?_) (fun hb => ?_)
      · replace h := iteT hb h
        refine sem_skipS (by as_aux_lemma => kernel_rfl) (fun τ hτ => ?_)
        refine th_normalS hτ ⟨[(0, (.sl (List.map (cS cI) needs))), (1, (vI a)), (2, (.sl (List.map c_Window a2))), (20, (.sl (List.map c_Window a2))), (21, (vI (a2.length : Int))), (22, (vI s43))], []⟩ (here (by as_aux_lemma => kernel_rfl)) ?_
        refine sem_seq (by as_aux_lemma => kernel_rfl) ?_
        refine sem_block (by as_aux_lemma => kernel_rfl) ?_
        refine sem_seq (by as_aux_lemma => kernel_rfl) ?_
        refine sem_region (by as_aux_lemma => kernel_rfl) ?_
        obtain ⟨x57, hx57, h⟩ := bindS h
        refine evs_op (st_idx (c := c_Window) (l := a2) (i := s43) (kd := .i64) (sz := 2) (by as_aux_lemma => kernel_rfl) hx57 rfl) ?_
        refine evs_run 3 (by as_aux_lemma => kernel_rfl) ?_
        refine evs_endS (by as_aux_lemma => kernel_rfl) (fun τ hτ => ?_)
        refine th_normalS hτ ⟨[(0, (.sl (List.map (cS cI) needs))), (1, (vI a)), (2, (.sl (List.map c_Window a2))), (10, (.ptr 10 0)), (20, (.sl (List.map c_Window a2))), (21, (vI (a2.length : Int))), (22, (vI s43))], [(10, .box [(vI x57.From), (vI x57.To)])]⟩ (here (by as_aux_lemma => kernel_rfl)) ?_
        refine sem_seq (by as_aux_lemma => kernel_rfl) ?_
        refine sem_region (by as_aux_lemma => kernel_rfl) ?_
        refine evs_run 2 (by as_aux_lemma => kernel_rfl) ?_
        obtain ⟨r59, hr59, h⟩ := bindS h
        refine evs_callS [] [] [] (by as_aux_lemma => kernel_rfl) (W.setup_validWindow_ok hr59) (by as_aux_lemma => kernel_rfl) (by as_aux_lemma => kernel_rfl) (.inl rfl) ?_
        refine evs_run 1 (by as_aux_lemma => kernel_rfl) ?_
        refine evs_endS (by as_aux_lemma => kernel_rfl) (fun τ hτ => ?_)
        refine th_normalS hτ ⟨[(0, (.sl (List.map (cS cI) needs))), (1, (vI a)), (2, (.sl (List.map c_Window a2))), (20, (.sl (List.map c_Window a2))), (21, (vI (a2.length : Int))), (22, (vI s43)), (29, (vB (!r59)))], []⟩ (here (by as_aux_lemma => kernel_rfl)) ?_
        refine sem_cond (!r59) (by as_aux_lemma => kernel_rfl) (by as_aux_lemma => kernel_rfl) (fun hb => ?_) (fun hb => ?_)
        · replace h := iteT hb h
          refine sem_seq (by as_aux_lemma => kernel_rfl) ?_
          refine sem_region (by as_aux_lemma => kernel_rfl) ?_
          refine evs_run 2 (by as_aux_lemma => kernel_rfl) ?_
          refine evs_endS (by as_aux_lemma => kernel_rfl) (fun τ hτ => ?_)
          refine th_normalS hτ ⟨[(6, (vI 0)), (7, (vI 1))], []⟩ (here (by as_aux_lemma => kernel_rfl)) ?_
          refine sem_retS (by as_aux_lemma => kernel_rfl) (fun τ hτ => ?_)
          refine bl_ret ?_
          refine th_ret ?_
          obtain rfl := Option.some.inj h
          exact lk_outS hτ rfl (here (by as_aux_lemma => kernel_rfl))
        · replace h := iteF hb h
          refine sem_skipS (by as_aux_lemma => kernel_rfl) (fun τ hτ => ?_)
          refine bl_normal ?_
          refine th_normalS hτ ⟨[(0, (.sl (List.map (cS cI) needs))), (1, (vI a)), (2, (.sl (List.map c_Window a2))), (20, (.sl (List.map c_Window a2))), (21, (vI (a2.length : Int))), (22, (vI s43))], []⟩ (here (by as_aux_lemma => kernel_rfl)) ?_
          refine sem_region (by as_aux_lemma => kernel_rfl) ?_
          refine evs_run 2 (by as_aux_lemma => kernel_rfl) ?_
          refine evs_endS (by as_aux_lemma => kernel_rfl) (fun τ hτ => ?_)
          obtain rfl := Option.some.inj h
          exact lk_nextS hτ (here (by as_aux_lemma => kernel_rfl))
      · replace h := iteF hb h
        refine sem_exitS 0 (by as_aux_lemma => kernel_rfl) rfl (fun τ hτ => ?_)
        refine th_exit ?_
        obtain rfl := Option.some.inj h
        exact lk_outS hτ rfl (here (by as_aux_lemma => kernel_rfl))
    · intro x
      rcases x with _ | _ <;> rfl
    · intro τ hτ
      rcases x60 with j61 | j62
      · refine bl_ret ?_
        refine th_ret ?_
        obtain rfl := Option.some.inj h
        exact rk_ret hτ [(6, (vI 0)), (7, (vI 1))] (here (by as_aux_lemma => kernel_rfl)) (by as_aux_lemma => kernel_rfl)
      · refine bl_hit (by as_aux_lemma => kernel_rfl) ?_
        refine th_normalS hτ ⟨[(0, (.sl (List.map (cS cI) needs))), (1, (vI a)), (2, (.sl (List.map c_Window a2)))], []⟩ (here (by as_aux_lemma => kernel_rfl)) ?_
        refine sem_seq (by as_aux_lemma => kernel_rfl) ?_
        refine sem_seq (by as_aux_lemma => kernel_rfl) ?_
        refine sem_region (by as_aux_lemma => kernel_rfl) ?_
        refine evs_run 1 (by as_aux_lemma => kernel_rfl) ?_
        refine evs_endS (by as_aux_lemma => kernel_rfl) (fun τ hτ => ?_)
        refine th_normalS hτ ⟨[(0, (.sl (List.map (cS cI) needs))), (1, (vI a)), (2, (.sl (List.map c_Window a2))), (11, (vI 1))], []⟩ (here (by as_aux_lemma => kernel_rfl)) ?_
        refine sem_block (by as_aux_lemma => kernel_rfl) ?_
        obtain ⟨x142, hx142, h⟩ := bindS h
        refine sem_loopS (fun (s117 : Int) => ⟨[(0, (.sl (List.map (cS cI) needs))), (1, (vI a)), (2, (.sl (List.map c_Window a2))), (11, (vI s117))], []⟩) (fun (x142 : Unit ⊕ Unit) => match x142 with | .inl j143 => (.ret, ⟨[(6, (vI 0)), (7, (vI 12))], []⟩) | .inr j144 => (.exit 2, ⟨[(0, (.sl (List.map (cS cI) needs))), (1, (vI a)), (2, (.sl (List.map c_Window a2)))], []⟩)) (setup_CheckBound_l2 a2) 1 x142 (by as_aux_lemma => kernel_rfl) (here (by as_aux_lemma => kernel_rfl)) hx142 ?_ ?_ ?_
        · intro s117 r h
          refine sem_seq (by as_aux_lemma => kernel_rfl) ?_
          refine sem_seq (by as_aux_lemma => kernel_rfl) ?_
          refine sem_region (by as_aux_lemma => kernel_rfl) ?_
          refine evs_run 2 (by as_aux_lemma => kernel_rfl) ?_
          refine evs_op (st_len (c := c_Window) (l := a2) (x := (.sl (List.map c_Window a2))) (by as_aux_lemma => kernel_rfl) (by as_aux_lemma => kernel_rfl)) ?_
          refine evs_run 1 (by as_aux_lemma => kernel_rfl) ?_
          refine evs_endS (by as_aux_lemma => kernel_rfl) (fun τ hτ => ?_)
          refine th_normalS hτ ⟨[(0, (.sl (List.map (cS cI) needs))), (1, (vI a)), (2, (.sl (List.map c_Window a2))), (11, (vI s117)), (34, (vB (decide (s117 < (a2.length : Int)))))], []⟩ (here (by as_aux_lemma => kernel_rfl)) ?_
          refine sem_cond (decide (s117 < (a2.length : Int))) (by as_aux_lemma => kernel_rfl) (by as_aux_lemma => kernel_rfl) (fun hb => ?_) (fun hb => ?_)
          · replace h := iteT hb h
            refine sem_skipS (by as_aux_lemma => kernel_rfl) (fun τ hτ => ?_)
            refine th_normalS hτ ⟨[(0, (.sl (List.map (cS cI) needs))), (1, (vI a)), (2, (.sl (List.map c_Window a2))), (11, (vI s117))], []⟩ (here (by as_aux_lemma => kernel_rfl)) ?_
            refine sem_seq (by as_aux_lemma => kernel_rfl) ?_
            refine sem_block (by as_aux_lemma => kernel_rfl) ?_
            refine sem_seq (by as_aux_lemma => kernel_rfl) ?_
            refine sem_draw [] [] [] [] [] 11 (by as_aux_lemma => kernel_rfl) (by as_aux_lemma => kernel_rfl) [] (by as_aux_lemma => kernel_rfl) (by as_aux_lemma => kernel_rfl) ?_
            refine evd_run 2 (by as_aux_lemma => kernel_rfl) ?_
            obtain ⟨x140, hx140, h⟩ := bindS h
            refine evd_val (by as_aux_lemma => kernel_rfl) (st_idx (c := c_Window) (l := a2) (i := s117) (kd := .i64) (sz := 2) (by as_aux_lemma => kernel_rfl) hx140 rfl) (by as_aux_lemma => kernel_rfl) (by as_aux_lemma => kernel_rfl) ?_
            refine evd_run 5 (by as_aux_lemma => kernel_rfl) ?_
            obtain ⟨x141, hx141, h⟩ := bindS h
            refine evd_val (by as_aux_lemma => kernel_rfl) (st_idx (c := c_Window) (l := a2) (i := (isub s117 1)) (kd := .i64) (sz := 2) (by as_aux_lemma => kernel_rfl) hx141 rfl) (by as_aux_lemma => kernel_rfl) (by as_aux_lemma => kernel_rfl) ?_
            refine evd_run 2 (by as_aux_lemma => kernel_rfl) ?_
            refine evd_end (by as_aux_lemma => kernel_rfl) ?_
            refine evo_run 1 (by as_aux_lemma => kernel_rfl) ?_
            refine evo_endS (by as_aux_lemma => kernel_rfl) (fun τ hτ => ?_)
            refine th_normalS hτ ⟨[(0, (.sl (List.map (cS cI) needs))), (1, (vI a)), (2, (.sl (List.map c_Window a2))), (11, (vI s117)), (48, (vB (decide (x140.From < x141.To))))], []⟩ (here (by as_aux_lemma => kernel_rfl)) ?_
            refine sem_cond (decide (x140.From < x141.To)) (by as_aux_lemma => kernel_rfl) (by as_aux_lemma => kernel_rfl) (fun hb => ?_) (fun hb => ?_)
            · replace h := iteT hb h
              refine sem_seq (by as_aux_lemma => kernel_rfl) ?_
              refine sem_region (by as_aux_lemma => kernel_rfl) ?_
              refine evs_run 2 (by as_aux_lemma => kernel_rfl) ?_
              refine evs_endS (by as_aux_lemma => kernel_rfl) (fun τ hτ => ?_)
              refine th_normalS hτ ⟨[(6, (vI 0)), (7, (vI 12))], []⟩ (here (by as_aux_lemma => kernel_rfl)) ?_
              refine sem_retS (by as_aux_lemma => kernel_rfl) (fun τ hτ => ?_)
              refine bl_ret ?_
              refine th_ret ?_
              obtain rfl := Option.some.inj h
              exact lk_outS hτ rfl (here (by as_aux_lemma => kernel_rfl))
            · replace h := iteF hb h
              refine sem_skipS (by as_aux_lemma => kernel_rfl) (fun τ hτ => ?_)
              refine bl_normal ?_
              refine th_normalS hτ ⟨[(0, (.sl (List.map (cS cI) needs))), (1, (vI a)), (2, (.sl (List.map c_Window a2))), (11, (vI s117))], []⟩ (here (by as_aux_lemma => kernel_rfl)) ?_
              refine sem_region (by as_aux_lemma => kernel_rfl) ?_
              refine evs_run 3 (by as_aux_lemma => kernel_rfl) ?_
              refine evs_endS (by as_aux_lemma => kernel_rfl) (fun τ hτ => ?_)
              obtain rfl := Option.some.inj h
              exact lk_nextS hτ (here (by as_aux_lemma => kernel_rfl))
          · replace h := iteF hb h
            refine sem_exitS 2 (by as_aux_lemma => kernel_rfl) rfl (fun τ hτ => ?_)
            refine th_exit ?_
            obtain rfl := Option.some.inj h
            exact lk_outS hτ rfl (here (by as_aux_lemma => kernel_rfl))
        · intro x
          rcases x with _ | _ <;> rfl
        · intro τ hτ
          rcases x142 with j143 | j144
          · refine bl_ret ?_
            refine th_ret ?_
            obtain rfl := Option.some.inj h
            exact rk_ret hτ [(6, (vI 0)), (7, (vI 12))] (here (by as_aux_lemma => kernel_rfl)) (by as_aux_lemma => kernel_rfl)
          · refine bl_hit (by as_aux_lemma => kernel_rfl) ?_
            refine th_normalS hτ ⟨[(0, (.sl (List.map (cS cI) needs))), (1, (vI a)), (2, (.sl (List.map c_Window a2)))], []⟩ (here (by as_aux_lemma => kernel_rfl)) ?_
            refine sem_seq (by as_aux_lemma => kernel_rfl) ?_
            refine sem_seq (by as_aux_lemma => kernel_rfl) ?_
            refine sem_region (by as_aux_lemma => kernel_rfl) ?_
            refine evs_run 1 (by as_aux_lemma => kernel_rfl) ?_
            refine evs_op (st_len (c := c_Window) (l := a2) (x := (.sl (List.map c_Window a2))) (by as_aux_lemma => kernel_rfl) (by as_aux_lemma => kernel_rfl)) ?_
            refine evs_run 1 (by as_aux_lemma => kernel_rfl) ?_
            refine evs_endS (by as_aux_lemma => kernel_rfl) (fun τ hτ => ?_)
            refine th_normalS hτ ⟨[(0, (.sl (List.map (cS cI) needs))), (1, (vI a)), (2, (.sl (List.map c_Window a2))), (49, (.sl (List.map c_Window a2))), (50, (vI (a2.length : Int))), (51, (vI 0))], []⟩ (here (by as_aux_lemma => kernel_rfl)) ?_
            refine sem_block (by as_aux_lemma => kernel_rfl) ?_
            obtain ⟨x200, hx200, h⟩ := bindS h
            refine sem_loopS (fun (s183 : Int) => ⟨[(0, (.sl (List.map (cS cI) needs))), (1, (vI a)), (2, (.sl (List.map c_Window a2))), (49, (.sl (List.map c_Window a2))), (50, (vI (a2.length : Int))), (51, (vI s183))], []⟩) (fun (x200 : Unit ⊕ Unit) => match x200 with | .inl j201 => (.ret, ⟨[(6, (vI 0)), (7, (vI 11))], []⟩) | .inr j202 => (.exit 4, ⟨[(0, (.sl (List.map (cS cI) needs))), (2, (.sl (List.map c_Window a2)))], []⟩)) (setup_CheckBound_l3 needs a a2) 0 x200 (by as_aux_lemma => kernel_rfl) (here (by as_aux_lemma => kernel_rfl)) hx200 ?_ ?_ ?_
            · intro s183 r h
              refine sem_seq (by as_aux_lemma => kernel_rfl) ?_
              refine sem_region (by as_aux_lemma => kernel_rfl) ?_
              refine evs_run 1 (by as_aux_lemma => kernel_rfl) ?_
              refine evs_endS (by as_aux_lemma => kernel_rfl) (fun τ hτ => ?_)
              refine th_normalS hτ ⟨[(0, (.sl (List.map (cS cI) needs))), (1, (vI a)), (2, (.sl (List.map c_Window a2))), (49, (.sl (List.map c_Window a2))), (50, (vI (a2.length : Int))), (51, (vI s183)), (52, (vB (decide (s183 < (a2.length : Int)))))], []⟩ (here (by as_aux_lemma => kernel_rfl)) ?_
              refine sem_seq (by as_aux_lemma => kernel_rfl) ?_
              refine sem_cond (decide (s183 < (a2.length : Int))) (by as_aux_lemma => kernel_rfl) (by as_aux_lemma => kernel_rfl) (fun hb => ?_) (fun hb => ?_)
              · replace h := iteT hb h
                refine sem_skipS (by as_aux_lemma => kernel_rfl) (fun τ hτ => ?_)
                refine th_normalS hτ ⟨[(0, (.sl (List.map (cS cI) needs))), (1, (vI a)), (2, (.sl (List.map c_Window a2))), (49, (.sl (List.map c_Window a2))), (50, (vI (a2.length : Int))), (51, (vI s183))], []⟩ (here (by as_aux_lemma => kernel_rfl)) ?_
                refine sem_seq (by as_aux_lemma => kernel_rfl) ?_
                refine sem_block (by as_aux_lemma => kernel_rfl) ?_
                refine sem_seq (by as_aux_lemma => kernel_rfl) ?_
                refine sem_region (by as_aux_lemma => kernel_rfl) ?_
                obtain ⟨x197, hx197, h⟩ := bindS h
                refine evs_op (st_idx (c := c_Window) (l := a2) (i := s183) (kd := .i64) (sz := 2) (by as_aux_lemma => kernel_rfl) hx197 rfl) ?_
                refine evs_run 3 (by as_aux_lemma => kernel_rfl) ?_
                refine evs_endS (by as_aux_lemma => kernel_rfl) (fun τ hτ => ?_)
                refine th_normalS hτ ⟨[(0, (.sl (List.map (cS cI) needs))), (1, (vI a)), (2, (.sl (List.map c_Window a2))), (13, (.ptr 13 0)), (49, (.sl (List.map c_Window a2))), (50, (vI (a2.length : Int))), (51, (vI s183))], [(13, .box [(vI x197.From), (vI x197.To)])]⟩ (here (by as_aux_lemma => kernel_rfl)) ?_
                refine sem_seq (by as_aux_lemma => kernel_rfl) ?_
                refine sem_region (by as_aux_lemma => kernel_rfl) ?_
                refine evs_run 3 (by as_aux_lemma => kernel_rfl) ?_
                obtain ⟨r199, hr199, h⟩ := bindS h
                refine evs_callS [] [] [] (by as_aux_lemma => kernel_rfl) (W.setup_blocked_ok hr199) (by as_aux_lemma => kernel_rfl) (by as_aux_lemma => kernel_rfl) (.inl rfl) ?_
                refine evs_run 1 (by as_aux_lemma => kernel_rfl) ?_
                refine evs_endS (by as_aux_lemma => kernel_rfl) (fun τ hτ => ?_)
                refine th_normalS hτ ⟨[(0, (.sl (List.map (cS cI) needs))), (1, (vI a)), (2, (.sl (List.map c_Window a2))), (49, (.sl (List.map c_Window a2))), (50, (vI (a2.length : Int))), (51, (vI s183)), (59, (vB (!r199)))], []⟩ (here (by as_aux_lemma => kernel_rfl)) ?_
                refine sem_cond (!r199) (by as_aux_lemma => kernel_rfl) (by as_aux_lemma => kernel_rfl) (fun hb => ?_) (fun hb => ?_)
                · replace h := iteT hb h
                  refine sem_seq (by as_aux_lemma => kernel_rfl) ?_
                  refine sem_region (by as_aux_lemma => kernel_rfl) ?_
                  refine evs_run 2 (by as_aux_lemma => kernel_rfl) ?_
                  refine evs_endS (by as_aux_lemma => kernel_rfl) (fun τ hτ => ?_)
                  refine th_normalS hτ ⟨[(6, (vI 0)), (7, (vI 11))], []⟩ (here (by as_aux_lemma => kernel_rfl)) ?_
                  refine sem_retS (by as_aux_lemma => kernel_rfl) (fun τ hτ => ?_)
                  refine bl_ret ?_
                  refine th_ret ?_
                  obtain rfl := Option.some.inj h
                  exact lk_outS hτ rfl (here (by as_aux_lemma => kernel_rfl))
                · replace h := iteF hb h
                  refine sem_skipS (by as_aux_lemma => kernel_rfl) (fun τ hτ => ?_)
                  refine bl_normal ?_
                  refine th_normalS hτ ⟨[(0, (.sl (List.map (cS cI) needs))), (1, (vI a)), (2, (.sl (List.map c_Window a2))), (49, (.sl (List.map c_Window a2))), (50, (vI (a2.length : Int))), (51, (vI s183))], []⟩ (here (by as_aux_lemma => kernel_rfl)) ?_
                  refine sem_region (by as_aux_lemma => kernel_rfl) ?_
                  refine evs_run 2 (by as_aux_lemma => kernel_rfl) ?_
                  refine evs_endS (by as_aux_lemma => kernel_rfl) (fun τ hτ => ?_)
                  obtain rfl := Option.some.inj h
                  exact lk_nextS hτ (here (by as_aux_lemma => kernel_rfl))
              · replace h := iteF hb h
                refine sem_exitS 4 (by as_aux_lemma => kernel_rfl) rfl (fun τ hτ => ?_)
                refine th_exit ?_
                obtain rfl := Option.some.inj h
                exact lk_outS hτ rfl (here (by as_aux_lemma => kernel_rfl))
            · intro x
              rcases x with _ | _ <;> rfl
            · intro τ hτ
              rcases x200 with j201 | j202
              · refine bl_ret ?_
                refine th_ret ?_
                obtain rfl := Option.some.inj h
                exact rk_ret hτ [(6, (vI 0)), (7, (vI 11))] (here (by as_aux_lemma => kernel_rfl)) (by as_aux_lemma => kernel_rfl)
              · refine bl_hit (by as_aux_lemma => kernel_rfl) ?_
                refine th_normalS hτ ⟨[(0, (.sl (List.map (cS cI) needs))), (2, (.sl (List.map c_Window a2)))], []⟩ (here (by as_aux_lemma => kernel_rfl)) ?_
                refine sem_seq (by as_aux_lemma => kernel_rfl) ?_
                refine sem_seq (by as_aux_lemma => kernel_rfl) ?_
                refine sem_region (by as_aux_lemma => kernel_rfl) ?_
                refine evs_run 1 (by as_aux_lemma => kernel_rfl) ?_
                refine evs_op (st_len (c := (cS cI)) (l := needs) (x := (.sl (List.map (cS cI) needs))) (by as_aux_lemma => kernel_rfl) (by as_aux_lemma => kernel_rfl)) ?_
                refine evs_run 1 (by as_aux_lemma => kernel_rfl) ?_
                refine evs_endS (by as_aux_lemma => kernel_rfl) (fun τ hτ => ?_)
                refine th_normalS hτ ⟨[(2, (.sl (List.map c_Window a2))), (63, (vB ((needs.length : Int) == 0)))], []⟩ (here (by as_aux_lemma => kernel_rfl)) ?_
                refine sem_cond ((needs.length : Int) == 0) (by as_aux_lemma => kernel_rfl) (by as_aux_lemma => kernel_rfl) (fun hb => ?_) (fun hb => ?_)
                · replace h := iteT hb h
                  refine sem_seq (by as_aux_lemma => kernel_rfl) ?_
                  refine sem_region (by as_aux_lemma => kernel_rfl) ?_
                  refine evs_run 2 (by as_aux_lemma => kernel_rfl) ?_
                  refine evs_endS (by as_aux_lemma => kernel_rfl) (fun τ hτ => ?_)
                  refine th_normalS hτ ⟨[(6, (vI 0)), (7, (vI 0))], []⟩ (here (by as_aux_lemma => kernel_rfl)) ?_
                  refine sem_retS (by as_aux_lemma => kernel_rfl) (fun τ hτ => ?_)
                  refine th_ret ?_
                  obtain rfl := Option.some.inj h
                  exact rk_ret hτ [(6, (vI 0)), (7, (vI 0))] (here (by as_aux_lemma => kernel_rfl)) (by as_aux_lemma => kernel_rfl)
                · replace h := iteF hb h
                  refine sem_skipS (by as_aux_lemma => kernel_rfl) (fun τ hτ => ?_)
                  refine th_normalS hτ ⟨[(2, (.sl (List.map c_Window a2)))], []⟩ (here (by as_aux_lemma => kernel_rfl)) ?_
                  refine sem_seq (by as_aux_lemma => kernel_rfl) ?_
                  refine sem_region (by as_aux_lemma => kernel_rfl) ?_
                  refine evs_run 1 (by as_aux_lemma => kernel_rfl) ?_
                  refine evs_op (st_len (c := c_Window) (l := a2) (x := (.sl (List.map c_Window a2))) (by as_aux_lemma => kernel_rfl) (by as_aux_lemma => kernel_rfl)) ?_
                  refine evs_run 3 (by as_aux_lemma => kernel_rfl) ?_
                  refine evs_endS (by as_aux_lemma => kernel_rfl) (fun τ hτ => ?_)
                  refine th_normalS hτ ⟨[(6, (vI (iadd (a2.length : Int) 1))), (7, (vI 0))], []⟩ (here (by as_aux_lemma => kernel_rfl)) ?_
                  refine sem_retS (by as_aux_lemma => kernel_rfl) (fun τ hτ => ?_)
                  obtain rfl := Option.some.inj h
                  exact rk_ret hτ [(6, (vI (iadd (a2.length : Int) 1))), (7, (vI 0))] (here (by as_aux_lemma => kernel_rfl)) (by as_aux_lemma => kernel_rfl)
theorem W.sheetmetalref05_within_ok {n : Int} {lo : Int} {hi : Int} {r : Bool} (h : sheetmetalref05_within n lo hi = some r) : PC G.P 66 [(vI n), (vI lo), (vI hi)] [] (vB r) [] := by
  refine pc_of G (fn := Try.f66) Try.func66 (by as_aux_lemma => kernel_rfl) (by as_aux_lemma => kernel_rfl) (by as_aux_lemma => kernel_rfl) (by as_aux_lemma => kernel_rfl) (by as_aux_lemma => kernel_rfl) ?_
  refine sem_set ⟨[(0, (vI n)), (1, (vI lo)), (2, (vI hi))], []⟩ (by as_aux_lemma => kernel_rfl) ?_
  refine sem_seq (by as_aux_lemma => kernel_rfl) ?_
  refine sem_region (by as_aux_lemma => kernel_rfl) ?_
  refine evs_run 1 (by as_aux_lemma => kernel_rfl) ?_
  refine evs_endS (by as_aux_lemma => kernel_rfl) (fun τ hτ => ?_)
  refine th_normalS hτ ⟨[(0, (vI n)), (1, (vI lo)), (2, (vI hi))], []⟩ (here (by as_aux_lemma => kernel_rfl)) ?_
  refine sem_seq (by as_aux_lemma => kernel_rfl) ?_
  obtain ⟨j1, hj1, h⟩ := bindS h
  refine sem_regionC ⟨[(6, (vB j1))], []⟩ (by as_aux_lemma => kernel_rfl) ?_ (fun τ hτ => ?_)
  · replace h := hj1
    refine evs_run 4 (by as_aux_lemma => kernel_rfl) ?_
    refine evs_split (decide (n ≥ lo)) (fun b0 => ⟨[(0, (vI n)), (2, (vI hi)), (10, (vB b0))], []⟩) (by as_aux_lemma => kernel_rfl) (fun hb => ?_) (fun hb => ?_)
    · replace h := iteT hb h
      refine evs_run 5 (by as_aux_lemma => kernel_rfl) ?_
      refine evs_endS (by as_aux_lemma => kernel_rfl) (fun τ hτ => ?_)
      obtain rfl := Option.some.inj h
      exact leafC hτ (here (by as_aux_lemma => kernel_rfl))
    · replace h := iteF hb h
      refine evs_run 5 (by as_aux_lemma => kernel_rfl) ?_
      refine evs_endS (by as_aux_lemma => kernel_rfl) (fun τ hτ => ?_)
      obtain rfl := Option.some.inj h
      exact leafC hτ (here (by as_aux_lemma => kernel_rfl))
  refine th_normalS hτ ⟨[(6, (vB j1))], []⟩ (here (by as_aux_lemma => kernel_rfl)) ?_
  refine sem_retS (by as_aux_lemma => kernel_rfl) (fun τ hτ => ?_)
  obtain rfl := Option.some.inj h
  exact rk_ret hτ [(6, (vB j1))] (here (by as_aux_lemma => kernel_rfl)) (by as_aux_lemma => kernel_rfl)
theorem W.sheetmetalref05_isSet_ok {l : (List Int)} {r : Bool} (h : sheetmetalref05_isSet l = some r) : PC G.P 52 [(.sl (List.map cI l))] [] (vB r) [] := by
  refine pc_of G (fn := Try.f52) Try.func52 (by as_aux_lemma => kernel_rfl) (by as_aux_lemma => kernel_rfl) (by as_aux_lemma => kernel_rfl) (by as_aux_lemma => kernel_rfl) (by as_aux_lemma => kernel_rfl) ?_
  refine sem_set ⟨[(0, (.sl (List.map cI l)))], []⟩ (by as_aux_lemma => kernel_rfl) ?_
  refine sem_seq (by as_aux_lemma => kernel_rfl) ?_
  refine sem_region (by as_aux_lemma => kernel_rfl) ?_
  refine evs_run 1 (by as_aux_lemma => kernel_rfl) ?_
  refine evs_endS (by as_aux_lemma => kernel_rfl) (fun τ hτ => ?_)
  refine th_normalS hτ ⟨[(0, (.sl (List.map cI l)))], []⟩ (here (by as_aux_lemma => kernel_rfl)) ?_
  refine sem_seq (by as_aux_lemma => kernel_rfl) ?_
  refine sem_seq (by as_aux_lemma => kernel_rfl) ?_
  refine sem_region (by as_aux_lemma => kernel_rfl) ?_
  refine evs_run 1 (by as_aux_lemma => kernel_rfl) ?_
  refine evs_endS (by as_aux_lemma => kernel_rfl) (fun τ hτ => ?_)
  refine th_normalS hτ ⟨[(0, (.sl (List.map cI l))), (3, (vI 0))], []⟩ (here (by as_aux_lemma => kernel_rfl)) ?_
  refine sem_block (by as_aux_lemma => kernel_rfl) ?_
  obtain ⟨x140, hx140, h⟩ := bindS h
  refine sem_loopS (fun (s87 : Int) => ⟨[(0, (.sl (List.map cI l))), (3, (vI s87))], []⟩) (fun (x140 : Unit ⊕ Unit) => match x140 with | .inl j141 => (.ret, ⟨[(2, (vB false))], []⟩) | .inr j142 => (.exit 0, ⟨[], []⟩)) (sheetmetalref05_isSet_l1 l) 0 x140 (by as_aux_lemma => kernel_rfl) (here (by as_aux_lemma => kernel_rfl)) hx140 ?_ ?_ ?_
  · intro s87 r h
    refine sem_seq (by as_aux_lemma => kernel_rfl) ?_
    refine sem_seq (by as_aux_lemma => kernel_rfl) ?_
    refine sem_region (by as_aux_lemma => kernel_rfl) ?_
    refine evs_run 2 (by as_aux_lemma => kernel_rfl) ?_
    refine evs_op (st_len (c := cI) (l := l) (x := (.sl (List.map cI l))) (by as_aux_lemma => kernel_rfl) (by as_aux_lemma => kernel_rfl)) ?_
    refine evs_run 1 (by as_aux_lemma => kernel_rfl) ?_
    refine evs_endS (by as_aux_lemma => kernel_rfl) (fun τ hτ => ?_)
    refine th_normalS hτ ⟨[(0, (.sl (List.map cI l))), (3, (vI s87)), (7, (vB (decide (s87 < (l.length : Int)))))], []⟩ (here (by as_aux_lemma => kernel_rfl)) ?_
    refine sem_cond (decide (s87 < (l.length : Int))) (by as_aux_lemma => kernel_rfl) (by as_aux_lemma => kernel_rfl) (fun hb => ?_) (fun hb => ?_)
    · replace h := iteT hb h
      refine sem_skipS (by as_aux_lemma => kernel_rfl) (fun τ hτ => ?_)
      refine th_normalS hτ ⟨[(0, (.sl (List.map cI l))), (3, (vI s87))], []⟩ (here (by as_aux_lemma => kernel_rfl)) ?_
      refine sem_seq (by as_aux_lemma => kernel_rfl) ?_
      refine sem_block (by as_aux_lemma => kernel_rfl) ?_
      refine sem_seq (by as_aux_lemma => kernel_rfl) ?_
      obtain ⟨j135, hj135, h⟩ := bindS h
      refine sem_drawC ⟨[(0, (.sl (List.map cI l))), (3, (vI s87)), (31, (vB j135))], []⟩ [] [] [] [] [] 19 (by as_aux_lemma => kernel_rfl) (by as_aux_lemma => kernel_rfl) [] (by as_aux_lemma => kernel_rfl) (by as_aux_lemma => kernel_rfl) ?_ (fun τ hτ => ?_)
      · replace h := hj135
        refine evd_run 2 (by as_aux_lemma => kernel_rfl) ?_
        obtain ⟨x136, hx136, h⟩ := bindS h
        refine evd_val (by as_aux_lemma => kernel_rfl) (st_idx (c := cI) (l := l) (i := s87) (kd := .i64) (sz := 1) (by as_aux_lemma => kernel_rfl) hx136 rfl) (by as_aux_lemma => kernel_rfl) (by as_aux_lemma => kernel_rfl) ?_
        refine evd_run 1 (by as_aux_lemma => kernel_rfl) ?_
        obtain ⟨r137, hr137, h⟩ := bindS h
        refine evd_callS [] [] (by as_aux_lemma => kernel_rfl) (by as_aux_lemma => kernel_rfl) (W.sheetmetalref05_within_ok hr137) (by as_aux_lemma => kernel_rfl) (.inl rfl) (by as_aux_lemma => kernel_rfl) (by as_aux_lemma => kernel_rfl) ?_
        refine evd_run 2 (by as_aux_lemma => kernel_rfl) ?_
        refine evd_split r137 (fun b0 => ⟨[(16, (vB (!b0))), (15, (vB (!b0))), (14, (vB b0)), (13, (vI x136)), (12, (.vptr [(vI x136)] 0)), (11, (vI s87)), (10, (.sl (List.map cI l))), (0, (.sl (List.map cI l))), (3, (vI s87))], []⟩) (by as_aux_lemma => kernel_rfl) (fun hb => ?_) (fun hb => ?_)
        · replace h := iteT hb h
          refine evd_run 3 (by as_aux_lemma => kernel_rfl) ?_
          refine evd_split (decide (s87 > 0)) (fun b0 => ⟨[(19, (vB b0)), (18, (vB b0)), (17, (vI s87)), (16, (vB false)), (15, (vB false)), (14, (vB true)), (13, (vI x136)), (12, (.vptr [(vI x136)] 0)), (11, (vI s87)), (10, (.sl (List.map cI l))), (0, (.sl (List.map cI l))), (3, (vI s87))], []⟩) (by as_aux_lemma => kernel_rfl) (fun hb => ?_) (fun hb => ?_)
          · replace h := iteT hb h
            refine evd_run 2 (by as_aux_lemma => kernel_rfl) ?_
            obtain ⟨x138, hx138, h⟩ := bindS h
            refine evd_val (by as_aux_lemma => kernel_rfl) (st_idx (c := cI) (l := l) (i := s87) (kd := .i64) (sz := 1) (by as_aux_lemma => kernel_rfl) hx138 rfl) (by as_aux_lemma => kernel_rfl) (by as_aux_lemma => kernel_rfl) ?_
            refine evd_run 4 (by as_aux_lemma => kernel_rfl) ?_
            obtain ⟨x139, hx139, h⟩ := bindS h
            refine evd_val (by as_aux_lemma => kernel_rfl) (st_idx (c := cI) (l := l) (i := (isub s87 1)) (kd := .i64) (sz := 1) (by as_aux_lemma => kernel_rfl) hx139 rfl) (by as_aux_lemma => kernel_rfl) (by as_aux_lemma => kernel_rfl) ?_
            refine evd_run 1 (by as_aux_lemma => kernel_rfl) ?_
            refine evd_end (by as_aux_lemma => kernel_rfl) ?_
            refine evo_run 3 (by as_aux_lemma => kernel_rfl) ?_
            refine evo_endS (by as_aux_lemma => kernel_rfl) (fun τ hτ => ?_)
            obtain rfl := Option.some.inj h
            exact leafC hτ (here (by as_aux_lemma => kernel_rfl))
          · replace h := iteF hb h
            refine evd_run 9 (by as_aux_lemma => kernel_rfl) ?_
            refine evd_end (by as_aux_lemma => kernel_rfl) ?_
            refine evo_run 3 (by as_aux_lemma => kernel_rfl) ?_
            refine evo_endS (by as_aux_lemma => kernel_rfl) (fun τ hτ => ?_)
            obtain rfl := Option.some.inj h
            exact leafC hτ (here (by as_aux_lemma => kernel_rfl))
        · replace h := iteF hb h
          refine evd_run 12 (by as_aux_lemma => kernel_rfl) ?_
          refine evd_end (by as_aux_lemma => kernel_rfl) ?_
          refine evo_run 3 (by as_aux_lemma => kernel_rfl) ?_
          refine evo_endS (by as_aux_lemma => kernel_rfl) (fun τ hτ => ?_)
          obtain rfl := Option.some.inj h
          exact leafC hτ (here (by as_aux_lemma => kernel_rfl))
      refine th_normalS hτ ⟨[(0, (.sl (List.map cI l))), (3, (vI s87)), (31, (vB j135))], []⟩ (here (by as_aux_lemma => kernel_rfl)) ?_
      refine sem_cond j135 (by as_aux_lemma => kernel_rfl) (by as_aux_lemma => kernel_rfl) (fun hb => ?_) (fun hb => ?_)
      · replace h := iteT hb h
        refine sem_seq (by as_aux_lemma => kernel_rfl) ?_
        refine sem_region (by as_aux_lemma => kernel_rfl) ?_
        refine evs_run 1 (by as_aux_lemma => kernel_rfl) ?_
        refine evs_endS (by as_aux_lemma => kernel_rfl) (fun τ hτ => ?_)
        refine th_normalS hτ ⟨[(2, (vB false))], []⟩ (here (by as_aux_lemma => kernel_rfl)) ?_
        refine sem_retS (by as_aux_lemma => kernel_rfl) (fun τ hτ => ?_)
        refine bl_ret ?_
        refine th_ret ?_
        obtain rfl := Option.some.inj h
        exact lk_outS hτ rfl (here (by as_aux_lemma => kernel_rfl))
      · replace h := iteF hb h
        refine sem_skipS (by as_aux_lemma => kernel_rfl) (fun τ hτ => ?_)
        refine bl_normal ?_
        refine th_normalS hτ ⟨[(0, (.sl (List.map cI l))), (3, (vI s87))], []⟩ (here (by as_aux_lemma => kernel_rfl)) ?_
        refine sem_region (by as_aux_lemma => kernel_rfl) ?_
        refine evs_run 3 (by as_aux_lemma => kernel_rfl) ?_
        refine evs_endS (by as_aux_lemma => kernel_rfl) (fun τ hτ => ?_)
        obtain rfl := Option.some.inj h
        exact lk_nextS hτ (here (by as_aux_lemma => kernel_rfl))
    · replace h := iteF hb h
      refine sem_exitS 0 (by as_aux_lemma => kernel_rfl) rfl (fun τ hτ => ?_)
      refine th_exit ?_
      obtain rfl := Option.some.inj h
      exact lk_outS hτ rfl (here (by as_aux_lemma => kernel_rfl))
  · intro x
    rcases x with _ | _ <;> rfl
  · intro τ hτ
    rcases x140 with j141 | j142
    · refine bl_ret ?_
      refine th_ret ?_
      obtain rfl := Option.some.inj h
      exact rk_ret hτ [(2, (vB false))] (here (by as_aux_lemma => kernel_rfl)) (by as_aux_lemma => kernel_rfl)
    · refine bl_hit (by as_aux_lemma => kernel_rfl) ?_
      refine th_normalS hτ ⟨[], []⟩ (here (by as_aux_lemma => kernel_rfl)) ?_
      refine sem_seq (by as_aux_lemma => kernel_rfl) ?_
      refine sem_region (by as_aux_lemma => kernel_rfl) ?_
      refine evs_run 1 (by as_aux_lemma => kernel_rfl) ?_
      refine evs_endS (by as_aux_lemma => kernel_rfl) (fun τ hτ => ?_)
      refine th_normalS hτ ⟨[(2, (vB true))], []⟩ (here (by as_aux_lemma => kernel_rfl)) ?_
      refine sem_retS (by as_aux_lemma => kernel_rfl) (fun τ hτ => ?_)
      obtain rfl := Option.some.inj h
      exact rk_ret hτ [(2, (vB true))] (here (by as_aux_lemma => kernel_rfl)) (by as_aux_lemma => kernel_rfl)
theorem W.sheetmetalref05_Validate_ok {needs : (List (List Int))} {r : Int} (h : sheetmetalref05_Validate needs = some r) : PC G.P 38 [(.sl (List.map (cS cI) needs))] [] (vI r) [] := by
  refine pc_of G (fn := Try.f38) Try.func38 (by as_aux_lemma => kernel_rfl) (by as_aux_lemma => kernel_rfl) (by as_aux_lemma => kernel_rfl) (by as_aux_lemma => kernel_rfl) (by as_aux_lemma => kernel_rfl) ?_
  refine sem_set ⟨[(0, (.sl (List.map (cS cI) needs)))], []⟩ (by as_aux_lemma => kernel_rfl) ?_
  refine sem_seq (by as_aux_lemma => kernel_rfl) ?_
  refine sem_region (by as_aux_lemma => kernel_rfl) ?_
  refine evs_run 1 (by as_aux_lemma => kernel_rfl) ?_
  refine evs_endS (by as_aux_lemma => kernel_rfl) (fun τ hτ => ?_)
  refine th_normalS hτ ⟨[(0, (.sl (List.map (cS cI) needs)))], []⟩ (here (by as_aux_lemma => kernel_rfl)) ?_
  refine sem_seq (by as_aux_lemma => kernel_rfl) ?_
  refine sem_seq (by as_aux_lemma => kernel_rfl) ?_
  refine sem_region (by as_aux_lemma => kernel_rfl) ?_
  refine evs_run 1 (by as_aux_lemma => kernel_rfl) ?_
  refine evs_op (st_len (c := (cS cI)) (l := needs) (x := (.sl (List.map (cS cI) needs))) (by as_aux_lemma => kernel_rfl) (by as_aux_lemma => kernel_rfl)) ?_
  refine evs_run 1 (by as_aux_lemma => kernel_rfl) ?_
  refine evs_endS (by as_aux_lemma => kernel_rfl) (fun τ hτ => ?_)
  refine th_normalS hτ ⟨[(0, (.sl (List.map (cS cI) needs))), (6, (vB (decide ((needs.length : Int) > 24))))], []⟩ (here (by as_aux_lemma => kernel_rfl)) ?_
  refine sem_cond (decide ((needs.length : Int) > 24)) (by as_aux_lemma => kernel_rfl) (by as_aux_lemma => kernel_rfl) (fun hb => ?_) (fun hb => ?_)
  · replace h := iteT hb h
    refine sem_seq (by as_aux_lemma => kernel_rfl) ?_
    refine sem_region (by as_aux_lemma => kernel_rfl) ?_
    refine evs_run 1 (by as_aux_lemma => kernel_rfl) ?_
    refine evs_endS (by as_aux_lemma => kernel_rfl) (fun τ hτ => ?_)
    refine th_normalS hτ ⟨[(2, (vI 4))], []⟩ (here (by as_aux_lemma => kernel_rfl)) ?_
    refine sem_retS (by as_aux_lemma => kernel_rfl) (fun τ hτ => ?_)
    refine th_ret ?_
    obtain rfl := Option.some.inj h
    exact rk_ret hτ [(2, (vI 4))] (here (by as_aux_lemma => kernel_rfl)) (by as_aux_lemma => kernel_rfl)
  · replace h := iteF hb h
    refine sem_skipS (by as_aux_lemma => kernel_rfl) (fun τ hτ => ?_)
    refine th_normalS hτ ⟨[(0, (.sl (List.map (cS cI) needs)))], []⟩ (here (by as_aux_lemma => kernel_rfl)) ?_
    refine sem_seq (by as_aux_lemma => kernel_rfl) ?_
    refine sem_seq (by as_aux_lemma => kernel_rfl) ?_
    refine sem_region (by as_aux_lemma => kernel_rfl) ?_
    refine evs_run 1 (by as_aux_lemma => kernel_rfl) ?_
    refine evs_endS (by as_aux_lemma => kernel_rfl) (fun τ hτ => ?_)
    refine th_normalS hτ ⟨[(0, (.sl (List.map (cS cI) needs))), (3, (vI 0))], []⟩ (here (by as_aux_lemma => kernel_rfl)) ?_
    refine sem_block (by as_aux_lemma => kernel_rfl) ?_
    obtain ⟨x92, hx92, h⟩ := bindS h
    refine sem_loopS (fun (s63 : Int) => ⟨[(0, (.sl (List.map (cS cI) needs))), (3, (vI s63))], []⟩) (fun (x92 : Unit ⊕ Unit) => match x92 with | .inl j93 => (.ret, ⟨[(2, (vI 1))], []⟩) | .inr j94 => (.exit 0, ⟨[], []⟩)) (sheetmetalref05_Validate_l1 needs) 0 x92 (by as_aux_lemma => kernel_rfl) (here (by as_aux_lemma => kernel_rfl)) hx92 ?_ ?_ ?_
    · intro s63 r h
      refine sem_seq (by as_aux_lemma => kernel_rfl) ?_
      refine sem_seq (by as_aux_lemma => kernel_rfl) ?_
      refine sem_region (by as_aux_lemma => kernel_rfl) ?_
      refine evs_run 2 (by as_aux_lemma => kernel_rfl) ?_
      refine evs_op (st_len (c := (cS cI)) (l := needs) (x := (.sl (List.map (cS cI) needs))) (by as_aux_lemma => kernel_rfl) (by as_aux_lemma => kernel_rfl)) ?_
      refine evs_run 1 (by as_aux_lemma => kernel_rfl) ?_
      refine evs_endS (by as_aux_lemma => kernel_rfl) (fun τ hτ => ?_)
      refine th_normalS hτ ⟨[(0, (.sl (List.map (cS cI) needs))), (3, (vI s63)), (10, (vB (decide (s63 < (needs.length : Int)))))], []⟩ (here (by as_aux_lemma => kernel_rfl)) ?_
      refine sem_cond (decide (s63 < (needs.length : Int))) (by as_aux_lemma => kernel_rfl) (by as_aux_lemma => kernel_rfl) (fun hb => ?_) (fun hb => ?_)
      · replace h := iteT hb h
        refine sem_skipS (by as_aux_lemma => kernel_rfl) (fun τ hτ => ?_)
        refine th_normalS hτ ⟨[(0, (.sl (List.map (cS cI) needs))), (3, (vI s63))], []⟩ (here (by as_aux_lemma => kernel_rfl)) ?_
        refine sem_seq (by as_aux_lemma => kernel_rfl) ?_
        refine sem_block (by as_aux_lemma => kernel_rfl) ?_
        refine sem_seq (by as_aux_lemma => kernel_rfl) ?_
        obtain ⟨j88, hj88, h⟩ := bindS h
        refine sem_regionC ⟨[(0, (.sl (List.map (cS cI) needs))), (3, (vI s63)), (26, (vB j88))], []⟩ (by as_aux_lemma => kernel_rfl) ?_ (fun τ hτ => ?_)
        · replace h := hj88
          refine evs_run 2 (by as_aux_lemma => kernel_rfl) ?_
          obtain ⟨x89, hx89, h⟩ := bindS h
          refine evs_op (st_idx (c := (cS cI)) (l := needs) (i := s63) (kd := .i64) (sz := 1) (by as_aux_lemma => kernel_rfl) hx89 rfl) ?_
          refine evs_run 1 (by as_aux_lemma => kernel_rfl) ?_
          refine evs_op (st_len (c := cI) (l := x89) (x := (.sl (List.map cI x89))) (by as_aux_lemma => kernel_rfl) (by as_aux_lemma => kernel_rfl)) ?_
          refine evs_run 2 (by as_aux_lemma => kernel_rfl) ?_
          refine evs_split ((x89.length : Int) == 0) (fun b0 => ⟨[(0, (.sl (List.map (cS cI) needs))), (3, (vI s63)), (19, (vB b0))], []⟩) (by as_aux_lemma => kernel_rfl) (fun hb => ?_) (fun hb => ?_)
          · replace h := iteT hb h
            refine evs_run 7 (by as_aux_lemma => kernel_rfl) ?_
            refine evs_endS (by as_aux_lemma => kernel_rfl) (fun τ hτ => ?_)
            obtain rfl := Option.some.inj h
            exact leafC hτ (here (by as_aux_lemma => kernel_rfl))
          · replace h := iteF hb h
            refine evs_run 2 (by as_aux_lemma => kernel_rfl) ?_
            obtain ⟨x90, hx90, h⟩ := bindS h
            refine evs_op (st_idx (c := (cS cI)) (l := needs) (i := s63) (kd := .i64) (sz := 1) (by as_aux_lemma => kernel_rfl) hx90 rfl) ?_
            refine evs_run 1 (by as_aux_lemma => kernel_rfl) ?_
            obtain ⟨r91, hr91, h⟩ := bindS h
            refine evs_callS [] [] [] (by as_aux_lemma => kernel_rfl) (W.sheetmetalref05_isSet_ok hr91) (by as_aux_lemma => kernel_rfl) (by as_aux_lemma => kernel_rfl) (.inl rfl) ?_
            refine evs_run 2 (by as_aux_lemma => kernel_rfl) ?_
            refine evs_endS (by as_aux_lemma => kernel_rfl) (fun τ hτ => ?_)
            obtain rfl := Option.some.inj h
            exact leafC hτ (here (by as_aux_lemma => kernel_rfl))
        refine th_normalS hτ ⟨[(0, (.sl (List.map (cS cI) needs))), (3, (vI s63)), (26, (vB j88))], []⟩ (here (by as_aux_lemma => kernel_rfl)) ?_
        refine sem_cond j88 (by as_aux_lemma => kernel_rfl) (by as_aux_lemma => kernel_rfl) (fun hb => ?_) (fun hb => ?_)
        · replace h := iteT hb h
          refine sem_seq (by as_aux_lemma => kernel_rfl) ?_
          refine sem_region (by as_aux_lemma => kernel_rfl) ?_
          refine evs_run 1 (by as_aux_lemma => kernel_rfl) ?_
          refine evs_endS (by as_aux_lemma => kernel_rfl) (fun τ hτ => ?_)
          refine th_normalS hτ ⟨[(2, (vI 1))], []⟩ (here (by as_aux_lemma => kernel_rfl)) ?_
          refine sem_retS (by as_aux_lemma => kernel_rfl) (fun τ hτ => ?_)
          refine bl_ret ?_
          refine th_ret ?_
          obtain rfl := Option.some.inj h
          exact lk_outS hτ rfl (here (by as_aux_lemma => kernel_rfl))
        · replace h := iteF hb h
          refine sem_skipS (by as_aux_lemma => kernel_rfl) (fun τ hτ => ?_)
          refine bl_normal ?_
          refine th_normalS hτ ⟨[(0, (.sl (List.map (cS cI) needs))), (3, (vI s63))], []⟩ (here (by as_aux_lemma => kernel_rfl)) ?_
          refine sem_region (by as_aux_lemma => kernel_rfl) ?_
          refine evs_run 3 (by as_aux_lemma => kernel_rfl) ?_
          refine evs_endS (by as_aux_lemma => kernel_rfl) (fun τ hτ => ?_)
          obtain rfl := Option.some.inj h
          exact lk_nextS hτ (here (by as_aux_lemma => kernel_rfl))
      · replace h := iteF hb h
        refine sem_exitS 0 (by as_aux_lemma => kernel_rfl) rfl (fun τ hτ => ?_)
        refine th_exit ?_
        obtain rfl := Option.some.inj h
        exact lk_outS hτ rfl (here (by as_aux_lemma => kernel_rfl))
    · intro x
      rcases x with _ | _ <;> rfl
    · intro τ hτ
      rcases x92 with j93 | j94
      · refine bl_ret ?_
        refine th_ret ?_
        obtain rfl := Option.some.inj h
        exact rk_ret hτ [(2, (vI 1))] (here (by as_aux_lemma => kernel_rfl)) (by as_aux_lemma => kernel_rfl)
      · refine bl_hit (by as_aux_lemma => kernel_rfl) ?_
        refine th_normalS hτ ⟨[], []⟩ (here (by as_aux_lemma => kernel_rfl)) ?_
        refine sem_seq (by as_aux_lemma => kernel_rfl) ?_
        refine sem_region (by as_aux_lemma => kernel_rfl) ?_
        refine evs_run 1 (by as_aux_lemma => kernel_rfl) ?_
        refine evs_endS (by as_aux_lemma => kernel_rfl) (fun τ hτ => ?_)
        refine th_normalS hτ ⟨[(2, (vI 0))], []⟩ (here (by as_aux_lemma => kernel_rfl)) ?_
        refine sem_retS (by as_aux_lemma => kernel_rfl) (fun τ hτ => ?_)
        obtain rfl := Option.some.inj h
        exact rk_ret hτ [(2, (vI 0))] (here (by as_aux_lemma => kernel_rfl)) (by as_aux_lemma => kernel_rfl)
theorem W.sheetmetalref05_Check0_ok {needs : (List (List Int))} {stations : Int} {r : Int} (h : sheetmetalref05_Check0 needs stations = some r) : PC G.P 47 [(.sl (List.map (cS cI) needs)), (vI stations)] [] (vI r) [] := by
  refine pc_of G (fn := Try.f47) Try.func47 (by as_aux_lemma => kernel_rfl) (by as_aux_lemma => kernel_rfl) (by as_aux_lemma => kernel_rfl) (by as_aux_lemma => kernel_rfl) (by as_aux_lemma => kernel_rfl) ?_
  refine sem_set ⟨[(0, (.sl (List.map (cS cI) needs))), (1, (vI stations))], []⟩ (by as_aux_lemma => kernel_rfl) ?_
  refine sem_seq (by as_aux_lemma => kernel_rfl) ?_
  refine sem_region (by as_aux_lemma => kernel_rfl) ?_
  refine evs_run 1 (by as_aux_lemma => kernel_rfl) ?_
  refine evs_endS (by as_aux_lemma => kernel_rfl) (fun τ hτ => ?_)
  refine th_normalS hτ ⟨[(0, (.sl (List.map (cS cI) needs))), (1, (vI stations))], []⟩ (here (by as_aux_lemma => kernel_rfl)) ?_
  refine sem_seq (by as_aux_lemma => kernel_rfl) ?_
  refine sem_seq (by as_aux_lemma => kernel_rfl) ?_
  refine sem_region (by as_aux_lemma => kernel_rfl) ?_
  refine evs_run 1 (by as_aux_lemma => kernel_rfl) ?_
  obtain ⟨r4, hr4, h⟩ := bindS h
  refine evs_callS [] [] [] (by as_aux_lemma => kernel_rfl) (W.sheetmetalref05_Validate_ok hr4) (by as_aux_lemma => kernel_rfl) (by as_aux_lemma => kernel_rfl) (.inl rfl) ?_
  refine evs_run 1 (by as_aux_lemma => kernel_rfl) ?_
  refine evs_endS (by as_aux_lemma => kernel_rfl) (fun τ hτ => ?_)
  refine th_normalS hτ ⟨[(1, (vI stations)), (5, (vI r4))], []⟩ (here (by as_aux_lemma => kernel_rfl)) ?_
  refine sem_seq (by as_aux_lemma => kernel_rfl) ?_
  refine sem_region (by as_aux_lemma => kernel_rfl) ?_
  refine evs_run 2 (by as_aux_lemma => kernel_rfl) ?_
  refine evs_endS (by as_aux_lemma => kernel_rfl) (fun τ hτ => ?_)
  refine th_normalS hτ ⟨[(1, (vI stations)), (5, (vI r4)), (9, (vB (r4 != 0)))], []⟩ (here (by as_aux_lemma => kernel_rfl)) ?_
  refine sem_cond (r4 != 0) (by as_aux_lemma => kernel_rfl) (by as_aux_lemma => kernel_rfl) (fun hb => ?_) (fun hb => ?_)
  · replace h := iteT hb h
    refine sem_seq (by as_aux_lemma => kernel_rfl) ?_
    refine sem_region (by as_aux_lemma => kernel_rfl) ?_
    refine evs_run 2 (by as_aux_lemma => kernel_rfl) ?_
    refine evs_endS (by as_aux_lemma => kernel_rfl) (fun τ hτ => ?_)
    refine th_normalS hτ ⟨[(4, (vI r4))], []⟩ (here (by as_aux_lemma => kernel_rfl)) ?_
    refine sem_retS (by as_aux_lemma => kernel_rfl) (fun τ hτ => ?_)
    refine th_ret ?_
    obtain rfl := Option.some.inj h
    exact rk_ret hτ [(4, (vI r4))] (here (by as_aux_lemma => kernel_rfl)) (by as_aux_lemma => kernel_rfl)
  · replace h := iteF hb h
    refine sem_skipS (by as_aux_lemma => kernel_rfl) (fun τ hτ => ?_)
    refine th_normalS hτ ⟨[(1, (vI stations))], []⟩ (here (by as_aux_lemma => kernel_rfl)) ?_
    refine sem_seq (by as_aux_lemma => kernel_rfl) ?_
    refine sem_seq (by as_aux_lemma => kernel_rfl) ?_
    refine sem_region (by as_aux_lemma => kernel_rfl) ?_
    refine evs_run 1 (by as_aux_lemma => kernel_rfl) ?_
    obtain ⟨r8, hr8, h⟩ := bindS h
    refine evs_callS [] [] [] (by as_aux_lemma => kernel_rfl) (W.sheetmetalref05_within_ok hr8) (by as_aux_lemma => kernel_rfl) (by as_aux_lemma => kernel_rfl) (.inl rfl) ?_
    refine evs_run 1 (by as_aux_lemma => kernel_rfl) ?_
    refine evs_endS (by as_aux_lemma => kernel_rfl) (fun τ hτ => ?_)
    refine th_normalS hτ ⟨[(13, (vB (!r8)))], []⟩ (here (by as_aux_lemma => kernel_rfl)) ?_
    refine sem_cond (!r8) (by as_aux_lemma => kernel_rfl) (by as_aux_lemma => kernel_rfl) (fun hb => ?_) (fun hb => ?_)
    · replace h := iteT hb h
      refine sem_seq (by as_aux_lemma => kernel_rfl) ?_
      refine sem_region (by as_aux_lemma => kernel_rfl) ?_
      refine evs_run 1 (by as_aux_lemma => kernel_rfl) ?_
      refine evs_endS (by as_aux_lemma => kernel_rfl) (fun τ hτ => ?_)
      refine th_normalS hτ ⟨[(4, (vI 1))], []⟩ (here (by as_aux_lemma => kernel_rfl)) ?_
      refine sem_retS (by as_aux_lemma => kernel_rfl) (fun τ hτ => ?_)
      refine th_ret ?_
      obtain rfl := Option.some.inj h
      exact rk_ret hτ [(4, (vI 1))] (here (by as_aux_lemma => kernel_rfl)) (by as_aux_lemma => kernel_rfl)
    · replace h := iteF hb h
      refine sem_skipS (by as_aux_lemma => kernel_rfl) (fun τ hτ => ?_)
      refine th_normalS hτ ⟨[], []⟩ (here (by as_aux_lemma => kernel_rfl)) ?_
      refine sem_seq (by as_aux_lemma => kernel_rfl) ?_
      refine sem_region (by as_aux_lemma => kernel_rfl) ?_
      refine evs_run 1 (by as_aux_lemma => kernel_rfl) ?_
      refine evs_endS (by as_aux_lemma => kernel_rfl) (fun τ hτ => ?_)
      refine th_normalS hτ ⟨[(4, (vI 0))], []⟩ (here (by as_aux_lemma => kernel_rfl)) ?_
      refine sem_retS (by as_aux_lemma => kernel_rfl) (fun τ hτ => ?_)
      obtain rfl := Option.some.inj h
      exact rk_ret hτ [(4, (vI 0))] (here (by as_aux_lemma => kernel_rfl)) (by as_aux_lemma => kernel_rfl)
theorem W.sheetmetalref05_windowIn_ok {needs : (List (List Int))} {w : Window} {r : Bool} (h : sheetmetalref05_windowIn needs w = some r) : PC G.P 48 [(.sl (List.map (cS cI) needs)), (.agg [(vI w.From), (vI w.To)])] [] (vB r) [] := by
  refine pc_of G (fn := Try.f48) Try.func48 (by as_aux_lemma => kernel_rfl) (by as_aux_lemma => kernel_rfl) (by as_aux_lemma => kernel_rfl) (by as_aux_lemma => kernel_rfl) (by as_aux_lemma => kernel_rfl) ?_
  refine sem_set ⟨[(0, (.sl (List.map (cS cI) needs))), (1, (.agg [(vI w.From), (vI w.To)]))], []⟩ (by as_aux_lemma => kernel_rfl) ?_
  refine sem_seq (by as_aux_lemma => kernel_rfl) ?_
  refine sem_region (by as_aux_lemma => kernel_rfl) ?_
  refine evs_run 2 (by as_aux_lemma => kernel_rfl) ?_
  refine evs_endS (by as_aux_lemma => kernel_rfl) (fun τ hτ => ?_)
  refine th_normalS hτ ⟨[(0, (.sl (List.map (cS cI) needs))), (3, (.ptr 3 0))], [(3, .box [(vI w.From), (vI w.To)])]⟩ (here (by as_aux_lemma => kernel_rfl)) ?_
  refine sem_seq (by as_aux_lemma => kernel_rfl) ?_
  obtain ⟨j3, hj3, h⟩ := bindS h
  refine sem_regionC ⟨[(4, (vB j3))], []⟩ (by as_aux_lemma => kernel_rfl) ?_ (fun τ hτ => ?_)
  · replace h := hj3
    refine evs_run 4 (by as_aux_lemma => kernel_rfl) ?_
    obtain ⟨r4, hr4, h⟩ := bindS h
    refine evs_callS [] [] [] (by as_aux_lemma => kernel_rfl) (W.sheetmetalref05_within_ok hr4) (by as_aux_lemma => kernel_rfl) (by as_aux_lemma => kernel_rfl) (.inl rfl) ?_
    refine evs_run 1 (by as_aux_lemma => kernel_rfl) ?_
    refine evs_split r4 (fun b0 => ⟨[(0, (.sl (List.map (cS cI) needs))), (3, (.ptr 3 0)), (10, (vB b0))], [(3, .box [(vI w.From), (vI w.To)])]⟩) (by as_aux_lemma => kernel_rfl) (fun hb => ?_) (fun hb => ?_)
    · replace h := iteT hb h
      refine evs_run 3 (by as_aux_lemma => kernel_rfl) ?_
      refine evs_op (st_len (c := (cS cI)) (l := needs) (x := (.sl (List.map (cS cI) needs))) (by as_aux_lemma => kernel_rfl) (by as_aux_lemma => kernel_rfl)) ?_
      refine evs_run 1 (by as_aux_lemma => kernel_rfl) ?_
      obtain ⟨r5, hr5, h⟩ := bindS h
      refine evs_callS [] [] [] (by as_aux_lemma => kernel_rfl) (W.sheetmetalref05_within_ok hr5) (by as_aux_lemma => kernel_rfl) (by as_aux_lemma => kernel_rfl) (.inl rfl) ?_
      refine evs_run 2 (by as_aux_lemma => kernel_rfl) ?_
      refine evs_endS (by as_aux_lemma => kernel_rfl) (fun τ hτ => ?_)
      obtain rfl := Option.some.inj h
      exact leafC hτ (here (by as_aux_lemma => kernel_rfl))
    · replace h := iteF hb h
      refine evs_run 8 (by as_aux_lemma => kernel_rfl) ?_
      refine evs_endS (by as_aux_lemma => kernel_rfl) (fun τ hτ => ?_)
      obtain rfl := Option.some.inj h
      exact leafC hτ (here (by as_aux_lemma => kernel_rfl))
  refine th_normalS hτ ⟨[(4, (vB j3))], []⟩ (here (by as_aux_lemma => kernel_rfl)) ?_
  refine sem_retS (by as_aux_lemma => kernel_rfl) (fun τ hτ => ?_)
  obtain rfl := Option.some.inj h
  exact rk_ret hτ [(4, (vB j3))] (here (by as_aux_lemma => kernel_rfl)) (by as_aux_lemma => kernel_rfl)
theorem W.sheetmetalref05_count_ok {n : Int} {r : Int} (h : sheetmetalref05_count n = some r) : PC G.P 79 [(vI n)] [] (vI r) [] := by
  refine pc_of G (fn := Try.f79) Try.func79 (by as_aux_lemma => kernel_rfl) (by as_aux_lemma => kernel_rfl) (by as_aux_lemma => kernel_rfl) (by as_aux_lemma => kernel_rfl) (by as_aux_lemma => kernel_rfl) ?_
  refine sem_set ⟨[(0, (vI n))], []⟩ (by as_aux_lemma => kernel_rfl) ?_
  refine sem_seq (by as_aux_lemma => kernel_rfl) ?_
  refine sem_region (by as_aux_lemma => kernel_rfl) ?_
  refine evs_run 1 (by as_aux_lemma => kernel_rfl) ?_
  refine evs_endS (by as_aux_lemma => kernel_rfl) (fun τ hτ => ?_)
  refine th_normalS hτ ⟨[(0, (vI n))], []⟩ (here (by as_aux_lemma => kernel_rfl)) ?_
  refine sem_seq (by as_aux_lemma => kernel_rfl) ?_
  refine sem_region (by as_aux_lemma => kernel_rfl) ?_
  refine evs_run 1 (by as_aux_lemma => kernel_rfl) ?_
  refine evs_endS (by as_aux_lemma => kernel_rfl) (fun τ hτ => ?_)
  refine th_normalS hτ ⟨[(0, (vI n)), (3, (vI 0))], []⟩ (here (by as_aux_lemma => kernel_rfl)) ?_
  refine sem_seq (by as_aux_lemma => kernel_rfl) ?_
  refine sem_block (by as_aux_lemma => kernel_rfl) ?_
  obtain ⟨x6, hx6, h⟩ := bindS h
  refine sem_loopS (fun (s5 : Int × Int) => ⟨[(0, (vI s5.1)), (3, (vI s5.2))], []⟩) (fun (x6 : Int) => (.exit 0, ⟨[(3, (vI x6))], []⟩)) (sheetmetalref05_count_l1) (n, 0) x6 (by as_aux_lemma => kernel_rfl) (here (by as_aux_lemma => kernel_rfl)) hx6 ?_ ?_ ?_
  · intro s5 r h
    refine sem_seq (by as_aux_lemma => kernel_rfl) ?_
    refine sem_seq (by as_aux_lemma => kernel_rfl) ?_
    refine sem_region (by as_aux_lemma => kernel_rfl) ?_
    refine evs_run 2 (by as_aux_lemma => kernel_rfl) ?_
    refine evs_endS (by as_aux_lemma => kernel_rfl) (fun τ hτ => ?_)
    refine th_normalS hτ ⟨[(0, (vI s5.1)), (3, (vI s5.2)), (5, (vB (decide (s5.1 > 0))))], []⟩ (here (by as_aux_lemma => kernel_rfl)) ?_
    refine sem_cond (decide (s5.1 > 0)) (by as_aux_lemma => kernel_rfl) (by as_aux_lemma => kernel_rfl) (fun hb => ?_) (fun hb => ?_)
    · replace h := iteT hb h
      refine sem_skipS (by as_aux_lemma => kernel_rfl) (fun τ hτ => ?_)
      refine th_normalS hτ ⟨[(0, (vI s5.1)), (3, (vI s5.2))], []⟩ (here (by as_aux_lemma => kernel_rfl)) ?_
      refine sem_block (by as_aux_lemma => kernel_rfl) ?_
      refine sem_seq (by as_aux_lemma => kernel_rfl) ?_
      refine sem_region (by as_aux_lemma => kernel_rfl) ?_
      refine evs_run 5 (by as_aux_lemma => kernel_rfl) ?_
      refine evs_endS (by as_aux_lemma => kernel_rfl) (fun τ hτ => ?_)
      refine th_normalS hτ ⟨[(0, (vI s5.1)), (3, (vI (iadd s5.2 (kand .i64 s5.1 1))))], []⟩ (here (by as_aux_lemma => kernel_rfl)) ?_
      refine sem_region (by as_aux_lemma => kernel_rfl) ?_
      refine evs_run 3 (by as_aux_lemma => kernel_rfl) ?_
      refine evs_endS (by as_aux_lemma => kernel_rfl) (fun τ hτ => ?_)
      refine bl_normal ?_
      obtain rfl := Option.some.inj h
      exact lk_nextS hτ (here (by as_aux_lemma => kernel_rfl))
    · replace h := iteF hb h
      refine sem_exitS 0 (by as_aux_lemma => kernel_rfl) rfl (fun τ hτ => ?_)
      refine th_exit ?_
      obtain rfl := Option.some.inj h
      exact lk_outS hτ rfl (here (by as_aux_lemma => kernel_rfl))
  · intro x
    rfl
  · intro τ hτ
    refine bl_hit (by as_aux_lemma => kernel_rfl) ?_
    refine th_normalS hτ ⟨[(3, (vI x6))], []⟩ (here (by as_aux_lemma => kernel_rfl)) ?_
    refine sem_seq (by as_aux_lemma => kernel_rfl) ?_
    refine sem_region (by as_aux_lemma => kernel_rfl) ?_
    refine evs_run 2 (by as_aux_lemma => kernel_rfl) ?_
    refine evs_endS (by as_aux_lemma => kernel_rfl) (fun τ hτ => ?_)
    refine th_normalS hτ ⟨[(2, (vI x6))], []⟩ (here (by as_aux_lemma => kernel_rfl)) ?_
    refine sem_retS (by as_aux_lemma => kernel_rfl) (fun τ hτ => ?_)
    obtain rfl := Option.some.inj h
    exact rk_ret hτ [(2, (vI x6))] (here (by as_aux_lemma => kernel_rfl)) (by as_aux_lemma => kernel_rfl)
theorem W.sheetmetalref05_bits_ok {l : (List Int)} {r : Int} (h : sheetmetalref05_bits l = some r) : PC G.P 54 [(.sl (List.map cI l))] [] (vI r) [] := by
  refine pc_of G (fn := Try.f54) Try.func54 (by as_aux_lemma => kernel_rfl) (by as_aux_lemma => kernel_rfl) (by as_aux_lemma => kernel_rfl) (by as_aux_lemma => kernel_rfl) (by as_aux_lemma => kernel_rfl) ?_
  refine sem_set ⟨[(0, (.sl (List.map cI l)))], []⟩ (by as_aux_lemma => kernel_rfl) ?_
  refine sem_seq (by as_aux_lemma => kernel_rfl) ?_
  refine sem_region (by as_aux_lemma => kernel_rfl) ?_
  refine evs_run 1 (by as_aux_lemma => kernel_rfl) ?_
  refine evs_endS (by as_aux_lemma => kernel_rfl) (fun τ hτ => ?_)
  refine th_normalS hτ ⟨[(0, (.sl (List.map cI l)))], []⟩ (here (by as_aux_lemma => kernel_rfl)) ?_
  refine sem_seq (by as_aux_lemma => kernel_rfl) ?_
  refine sem_region (by as_aux_lemma => kernel_rfl) ?_
  refine evs_run 1 (by as_aux_lemma => kernel_rfl) ?_
  refine evs_endS (by as_aux_lemma => kernel_rfl) (fun τ hτ => ?_)
  refine th_normalS hτ ⟨[(0, (.sl (List.map cI l))), (3, (vI 0))], []⟩ (here (by as_aux_lemma => kernel_rfl)) ?_
  refine sem_seq (by as_aux_lemma => kernel_rfl) ?_
  refine sem_seq (by as_aux_lemma => kernel_rfl) ?_
  refine sem_region (by as_aux_lemma => kernel_rfl) ?_
  refine evs_run 1 (by as_aux_lemma => kernel_rfl) ?_
  refine evs_endS (by as_aux_lemma => kernel_rfl) (fun τ hτ => ?_)
  refine th_normalS hτ ⟨[(0, (.sl (List.map cI l))), (3, (vI 0)), (4, (vI 0))], []⟩ (here (by as_aux_lemma => kernel_rfl)) ?_
  refine sem_block (by as_aux_lemma => kernel_rfl) ?_
  obtain ⟨x30, hx30, h⟩ := bindS h
  refine sem_loopS (fun (s21 : Int × Int) => ⟨[(0, (.sl (List.map cI l))), (3, (vI s21.1)), (4, (vI s21.2))], []⟩) (fun (x30 : Int) => (.exit 0, ⟨[(3, (vI x30))], []⟩)) (sheetmetalref05_bits_l1 l) (0, 0) x30 (by as_aux_lemma => kernel_rfl) (here (by as_aux_lemma => kernel_rfl)) hx30 ?_ ?_ ?_
  · intro s21 r h
    refine sem_seq (by as_aux_lemma => kernel_rfl) ?_
    refine sem_seq (by as_aux_lemma => kernel_rfl) ?_
    refine sem_region (by as_aux_lemma => kernel_rfl) ?_
    refine evs_run 2 (by as_aux_lemma => kernel_rfl) ?_
    refine evs_op (st_len (c := cI) (l := l) (x := (.sl (List.map cI l))) (by as_aux_lemma => kernel_rfl) (by as_aux_lemma => kernel_rfl)) ?_
    refine evs_run 1 (by as_aux_lemma => kernel_rfl) ?_
    refine evs_endS (by as_aux_lemma => kernel_rfl) (fun τ hτ => ?_)
    refine th_normalS hτ ⟨[(0, (.sl (List.map cI l))), (3, (vI s21.1)), (4, (vI s21.2)), (8, (vB (decide (s21.2 < (l.length : Int)))))], []⟩ (here (by as_aux_lemma => kernel_rfl)) ?_
    refine sem_cond (decide (s21.2 < (l.length : Int))) (by as_aux_lemma => kernel_rfl) (by as_aux_lemma => kernel_rfl) (fun hb => ?_) (fun hb => ?_)
    · replace h := iteT hb h
      refine sem_skipS (by as_aux_lemma => kernel_rfl) (fun τ hτ => ?_)
      refine th_normalS hτ ⟨[(0, (.sl (List.map cI l))), (3, (vI s21.1)), (4, (vI s21.2))], []⟩ (here (by as_aux_lemma => kernel_rfl)) ?_
      refine sem_seq (by as_aux_lemma => kernel_rfl) ?_
      refine sem_block (by as_aux_lemma => kernel_rfl) ?_
      refine sem_region (by as_aux_lemma => kernel_rfl) ?_
      refine evs_run 3 (by as_aux_lemma => kernel_rfl) ?_
      obtain ⟨x29, hx29, h⟩ := bindS h
      refine evs_op (st_idx (c := cI) (l := l) (i := s21.2) (kd := .i64) (sz := 1) (by as_aux_lemma => kernel_rfl) hx29 rfl) ?_
      refine evs_run 2 (by as_aux_lemma => kernel_rfl) ?_
      obtain ⟨hb, h⟩ := iteN h
      refine evs_op (st_shl (a := 1) (b := (IntKind.wrap .u64 x29)) (kd := .i64) (k2 := .u64) (by as_aux_lemma => kernel_rfl) (of_decide_eq_true hb)) ?_
      refine evs_run 2 (by as_aux_lemma => kernel_rfl) ?_
      refine evs_endS (by as_aux_lemma => kernel_rfl) (fun τ hτ => ?_)
      refine bl_normal ?_
      refine th_normalS hτ ⟨[(0, (.sl (List.map cI l))), (3, (vI (kor .i64 s21.1 (IntKind.wrap .i64 (1 * 2 ^ (min (Int.toNat (IntKind.wrap .u64 x29)) 64)))))), (4, (vI s21.2))], []⟩ (here (by as_aux_lemma => kernel_rfl)) ?_
      refine sem_region (by as_aux_lemma => kernel_rfl) ?_
      refine evs_run 3 (by as_aux_lemma => kernel_rfl) ?_
      refine evs_endS (by as_aux_lemma => kernel_rfl) (fun τ hτ => ?_)
      obtain rfl := Option.some.inj h
      exact lk_nextS hτ (here (by as_aux_lemma => kernel_rfl))
    · replace h := iteF hb h
      refine sem_exitS 0 (by as_aux_lemma => kernel_rfl) rfl (fun τ hτ => ?_)
      refine th_exit ?_
      obtain rfl := Option.some.inj h
      exact lk_outS hτ rfl (here (by as_aux_lemma => kernel_rfl))
  · intro x
    rfl
  · intro τ hτ
    refine bl_hit (by as_aux_lemma => kernel_rfl) ?_
    refine th_normalS hτ ⟨[(3, (vI x30))], []⟩ (here (by as_aux_lemma => kernel_rfl)) ?_
    refine sem_seq (by as_aux_lemma => kernel_rfl) ?_
    refine sem_region (by as_aux_lemma => kernel_rfl) ?_
    refine evs_run 2 (by as_aux_lemma => kernel_rfl) ?_
    refine evs_endS (by as_aux_lemma => kernel_rfl) (fun τ hτ => ?_)
    refine th_normalS hτ ⟨[(2, (vI x30))], []⟩ (here (by as_aux_lemma => kernel_rfl)) ?_
    refine sem_retS (by as_aux_lemma => kernel_rfl) (fun τ hτ => ?_)
    obtain rfl := Option.some.inj h
    exact rk_ret hτ [(2, (vI x30))] (here (by as_aux_lemma => kernel_rfl)) (by as_aux_lemma => kernel_rfl)
theorem W.sheetmetalref05_serves_ok {needs : (List (List Int))} {from1 : Int} {to2 : Int} {set3 : Int} {r : Bool} (h : sheetmetalref05_serves needs from1 to2 set3 = some r) : PC G.P 53 [(.sl (List.map (cS cI) needs)), (vI from1), (vI to2), (vI set3)] [] (vB r) [] := by
  refine pc_of G (fn := Try.f53) Try.func53 (by as_aux_lemma => kernel_rfl) (by as_aux_lemma => kernel_rfl) (by as_aux_lemma => kernel_rfl) (by as_aux_lemma => kernel_rfl) (by as_aux_lemma => kernel_rfl) ?_
  refine sem_set ⟨[(0, (.sl (List.map (cS cI) needs))), (1, (vI from1)), (2, (vI to2)), (3, (vI set3))], []⟩ (by as_aux_lemma => kernel_rfl) ?_
  refine sem_seq (by as_aux_lemma => kernel_rfl) ?_
  refine sem_region (by as_aux_lemma => kernel_rfl) ?_
  refine evs_run 1 (by as_aux_lemma => kernel_rfl) ?_
  refine evs_endS (by as_aux_lemma => kernel_rfl) (fun τ hτ => ?_)
  refine th_normalS hτ ⟨[(0, (.sl (List.map (cS cI) needs))), (1, (vI from1)), (2, (vI to2)), (3, (vI set3))], []⟩ (here (by as_aux_lemma => kernel_rfl)) ?_
  refine sem_seq (by as_aux_lemma => kernel_rfl) ?_
  refine sem_seq (by as_aux_lemma => kernel_rfl) ?_
  refine sem_region (by as_aux_lemma => kernel_rfl) ?_
  refine evs_run 2 (by as_aux_lemma => kernel_rfl) ?_
  refine evs_endS (by as_aux_lemma => kernel_rfl) (fun τ hτ => ?_)
  refine th_normalS hτ ⟨[(0, (.sl (List.map (cS cI) needs))), (2, (vI to2)), (3, (vI set3)), (9, (vI from1))], []⟩ (here (by as_aux_lemma => kernel_rfl)) ?_
  refine sem_block (by as_aux_lemma => kernel_rfl) ?_
  obtain ⟨x56, hx56, h⟩ := bindS h
  refine sem_loopS (fun (s39 : Int) => ⟨[(0, (.sl (List.map (cS cI) needs))), (2, (vI to2)), (3, (vI set3)), (9, (vI s39))], []⟩) (fun (x56 : Unit ⊕ Unit) => match x56 with | .inl j57 => (.ret, ⟨[(8, (vB false))], []⟩) | .inr j58 => (.exit 0, ⟨[], []⟩)) (sheetmetalref05_serves_l1 needs to2 set3) from1 x56 (by as_aux_lemma => kernel_rfl) (here (by as_aux_lemma => kernel_rfl)) hx56 ?_ ?_ ?_
  · intro s39 r h
    refine sem_seq (by as_aux_lemma => kernel_rfl) ?_
    refine sem_seq (by as_aux_lemma => kernel_rfl) ?_
    refine sem_region (by as_aux_lemma => kernel_rfl) ?_
    refine evs_run 3 (by as_aux_lemma => kernel_rfl) ?_
    refine evs_endS (by as_aux_lemma => kernel_rfl) (fun τ hτ => ?_)
    refine th_normalS hτ ⟨[(0, (.sl (List.map (cS cI) needs))), (2, (vI to2)), (3, (vI set3)), (9, (vI s39)), (13, (vB (decide (s39 ≤ to2))))], []⟩ (here (by as_aux_lemma => kernel_rfl)) ?_
    refine sem_cond (decide (s39 ≤ to2)) (by as_aux_lemma => kernel_rfl) (by as_aux_lemma => kernel_rfl) (fun hb => ?_) (fun hb => ?_)
    · replace h := iteT hb h
      refine sem_skipS (by as_aux_lemma => kernel_rfl) (fun τ hτ => ?_)
      refine th_normalS hτ ⟨[(0, (.sl (List.map (cS cI) needs))), (2, (vI to2)), (3, (vI set3)), (9, (vI s39))], []⟩ (here (by as_aux_lemma => kernel_rfl)) ?_
      refine sem_seq (by as_aux_lemma => kernel_rfl) ?_
      refine sem_block (by as_aux_lemma => kernel_rfl) ?_
      refine sem_seq (by as_aux_lemma => kernel_rfl) ?_
      refine sem_region (by as_aux_lemma => kernel_rfl) ?_
      refine evs_run 2 (by as_aux_lemma => kernel_rfl) ?_
      obtain ⟨x54, hx54, h⟩ := bindS h
      refine evs_op (st_idx (c := (cS cI)) (l := needs) (i := s39) (kd := .i64) (sz := 1) (by as_aux_lemma => kernel_rfl) hx54 rfl) ?_
      refine evs_run 1 (by as_aux_lemma => kernel_rfl) ?_
      obtain ⟨r55, hr55, h⟩ := bindS h
      refine evs_callS [] [] [] (by as_aux_lemma => kernel_rfl) (W.sheetmetalref05_bits_ok hr55) (by as_aux_lemma => kernel_rfl) (by as_aux_lemma => kernel_rfl) (.inl rfl) ?_
      refine evs_run 3 (by as_aux_lemma => kernel_rfl) ?_
      refine evs_endS (by as_aux_lemma => kernel_rfl) (fun τ hτ => ?_)
      refine th_normalS hτ ⟨[(0, (.sl (List.map (cS cI) needs))), (2, (vI to2)), (3, (vI set3)), (9, (vI s39)), (23, (vB ((kand .i64 r55 set3) == 0)))], []⟩ (here (by as_aux_lemma => kernel_rfl)) ?_
      refine sem_cond ((kand .i64 r55 set3) == 0) (by as_aux_lemma => kernel_rfl) (by as_aux_lemma => kernel_rfl) (fun hb => ?_) (fun hb => ?_)
      · replace h := iteT hb h
        refine sem_seq (by as_aux_lemma => kernel_rfl) ?_
        refine sem_region (by as_aux_lemma => kernel_rfl) ?_
        refine evs_run 1 (by as_aux_lemma => kernel_rfl) ?_
        refine evs_endS (by as_aux_lemma => kernel_rfl) (fun τ hτ => ?_)
        refine th_normalS hτ ⟨[(8, (vB false))], []⟩ (here (by as_aux_lemma => kernel_rfl)) ?_
        refine sem_retS (by as_aux_lemma => kernel_rfl) (fun τ hτ => ?_)
        refine bl_ret ?_
        refine th_ret ?_
        obtain rfl := Option.some.inj h
        exact lk_outS hτ rfl (here (by as_aux_lemma => kernel_rfl))
      · replace h := iteF hb h
        refine sem_skipS (by as_aux_lemma => kernel_rfl) (fun τ hτ => ?_)
        refine bl_normal ?_
        refine th_normalS hτ ⟨[(0, (.sl (List.map (cS cI) needs))), (2, (vI to2)), (3, (vI set3)), (9, (vI s39))], []⟩ (here (by as_aux_lemma => kernel_rfl)) ?_
        refine sem_region (by as_aux_lemma => kernel_rfl) ?_
        refine evs_run 3 (by as_aux_lemma => kernel_rfl) ?_
        refine evs_endS (by as_aux_lemma => kernel_rfl) (fun τ hτ => ?_)
        obtain rfl := Option.some.inj h
        exact lk_nextS hτ (here (by as_aux_lemma => kernel_rfl))
    · replace h := iteF hb h
      refine sem_exitS 0 (by as_aux_lemma => kernel_rfl) rfl (fun τ hτ => ?_)
      refine th_exit ?_
      obtain rfl := Option.some.inj h
      exact lk_outS hτ rfl (here (by as_aux_lemma => kernel_rfl))
  · intro x
    rcases x with _ | _ <;> rfl
  · intro τ hτ
    rcases x56 with j57 | j58
    · refine bl_ret ?_
      refine th_ret ?_
      obtain rfl := Option.some.inj h
      exact rk_ret hτ [(8, (vB false))] (here (by as_aux_lemma => kernel_rfl)) (by as_aux_lemma => kernel_rfl)
    · refine bl_hit (by as_aux_lemma => kernel_rfl) ?_
      refine th_normalS hτ ⟨[], []⟩ (here (by as_aux_lemma => kernel_rfl)) ?_
      refine sem_seq (by as_aux_lemma => kernel_rfl) ?_
      refine sem_region (by as_aux_lemma => kernel_rfl) ?_
      refine evs_run 1 (by as_aux_lemma => kernel_rfl) ?_
      refine evs_endS (by as_aux_lemma => kernel_rfl) (fun τ hτ => ?_)
      refine th_normalS hτ ⟨[(8, (vB true))], []⟩ (here (by as_aux_lemma => kernel_rfl)) ?_
      refine sem_retS (by as_aux_lemma => kernel_rfl) (fun τ hτ => ?_)
      obtain rfl := Option.some.inj h
      exact rk_ret hτ [(8, (vB true))] (here (by as_aux_lemma => kernel_rfl)) (by as_aux_lemma => kernel_rfl)
theorem W.sheetmetalref05_blocked_ok {needs : (List (List Int))} {stations : Int} {from2 : Int} {to3 : Int} {r : Bool} (h : sheetmetalref05_blocked needs stations from2 to3 = some r) : PC G.P 49 [(.sl (List.map (cS cI) needs)), (vI stations), (vI from2), (vI to3)] [] (vB r) [] := by
  refine pc_of G (fn := Try.f49) Try.func49 (by as_aux_lemma => kernel_rfl) (by as_aux_lemma => kernel_rfl) (by as_aux_lemma => kernel_rfl) (by as_aux_lemma => kernel_rfl) (by as_aux_lemma => kernel_rfl) ?_
  refine sem_set ⟨[(0, (.sl (List.map (cS cI) needs))), (1, (vI stations)), (2, (vI from2)), (3, (vI to3))], []⟩ (by as_aux_lemma => kernel_rfl) ?_
  refine sem_seq (by as_aux_lemma => kernel_rfl) ?_
  refine sem_region (by as_aux_lemma => kernel_rfl) ?_
  refine evs_run 1 (by as_aux_lemma => kernel_rfl) ?_
  refine evs_endS (by as_aux_lemma => kernel_rfl) (fun τ hτ => ?_)
  refine th_normalS hτ ⟨[(0, (.sl (List.map (cS cI) needs))), (1, (vI stations)), (2, (vI from2)), (3, (vI to3))], []⟩ (here (by as_aux_lemma => kernel_rfl)) ?_
  refine sem_seq (by as_aux_lemma => kernel_rfl) ?_
  refine sem_seq (by as_aux_lemma => kernel_rfl) ?_
  refine sem_region (by as_aux_lemma => kernel_rfl) ?_
  refine evs_run 1 (by as_aux_lemma => kernel_rfl) ?_
  refine evs_endS (by as_aux_lemma => kernel_rfl) (fun τ hτ => ?_)
  refine th_normalS hτ ⟨[(0, (.sl (List.map (cS cI) needs))), (1, (vI stations)), (2, (vI from2)), (3, (vI to3)), (9, (vI 0))], []⟩ (here (by as_aux_lemma => kernel_rfl)) ?_
  refine sem_block (by as_aux_lemma => kernel_rfl) ?_
  obtain ⟨x68, hx68, h⟩ := bindS h
  refine sem_loopS (fun (s47 : Int) => ⟨[(0, (.sl (List.map (cS cI) needs))), (1, (vI stations)), (2, (vI from2)), (3, (vI to3)), (9, (vI s47))], []⟩) (fun (x68 : Unit ⊕ Unit) => match x68 with | .inl j69 => (.ret, ⟨[(8, (vB false))], []⟩) | .inr j70 => (.exit 0, ⟨[], []⟩)) (sheetmetalref05_blocked_l1 needs stations from2 to3) 0 x68 (by as_aux_lemma => kernel_rfl) (here (by as_aux_lemma => kernel_rfl)) hx68 ?_ ?_ ?_
  · intro s47 r h
    refine sem_seq (by as_aux_lemma => kernel_rfl) ?_
    refine sem_seq (by as_aux_lemma => kernel_rfl) ?_
    refine sem_region (by as_aux_lemma => kernel_rfl) ?_
    refine evs_run 2 (by as_aux_lemma => kernel_rfl) ?_
    refine evs_endS (by as_aux_lemma => kernel_rfl) (fun τ hτ => ?_)
    refine th_normalS hτ ⟨[(0, (.sl (List.map (cS cI) needs))), (1, (vI stations)), (2, (vI from2)), (3, (vI to3)), (9, (vI s47)), (11, (vB (decide (s47 < 512))))], []⟩ (here (by as_aux_lemma => kernel_rfl)) ?_
    refine sem_cond (decide (s47 < 512)) (by as_aux_lemma => kernel_rfl) (by as_aux_lemma => kernel_rfl) (fun hb => ?_) (fun hb => ?_)
    · replace h := iteT hb h
      refine sem_skipS (by as_aux_lemma => kernel_rfl) (fun τ hτ => ?_)
      refine th_normalS hτ ⟨[(0, (.sl (List.map (cS cI) needs))), (1, (vI stations)), (2, (vI from2)), (3, (vI to3)), (9, (vI s47))], []⟩ (here (by as_aux_lemma => kernel_rfl)) ?_
      refine sem_seq (by as_aux_lemma => kernel_rfl) ?_
      refine sem_block (by as_aux_lemma => kernel_rfl) ?_
      refine sem_seq (by as_aux_lemma => kernel_rfl) ?_
      obtain ⟨j65, hj65, h⟩ := bindS h
      refine sem_regionC ⟨[(0, (.sl (List.map (cS cI) needs))), (1, (vI stations)), (2, (vI from2)), (3, (vI to3)), (9, (vI s47)), (24, (vB j65))], []⟩ (by as_aux_lemma => kernel_rfl) ?_ (fun τ hτ => ?_)
      · replace h := hj65
        refine evs_run 1 (by as_aux_lemma => kernel_rfl) ?_
        obtain ⟨r66, hr66, h⟩ := bindS h
        refine evs_callS [] [] [] (by as_aux_lemma => kernel_rfl) (W.sheetmetalref05_count_ok hr66) (by as_aux_lemma => kernel_rfl) (by as_aux_lemma => kernel_rfl) (.inl rfl) ?_
        refine evs_run 3 (by as_aux_lemma => kernel_rfl) ?_
        refine evs_split (decide (r66 ≤ stations)) (fun b0 => ⟨[(0, (.sl (List.map (cS cI) needs))), (1, (vI stations)), (2, (vI from2)), (3, (vI to3)), (9, (vI s47)), (18, (vB b0))], []⟩) (by as_aux_lemma => kernel_rfl) (fun hb => ?_) (fun hb => ?_)
        · replace h := iteT hb h
          refine evs_run 4 (by as_aux_lemma => kernel_rfl) ?_
          obtain ⟨r67, hr67, h⟩ := bindS h
          refine evs_callS [] [] [] (by as_aux_lemma => kernel_rfl) (W.sheetmetalref05_serves_ok hr67) (by as_aux_lemma => kernel_rfl) (by as_aux_lemma => kernel_rfl) (.inl rfl) ?_
          refine evs_run 1 (by as_aux_lemma => kernel_rfl) ?_
          refine evs_endS (by as_aux_lemma => kernel_rfl) (fun τ hτ => ?_)
          obtain rfl := Option.some.inj h
          exact leafC hτ (here (by as_aux_lemma => kernel_rfl))
        · replace h := iteF hb h
          refine evs_run 6 (by as_aux_lemma => kernel_rfl) ?_
          refine evs_endS (by as_aux_lemma => kernel_rfl) (fun τ hτ => ?_)
          obtain rfl := Option.some.inj h
          exact leafC hτ (here (by as_aux_lemma => kernel_rfl))
      refine th_normalS hτ ⟨[(0, (.sl (List.map (cS cI) needs))), (1, (vI stations)), (2, (vI from2)), (3, (vI to3)), (9, (vI s47)), (24, (vB j65))], []⟩ (here (by as_aux_lemma => kernel_rfl)) ?_
      refine sem_cond j65 (by as_aux_lemma => kernel_rfl) (by as_aux_lemma => kernel_rfl) (fun hb => ?_) (fun hb => ?_)
      · replace h := iteT hb h
        refine sem_seq (by as_aux_lemma => kernel_rfl) ?_
        refine sem_region (by as_aux_lemma => kernel_rfl) ?_
        refine evs_run 1 (by as_aux_lemma => kernel_rfl) ?_
        refine evs_endS (by as_aux_lemma => kernel_rfl) (fun τ hτ => ?_)
        refine th_normalS hτ ⟨[(8, (vB false))], []⟩ (here (by as_aux_lemma => kernel_rfl)) ?_
        refine sem_retS (by as_aux_lemma => kernel_rfl) (fun τ hτ => ?_)
        refine bl_ret ?_
        refine th_ret ?_
        obtain rfl := Option.some.inj h
        exact lk_outS hτ rfl (here (by as_aux_lemma => kernel_rfl))
      · replace h := iteF hb h
        refine sem_skipS (by as_aux_lemma => kernel_rfl) (fun τ hτ => ?_)
        refine bl_normal ?_
        refine th_normalS hτ ⟨[(0, (.sl (List.map (cS cI) needs))), (1, (vI stations)), (2, (vI from2)), (3, (vI to3)), (9, (vI s47))], []⟩ (here (by as_aux_lemma => kernel_rfl)) ?_
        refine sem_region (by as_aux_lemma => kernel_rfl) ?_
        refine evs_run 3 (by as_aux_lemma => kernel_rfl) ?_
        refine evs_endS (by as_aux_lemma => kernel_rfl) (fun τ hτ => ?_)
        obtain rfl := Option.some.inj h
        exact lk_nextS hτ (here (by as_aux_lemma => kernel_rfl))
    · replace h := iteF hb h
      refine sem_exitS 0 (by as_aux_lemma => kernel_rfl) rfl (fun τ hτ => ?_)
      refine th_exit ?_
      obtain rfl := Option.some.inj h
      exact lk_outS hτ rfl (here (by as_aux_lemma => kernel_rfl))
  · intro x
    rcases x with _ | _ <;> rfl
  · intro τ hτ
    rcases x68 with j69 | j70
    · refine bl_ret ?_
      refine th_ret ?_
      obtain rfl := Option.some.inj h
      exact rk_ret hτ [(8, (vB false))] (here (by as_aux_lemma => kernel_rfl)) (by as_aux_lemma => kernel_rfl)
    · refine bl_hit (by as_aux_lemma => kernel_rfl) ?_
      refine th_normalS hτ ⟨[], []⟩ (here (by as_aux_lemma => kernel_rfl)) ?_
      refine sem_seq (by as_aux_lemma => kernel_rfl) ?_
      refine sem_region (by as_aux_lemma => kernel_rfl) ?_
      refine evs_run 1 (by as_aux_lemma => kernel_rfl) ?_
      refine evs_endS (by as_aux_lemma => kernel_rfl) (fun τ hτ => ?_)
      refine th_normalS hτ ⟨[(8, (vB true))], []⟩ (here (by as_aux_lemma => kernel_rfl)) ?_
      refine sem_retS (by as_aux_lemma => kernel_rfl) (fun τ hτ => ?_)
      obtain rfl := Option.some.inj h
      exact rk_ret hτ [(8, (vB true))] (here (by as_aux_lemma => kernel_rfl)) (by as_aux_lemma => kernel_rfl)
theorem W.sheetmetalref05_CheckBound_ok {needs : (List (List Int))} {a : Int} {a2 : (List Window)} {r : Int × Int} (h : sheetmetalref05_CheckBound needs a a2 = some r) : PC G.P 19 [(.sl (List.map (cS cI) needs)), (vI a), (.sl (List.map c_Window a2))] [] (.tup [(vI r.1), (vI r.2)]) [] := by
  refine pc_of G (fn := Try.f19) Try.func19 (by as_aux_lemma => kernel_rfl) (by as_aux_lemma => kernel_rfl) (by as_aux_lemma => kernel_rfl) (by as_aux_lemma => kernel_rfl) (by as_aux_lemma => kernel_rfl) ?_
  refine sem_set ⟨[(0, (.sl (List.map (cS cI) needs))), (1, (vI a)), (2, (.sl (List.map c_Window a2)))], []⟩ (by as_aux_lemma => kernel_rfl) ?_
  refine sem_seq (by as_aux_lemma => kernel_rfl) ?_
  refine sem_region (by as_aux_lemma => kernel_rfl) ?_
  refine evs_run 2 (by as_aux_lemma => kernel_rfl) ?_
  refine evs_endS (by as_aux_lemma => kernel_rfl) (fun τ hτ => ?_)
  refine th_normalS hτ ⟨[(0, (.sl (List.map (cS cI) needs))), (1, (vI a)), (2, (.sl (List.map c_Window a2)))], []⟩ (here (by as_aux_lemma => kernel_rfl)) ?_
  refine sem_seq (by as_aux_lemma => kernel_rfl) ?_
  refine sem_seq (by as_aux_lemma => kernel_rfl) ?_
  refine sem_region (by as_aux_lemma => kernel_rfl) ?_
  refine evs_run 2 (by as_aux_lemma => kernel_rfl) ?_
  obtain ⟨r4, hr4, h⟩ := bindS h
  refine evs_callS [] [] [] (by as_aux_lemma => kernel_rfl) (W.sheetmetalref05_Check0_ok hr4) (by as_aux_lemma => kernel_rfl) (by as_aux_lemma => kernel_rfl) (.inl rfl) ?_
  refine evs_run 1 (by as_aux_lemma => kernel_rfl) ?_
  refine evs_endS (by as_aux_lemma => kernel_rfl) (fun τ hτ => ?_)
  refine th_normalS hτ ⟨[(0, (.sl (List.map (cS cI) needs))), (1, (vI a)), (2, (.sl (List.map c_Window a2))), (8, (vI r4))], []⟩ (here (by as_aux_lemma => kernel_rfl)) ?_
  refine sem_seq (by as_aux_lemma => kernel_rfl) ?_
  refine sem_region (by as_aux_lemma => kernel_rfl) ?_
  refine evs_run 2 (by as_aux_lemma => kernel_rfl) ?_
  refine evs_endS (by as_aux_lemma => kernel_rfl) (fun τ hτ => ?_)
  refine th_normalS hτ ⟨[(0, (.sl (List.map (cS cI) needs))), (1, (vI a)), (2, (.sl (List.map c_Window a2))), (8, (vI r4)), (16, (vB (r4 != 0)))], []⟩ (here (by as_aux_lemma => kernel_rfl)) ?_
  refine sem_cond (r4 != 0) (by as_aux_lemma => kernel_rfl) (by as_aux_lemma => kernel_rfl) (fun hb => ?_) (fun hb => ?_)
  · replace h := iteT hb h
    refine sem_seq (by as_aux_lemma => kernel_rfl) ?_
    refine sem_region (by as_aux_lemma => kernel_rfl) ?_
    refine evs_run 3 (by as_aux_lemma => kernel_rfl) ?_
    refine evs_endS (by as_aux_lemma => kernel_rfl) (fun τ hτ => ?_)
    refine th_normalS hτ ⟨[(6, (vI 0)), (7, (vI r4))], []⟩ (here (by as_aux_lemma => kernel_rfl)) ?_
    refine sem_retS (by as_aux_lemma => kernel_rfl) (fun τ hτ => ?_)
    refine th_ret ?_
    obtain rfl := Option.some.inj h
    exact rk_ret hτ [(6, (vI 0)), (7, (vI r4))] (here (by as_aux_lemma => kernel_rfl)) (by as_aux_lemma => kernel_rfl)
  · replace h := iteF hb h
    refine sem_skipS (by as_aux_lemma => kernel_rfl) (fun τ hτ => ?_)
    refine th_normalS hτ ⟨[(0, (.sl (List.map (cS cI) needs))), (1, (vI a)), (2, (.sl (List.map c_Window a2)))], []⟩ (here (by as_aux_lemma => kernel_rfl)) ?_
    refine sem_seq (by as_aux_lemma => kernel_rfl) ?_
    refine sem_seq (by as_aux_lemma => kernel_rfl) ?_
    refine sem_region (by as_aux_lemma => kernel_rfl) ?_
    refine evs_run 1 (by as_aux_lemma => kernel_rfl) ?_
    refine evs_endS (by as_aux_lemma => kernel_rfl) (fun τ hτ => ?_)
    refine th_normalS hτ ⟨[(0, (.sl (List.map (cS cI) needs))), (1, (vI a)), (2, (.sl (List.map c_Window a2))), (9, (vI 0))], []⟩ (here (by as_aux_lemma => kernel_rfl)) ?_
    refine sem_block (by as_aux_lemma => kernel_rfl) ?_
    obtain ⟨x60, hx60, h⟩ := bindS h
    refine sem_loopS (fun (s43 : Int) => ⟨[(0, (.sl (List.map (cS cI) needs))), (1, (vI a)), (2, (.sl (List.map c_Window a2))), (9, (vI s43))], []⟩) (fun (x60 : Unit ⊕ Unit) => match x60 with | .inl j61 => (.ret, ⟨[(6, (vI 0)), (7, (vI 1))], []⟩) | .inr j62 => (.exit 0, ⟨[(0, (.sl (List.map (cS cI) needs))), (1, (vI a)), (2, (.sl (List.map c_Window a2)))], []⟩)) (sheetmetalref05_CheckBound_l1 needs a2) 0 x60 (by as_aux_lemma => kernel_rfl) (here (by as_aux_lemma => kernel_rfl)) hx60 ?_ ?_ ?_
    · intro s43 r h
      refine sem_seq (by as_aux_lemma => kernel_rfl) ?_
      refine sem_seq (by as_aux_lemma => kernel_rfl) ?_
      refine sem_region (by as_aux_lemma => kernel_rfl) ?_
      refine evs_run 2 (by as_aux_lemma => kernel_rfl) ?_
      refine evs_op (st_len (c := c_Window) (l := a2) (x := (.sl (List.map c_Window a2))) (by as_aux_lemma => kernel_rfl) (by as_aux_lemma => kernel_rfl)) ?_
      refine evs_run 1 (by as_aux_lemma => kernel_rfl) ?_
      refine evs_endS (by as_aux_lemma => kernel_rfl) (fun τ hτ => ?_)
      refine th_normalS hτ ⟨[(0, (.sl (List.map (cS cI) needs))), (1, (vI a)), (2, (.sl (List.map c_Window a2))), (9, (vI s43)), (21, (vB (decide (s43 < (a2.length : Int)))))], []⟩ (here (by as_aux_lemma => kernel_rfl)) ?_
      refine sem_cond (decide (s43 < (a2.length : Int))) (by as_aux_lemma => kernel_rfl) (by as_aux_lemma => kernel_rfl) (fun hb => ?_) (fun hb => ?_)
      · replace h := iteT hb h
        refine sem_skipS (by as_aux_lemma => kernel_rfl) (fun τ hτ => ?_)
        refine th_normalS hτ ⟨[(0, (.sl (List.map (cS cI) needs))), (1, (vI a)), (2, (.sl (List.map c_Window a2))), (9, (vI s43))], []⟩ (here (by as_aux_lemma => kernel_rfl)) ?_
        refine sem_seq (by as_aux_lemma => kernel_rfl) ?_
        refine sem_block (by as_aux_lemma => kernel_rfl) ?_
        refine sem_seq (by as_aux_lemma => kernel_rfl) ?_
        refine sem_region (by as_aux_lemma => kernel_rfl) ?_
        refine evs_run 3 (by as_aux_lemma => kernel_rfl) ?_
        obtain ⟨x58, hx58, h⟩ := bindS h
        refine evs_op (st_idx (c := c_Window) (l := a2) (i := s43) (kd := .i64) (sz := 2) (by as_aux_lemma => kernel_rfl) hx58 rfl) ?_
        refine evs_run 1 (by as_aux_lemma => kernel_rfl) ?_
        obtain ⟨r59, hr59, h⟩ := bindS h
        refine evs_callS [] [] [] (by as_aux_lemma => kernel_rfl) (W.sheetmetalref05_windowIn_ok hr59) (by as_aux_lemma => kernel_rfl) (by as_aux_lemma => kernel_rfl) (.inl rfl) ?_
        refine evs_run 1 (by as_aux_lemma => kernel_rfl) ?_
        refine evs_endS (by as_aux_lemma => kernel_rfl) (fun τ hτ => ?_)
        refine th_normalS hτ ⟨[(0, (.sl (List.map (cS cI) needs))), (1, (vI a)), (2, (.sl (List.map c_Window a2))), (9, (vI s43)), (30, (vB (!r59)))], []⟩ (here (by as_aux_lemma => kernel_rfl)) ?_
        refine sem_cond (!r59) (by as_aux_lemma => kernel_rfl) (by as_aux_lemma => kernel_rfl) (fun hb => ?_) (fun hb => ?_)
        · replace h := iteT hb h
          refine sem_seq (by as_aux_lemma => kernel_rfl) ?_
          refine sem_region (by as_aux_lemma => kernel_rfl) ?_
          refine evs_run 2 (by as_aux_lemma => kernel_rfl) ?_
          refine evs_endS (by as_aux_lemma => kernel_rfl) (fun τ hτ => ?_)
          refine th_normalS hτ ⟨[(6, (vI 0)), (7, (vI 1))], []⟩ (here (by as_aux_lemma => kernel_rfl)) ?_
          refine sem_retS (by as_aux_lemma => kernel_rfl) (fun τ hτ => ?_)
          refine bl_ret ?_
          refine th_ret ?_
          obtain rfl := Option.some.inj h
          exact lk_outS hτ rfl (here (by as_aux_lemma => kernel_rfl))
        · replace h := iteF hb h
          refine sem_skipS (by as_aux_lemma => kernel_rfl) (fun τ hτ => ?_)
          refine bl_normal ?_
          refine th_normalS hτ ⟨[(0, (.sl (List.map (cS cI) needs))), (1, (vI a)), (2, (.sl (List.map c_Window a2))), (9, (vI s43))], []⟩ (here (by as_aux_lemma => kernel_rfl)) ?_
          refine sem_region (by as_aux_lemma => kernel_rfl) ?_
          refine evs_run 3 (by as_aux_lemma => kernel_rfl) ?_
          refine evs_endS (by as_aux_lemma => kernel_rfl) (fun τ hτ => ?_)
          obtain rfl := Option.some.inj h
          exact lk_nextS hτ (here (by as_aux_lemma => kernel_rfl))
      · replace h := iteF hb h
        refine sem_exitS 0 (by as_aux_lemma => kernel_rfl) rfl (fun τ hτ => ?_)
        refine th_exit ?_
        obtain rfl := Option.some.inj h
        exact lk_outS hτ rfl (here (by as_aux_lemma => kernel_rfl))
    · intro x
      rcases x with _ | _ <;> rfl
    · intro τ hτ
      rcases x60 with j61 | j62
      · refine bl_ret ?_
        refine th_ret ?_
        obtain rfl := Option.some.inj h
        exact rk_ret hτ [(6, (vI 0)), (7, (vI 1))] (here (by as_aux_lemma => kernel_rfl)) (by as_aux_lemma => kernel_rfl)
      · refine bl_hit (by as_aux_lemma => kernel_rfl) ?_
        refine th_normalS hτ ⟨[(0, (.sl (List.map (cS cI) needs))), (1, (vI a)), (2, (.sl (List.map c_Window a2)))], []⟩ (here (by as_aux_lemma => kernel_rfl)) ?_
        refine sem_seq (by as_aux_lemma => kernel_rfl) ?_
        refine sem_seq (by as_aux_lemma => kernel_rfl) ?_
        refine sem_region (by as_aux_lemma => kernel_rfl) ?_
        refine evs_run 1 (by as_aux_lemma => kernel_rfl) ?_
        refine evs_endS (by as_aux_lemma => kernel_rfl) (fun τ hτ => ?_)
        refine th_normalS hτ ⟨[(0, (.sl (List.map (cS cI) needs))), (1, (vI a)), (2, (.sl (List.map c_Window a2))), (10, (vI 1))], []⟩ (here (by as_aux_lemma => kernel_rfl)) ?_
        refine sem_block (by as_aux_lemma => kernel_rfl) ?_
        obtain ⟨x142, hx142, h⟩ := bindS h
        refine sem_loopS (fun (s117 : Int) => ⟨[(0, (.sl (List.map (cS cI) needs))), (1, (vI a)), (2, (.sl (List.map c_Window a2))), (10, (vI s117))], []⟩) (fun (x142 : Unit ⊕ Unit) => match x142 with | .inl j143 => (.ret, ⟨[(6, (vI 0)), (7, (vI 12))], []⟩) | .inr j144 => (.exit 2, ⟨[(0, (.sl (List.map (cS cI) needs))), (1, (vI a)), (2, (.sl (List.map c_Window a2)))], []⟩)) (sheetmetalref05_CheckBound_l2 a2) 1 x142 (by as_aux_lemma => kernel_rfl) (here (by as_aux_lemma => kernel_rfl)) hx142 ?_ ?_ ?_
        · intro s117 r h
          refine sem_seq (by as_aux_lemma => kernel_rfl) ?_
          refine sem_seq (by as_aux_lemma => kernel_rfl) ?_
          refine sem_region (by as_aux_lemma => kernel_rfl) ?_
          refine evs_run 2 (by as_aux_lemma => kernel_rfl) ?_
          refine evs_op (st_len (c := c_Window) (l := a2) (x := (.sl (List.map c_Window a2))) (by as_aux_lemma => kernel_rfl) (by as_aux_lemma => kernel_rfl)) ?_
          refine evs_run 1 (by as_aux_lemma => kernel_rfl) ?_
          refine evs_endS (by as_aux_lemma => kernel_rfl) (fun τ hτ => ?_)
          refine th_normalS hτ ⟨[(0, (.sl (List.map (cS cI) needs))), (1, (vI a)), (2, (.sl (List.map c_Window a2))), (10, (vI s117)), (34, (vB (decide (s117 < (a2.length : Int)))))], []⟩ (here (by as_aux_lemma => kernel_rfl)) ?_
          refine sem_cond (decide (s117 < (a2.length : Int))) (by as_aux_lemma => kernel_rfl) (by as_aux_lemma => kernel_rfl) (fun hb => ?_) (fun hb => ?_)
          · replace h := iteT hb h
            refine sem_skipS (by as_aux_lemma => kernel_rfl) (fun τ hτ => ?_)
            refine th_normalS hτ ⟨[(0, (.sl (List.map (cS cI) needs))), (1, (vI a)), (2, (.sl (List.map c_Window a2))), (10, (vI s117))], []⟩ (here (by as_aux_lemma => kernel_rfl)) ?_
            refine sem_seq (by as_aux_lemma => kernel_rfl) ?_
            refine sem_block (by as_aux_lemma => kernel_rfl) ?_
            refine sem_seq (by as_aux_lemma => kernel_rfl) ?_
            refine sem_draw [] [] [] [] [] 11 (by as_aux_lemma => kernel_rfl) (by as_aux_lemma => kernel_rfl) [] (by as_aux_lemma => kernel_rfl) (by as_aux_lemma => kernel_rfl) ?_
            refine evd_run 2 (by as_aux_lemma => kernel_rfl) ?_
            obtain ⟨x140, hx140, h⟩ := bindS h
            refine evd_val (by as_aux_lemma => kernel_rfl) (st_idx (c := c_Window) (l := a2) (i := s117) (kd := .i64) (sz := 2) (by as_aux_lemma => kernel_rfl) hx140 rfl) (by as_aux_lemma => kernel_rfl) (by as_aux_lemma => kernel_rfl) ?_
            refine evd_run 5 (by as_aux_lemma => kernel_rfl) ?_
            obtain ⟨x141, hx141, h⟩ := bindS h
            refine evd_val (by as_aux_lemma => kernel_rfl) (st_idx (c := c_Window) (l := a2) (i := (isub s117 1)) (kd := .i64) (sz := 2) (by as_aux_lemma => kernel_rfl) hx141 rfl) (by as_aux_lemma => kernel_rfl) (by as_aux_lemma => kernel_rfl) ?_
            refine evd_run 2 (by as_aux_lemma => kernel_rfl) ?_
            refine evd_end (by as_aux_lemma => kernel_rfl) ?_
            refine evo_run 1 (by as_aux_lemma => kernel_rfl) ?_
            refine evo_endS (by as_aux_lemma => kernel_rfl) (fun τ hτ => ?_)
            refine th_normalS hτ ⟨[(0, (.sl (List.map (cS cI) needs))), (1, (vI a)), (2, (.sl (List.map c_Window a2))), (10, (vI s117)), (48, (vB (decide (x140.From < x141.To))))], []⟩ (here (by as_aux_lemma => kernel_rfl)) ?_
            refine sem_cond (decide (x140.From < x141.To)) (by as_aux_lemma => kernel_rfl) (by as_aux_lemma => kernel_rfl) (fun hb => ?_) (fun hb => ?_)
            · replace h := iteT hb h
              refine sem_seq (by as_aux_lemma => kernel_rfl) ?_
              refine sem_region (by as_aux_lemma => kernel_rfl) ?_
              refine evs_run 2 (by as_aux_lemma => kernel_rfl) ?_
              refine evs_endS (by as_aux_lemma => kernel_rfl) (fun τ hτ => ?_)
              refine th_normalS hτ ⟨[(6, (vI 0)), (7, (vI 12))], []⟩ (here (by as_aux_lemma => kernel_rfl)) ?_
              refine sem_retS (by as_aux_lemma => kernel_rfl) (fun τ hτ => ?_)
              refine bl_ret ?_
              refine th_ret ?_
              obtain rfl := Option.some.inj h
              exact lk_outS hτ rfl (here (by as_aux_lemma => kernel_rfl))
            · replace h := iteF hb h
              refine sem_skipS (by as_aux_lemma => kernel_rfl) (fun τ hτ => ?_)
              refine bl_normal ?_
              refine th_normalS hτ ⟨[(0, (.sl (List.map (cS cI) needs))), (1, (vI a)), (2, (.sl (List.map c_Window a2))), (10, (vI s117))], []⟩ (here (by as_aux_lemma => kernel_rfl)) ?_
              refine sem_region (by as_aux_lemma => kernel_rfl) ?_
              refine evs_run 3 (by as_aux_lemma => kernel_rfl) ?_
              refine evs_endS (by as_aux_lemma => kernel_rfl) (fun τ hτ => ?_)
              obtain rfl := Option.some.inj h
              exact lk_nextS hτ (here (by as_aux_lemma => kernel_rfl))
          · replace h := iteF hb h
            refine sem_exitS 2 (by as_aux_lemma => kernel_rfl) rfl (fun τ hτ => ?_)
            refine th_exit ?_
            obtain rfl := Option.some.inj h
            exact lk_outS hτ rfl (here (by as_aux_lemma => kernel_rfl))
        · intro x
          rcases x with _ | _ <;> rfl
        · intro τ hτ
          rcases x142 with j143 | j144
          · refine bl_ret ?_
            refine th_ret ?_
            obtain rfl := Option.some.inj h
            exact rk_ret hτ [(6, (vI 0)), (7, (vI 12))] (here (by as_aux_lemma => kernel_rfl)) (by as_aux_lemma => kernel_rfl)
          · refine bl_hit (by as_aux_lemma => kernel_rfl) ?_
            refine th_normalS hτ ⟨[(0, (.sl (List.map (cS cI) needs))), (1, (vI a)), (2, (.sl (List.map c_Window a2)))], []⟩ (here (by as_aux_lemma => kernel_rfl)) ?_
            refine sem_seq (by as_aux_lemma => kernel_rfl) ?_
            refine sem_seq (by as_aux_lemma => kernel_rfl) ?_
            refine sem_region (by as_aux_lemma => kernel_rfl) ?_
            refine evs_run 1 (by as_aux_lemma => kernel_rfl) ?_
            refine evs_endS (by as_aux_lemma => kernel_rfl) (fun τ hτ => ?_)
            refine th_normalS hτ ⟨[(0, (.sl (List.map (cS cI) needs))), (1, (vI a)), (2, (.sl (List.map c_Window a2))), (11, (vI 0))], []⟩ (here (by as_aux_lemma => kernel_rfl)) ?_
            refine sem_block (by as_aux_lemma => kernel_rfl) ?_
            obtain ⟨x260, hx260, h⟩ := bindS h
            refine sem_loopS (fun (s223 : Int) => ⟨[(0, (.sl (List.map (cS cI) needs))), (1, (vI a)), (2, (.sl (List.map c_Window a2))), (11, (vI s223))], []⟩) (fun (x260 : Unit ⊕ Unit) => match x260 with | .inl j261 => (.ret, ⟨[(6, (vI 0)), (7, (vI 11))], []⟩) | .inr j262 => (.exit 4, ⟨[(0, (.sl (List.map (cS cI) needs))), (2, (.sl (List.map c_Window a2)))], []⟩)) (sheetmetalref05_CheckBound_l3 needs a a2) 0 x260 (by as_aux_lemma => kernel_rfl) (here (by as_aux_lemma => kernel_rfl)) hx260 ?_ ?_ ?_
            · intro s223 r h
              refine sem_seq (by as_aux_lemma => kernel_rfl) ?_
              refine sem_seq (by as_aux_lemma => kernel_rfl) ?_
              refine sem_region (by as_aux_lemma => kernel_rfl) ?_
              refine evs_run 2 (by as_aux_lemma => kernel_rfl) ?_
              refine evs_op (st_len (c := c_Window) (l := a2) (x := (.sl (List.map c_Window a2))) (by as_aux_lemma => kernel_rfl) (by as_aux_lemma => kernel_rfl)) ?_
              refine evs_run 1 (by as_aux_lemma => kernel_rfl) ?_
              refine evs_endS (by as_aux_lemma => kernel_rfl) (fun τ hτ => ?_)
              refine th_normalS hτ ⟨[(0, (.sl (List.map (cS cI) needs))), (1, (vI a)), (2, (.sl (List.map c_Window a2))), (11, (vI s223)), (52, (vB (decide (s223 < (a2.length : Int)))))], []⟩ (here (by as_aux_lemma => kernel_rfl)) ?_
              refine sem_cond (decide (s223 < (a2.length : Int))) (by as_aux_lemma => kernel_rfl) (by as_aux_lemma => kernel_rfl) (fun hb => ?_) (fun hb => ?_)
              · replace h := iteT hb h
                refine sem_skipS (by as_aux_lemma => kernel_rfl) (fun τ hτ => ?_)
                refine th_normalS hτ ⟨[(0, (.sl (List.map (cS cI) needs))), (1, (vI a)), (2, (.sl (List.map c_Window a2))), (11, (vI s223))], []⟩ (here (by as_aux_lemma => kernel_rfl)) ?_
                refine sem_seq (by as_aux_lemma => kernel_rfl) ?_
                refine sem_block (by as_aux_lemma => kernel_rfl) ?_
                refine sem_seq (by as_aux_lemma => kernel_rfl) ?_
                refine sem_draw [] [] [] [] [] 12 (by as_aux_lemma => kernel_rfl) (by as_aux_lemma => kernel_rfl) [] (by as_aux_lemma => kernel_rfl) (by as_aux_lemma => kernel_rfl) ?_
                refine evd_run 4 (by as_aux_lemma => kernel_rfl) ?_
                obtain ⟨x257, hx257, h⟩ := bindS h
                refine evd_val (by as_aux_lemma => kernel_rfl) (st_idx (c := c_Window) (l := a2) (i := s223) (kd := .i64) (sz := 2) (by as_aux_lemma => kernel_rfl) hx257 rfl) (by as_aux_lemma => kernel_rfl) (by as_aux_lemma => kernel_rfl) ?_
                refine evd_run 4 (by as_aux_lemma => kernel_rfl) ?_
                obtain ⟨x258, hx258, h⟩ := bindS h
                refine evd_val (by as_aux_lemma => kernel_rfl) (st_idx (c := c_Window) (l := a2) (i := s223) (kd := .i64) (sz := 2) (by as_aux_lemma => kernel_rfl) hx258 rfl) (by as_aux_lemma => kernel_rfl) (by as_aux_lemma => kernel_rfl) ?_
                refine evd_run 2 (by as_aux_lemma => kernel_rfl) ?_
                refine evd_end (by as_aux_lemma => kernel_rfl) ?_
                obtain ⟨r259, hr259, h⟩ := bindS h
                refine evo_callS [] [] [] (by as_aux_lemma => kernel_rfl) (W.sheetmetalref05_blocked_ok hr259) (by as_aux_lemma => kernel_rfl) (by as_aux_lemma => kernel_rfl) (.inl rfl) ?_
                refine evo_run 1 (by as_aux_lemma => kernel_rfl) ?_
                refine evo_endS (by as_aux_lemma => kernel_rfl) (fun τ hτ => ?_)
                refine th_normalS hτ ⟨[(0, (.sl (List.map (cS cI) needs))), (1, (vI a)), (2, (.sl (List.map c_Window a2))), (11, (vI s223)), (68, (vB (!r259)))], []⟩ (here (by as_aux_lemma => kernel_rfl)) ?_
                refine sem_cond (!r259) (by as_aux_lemma => kernel_rfl) (by as_aux_lemma => kernel_rfl) (fun hb => ?_) (fun hb => ?_)
                · replace h := iteT hb h
                  refine sem_seq (by as_aux_lemma => kernel_rfl) ?_
                  refine sem_region (by as_aux_lemma => kernel_rfl) ?_
                  refine evs_run 2 (by as_aux_lemma => kernel_rfl) ?_
                  refine evs_endS (by as_aux_lemma => kernel_rfl) (fun τ hτ => ?_)
                  refine th_normalS hτ ⟨[(6, (vI 0)), (7, (vI 11))], []⟩ (here (by as_aux_lemma => kernel_rfl)) ?_
                  refine sem_retS (by as_aux_lemma => kernel_rfl) (fun τ hτ => ?_)
                  refine bl_ret ?_
                  refine th_ret ?_
                  obtain rfl := Option.some.inj h
                  exact lk_outS hτ rfl (here (by as_aux_lemma => kernel_rfl))
                · replace h := iteF hb h
                  refine sem_skipS (by as_aux_lemma => kernel_rfl) (fun τ hτ => ?_)
                  refine bl_normal ?_
                  refine th_normalS hτ ⟨[(0, (.sl (List.map (cS cI) needs))), (1, (vI a)), (2, (.sl (List.map c_Window a2))), (11, (vI s223))], []⟩ (here (by as_aux_lemma => kernel_rfl)) ?_
                  refine sem_region (by as_aux_lemma => kernel_rfl) ?_
                  refine evs_run 3 (by as_aux_lemma => kernel_rfl) ?_
                  refine evs_endS (by as_aux_lemma => kernel_rfl) (fun τ hτ => ?_)
                  obtain rfl := Option.some.inj h
                  exact lk_nextS hτ (here (by as_aux_lemma => kernel_rfl))
              · replace h := iteF hb h
                refine sem_exitS 4 (by as_aux_lemma => kernel_rfl) rfl (fun τ hτ => ?_)
                refine th_exit ?_
                obtain rfl := Option.some.inj h
                exact lk_outS hτ rfl (here (by as_aux_lemma => kernel_rfl))
            · intro x
              rcases x with _ | _ <;> rfl
            · intro τ hτ
              rcases x260 with j261 | j262
              · refine bl_ret ?_
                refine th_ret ?_
                obtain rfl := Option.some.inj h
                exact rk_ret hτ [(6, (vI 0)), (7, (vI 11))] (here (by as_aux_lemma => kernel_rfl)) (by as_aux_lemma => kernel_rfl)
              · refine bl_hit (by as_aux_lemma => kernel_rfl) ?_
                refine th_normalS hτ ⟨[(0, (.sl (List.map (cS cI) needs))), (2, (.sl (List.map c_Window a2)))], []⟩ (here (by as_aux_lemma => kernel_rfl)) ?_
                refine sem_seq (by as_aux_lemma => kernel_rfl) ?_
                refine sem_seq (by as_aux_lemma => kernel_rfl) ?_
                refine sem_region (by as_aux_lemma => kernel_rfl) ?_
                refine evs_run 1 (by as_aux_lemma => kernel_rfl) ?_
                refine evs_op (st_len (c := (cS cI)) (l := needs) (x := (.sl (List.map (cS cI) needs))) (by as_aux_lemma => kernel_rfl) (by as_aux_lemma => kernel_rfl)) ?_
                refine evs_run 1 (by as_aux_lemma => kernel_rfl) ?_
                refine evs_endS (by as_aux_lemma => kernel_rfl) (fun τ hτ => ?_)
                refine th_normalS hτ ⟨[(2, (.sl (List.map c_Window a2))), (71, (vB ((needs.length : Int) == 0)))], []⟩ (here (by as_aux_lemma => kernel_rfl)) ?_
                refine sem_cond ((needs.length : Int) == 0) (by as_aux_lemma => kernel_rfl) (by as_aux_lemma => kernel_rfl) (fun hb => ?_) (fun hb => ?_)
                · replace h := iteT hb h
                  refine sem_seq (by as_aux_lemma => kernel_rfl) ?_
                  refine sem_region (by as_aux_lemma => kernel_rfl) ?_
                  refine evs_run 2 (by as_aux_lemma => kernel_rfl) ?_
                  refine evs_endS (by as_aux_lemma => kernel_rfl) (fun τ hτ => ?_)
                  refine th_normalS hτ ⟨[(6, (vI 0)), (7, (vI 0))], []⟩ (here (by as_aux_lemma => kernel_rfl)) ?_
                  refine sem_retS (by as_aux_lemma => kernel_rfl) (fun τ hτ => ?_)
                  refine th_ret ?_
                  obtain rfl := Option.some.inj h
                  exact rk_ret hτ [(6, (vI 0)), (7, (vI 0))] (here (by as_aux_lemma => kernel_rfl)) (by as_aux_lemma => kernel_rfl)
                · replace h := iteF hb h
                  refine sem_skipS (by as_aux_lemma => kernel_rfl) (fun τ hτ => ?_)
                  refine th_normalS hτ ⟨[(2, (.sl (List.map c_Window a2)))], []⟩ (here (by as_aux_lemma => kernel_rfl)) ?_
                  refine sem_seq (by as_aux_lemma => kernel_rfl) ?_
                  refine sem_region (by as_aux_lemma => kernel_rfl) ?_
                  refine evs_run 1 (by as_aux_lemma => kernel_rfl) ?_
                  refine evs_op (st_len (c := c_Window) (l := a2) (x := (.sl (List.map c_Window a2))) (by as_aux_lemma => kernel_rfl) (by as_aux_lemma => kernel_rfl)) ?_
                  refine evs_run 3 (by as_aux_lemma => kernel_rfl) ?_
                  refine evs_endS (by as_aux_lemma => kernel_rfl) (fun τ hτ => ?_)
                  refine th_normalS hτ ⟨[(6, (vI (iadd (a2.length : Int) 1))), (7, (vI 0))], []⟩ (here (by as_aux_lemma => kernel_rfl)) ?_
                  refine sem_retS (by as_aux_lemma => kernel_rfl) (fun τ hτ => ?_)
                  obtain rfl := Option.some.inj h
                  exact rk_ret hτ [(6, (vI (iadd (a2.length : Int) 1))), (7, (vI 0))] (here (by as_aux_lemma => kernel_rfl)) (by as_aux_lemma => kernel_rfl)
end Go.Proofs.Ytppmnjiibmomoaa
