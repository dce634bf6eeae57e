/- Each Go function does what its model says; written by a program out of the translation. -/
import Derived.Test.YtppmnjiibmomoaaWB
import Derived.Test.YtppmnjiibmomoaaSeMB
set_option linter.unusedVariables false
set_option linter.unusedSimpArgs false
set_option linter.unusedSectionVars false
namespace Go.Proofs.Ytppmnjiibmomoaa
open Go Go.VI Go.SM Go.Proofs
set_option maxRecDepth 100000
set_option maxHeartbeats 4000000
theorem W.sheetmetallaw05_SetupNoFewer_ok {needs : (List (List Int))} {stations : Int} {l : (List Change)} {r : Bool} (h : sheetmetallaw05_SetupNoFewer needs stations l = some r) : PC G.P 13 [(.sl (List.map (cS cI) needs)), (vI stations), (.sl (List.map c_Change l))] [] (vB r) [] := by
  refine pc_of G (fn := Try.f13) Try.func13 (by as_aux_lemma => kernel_rfl) (by as_aux_lemma => kernel_rfl) (by as_aux_lemma => kernel_rfl) (by as_aux_lemma => kernel_rfl) (by as_aux_lemma => kernel_rfl) ?_
  refine sem_set ⟨[(0, (.sl (List.map (cS cI) needs))), (1, (vI stations)), (2, (.sl (List.map c_Change l)))], []⟩ (by as_aux_lemma => kernel_rfl) ?_
  refine sem_seq (by as_aux_lemma => kernel_rfl) ?_
  refine sem_region (by as_aux_lemma => kernel_rfl) ?_
  refine evs_run 1 (by as_aux_lemma => kernel_rfl) ?_
  refine evs_endS (by as_aux_lemma => kernel_rfl) (fun τ hτ => ?_)
  refine th_normalS hτ ⟨[(0, (.sl (List.map (cS cI) needs))), (1, (vI stations)), (2, (.sl (List.map c_Change l)))], []⟩ (here (by as_aux_lemma => kernel_rfl)) ?_
  refine sem_seq (by as_aux_lemma => kernel_rfl) ?_
  refine sem_seq (by as_aux_lemma => kernel_rfl) ?_
  obtain ⟨j10, hj10, h⟩ := bindS h
  refine sem_regionC ⟨[(0, (.sl (List.map (cS cI) needs))), (1, (vI stations)), (2, (.sl (List.map c_Change l))), (22, (vB j10))], []⟩ (by as_aux_lemma => kernel_rfl) ?_ (fun τ hτ => ?_)
  · replace h := hj10
    refine evs_run 1 (by as_aux_lemma => kernel_rfl) ?_
    obtain ⟨r11, hr11, h⟩ := bindS h
    refine evs_callS [] [] [] (by as_aux_lemma => kernel_rfl) (W.sheetmetallaw05_Long_ok hr11) (by as_aux_lemma => kernel_rfl) (by as_aux_lemma => kernel_rfl) (.inl rfl) ?_
    refine evs_run 1 (by as_aux_lemma => kernel_rfl) ?_
    refine evs_split r11 (fun b0 => ⟨[(0, (.sl (List.map (cS cI) needs))), (1, (vI stations)), (2, (.sl (List.map c_Change l))), (11, (vB b0))], []⟩) (by as_aux_lemma => kernel_rfl) (fun hb => ?_) (fun hb => ?_)
    · replace h := iteT hb h
      refine evs_run 11 (by as_aux_lemma => kernel_rfl) ?_
      refine evs_endS (by as_aux_lemma => kernel_rfl) (fun τ hτ => ?_)
      obtain rfl := Option.some.inj h
      exact leafC hτ (here (by as_aux_lemma => kernel_rfl))
    · replace h := iteF hb h
      refine evs_run 1 (by as_aux_lemma => kernel_rfl) ?_
      refine evs_op (st_len (c := c_Change) (l := l) (x := (.sl (List.map c_Change l))) (by as_aux_lemma => kernel_rfl) (by as_aux_lemma => kernel_rfl)) ?_
      refine evs_run 3 (by as_aux_lemma => kernel_rfl) ?_
      refine evs_split (decide ((l.length : Int) > 100)) (fun b0 => ⟨[(0, (.sl (List.map (cS cI) needs))), (1, (vI stations)), (2, (.sl (List.map c_Change l))), (16, (vB b0))], []⟩) (by as_aux_lemma => kernel_rfl) (fun hb => ?_) (fun hb => ?_)
      · replace h := iteT hb h
        refine evs_run 6 (by as_aux_lemma => kernel_rfl) ?_
        refine evs_endS (by as_aux_lemma => kernel_rfl) (fun τ hτ => ?_)
        obtain rfl := Option.some.inj h
        exact leafC hτ (here (by as_aux_lemma => kernel_rfl))
      · replace h := iteF hb h
        refine evs_run 3 (by as_aux_lemma => kernel_rfl) ?_
        obtain ⟨r12, hr12, h⟩ := bindS h
        refine evs_callS [] [] [] (by as_aux_lemma => kernel_rfl) (W.setup_Check_ok hr12) (by as_aux_lemma => kernel_rfl) (by as_aux_lemma => kernel_rfl) (.inl rfl) ?_
        refine evs_run 2 (by as_aux_lemma => kernel_rfl) ?_
        refine evs_endS (by as_aux_lemma => kernel_rfl) (fun τ hτ => ?_)
        obtain rfl := Option.some.inj h
        exact leafC hτ (here (by as_aux_lemma => kernel_rfl))
  refine th_normalS hτ ⟨[(0, (.sl (List.map (cS cI) needs))), (1, (vI stations)), (2, (.sl (List.map c_Change l))), (22, (vB j10))], []⟩ (here (by as_aux_lemma => kernel_rfl)) ?_
  refine sem_cond j10 (by as_aux_lemma => kernel_rfl) (by as_aux_lemma => kernel_rfl) (fun hb => ?_) (fun hb => ?_)
  · replace h := iteT hb h
    refine sem_seq (by as_aux_lemma => kernel_rfl) ?_
    refine sem_region (by as_aux_lemma => kernel_rfl) ?_
    obtain ⟨r14, hr14, h⟩ := bindS h
    refine evs_callS [] [] [] (by as_aux_lemma => kernel_rfl) (W.sheetmetallaw05_known_ok hr14) (by as_aux_lemma => kernel_rfl) (by as_aux_lemma => kernel_rfl) (.inl rfl) ?_
    refine evs_run 1 (by as_aux_lemma => kernel_rfl) ?_
    refine evs_endS (by as_aux_lemma => kernel_rfl) (fun τ hτ => ?_)
    refine th_normalS hτ ⟨[(6, (vB r14))], []⟩ (here (by as_aux_lemma => kernel_rfl)) ?_
    refine sem_retS (by as_aux_lemma => kernel_rfl) (fun τ hτ => ?_)
    refine th_ret ?_
    obtain rfl := Option.some.inj h
    exact rk_ret hτ [(6, (vB r14))] (here (by as_aux_lemma => kernel_rfl)) (by as_aux_lemma => kernel_rfl)
  · replace h := iteF hb h
    refine sem_skipS (by as_aux_lemma => kernel_rfl) (fun τ hτ => ?_)
    refine th_normalS hτ ⟨[(0, (.sl (List.map (cS cI) needs))), (1, (vI stations)), (2, (.sl (List.map c_Change l)))], []⟩ (here (by as_aux_lemma => kernel_rfl)) ?_
    refine sem_seq (by as_aux_lemma => kernel_rfl) ?_
    refine sem_region (by as_aux_lemma => kernel_rfl) ?_
    refine evs_run 2 (by as_aux_lemma => kernel_rfl) ?_
    obtain ⟨r16, hr16, h⟩ := bindS h
    refine evs_callS [] [] [] (by as_aux_lemma => kernel_rfl) (W.setup_Least_ok hr16) (by as_aux_lemma => kernel_rfl) (by as_aux_lemma => kernel_rfl) (.inl rfl) ?_
    refine evs_run 5 (by as_aux_lemma => kernel_rfl) ?_
    refine evs_endS (by as_aux_lemma => kernel_rfl) (fun τ hτ => ?_)
    refine th_normalS hτ ⟨[(2, (.sl (List.map c_Change l))), (7, (vI r16.1)), (8, (vI r16.2))], []⟩ (here (by as_aux_lemma => kernel_rfl)) ?_
    refine sem_seq (by as_aux_lemma => kernel_rfl) ?_
    obtain ⟨j18, hj18, h⟩ := bindS h
    refine sem_regionC ⟨[(6, (vB j18))], []⟩ (by as_aux_lemma => kernel_rfl) ?_ (fun τ hτ => ?_)
    · replace h := hj18
      refine evs_run 3 (by as_aux_lemma => kernel_rfl) ?_
      refine evs_split (r16.2 == 0) (fun b0 => ⟨[(2, (.sl (List.map c_Change l))), (7, (vI r16.1)), (32, (vB b0))], []⟩) (by as_aux_lemma => kernel_rfl) (fun hb => ?_) (fun hb => ?_)
      · replace h := iteT hb h
        refine evs_run 2 (by as_aux_lemma => kernel_rfl) ?_
        refine evs_op (st_len (c := c_Change) (l := l) (x := (.sl (List.map c_Change l))) (by as_aux_lemma => kernel_rfl) (by as_aux_lemma => kernel_rfl)) ?_
        refine evs_run 3 (by as_aux_lemma => kernel_rfl) ?_
        refine evs_split (decide (r16.1 ≤ (l.length : Int))) (fun b0 => ⟨[(38, (vB b0))], []⟩) (by as_aux_lemma => kernel_rfl) (fun hb => ?_) (fun hb => ?_)
        · replace h := iteT hb h
          obtain ⟨r19, hr19, h⟩ := bindS h
          refine evs_callS [] [] [] (by as_aux_lemma => kernel_rfl) (W.sheetmetallaw05_known_ok hr19) (by as_aux_lemma => kernel_rfl) (by as_aux_lemma => kernel_rfl) (.inl rfl) ?_
          refine evs_run 2 (by as_aux_lemma => kernel_rfl) ?_
          refine evs_endS (by as_aux_lemma => kernel_rfl) (fun τ hτ => ?_)
          obtain rfl := Option.some.inj h
          exact leafC hτ (here (by as_aux_lemma => kernel_rfl))
        · replace h := iteF hb h
          refine evs_run 3 (by as_aux_lemma => kernel_rfl) ?_
          refine evs_endS (by as_aux_lemma => kernel_rfl) (fun τ hτ => ?_)
          obtain rfl := Option.some.inj h
          exact leafC hτ (here (by as_aux_lemma => kernel_rfl))
      · replace h := iteF hb h
        refine evs_run 9 (by as_aux_lemma => kernel_rfl) ?_
        refine evs_endS (by as_aux_lemma => kernel_rfl) (fun τ hτ => ?_)
        obtain rfl := Option.some.inj h
        exact leafC hτ (here (by as_aux_lemma => kernel_rfl))
    refine th_normalS hτ ⟨[(6, (vB j18))], []⟩ (here (by as_aux_lemma => kernel_rfl)) ?_
    refine sem_retS (by as_aux_lemma => kernel_rfl) (fun τ hτ => ?_)
    obtain rfl := Option.some.inj h
    exact rk_ret hτ [(6, (vB j18))] (here (by as_aux_lemma => kernel_rfl)) (by as_aux_lemma => kernel_rfl)
theorem W.sheetmetalref05_Check_ok {needs : (List (List Int))} {stations : Int} {l : (List Change)} {r : Int} (h : sheetmetalref05_Check needs stations l = some r) : PC G.P 42 [(.sl (List.map (cS cI) needs)), (vI stations), (.sl (List.map c_Change l))] [] (vI r) [] := by
  refine pc_of G (fn := Try.f42) Try.func42 (by as_aux_lemma => kernel_rfl) (by as_aux_lemma => kernel_rfl) (by as_aux_lemma => kernel_rfl) (by as_aux_lemma => kernel_rfl) (by as_aux_lemma => kernel_rfl) ?_
  refine sem_set ⟨[(0, (.sl (List.map (cS cI) needs))), (1, (vI stations)), (2, (.sl (List.map c_Change l)))], []⟩ (by as_aux_lemma => kernel_rfl) ?_
  refine sem_seq (by as_aux_lemma => kernel_rfl) ?_
  refine sem_region (by as_aux_lemma => kernel_rfl) ?_
  refine evs_run 1 (by as_aux_lemma => kernel_rfl) ?_
  refine evs_endS (by as_aux_lemma => kernel_rfl) (fun τ hτ => ?_)
  refine th_normalS hτ ⟨[(0, (.sl (List.map (cS cI) needs))), (1, (vI stations)), (2, (.sl (List.map c_Change l)))], []⟩ (here (by as_aux_lemma => kernel_rfl)) ?_
  refine sem_seq (by as_aux_lemma => kernel_rfl) ?_
  refine sem_seq (by as_aux_lemma => kernel_rfl) ?_
  refine sem_region (by as_aux_lemma => kernel_rfl) ?_
  refine evs_run 2 (by as_aux_lemma => kernel_rfl) ?_
  obtain ⟨r4, hr4, h⟩ := bindS h
  refine evs_callS [] [] [] (by as_aux_lemma => kernel_rfl) (W.sheetmetalref05_Check0_ok hr4) (by as_aux_lemma => kernel_rfl) (by as_aux_lemma => kernel_rfl) (.inl rfl) ?_
  refine evs_run 1 (by as_aux_lemma => kernel_rfl) ?_
  refine evs_endS (by as_aux_lemma => kernel_rfl) (fun τ hτ => ?_)
  refine th_normalS hτ ⟨[(0, (.sl (List.map (cS cI) needs))), (1, (vI stations)), (2, (.sl (List.map c_Change l))), (7, (vI r4))], []⟩ (here (by as_aux_lemma => kernel_rfl)) ?_
  refine sem_seq (by as_aux_lemma => kernel_rfl) ?_
  refine sem_region (by as_aux_lemma => kernel_rfl) ?_
  refine evs_run 2 (by as_aux_lemma => kernel_rfl) ?_
  refine evs_endS (by as_aux_lemma => kernel_rfl) (fun τ hτ => ?_)
  refine th_normalS hτ ⟨[(0, (.sl (List.map (cS cI) needs))), (1, (vI stations)), (2, (.sl (List.map c_Change l))), (7, (vI r4)), (16, (vB (r4 != 0)))], []⟩ (here (by as_aux_lemma => kernel_rfl)) ?_
  refine sem_cond (r4 != 0) (by as_aux_lemma => kernel_rfl) (by as_aux_lemma => kernel_rfl) (fun hb => ?_) (fun hb => ?_)
  · replace h := iteT hb h
    refine sem_seq (by as_aux_lemma => kernel_rfl) ?_
    refine sem_region (by as_aux_lemma => kernel_rfl) ?_
    refine evs_run 2 (by as_aux_lemma => kernel_rfl) ?_
    refine evs_endS (by as_aux_lemma => kernel_rfl) (fun τ hτ => ?_)
    refine th_normalS hτ ⟨[(6, (vI r4))], []⟩ (here (by as_aux_lemma => kernel_rfl)) ?_
    refine sem_retS (by as_aux_lemma => kernel_rfl) (fun τ hτ => ?_)
    refine th_ret ?_
    obtain rfl := Option.some.inj h
    exact rk_ret hτ [(6, (vI r4))] (here (by as_aux_lemma => kernel_rfl)) (by as_aux_lemma => kernel_rfl)
  · replace h := iteF hb h
    refine sem_skipS (by as_aux_lemma => kernel_rfl) (fun τ hτ => ?_)
    refine th_normalS hτ ⟨[(0, (.sl (List.map (cS cI) needs))), (1, (vI stations)), (2, (.sl (List.map c_Change l)))], []⟩ (here (by as_aux_lemma => kernel_rfl)) ?_
    refine sem_seq (by as_aux_lemma => kernel_rfl) ?_
    refine sem_seq (by as_aux_lemma => kernel_rfl) ?_
    refine sem_region (by as_aux_lemma => kernel_rfl) ?_
    refine evs_run 3 (by as_aux_lemma => kernel_rfl) ?_
    obtain ⟨r8, hr8, h⟩ := bindS h
    refine evs_callS [] [] [] (by as_aux_lemma => kernel_rfl) (W.sheetmetalref05_ordered_ok hr8) (by as_aux_lemma => kernel_rfl) (by as_aux_lemma => kernel_rfl) (.inl rfl) ?_
    refine evs_run 1 (by as_aux_lemma => kernel_rfl) ?_
    refine evs_endS (by as_aux_lemma => kernel_rfl) (fun τ hτ => ?_)
    refine th_normalS hτ ⟨[(0, (.sl (List.map (cS cI) needs))), (1, (vI stations)), (2, (.sl (List.map c_Change l))), (22, (vB (!r8)))], []⟩ (here (by as_aux_lemma => kernel_rfl)) ?_
    refine sem_cond (!r8) (by as_aux_lemma => kernel_rfl) (by as_aux_lemma => kernel_rfl) (fun hb => ?_) (fun hb => ?_)
    · replace h := iteT hb h
      refine sem_seq (by as_aux_lemma => kernel_rfl) ?_
      refine sem_region (by as_aux_lemma => kernel_rfl) ?_
      refine evs_run 1 (by as_aux_lemma => kernel_rfl) ?_
      refine evs_endS (by as_aux_lemma => kernel_rfl) (fun τ hτ => ?_)
      refine th_normalS hτ ⟨[(6, (vI 12))], []⟩ (here (by as_aux_lemma => kernel_rfl)) ?_
      refine sem_retS (by as_aux_lemma => kernel_rfl) (fun τ hτ => ?_)
      refine th_ret ?_
      obtain rfl := Option.some.inj h
      exact rk_ret hτ [(6, (vI 12))] (here (by as_aux_lemma => kernel_rfl)) (by as_aux_lemma => kernel_rfl)
    · replace h := iteF hb h
      refine sem_skipS (by as_aux_lemma => kernel_rfl) (fun τ hτ => ?_)
      refine th_normalS hτ ⟨[(0, (.sl (List.map (cS cI) needs))), (1, (vI stations)), (2, (.sl (List.map c_Change l)))], []⟩ (here (by as_aux_lemma => kernel_rfl)) ?_
      refine sem_seq (by as_aux_lemma => kernel_rfl) ?_
      refine sem_seq (by as_aux_lemma => kernel_rfl) ?_
      refine sem_region (by as_aux_lemma => kernel_rfl) ?_
      refine evs_run 1 (by as_aux_lemma => kernel_rfl) ?_
      refine evs_endS (by as_aux_lemma => kernel_rfl) (fun τ hτ => ?_)
      refine th_normalS hτ ⟨[(0, (.sl (List.map (cS cI) needs))), (1, (vI stations)), (2, (.sl (List.map c_Change l))), (8, (vI 0))], []⟩ (here (by as_aux_lemma => kernel_rfl)) ?_
      refine sem_block (by as_aux_lemma => kernel_rfl) ?_
      obtain ⟨x784, hx784, h⟩ := bindS h
      refine sem_loopS (fun (s527 : Int) => ⟨[(0, (.sl (List.map (cS cI) needs))), (1, (vI stations)), (2, (.sl (List.map c_Change l))), (8, (vI s527))], []⟩) (fun (x784 : Unit ⊕ Unit) => match x784 with | .inl j785 => (.ret, ⟨[(6, (vI 11))], []⟩) | .inr j786 => (.exit 0, ⟨[], []⟩)) (sheetmetalref05_Check_l3 needs stations l) 0 x784 (by as_aux_lemma => kernel_rfl) (here (by as_aux_lemma => kernel_rfl)) hx784 ?_ ?_ ?_
      · intro s527 r h
        refine sem_seq (by as_aux_lemma => kernel_rfl) ?_
        refine sem_seq (by as_aux_lemma => kernel_rfl) ?_
        refine sem_region (by as_aux_lemma => kernel_rfl) ?_
        refine evs_run 2 (by as_aux_lemma => kernel_rfl) ?_
        refine evs_op (st_len (c := (cS cI)) (l := needs) (x := (.sl (List.map (cS cI) needs))) (by as_aux_lemma => kernel_rfl) (by as_aux_lemma => kernel_rfl)) ?_
        refine evs_run 1 (by as_aux_lemma => kernel_rfl) ?_
        refine evs_endS (by as_aux_lemma => kernel_rfl) (fun τ hτ => ?_)
        refine th_normalS hτ ⟨[(0, (.sl (List.map (cS cI) needs))), (1, (vI stations)), (2, (.sl (List.map c_Change l))), (8, (vI s527)), (26, (vB (decide (s527 < (needs.length : Int)))))], []⟩ (here (by as_aux_lemma => kernel_rfl)) ?_
        refine sem_cond (decide (s527 < (needs.length : Int))) (by as_aux_lemma => kernel_rfl) (by as_aux_lemma => kernel_rfl) (fun hb => ?_) (fun hb => ?_)
        · replace h := iteT hb h
          refine sem_skipS (by as_aux_lemma => kernel_rfl) (fun τ hτ => ?_)
          refine th_normalS hτ ⟨[(0, (.sl (List.map (cS cI) needs))), (1, (vI stations)), (2, (.sl (List.map c_Change l))), (8, (vI s527))], []⟩ (here (by as_aux_lemma => kernel_rfl)) ?_
          refine sem_seq (by as_aux_lemma => kernel_rfl) ?_
          refine sem_block (by as_aux_lemma => kernel_rfl) ?_
          refine sem_seq (by as_aux_lemma => kernel_rfl) ?_
          refine sem_region (by as_aux_lemma => kernel_rfl) ?_
          refine evs_run 1 (by as_aux_lemma => kernel_rfl) ?_
          refine evs_endS (by as_aux_lemma => kernel_rfl) (fun τ hτ => ?_)
          refine th_normalS hτ ⟨[(0, (.sl (List.map (cS cI) needs))), (1, (vI stations)), (2, (.sl (List.map c_Change l))), (8, (vI s527)), (9, (vI 0))], []⟩ (here (by as_aux_lemma => kernel_rfl)) ?_
          refine sem_seq (by as_aux_lemma => kernel_rfl) ?_
          refine sem_region (by as_aux_lemma => kernel_rfl) ?_
          refine evs_run 3 (by as_aux_lemma => kernel_rfl) ?_
          obtain ⟨r721, hr721, h⟩ := bindS h
          refine evs_callS [] [(0, 700150)] [] (by as_aux_lemma => kernel_rfl) (W.sheetmetalref05_mounted_ok hr721) (by as_aux_lemma => kernel_rfl) (by as_aux_lemma => kernel_rfl) (.inl rfl) ?_
          refine evs_run 1 (by as_aux_lemma => kernel_rfl) ?_
          refine evs_endS (by as_aux_lemma => kernel_rfl) (fun τ hτ => ?_)
          refine th_normalS hτ ⟨[(0, (.sl (List.map (cS cI) needs))), (1, (vI stations)), (2, (.sl (List.map c_Change l))), (8, (vI s527)), (9, (vI 0)), (10, (.row (.top 700150) 3))], [(700150, .row 3 [] (List.map cI r721))]⟩ (here (by as_aux_lemma => kernel_rfl)) ?_
          refine sem_seq (by as_aux_lemma => kernel_rfl) ?_
          refine sem_seq (by as_aux_lemma => kernel_rfl) ?_
          refine sem_region (by as_aux_lemma => kernel_rfl) ?_
          refine evs_run 1 (by as_aux_lemma => kernel_rfl) ?_
          refine evs_endS (by as_aux_lemma => kernel_rfl) (fun τ hτ => ?_)
          refine th_normalS hτ ⟨[(0, (.sl (List.map (cS cI) needs))), (1, (vI stations)), (2, (.sl (List.map c_Change l))), (8, (vI s527)), (9, (vI 0)), (10, (.row (.top 700150) 3)), (11, (vI 0))], [(700150, .row 3 [] (List.map cI r721))]⟩ (here (by as_aux_lemma => kernel_rfl)) ?_
          refine sem_block (by as_aux_lemma => kernel_rfl) ?_
          obtain ⟨x781, hx781, h⟩ := bindS h
          refine sem_loopS (fun (s762 : Int × Int) => ⟨[(0, (.sl (List.map (cS cI) needs))), (1, (vI stations)), (2, (.sl (List.map c_Change l))), (8, (vI s527)), (9, (vI s762.1)), (10, (.row (.top 500000) 3)), (11, (vI s762.2))], [(500000, .row 3 [] (List.map cI r721))]⟩) (fun (x781 : Int) => (.exit 2, ⟨[(0, (.sl (List.map (cS cI) needs))), (1, (vI stations)), (2, (.sl (List.map c_Change l))), (8, (vI s527)), (9, (vI x781))], []⟩)) (sheetmetalref05_Check_l2 r721) (0, 0) x781 (by as_aux_lemma => kernel_rfl) (subR_prep [] [(700150, 500000)] (by as_aux_lemma => kernel_rfl) rfl rfl (by as_aux_lemma => kernel_rfl)) hx781 ?_ ?_ ?_
          · intro s762 r h
            refine sem_seq (by as_aux_lemma => kernel_rfl) ?_
            refine sem_seq (by as_aux_lemma => kernel_rfl) ?_
            refine sem_region (by as_aux_lemma => kernel_rfl) ?_
            refine evs_run 2 (by as_aux_lemma => kernel_rfl) ?_
            refine evs_op (st_len (c := cI) (l := r721) (x := (.row (.top 500000) 3)) (by as_aux_lemma => kernel_rfl) (by as_aux_lemma => kernel_rfl)) ?_
            refine evs_run 1 (by as_aux_lemma => kernel_rfl) ?_
            refine evs_endS (by as_aux_lemma => kernel_rfl) (fun τ hτ => ?_)
            refine th_normalS hτ ⟨[(0, (.sl (List.map (cS cI) needs))), (1, (vI stations)), (2, (.sl (List.map c_Change l))), (8, (vI s527)), (9, (vI s762.1)), (10, (.row (.top 500000) 3)), (11, (vI s762.2)), (36, (vB (decide (s762.2 < (r721.length : Int)))))], [(500000, .row 3 [] (List.map cI r721))]⟩ (here (by as_aux_lemma => kernel_rfl)) ?_
            refine sem_cond (decide (s762.2 < (r721.length : Int))) (by as_aux_lemma => kernel_rfl) (by as_aux_lemma => kernel_rfl) (fun hb => ?_) (fun hb => ?_)
            · replace h := iteT hb h
              refine sem_skipS (by as_aux_lemma => kernel_rfl) (fun τ hτ => ?_)
              refine th_normalS hτ ⟨[(0, (.sl (List.map (cS cI) needs))), (1, (vI stations)), (2, (.sl (List.map c_Change l))), (8, (vI s527)), (9, (vI s762.1)), (10, (.row (.top 500000) 3)), (11, (vI s762.2))], [(500000, .row 3 [] (List.map cI r721))]⟩ (here (by as_aux_lemma => kernel_rfl)) ?_
              refine sem_seqJ (fun (j776 : Int) => ⟨[(0, (.sl (List.map (cS cI) needs))), (1, (vI stations)), (2, (.sl (List.map c_Change l))), (8, (vI s527)), (9, (vI j776)), (10, (.row (.top 500000) 3)), (11, (vI s762.2))], [(500000, .row 3 [] (List.map cI r721))]⟩) (sheetmetalref05_Check_k1 s762) r (by as_aux_lemma => kernel_rfl) (fun j776 h => ?_) ?_
              · refine sem_region (by as_aux_lemma => kernel_rfl) ?_
                refine evs_run 3 (by as_aux_lemma => kernel_rfl) ?_
                refine evs_endS (by as_aux_lemma => kernel_rfl) (fun τ hτ => ?_)
                obtain rfl := Option.some.inj h
                exact lk_nextS hτ (here (by as_aux_lemma => kernel_rfl))
              refine sem_block (by as_aux_lemma => kernel_rfl) ?_
              refine sem_seq (by as_aux_lemma => kernel_rfl) ?_
              refine sem_region (by as_aux_lemma => kernel_rfl) ?_
              refine evs_run 2 (by as_aux_lemma => kernel_rfl) ?_
              obtain ⟨x778, hx778, h⟩ := bindS h
              refine evs_op (st_idxO (c := cI) (l := r721) (i := s762.2) (kd := .i64) (kk := (.top 500000)) (e := 3) (sz := 1) (by as_aux_lemma => kernel_rfl) (by as_aux_lemma => kernel_rfl) hx778 rfl) ?_
              refine evs_op (st_ldO (c := cI) (l := r721) (i := (Int.toNat s762.2)) (v := (vI x778)) (agg := false) (sz := 1) (kk := (.top 500000)) (e := 3) (off := 0) (J := []) (by as_aux_lemma => kernel_rfl) (by as_aux_lemma => kernel_rfl) (by as_aux_lemma => kernel_rfl) ((idxS hx778).2) (by as_aux_lemma => kernel_rfl)) ?_
              refine evs_run 1 (by as_aux_lemma => kernel_rfl) ?_
              refine evs_endS (by as_aux_lemma => kernel_rfl) (fun τ hτ => ?_)
              refine th_normalS hτ ⟨[(0, (.sl (List.map (cS cI) needs))), (1, (vI stations)), (2, (.sl (List.map c_Change l))), (8, (vI s527)), (9, (vI s762.1)), (10, (.row (.top 500000) 3)), (11, (vI s762.2)), (43, (vB (decide (x778 ≥ 0))))], [(500000, .row 3 [] (List.map cI r721))]⟩ (here (by as_aux_lemma => kernel_rfl)) ?_
              refine sem_cond (decide (x778 ≥ 0)) (by as_aux_lemma => kernel_rfl) (by as_aux_lemma => kernel_rfl) (fun hb => ?_) (fun hb => ?_)
              · replace h := iteT hb h
                refine sem_region (by as_aux_lemma => kernel_rfl) ?_
                refine evs_run 3 (by as_aux_lemma => kernel_rfl) ?_
                obtain ⟨x780, hx780, h⟩ := bindS h
                refine evs_op (st_idxO (c := cI) (l := r721) (i := s762.2) (kd := .i64) (kk := (.top 500000)) (e := 3) (sz := 1) (by as_aux_lemma => kernel_rfl) (by as_aux_lemma => kernel_rfl) hx780 rfl) ?_
                refine evs_op (st_ldO (c := cI) (l := r721) (i := (Int.toNat s762.2)) (v := (vI x780)) (agg := false) (sz := 1) (kk := (.top 500000)) (e := 3) (off := 0) (J := []) (by as_aux_lemma => kernel_rfl) (by as_aux_lemma => kernel_rfl) (by as_aux_lemma => kernel_rfl) ((idxS hx780).2) (by as_aux_lemma => kernel_rfl)) ?_
                refine evs_run 1 (by as_aux_lemma => kernel_rfl) ?_
                obtain ⟨hb, h⟩ := iteN h
                refine evs_op (st_shl (a := 1) (b := (IntKind.wrap .u64 x780)) (kd := .i64) (k2 := .u64) (by as_aux_lemma => kernel_rfl) (of_decide_eq_true hb)) ?_
                refine evs_run 2 (by as_aux_lemma => kernel_rfl) ?_
                refine evs_endS (by as_aux_lemma => kernel_rfl) (fun τ hτ => ?_)
                refine bl_normal ?_
                exact jk_normal (kor .i64 s762.1 (IntKind.wrap .i64 (1 * 2 ^ (min (Int.toNat (IntKind.wrap .u64 x780)) 64)))) h hτ (here (by as_aux_lemma => kernel_rfl))
              · replace h := iteF hb h
                refine sem_skipS (by as_aux_lemma => kernel_rfl) (fun τ hτ => ?_)
                refine bl_normal ?_
                exact jk_normal s762.1 h hτ (here (by as_aux_lemma => kernel_rfl))
            · replace h := iteF hb h
              refine sem_exitS 2 (by as_aux_lemma => kernel_rfl) rfl (fun τ hτ => ?_)
              refine th_exit ?_
              obtain rfl := Option.some.inj h
              exact lk_outS hτ rfl (here (by as_aux_lemma => kernel_rfl))
          · intro x
            rfl
          · intro τ hτ
            refine bl_hit (by as_aux_lemma => kernel_rfl) ?_
            refine th_normalS hτ ⟨[(0, (.sl (List.map (cS cI) needs))), (1, (vI stations)), (2, (.sl (List.map c_Change l))), (8, (vI s527)), (9, (vI x781))], []⟩ (here (by as_aux_lemma => kernel_rfl)) ?_
            refine sem_seq (by as_aux_lemma => kernel_rfl) ?_
            refine sem_region (by as_aux_lemma => kernel_rfl) ?_
            refine evs_run 4 (by as_aux_lemma => kernel_rfl) ?_
            obtain ⟨r783, hr783, h⟩ := bindS h
            refine evs_callS [] [] [] (by as_aux_lemma => kernel_rfl) (W.sheetmetalref05_serves_ok hr783) (by as_aux_lemma => kernel_rfl) (by as_aux_lemma => kernel_rfl) (.inl rfl) ?_
            refine evs_run 1 (by as_aux_lemma => kernel_rfl) ?_
            refine evs_endS (by as_aux_lemma => kernel_rfl) (fun τ hτ => ?_)
            refine th_normalS hτ ⟨[(0, (.sl (List.map (cS cI) needs))), (1, (vI stations)), (2, (.sl (List.map c_Change l))), (8, (vI s527)), (57, (vB (!r783)))], []⟩ (here (by as_aux_lemma => kernel_rfl)) ?_
            refine sem_cond (!r783) (by as_aux_lemma => kernel_rfl) (by as_aux_lemma => kernel_rfl) (fun hb => ?_) (fun hb => ?_)
            · replace h := iteT hb h
              refine sem_seq (by as_aux_lemma => kernel_rfl) ?_
              refine sem_region (by as_aux_lemma => kernel_rfl) ?_
              refine evs_run 1 (by as_aux_lemma => kernel_rfl) ?_
              refine evs_endS (by as_aux_lemma => kernel_rfl) (fun τ hτ => ?_)
              refine th_normalS hτ ⟨[(6, (vI 11))], []⟩ (here (by as_aux_lemma => kernel_rfl)) ?_
              refine sem_retS (by as_aux_lemma => kernel_rfl) (fun τ hτ => ?_)
              refine bl_ret ?_
              refine th_ret ?_
              obtain rfl := Option.some.inj h
              exact lk_outS hτ rfl (here (by as_aux_lemma => kernel_rfl))
            · replace h := iteF hb h
              refine sem_skipS (by as_aux_lemma => kernel_rfl) (fun τ hτ => ?_)
              refine bl_normal ?_
              refine th_normalS hτ ⟨[(0, (.sl (List.map (cS cI) needs))), (1, (vI stations)), (2, (.sl (List.map c_Change l))), (8, (vI s527))], []⟩ (here (by as_aux_lemma => kernel_rfl)) ?_
              refine sem_region (by as_aux_lemma => kernel_rfl) ?_
              refine evs_run 3 (by as_aux_lemma => kernel_rfl) ?_
              refine evs_endS (by as_aux_lemma => kernel_rfl) (fun τ hτ => ?_)
              obtain rfl := Option.some.inj h
              exact lk_nextS hτ (here (by as_aux_lemma => kernel_rfl))
        · replace h := iteF hb h
          refine sem_exitS 0 (by as_aux_lemma => kernel_rfl) rfl (fun τ hτ => ?_)
          refine th_exit ?_
          obtain rfl := Option.some.inj h
          exact lk_outS hτ rfl (here (by as_aux_lemma => kernel_rfl))
      · intro x
        rcases x with _ | _ <;> rfl
      · intro τ hτ
        rcases x784 with j785 | j786
        · refine bl_ret ?_
          refine th_ret ?_
          obtain rfl := Option.some.inj h
          exact rk_ret hτ [(6, (vI 11))] (here (by as_aux_lemma => kernel_rfl)) (by as_aux_lemma => kernel_rfl)
        · refine bl_hit (by as_aux_lemma => kernel_rfl) ?_
          refine th_normalS hτ ⟨[], []⟩ (here (by as_aux_lemma => kernel_rfl)) ?_
          refine sem_seq (by as_aux_lemma => kernel_rfl) ?_
          refine sem_region (by as_aux_lemma => kernel_rfl) ?_
          refine evs_run 1 (by as_aux_lemma => kernel_rfl) ?_
          refine evs_endS (by as_aux_lemma => kernel_rfl) (fun τ hτ => ?_)
          refine th_normalS hτ ⟨[(6, (vI 0))], []⟩ (here (by as_aux_lemma => kernel_rfl)) ?_
          refine sem_retS (by as_aux_lemma => kernel_rfl) (fun τ hτ => ?_)
          obtain rfl := Option.some.inj h
          exact rk_ret hτ [(6, (vI 0))] (here (by as_aux_lemma => kernel_rfl)) (by as_aux_lemma => kernel_rfl)
theorem W.sheetmetallaw05_SetupChecks_ok {needs : (List (List Int))} {a : Int} {a2 : (List Change)} {r : Bool} (h : sheetmetallaw05_SetupChecks needs a a2 = some r) : PC G.P 14 [(.sl (List.map (cS cI) needs)), (vI a), (.sl (List.map c_Change a2))] [] (vB r) [] := by
  refine pc_of G (fn := Try.f14) Try.func14 (by as_aux_lemma => kernel_rfl) (by as_aux_lemma => kernel_rfl) (by as_aux_lemma => kernel_rfl) (by as_aux_lemma => kernel_rfl) (by as_aux_lemma => kernel_rfl) ?_
  refine sem_set ⟨[(0, (.sl (List.map (cS cI) needs))), (1, (vI a)), (2, (.sl (List.map c_Change a2)))], []⟩ (by as_aux_lemma => kernel_rfl) ?_
  refine sem_seq (by as_aux_lemma => kernel_rfl) ?_
  refine sem_region (by as_aux_lemma => kernel_rfl) ?_
  refine evs_run 1 (by as_aux_lemma => kernel_rfl) ?_
  refine evs_endS (by as_aux_lemma => kernel_rfl) (fun τ hτ => ?_)
  refine th_normalS hτ ⟨[(0, (.sl (List.map (cS cI) needs))), (1, (vI a)), (2, (.sl (List.map c_Change a2)))], []⟩ (here (by as_aux_lemma => kernel_rfl)) ?_
  refine sem_seq (by as_aux_lemma => kernel_rfl) ?_
  refine sem_seq (by as_aux_lemma => kernel_rfl) ?_
  obtain ⟨j7, hj7, h⟩ := bindS h
  refine sem_regionC ⟨[(0, (.sl (List.map (cS cI) needs))), (1, (vI a)), (2, (.sl (List.map c_Change a2))), (21, (vB j7))], []⟩ (by as_aux_lemma => kernel_rfl) ?_ (fun τ hτ => ?_)
  · replace h := hj7
    refine evs_run 1 (by as_aux_lemma => kernel_rfl) ?_
    obtain ⟨r8, hr8, h⟩ := bindS h
    refine evs_callS [] [] [] (by as_aux_lemma => kernel_rfl) (W.sheetmetallaw05_Long_ok hr8) (by as_aux_lemma => kernel_rfl) (by as_aux_lemma => kernel_rfl) (.inl rfl) ?_
    refine evs_run 1 (by as_aux_lemma => kernel_rfl) ?_
    refine evs_split r8 (fun b0 => ⟨[(0, (.sl (List.map (cS cI) needs))), (1, (vI a)), (2, (.sl (List.map c_Change a2))), (17, (vB b0))], []⟩) (by as_aux_lemma => kernel_rfl) (fun hb => ?_) (fun hb => ?_)
    · replace h := iteT hb h
      refine evs_run 4 (by as_aux_lemma => kernel_rfl) ?_
      refine evs_endS (by as_aux_lemma => kernel_rfl) (fun τ hτ => ?_)
      obtain rfl := Option.some.inj h
      exact leafC hτ (here (by as_aux_lemma => kernel_rfl))
    · replace h := iteF hb h
      refine evs_run 1 (by as_aux_lemma => kernel_rfl) ?_
      refine evs_op (st_len (c := c_Change) (l := a2) (x := (.sl (List.map c_Change a2))) (by as_aux_lemma => kernel_rfl) (by as_aux_lemma => kernel_rfl)) ?_
      refine evs_run 2 (by as_aux_lemma => kernel_rfl) ?_
      refine evs_endS (by as_aux_lemma => kernel_rfl) (fun τ hτ => ?_)
      obtain rfl := Option.some.inj h
      exact leafC hτ (here (by as_aux_lemma => kernel_rfl))
  refine th_normalS hτ ⟨[(0, (.sl (List.map (cS cI) needs))), (1, (vI a)), (2, (.sl (List.map c_Change a2))), (21, (vB j7))], []⟩ (here (by as_aux_lemma => kernel_rfl)) ?_
  refine sem_cond j7 (by as_aux_lemma => kernel_rfl) (by as_aux_lemma => kernel_rfl) (fun hb => ?_) (fun hb => ?_)
  · replace h := iteT hb h
    refine sem_seq (by as_aux_lemma => kernel_rfl) ?_
    refine sem_region (by as_aux_lemma => kernel_rfl) ?_
    obtain ⟨r10, hr10, h⟩ := bindS h
    refine evs_callS [] [] [] (by as_aux_lemma => kernel_rfl) (W.sheetmetallaw05_known_ok hr10) (by as_aux_lemma => kernel_rfl) (by as_aux_lemma => kernel_rfl) (.inl rfl) ?_
    refine evs_run 1 (by as_aux_lemma => kernel_rfl) ?_
    refine evs_endS (by as_aux_lemma => kernel_rfl) (fun τ hτ => ?_)
    refine th_normalS hτ ⟨[(6, (vB r10))], []⟩ (here (by as_aux_lemma => kernel_rfl)) ?_
    refine sem_retS (by as_aux_lemma => kernel_rfl) (fun τ hτ => ?_)
    refine th_ret ?_
    obtain rfl := Option.some.inj h
    exact rk_ret hτ [(6, (vB r10))] (here (by as_aux_lemma => kernel_rfl)) (by as_aux_lemma => kernel_rfl)
  · replace h := iteF hb h
    refine sem_skipS (by as_aux_lemma => kernel_rfl) (fun τ hτ => ?_)
    refine th_normalS hτ ⟨[(0, (.sl (List.map (cS cI) needs))), (1, (vI a)), (2, (.sl (List.map c_Change a2)))], []⟩ (here (by as_aux_lemma => kernel_rfl)) ?_
    refine sem_seq (by as_aux_lemma => kernel_rfl) ?_
    refine sem_region (by as_aux_lemma => kernel_rfl) ?_
    refine evs_run 3 (by as_aux_lemma => kernel_rfl) ?_
    obtain ⟨r12, hr12, h⟩ := bindS h
    refine evs_callS [] [] [] (by as_aux_lemma => kernel_rfl) (W.setup_Check_ok hr12) (by as_aux_lemma => kernel_rfl) (by as_aux_lemma => kernel_rfl) (.inl rfl) ?_
    refine evs_run 1 (by as_aux_lemma => kernel_rfl) ?_
    refine evs_endS (by as_aux_lemma => kernel_rfl) (fun τ hτ => ?_)
    refine th_normalS hτ ⟨[(0, (.sl (List.map (cS cI) needs))), (1, (vI a)), (2, (.sl (List.map c_Change a2))), (7, (vI r12))], []⟩ (here (by as_aux_lemma => kernel_rfl)) ?_
    refine sem_seq (by as_aux_lemma => kernel_rfl) ?_
    refine sem_seq (by as_aux_lemma => kernel_rfl) ?_
    refine sem_region (by as_aux_lemma => kernel_rfl) ?_
    refine evs_run 4 (by as_aux_lemma => kernel_rfl) ?_
    obtain ⟨r16, hr16, h⟩ := bindS h
    refine evs_callS [] [] [] (by as_aux_lemma => kernel_rfl) (W.sheetmetalref05_Check_ok hr16) (by as_aux_lemma => kernel_rfl) (by as_aux_lemma => kernel_rfl) (.inl rfl) ?_
    refine evs_run 1 (by as_aux_lemma => kernel_rfl) ?_
    refine evs_endS (by as_aux_lemma => kernel_rfl) (fun τ hτ => ?_)
    refine th_normalS hτ ⟨[(0, (.sl (List.map (cS cI) needs))), (1, (vI a)), (2, (.sl (List.map c_Change a2))), (7, (vI r12)), (32, (vB (r12 != r16)))], []⟩ (here (by as_aux_lemma => kernel_rfl)) ?_
    refine sem_cond (r12 != r16) (by as_aux_lemma => kernel_rfl) (by as_aux_lemma => kernel_rfl) (fun hb => ?_) (fun hb => ?_)
    · replace h := iteT hb h
      refine sem_seq (by as_aux_lemma => kernel_rfl) ?_
      refine sem_region (by as_aux_lemma => kernel_rfl) ?_
      refine evs_run 1 (by as_aux_lemma => kernel_rfl) ?_
      refine evs_endS (by as_aux_lemma => kernel_rfl) (fun τ hτ => ?_)
      refine th_normalS hτ ⟨[(6, (vB false))], []⟩ (here (by as_aux_lemma => kernel_rfl)) ?_
      refine sem_retS (by as_aux_lemma => kernel_rfl) (fun τ hτ => ?_)
      refine th_ret ?_
      obtain rfl := Option.some.inj h
      exact rk_ret hτ [(6, (vB false))] (here (by as_aux_lemma => kernel_rfl)) (by as_aux_lemma => kernel_rfl)
    · replace h := iteF hb h
      refine sem_skipS (by as_aux_lemma => kernel_rfl) (fun τ hτ => ?_)
      refine th_normalS hτ ⟨[(0, (.sl (List.map (cS cI) needs))), (1, (vI a)), (2, (.sl (List.map c_Change a2))), (7, (vI r12))], []⟩ (here (by as_aux_lemma => kernel_rfl)) ?_
      refine sem_seq (by as_aux_lemma => kernel_rfl) ?_
      refine sem_seq (by as_aux_lemma => kernel_rfl) ?_
      obtain ⟨j20, hj20, h⟩ := bindS h
      refine sem_regionC ⟨[(0, (.sl (List.map (cS cI) needs))), (1, (vI a)), (2, (.sl (List.map c_Change a2))), (7, (vI r12)), (38, (vB j20))], []⟩ (by as_aux_lemma => kernel_rfl) ?_ (fun τ hτ => ?_)
      · replace h := hj20
        refine evs_run 3 (by as_aux_lemma => kernel_rfl) ?_
        refine evs_split (r12 != 0) (fun b0 => ⟨[(0, (.sl (List.map (cS cI) needs))), (1, (vI a)), (2, (.sl (List.map c_Change a2))), (7, (vI r12)), (35, (vB b0))], []⟩) (by as_aux_lemma => kernel_rfl) (fun hb => ?_) (fun hb => ?_)
        · replace h := iteT hb h
          refine evs_run 3 (by as_aux_lemma => kernel_rfl) ?_
          refine evs_endS (by as_aux_lemma => kernel_rfl) (fun τ hτ => ?_)
          obtain rfl := Option.some.inj h
          exact leafC hτ (here (by as_aux_lemma => kernel_rfl))
        · replace h := iteF hb h
          refine evs_run 3 (by as_aux_lemma => kernel_rfl) ?_
          refine evs_endS (by as_aux_lemma => kernel_rfl) (fun τ hτ => ?_)
          obtain rfl := Option.some.inj h
          exact leafC hτ (here (by as_aux_lemma => kernel_rfl))
      refine th_normalS hτ ⟨[(0, (.sl (List.map (cS cI) needs))), (1, (vI a)), (2, (.sl (List.map c_Change a2))), (7, (vI r12)), (38, (vB j20))], []⟩ (here (by as_aux_lemma => kernel_rfl)) ?_
      refine sem_cond j20 (by as_aux_lemma => kernel_rfl) (by as_aux_lemma => kernel_rfl) (fun hb => ?_) (fun hb => ?_)
      · replace h := iteT hb h
        refine sem_seq (by as_aux_lemma => kernel_rfl) ?_
        refine sem_region (by as_aux_lemma => kernel_rfl) ?_
        obtain ⟨r22, hr22, h⟩ := bindS h
        refine evs_callS [] [] [] (by as_aux_lemma => kernel_rfl) (W.sheetmetallaw05_known_ok hr22) (by as_aux_lemma => kernel_rfl) (by as_aux_lemma => kernel_rfl) (.inl rfl) ?_
        refine evs_run 1 (by as_aux_lemma => kernel_rfl) ?_
        refine evs_endS (by as_aux_lemma => kernel_rfl) (fun τ hτ => ?_)
        refine th_normalS hτ ⟨[(6, (vB r22))], []⟩ (here (by as_aux_lemma => kernel_rfl)) ?_
        refine sem_retS (by as_aux_lemma => kernel_rfl) (fun τ hτ => ?_)
        refine th_ret ?_
        obtain rfl := Option.some.inj h
        exact rk_ret hτ [(6, (vB r22))] (here (by as_aux_lemma => kernel_rfl)) (by as_aux_lemma => kernel_rfl)
      · replace h := iteF hb h
        refine sem_skipS (by as_aux_lemma => kernel_rfl) (fun τ hτ => ?_)
        refine th_normalS hτ ⟨[(0, (.sl (List.map (cS cI) needs))), (1, (vI a)), (2, (.sl (List.map c_Change a2))), (7, (vI r12))], []⟩ (here (by as_aux_lemma => kernel_rfl)) ?_
        refine sem_seq (by as_aux_lemma => kernel_rfl) ?_
        refine sem_region (by as_aux_lemma => kernel_rfl) ?_
        refine evs_run 1 (by as_aux_lemma => kernel_rfl) ?_
        refine evs_endS (by as_aux_lemma => kernel_rfl) (fun τ hτ => ?_)
        refine th_normalS hτ ⟨[(0, (.sl (List.map (cS cI) needs))), (1, (vI a)), (2, (.sl (List.map c_Change a2))), (7, (vI r12)), (8, (vB true))], []⟩ (here (by as_aux_lemma => kernel_rfl)) ?_
        refine sem_seq (by as_aux_lemma => kernel_rfl) ?_
        refine sem_seq (by as_aux_lemma => kernel_rfl) ?_
        refine sem_region (by as_aux_lemma => kernel_rfl) ?_
        refine evs_run 1 (by as_aux_lemma => kernel_rfl) ?_
        refine evs_endS (by as_aux_lemma => kernel_rfl) (fun τ hτ => ?_)
        refine th_normalS hτ ⟨[(0, (.sl (List.map (cS cI) needs))), (1, (vI a)), (2, (.sl (List.map c_Change a2))), (7, (vI r12)), (8, (vB true)), (9, (vI 0))], []⟩ (here (by as_aux_lemma => kernel_rfl)) ?_
        refine sem_block (by as_aux_lemma => kernel_rfl) ?_
        obtain ⟨x10938, hx10938, h⟩ := bindS h
        refine sem_loopS (fun (s7301 : Bool × Int) => ⟨[(0, (.sl (List.map (cS cI) needs))), (1, (vI a)), (2, (.sl (List.map c_Change a2))), (7, (vI r12)), (8, (vB s7301.1)), (9, (vI s7301.2))], []⟩) (fun (x10938 : Unit ⊕ Bool) => match x10938 with | .inl j10939 => (.ret, ⟨[(6, (vB false))], []⟩) | .inr j10940 => (.exit 0, ⟨[(7, (vI r12)), (8, (vB j10940))], []⟩)) (sheetmetallaw05_SetupChecks_l3 needs a a2) (true, 0) x10938 (by as_aux_lemma => kernel_rfl) (here (by as_aux_lemma => kernel_rfl)) hx10938 ?_ ?_ ?_
        · intro s7301 r h
          refine sem_seq (by as_aux_lemma => kernel_rfl) ?_
          refine sem_seq (by as_aux_lemma => kernel_rfl) ?_
          refine sem_region (by as_aux_lemma => kernel_rfl) ?_
          refine evs_run 2 (by as_aux_lemma => kernel_rfl) ?_
          refine evs_op (st_len (c := (cS cI)) (l := needs) (x := (.sl (List.map (cS cI) needs))) (by as_aux_lemma => kernel_rfl) (by as_aux_lemma => kernel_rfl)) ?_
          refine evs_run 1 (by as_aux_lemma => kernel_rfl) ?_
          refine evs_endS (by as_aux_lemma => kernel_rfl) (fun τ hτ => ?_)
          refine th_normalS hτ ⟨[(0, (.sl (List.map (cS cI) needs))), (1, (vI a)), (2, (.sl (List.map c_Change a2))), (7, (vI r12)), (8, (vB s7301.1)), (9, (vI s7301.2)), (43, (vB (decide (s7301.2 < (needs.length : Int)))))], []⟩ (here (by as_aux_lemma => kernel_rfl)) ?_
          refine sem_cond (decide (s7301.2 < (needs.length : Int))) (by as_aux_lemma => kernel_rfl) (by as_aux_lemma => kernel_rfl) (fun hb => ?_) (fun hb => ?_)
          · replace h := iteT hb h
            refine sem_skipS (by as_aux_lemma => kernel_rfl) (fun τ hτ => ?_)
            refine th_normalS hτ ⟨[(0, (.sl (List.map (cS cI) needs))), (1, (vI a)), (2, (.sl (List.map c_Change a2))), (7, (vI r12)), (8, (vB s7301.1)), (9, (vI s7301.2))], []⟩ (here (by as_aux_lemma => kernel_rfl)) ?_
            refine sem_seq (by as_aux_lemma => kernel_rfl) ?_
            refine sem_block (by as_aux_lemma => kernel_rfl) ?_
            refine sem_seq (by as_aux_lemma => kernel_rfl) ?_
            refine sem_region (by as_aux_lemma => kernel_rfl) ?_
            refine evs_run 4 (by as_aux_lemma => kernel_rfl) ?_
            obtain ⟨r10030, hr10030, h⟩ := bindS h
            refine evs_callS [] [(0, 700200)] [] (by as_aux_lemma => kernel_rfl) (W.setup_Mounted_ok hr10030) (by as_aux_lemma => kernel_rfl) (by as_aux_lemma => kernel_rfl) (.inl rfl) ?_
            refine evs_run 5 (by as_aux_lemma => kernel_rfl) ?_
            refine evs_endS (by as_aux_lemma => kernel_rfl) (fun τ hτ => ?_)
            refine th_normalS hτ ⟨[(0, (.sl (List.map (cS cI) needs))), (1, (vI a)), (2, (.sl (List.map c_Change a2))), (7, (vI r12)), (8, (vB s7301.1)), (9, (vI s7301.2)), (10, (.row (.top 700200) 3)), (11, (vI r10030.2))], [(700200, .row 3 [] (List.map cI r10030.1))]⟩ (here (by as_aux_lemma => kernel_rfl)) ?_
            refine sem_seq (by as_aux_lemma => kernel_rfl) ?_
            refine sem_region (by as_aux_lemma => kernel_rfl) ?_
            refine evs_run 1 (by as_aux_lemma => kernel_rfl) ?_
            refine evs_endS (by as_aux_lemma => kernel_rfl) (fun τ hτ => ?_)
            refine th_normalS hτ ⟨[(0, (.sl (List.map (cS cI) needs))), (1, (vI a)), (2, (.sl (List.map c_Change a2))), (7, (vI r12)), (8, (vB s7301.1)), (9, (vI s7301.2)), (10, (.row (.top 700200) 3)), (11, (vI r10030.2)), (12, (vB false))], [(700200, .row 3 [] (List.map cI r10030.1))]⟩ (here (by as_aux_lemma => kernel_rfl)) ?_
            refine sem_seq (by as_aux_lemma => kernel_rfl) ?_
            refine sem_seq (by as_aux_lemma => kernel_rfl) ?_
            refine sem_region (by as_aux_lemma => kernel_rfl) ?_
            refine evs_run 1 (by as_aux_lemma => kernel_rfl) ?_
            refine evs_endS (by as_aux_lemma => kernel_rfl) (fun τ hτ => ?_)
            refine th_normalS hτ ⟨[(0, (.sl (List.map (cS cI) needs))), (1, (vI a)), (2, (.sl (List.map c_Change a2))), (7, (vI r12)), (8, (vB s7301.1)), (9, (vI s7301.2)), (10, (.row (.top 700200) 3)), (11, (vI r10030.2)), (12, (vB false)), (13, (vI 0))], [(700200, .row 3 [] (List.map cI r10030.1))]⟩ (here (by as_aux_lemma => kernel_rfl)) ?_
            refine sem_block (by as_aux_lemma => kernel_rfl) ?_
            obtain ⟨x10936, hx10936, h⟩ := bindS h
            refine sem_loopS (fun (s10635 : Bool × Int) => ⟨[(0, (.sl (List.map (cS cI) needs))), (1, (vI a)), (2, (.sl (List.map c_Change a2))), (7, (vI r12)), (8, (vB s7301.1)), (9, (vI s7301.2)), (10, (.row (.top 500000) 3)), (11, (vI r10030.2)), (12, (vB s10635.1)), (13, (vI s10635.2))], [(500000, .row 3 [] (List.map cI r10030.1))]⟩) (fun (x10936 : Bool) => (.exit 2, ⟨[(0, (.sl (List.map (cS cI) needs))), (1, (vI a)), (2, (.sl (List.map c_Change a2))), (7, (vI r12)), (8, (vB s7301.1)), (9, (vI s7301.2)), (11, (vI r10030.2)), (12, (vB x10936))], []⟩)) (sheetmetallaw05_SetupChecks_l2 needs s7301 r10030) (false, 0) x10936 (by as_aux_lemma => kernel_rfl) (subR_prep [] [(700200, 500000)] (by as_aux_lemma => kernel_rfl) rfl rfl (by as_aux_lemma => kernel_rfl)) hx10936 ?_ ?_ ?_
            · intro s10635 r h
              refine sem_seq (by as_aux_lemma => kernel_rfl) ?_
              refine sem_seq (by as_aux_lemma => kernel_rfl) ?_
              refine sem_region (by as_aux_lemma => kernel_rfl) ?_
              refine evs_run 2 (by as_aux_lemma => kernel_rfl) ?_
              refine evs_op (st_len (c := cI) (l := r10030.1) (x := (.row (.top 500000) 3)) (by as_aux_lemma => kernel_rfl) (by as_aux_lemma => kernel_rfl)) ?_
              refine evs_run 1 (by as_aux_lemma => kernel_rfl) ?_
              refine evs_endS (by as_aux_lemma => kernel_rfl) (fun τ hτ => ?_)
              refine th_normalS hτ ⟨[(0, (.sl (List.map (cS cI) needs))), (1, (vI a)), (2, (.sl (List.map c_Change a2))), (7, (vI r12)), (8, (vB s7301.1)), (9, (vI s7301.2)), (10, (.row (.top 500000) 3)), (11, (vI r10030.2)), (12, (vB s10635.1)), (13, (vI s10635.2)), (57, (vB (decide (s10635.2 < (r10030.1.length : Int)))))], [(500000, .row 3 [] (List.map cI r10030.1))]⟩ (here (by as_aux_lemma => kernel_rfl)) ?_
              refine sem_cond (decide (s10635.2 < (r10030.1.length : Int))) (by as_aux_lemma => kernel_rfl) (by as_aux_lemma => kernel_rfl) (fun hb => ?_) (fun hb => ?_)
              · replace h := iteT hb h
                refine sem_skipS (by as_aux_lemma => kernel_rfl) (fun τ hτ => ?_)
                refine th_normalS hτ ⟨[(0, (.sl (List.map (cS cI) needs))), (1, (vI a)), (2, (.sl (List.map c_Change a2))), (7, (vI r12)), (8, (vB s7301.1)), (9, (vI s7301.2)), (10, (.row (.top 500000) 3)), (11, (vI r10030.2)), (12, (vB s10635.1)), (13, (vI s10635.2))], [(500000, .row 3 [] (List.map cI r10030.1))]⟩ (here (by as_aux_lemma => kernel_rfl)) ?_
                refine sem_seq (by as_aux_lemma => kernel_rfl) ?_
                refine sem_block (by as_aux_lemma => kernel_rfl) ?_
                refine sem_seq (by as_aux_lemma => kernel_rfl) ?_
                refine sem_region (by as_aux_lemma => kernel_rfl) ?_
                refine evs_run 1 (by as_aux_lemma => kernel_rfl) ?_
                refine evs_endS (by as_aux_lemma => kernel_rfl) (fun τ hτ => ?_)
                refine th_normalS hτ ⟨[(0, (.sl (List.map (cS cI) needs))), (1, (vI a)), (2, (.sl (List.map c_Change a2))), (7, (vI r12)), (8, (vB s7301.1)), (9, (vI s7301.2)), (10, (.row (.top 500000) 3)), (11, (vI r10030.2)), (12, (vB s10635.1)), (13, (vI s10635.2)), (14, (vI 0))], [(500000, .row 3 [] (List.map cI r10030.1))]⟩ (here (by as_aux_lemma => kernel_rfl)) ?_
                refine sem_block (by as_aux_lemma => kernel_rfl) ?_
                obtain ⟨x10935, hx10935, h⟩ := bindS h
                refine sem_loopS (fun (s10886 : Bool × Int) => ⟨[(0, (.sl (List.map (cS cI) needs))), (1, (vI a)), (2, (.sl (List.map c_Change a2))), (7, (vI r12)), (8, (vB s7301.1)), (9, (vI s7301.2)), (10, (.row (.top 500000) 3)), (11, (vI r10030.2)), (12, (vB s10886.1)), (13, (vI s10635.2)), (14, (vI s10886.2))], [(500000, .row 3 [] (List.map cI r10030.1))]⟩) (fun (x10935 : Bool) => (.exit 4, ⟨[(0, (.sl (List.map (cS cI) needs))), (1, (vI a)), (2, (.sl (List.map c_Change a2))), (7, (vI r12)), (8, (vB s7301.1)), (9, (vI s7301.2)), (10, (.row (.top 500000) 3)), (11, (vI r10030.2)), (12, (vB x10935)), (13, (vI s10635.2))], [(500000, .row 3 [] (List.map cI r10030.1))]⟩)) (sheetmetallaw05_SetupChecks_l1 needs s7301 r10030 s10635) (s10635.1, 0) x10935 (by as_aux_lemma => kernel_rfl) (here (by as_aux_lemma => kernel_rfl)) hx10935 ?_ ?_ ?_
                · intro s10886 r h
                  refine sem_seq (by as_aux_lemma => kernel_rfl) ?_
                  refine sem_seq (by as_aux_lemma => kernel_rfl) ?_
                  refine sem_region (by as_aux_lemma => kernel_rfl) ?_
                  refine evs_run 3 (by as_aux_lemma => kernel_rfl) ?_
                  obtain ⟨x10914, hx10914, h⟩ := bindS h
                  refine evs_op (st_idx (c := (cS cI)) (l := needs) (i := s7301.2) (kd := .i64) (sz := 1) (by as_aux_lemma => kernel_rfl) hx10914 rfl) ?_
                  refine evs_run 1 (by as_aux_lemma => kernel_rfl) ?_
                  refine evs_op (st_len (c := cI) (l := x10914) (x := (.sl (List.map cI x10914))) (by as_aux_lemma => kernel_rfl) (by as_aux_lemma => kernel_rfl)) ?_
                  refine evs_run 1 (by as_aux_lemma => kernel_rfl) ?_
                  refine evs_endS (by as_aux_lemma => kernel_rfl) (fun τ hτ => ?_)
                  refine th_normalS hτ ⟨[(0, (.sl (List.map (cS cI) needs))), (1, (vI a)), (2, (.sl (List.map c_Change a2))), (7, (vI r12)), (8, (vB s7301.1)), (9, (vI s7301.2)), (10, (.row (.top 500000) 3)), (11, (vI r10030.2)), (12, (vB s10886.1)), (13, (vI s10635.2)), (14, (vI s10886.2)), (66, (vB (decide (s10886.2 < (x10914.length : Int)))))], [(500000, .row 3 [] (List.map cI r10030.1))]⟩ (here (by as_aux_lemma => kernel_rfl)) ?_
                  refine sem_cond (decide (s10886.2 < (x10914.length : Int))) (by as_aux_lemma => kernel_rfl) (by as_aux_lemma => kernel_rfl) (fun hb => ?_) (fun hb => ?_)
                  · replace h := iteT hb h
                    refine sem_skipS (by as_aux_lemma => kernel_rfl) (fun τ hτ => ?_)
                    refine th_normalS hτ ⟨[(0, (.sl (List.map (cS cI) needs))), (1, (vI a)), (2, (.sl (List.map c_Change a2))), (7, (vI r12)), (8, (vB s7301.1)), (9, (vI s7301.2)), (10, (.row (.top 500000) 3)), (11, (vI r10030.2)), (12, (vB s10886.1)), (13, (vI s10635.2)), (14, (vI s10886.2))], [(500000, .row 3 [] (List.map cI r10030.1))]⟩ (here (by as_aux_lemma => kernel_rfl)) ?_
                    refine sem_seq (by as_aux_lemma => kernel_rfl) ?_
                    refine sem_block (by as_aux_lemma => kernel_rfl) ?_
                    obtain ⟨j10931, hj10931, h⟩ := bindS h
                    refine sem_drawC ⟨[(0, (.sl (List.map (cS cI) needs))), (1, (vI a)), (2, (.sl (List.map c_Change a2))), (7, (vI r12)), (8, (vB s7301.1)), (9, (vI s7301.2)), (10, (.row (.top 500000) 3)), (11, (vI r10030.2)), (12, (vB j10931)), (13, (vI s10635.2)), (14, (vI s10886.2))], [(500000, .row 3 [] (List.map cI r10030.1))]⟩ [] [] [] [] [] 13 (by as_aux_lemma => kernel_rfl) (by as_aux_lemma => kernel_rfl) [] (by as_aux_lemma => kernel_rfl) (by as_aux_lemma => kernel_rfl) ?_ (fun τ hτ => ?_)
                    · replace h := hj10931
                      refine evd_run 2 (by as_aux_lemma => kernel_rfl) ?_
                      refine evd_split s10886.1 (fun b0 => ⟨[(70, (vB b0)), (69, (vB b0)), (0, (.sl (List.map (cS cI) needs))), (1, (vI a)), (2, (.sl (List.map c_Change a2))), (7, (vI r12)), (8, (vB s7301.1)), (9, (vI s7301.2)), (10, (.row (.top 500000) 3)), (11, (vI r10030.2)), (12, (vB b0)), (13, (vI s10635.2)), (14, (vI s10886.2))], [(500000, .row 3 [] (List.map cI r10030.1))]⟩) (by as_aux_lemma => kernel_rfl) (fun hb => ?_) (fun hb => ?_)
                      · replace h := iteT hb h
                        refine evd_run 11 (by as_aux_lemma => kernel_rfl) ?_
                        refine evd_end (by as_aux_lemma => kernel_rfl) ?_
                        refine evo_run 3 (by as_aux_lemma => kernel_rfl) ?_
                        refine evo_endS (by as_aux_lemma => kernel_rfl) (fun τ hτ => ?_)
                        obtain rfl := Option.some.inj h
                        exact leafC hτ (here (by as_aux_lemma => kernel_rfl))
                      · replace h := iteF hb h
                        refine evd_run 2 (by as_aux_lemma => kernel_rfl) ?_
                        obtain ⟨x10932, hx10932, h⟩ := bindS h
                        refine evd_val (by as_aux_lemma => kernel_rfl) (st_idxO (c := cI) (l := r10030.1) (i := s10635.2) (kd := .i64) (kk := (.top 500000)) (e := 3) (sz := 1) (by as_aux_lemma => kernel_rfl) (by as_aux_lemma => kernel_rfl) hx10932 rfl) (by as_aux_lemma => kernel_rfl) (by as_aux_lemma => kernel_rfl) ?_
                        refine evd_val (by as_aux_lemma => kernel_rfl) (st_ldO (c := cI) (l := r10030.1) (i := (Int.toNat s10635.2)) (v := (vI x10932)) (agg := false) (sz := 1) (kk := (.top 500000)) (e := 3) (off := 0) (J := []) (by as_aux_lemma => kernel_rfl) (by as_aux_lemma => kernel_rfl) (by as_aux_lemma => kernel_rfl) ((idxS hx10932).2) (by as_aux_lemma => kernel_rfl)) (by as_aux_lemma => kernel_rfl) (by as_aux_lemma => kernel_rfl) ?_
                        refine evd_run 2 (by as_aux_lemma => kernel_rfl) ?_
                        obtain ⟨x10933, hx10933, h⟩ := bindS h
                        refine evd_val (by as_aux_lemma => kernel_rfl) (st_idx (c := (cS cI)) (l := needs) (i := s7301.2) (kd := .i64) (sz := 1) (by as_aux_lemma => kernel_rfl) hx10933 rfl) (by as_aux_lemma => kernel_rfl) (by as_aux_lemma => kernel_rfl) ?_
                        refine evd_run 2 (by as_aux_lemma => kernel_rfl) ?_
                        obtain ⟨x10934, hx10934, h⟩ := bindS h
                        refine evd_val (by as_aux_lemma => kernel_rfl) (st_idx (c := cI) (l := x10933) (i := s10886.2) (kd := .i64) (sz := 1) (by as_aux_lemma => kernel_rfl) hx10934 rfl) (by as_aux_lemma => kernel_rfl) (by as_aux_lemma => kernel_rfl) ?_
                        refine evd_run 1 (by as_aux_lemma => kernel_rfl) ?_
                        refine evd_end (by as_aux_lemma => kernel_rfl) ?_
                        refine evo_run 3 (by as_aux_lemma => kernel_rfl) ?_
                        refine evo_endS (by as_aux_lemma => kernel_rfl) (fun τ hτ => ?_)
                        obtain rfl := Option.some.inj h
                        exact leafC hτ (here (by as_aux_lemma => kernel_rfl))
                    refine bl_normal ?_
                    refine th_normalS hτ ⟨[(0, (.sl (List.map (cS cI) needs))), (1, (vI a)), (2, (.sl (List.map c_Change a2))), (7, (vI r12)), (8, (vB s7301.1)), (9, (vI s7301.2)), (10, (.row (.top 500000) 3)), (11, (vI r10030.2)), (12, (vB j10931)), (13, (vI s10635.2)), (14, (vI s10886.2))], [(500000, .row 3 [] (List.map cI r10030.1))]⟩ (here (by as_aux_lemma => kernel_rfl)) ?_
                    refine sem_region (by as_aux_lemma => kernel_rfl) ?_
                    refine evs_run 3 (by as_aux_lemma => kernel_rfl) ?_
                    refine evs_endS (by as_aux_lemma => kernel_rfl) (fun τ hτ => ?_)
                    obtain rfl := Option.some.inj h
                    exact lk_nextS hτ (here (by as_aux_lemma => kernel_rfl))
                  · replace h := iteF hb h
                    refine sem_exitS 4 (by as_aux_lemma => kernel_rfl) rfl (fun τ hτ => ?_)
                    refine th_exit ?_
                    obtain rfl := Option.some.inj h
                    exact lk_outS hτ rfl (here (by as_aux_lemma => kernel_rfl))
                · intro x
                  rfl
                · intro τ hτ
                  refine bl_hit (by as_aux_lemma => kernel_rfl) ?_
                  refine bl_normal ?_
                  refine th_normalS hτ ⟨[(0, (.sl (List.map (cS cI) needs))), (1, (vI a)), (2, (.sl (List.map c_Change a2))), (7, (vI r12)), (8, (vB s7301.1)), (9, (vI s7301.2)), (10, (.row (.top 500000) 3)), (11, (vI r10030.2)), (12, (vB x10935)), (13, (vI s10635.2))], [(500000, .row 3 [] (List.map cI r10030.1))]⟩ (here (by as_aux_lemma => kernel_rfl)) ?_
                  refine sem_region (by as_aux_lemma => kernel_rfl) ?_
                  refine evs_run 3 (by as_aux_lemma => kernel_rfl) ?_
                  refine evs_endS (by as_aux_lemma => kernel_rfl) (fun τ hτ => ?_)
                  obtain rfl := Option.some.inj h
                  exact lk_nextS hτ (here (by as_aux_lemma => kernel_rfl))
              · replace h := iteF hb h
                refine sem_exitS 2 (by as_aux_lemma => kernel_rfl) rfl (fun τ hτ => ?_)
                refine th_exit ?_
                obtain rfl := Option.some.inj h
                exact lk_outS hτ rfl (here (by as_aux_lemma => kernel_rfl))
            · intro x
              rfl
            · intro τ hτ
              refine bl_hit (by as_aux_lemma => kernel_rfl) ?_
              refine th_normalS hτ ⟨[(0, (.sl (List.map (cS cI) needs))), (1, (vI a)), (2, (.sl (List.map c_Change a2))), (7, (vI r12)), (8, (vB s7301.1)), (9, (vI s7301.2)), (11, (vI r10030.2)), (12, (vB x10936))], []⟩ (here (by as_aux_lemma => kernel_rfl)) ?_
              refine sem_seq (by as_aux_lemma => kernel_rfl) ?_
              refine sem_seq (by as_aux_lemma => kernel_rfl) ?_
              refine sem_region (by as_aux_lemma => kernel_rfl) ?_
              refine evs_run 2 (by as_aux_lemma => kernel_rfl) ?_
              refine evs_endS (by as_aux_lemma => kernel_rfl) (fun τ hτ => ?_)
              refine th_normalS hτ ⟨[(0, (.sl (List.map (cS cI) needs))), (1, (vI a)), (2, (.sl (List.map c_Change a2))), (7, (vI r12)), (8, (vB s7301.1)), (9, (vI s7301.2)), (12, (vB x10936)), (85, (vB (r10030.2 != 0)))], []⟩ (here (by as_aux_lemma => kernel_rfl)) ?_
              refine sem_cond (r10030.2 != 0) (by as_aux_lemma => kernel_rfl) (by as_aux_lemma => kernel_rfl) (fun hb => ?_) (fun hb => ?_)
              · replace h := iteT hb h
                refine sem_seq (by as_aux_lemma => kernel_rfl) ?_
                refine sem_region (by as_aux_lemma => kernel_rfl) ?_
                refine evs_run 1 (by as_aux_lemma => kernel_rfl) ?_
                refine evs_endS (by as_aux_lemma => kernel_rfl) (fun τ hτ => ?_)
                refine th_normalS hτ ⟨[(6, (vB false))], []⟩ (here (by as_aux_lemma => kernel_rfl)) ?_
                refine sem_retS (by as_aux_lemma => kernel_rfl) (fun τ hτ => ?_)
                refine th_ret ?_
                refine bl_ret ?_
                refine th_ret ?_
                obtain rfl := Option.some.inj h
                exact lk_outS hτ rfl (here (by as_aux_lemma => kernel_rfl))
              · replace h := iteF hb h
                refine sem_skipS (by as_aux_lemma => kernel_rfl) (fun τ hτ => ?_)
                refine th_normalS hτ ⟨[(0, (.sl (List.map (cS cI) needs))), (1, (vI a)), (2, (.sl (List.map c_Change a2))), (7, (vI r12)), (8, (vB s7301.1)), (9, (vI s7301.2)), (12, (vB x10936))], []⟩ (here (by as_aux_lemma => kernel_rfl)) ?_
                obtain ⟨j10937, hj10937, h⟩ := bindS h
                refine sem_regionC ⟨[(0, (.sl (List.map (cS cI) needs))), (1, (vI a)), (2, (.sl (List.map c_Change a2))), (7, (vI r12)), (8, (vB j10937)), (9, (vI s7301.2))], []⟩ (by as_aux_lemma => kernel_rfl) ?_ (fun τ hτ => ?_)
                · replace h := hj10937
                  refine evs_run 2 (by as_aux_lemma => kernel_rfl) ?_
                  refine evs_split s7301.1 (fun b0 => ⟨[(0, (.sl (List.map (cS cI) needs))), (1, (vI a)), (2, (.sl (List.map c_Change a2))), (7, (vI r12)), (8, (vB b0)), (9, (vI s7301.2)), (12, (vB x10936)), (87, (vB b0))], []⟩) (by as_aux_lemma => kernel_rfl) (fun hb => ?_) (fun hb => ?_)
                  · replace h := iteT hb h
                    refine evs_run 3 (by as_aux_lemma => kernel_rfl) ?_
                    refine evs_endS (by as_aux_lemma => kernel_rfl) (fun τ hτ => ?_)
                    obtain rfl := Option.some.inj h
                    exact leafC hτ (here (by as_aux_lemma => kernel_rfl))
                  · replace h := iteF hb h
                    refine evs_run 3 (by as_aux_lemma => kernel_rfl) ?_
                    refine evs_endS (by as_aux_lemma => kernel_rfl) (fun τ hτ => ?_)
                    obtain rfl := Option.some.inj h
                    exact leafC hτ (here (by as_aux_lemma => kernel_rfl))
                refine bl_normal ?_
                refine th_normalS hτ ⟨[(0, (.sl (List.map (cS cI) needs))), (1, (vI a)), (2, (.sl (List.map c_Change a2))), (7, (vI r12)), (8, (vB j10937)), (9, (vI s7301.2))], []⟩ (here (by as_aux_lemma => kernel_rfl)) ?_
                refine sem_region (by as_aux_lemma => kernel_rfl) ?_
                refine evs_run 3 (by as_aux_lemma => kernel_rfl) ?_
                refine evs_endS (by as_aux_lemma => kernel_rfl) (fun τ hτ => ?_)
                obtain rfl := Option.some.inj h
                exact lk_nextS hτ (here (by as_aux_lemma => kernel_rfl))
          · replace h := iteF hb h
            refine sem_exitS 0 (by as_aux_lemma => kernel_rfl) rfl (fun τ hτ => ?_)
            refine th_exit ?_
            obtain rfl := Option.some.inj h
            exact lk_outS hτ rfl (here (by as_aux_lemma => kernel_rfl))
        · intro x
          rcases x with _ | _ <;> rfl
        · intro τ hτ
          rcases x10938 with j10939 | j10940
          · refine bl_ret ?_
            refine th_ret ?_
            obtain rfl := Option.some.inj h
            exact rk_ret hτ [(6, (vB false))] (here (by as_aux_lemma => kernel_rfl)) (by as_aux_lemma => kernel_rfl)
          · refine bl_hit (by as_aux_lemma => kernel_rfl) ?_
            refine th_normalS hτ ⟨[(7, (vI r12)), (8, (vB j10940))], []⟩ (here (by as_aux_lemma => kernel_rfl)) ?_
            refine sem_seq (by as_aux_lemma => kernel_rfl) ?_
            obtain ⟨j10942, hj10942, h⟩ := bindS h
            refine sem_regionC ⟨[(6, (vB j10942))], []⟩ (by as_aux_lemma => kernel_rfl) ?_ (fun τ hτ => ?_)
            · replace h := hj10942
              refine evs_run 5 (by as_aux_lemma => kernel_rfl) ?_
              refine evs_split (j10940 == (r12 == 0)) (fun b0 => ⟨[(94, (vB b0))], []⟩) (by as_aux_lemma => kernel_rfl) (fun hb => ?_) (fun hb => ?_)
              · replace h := iteT hb h
                obtain ⟨r10943, hr10943, h⟩ := bindS h
                refine evs_callS [] [] [] (by as_aux_lemma => kernel_rfl) (W.sheetmetallaw05_known_ok hr10943) (by as_aux_lemma => kernel_rfl) (by as_aux_lemma => kernel_rfl) (.inl rfl) ?_
                refine evs_run 2 (by as_aux_lemma => kernel_rfl) ?_
                refine evs_endS (by as_aux_lemma => kernel_rfl) (fun τ hτ => ?_)
                obtain rfl := Option.some.inj h
                exact leafC hτ (here (by as_aux_lemma => kernel_rfl))
              · replace h := iteF hb h
                refine evs_run 3 (by as_aux_lemma => kernel_rfl) ?_
                refine evs_endS (by as_aux_lemma => kernel_rfl) (fun τ hτ => ?_)
                obtain rfl := Option.some.inj h
                exact leafC hτ (here (by as_aux_lemma => kernel_rfl))
            refine th_normalS hτ ⟨[(6, (vB j10942))], []⟩ (here (by as_aux_lemma => kernel_rfl)) ?_
            refine sem_retS (by as_aux_lemma => kernel_rfl) (fun τ hτ => ?_)
            obtain rfl := Option.some.inj h
            exact rk_ret hτ [(6, (vB j10942))] (here (by as_aux_lemma => kernel_rfl)) (by as_aux_lemma => kernel_rfl)
end Go.Proofs.Ytppmnjiibmomoaa
