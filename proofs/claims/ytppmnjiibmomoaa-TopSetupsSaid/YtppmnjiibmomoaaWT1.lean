/- Each Go function does what its model says; written by a program out of the translation. -/
import Derived.Test.YtppmnjiibmomoaaWT
import Derived.Test.YtppmnjiibmomoaaSeMT
set_option linter.unusedVariables false
set_option linter.unusedSimpArgs false
set_option linter.unusedSectionVars false
namespace Go.Proofs.Ytppmnjiibmomoaa
open Go Go.VI Go.SM Go.Proofs
set_option maxRecDepth 100000
set_option maxHeartbeats 4000000
theorem W.setup_CheckBound_ok {needs : (List (List Int))} {stations : Int} {l : (List Window)} {r : Int × Int} (h : setup_CheckBound needs stations l = some r) : PC G.P 18 [(.sl (List.map (cS cI) needs)), (vI stations), (.sl (List.map c_Window l))] [] (.tup [(vI r.1), (vI r.2)]) [] := by
  refine pc_of G (fn := Try.f18) Try.func18 (by kernel_rfl) (by kernel_rfl) (by kernel_rfl) (by kernel_rfl) (by kernel_rfl) ?_
  refine sem_set ⟨[(0, (.sl (List.map (cS cI) needs))), (1, (vI stations)), (2, (.sl (List.map c_Window l)))], []⟩ (by kernel_rfl) ?_
  refine sem_seq (by kernel_rfl) ?_
  refine sem_region (by kernel_rfl) ?_
  refine evs_run 2 (by kernel_rfl) ?_
  refine evs_endS (by kernel_rfl) (fun τ hτ => ?_)
  refine th_normalS hτ ⟨[(0, (.sl (List.map (cS cI) needs))), (1, (vI stations)), (2, (.sl (List.map c_Window l)))], []⟩ (here (by kernel_rfl)) ?_
  refine sem_seq (by kernel_rfl) ?_
  refine sem_seq (by kernel_rfl) ?_
  refine sem_region (by kernel_rfl) ?_
  refine evs_run 2 (by kernel_rfl) ?_
  obtain ⟨r4, hr4, h⟩ := bindS h
  refine evs_callP [] (by kernel_rfl) (W.setup_check_ok hr4) (by kernel_rfl) (.inl rfl) (by kernel_rfl) ?_
  refine evs_run 1 (by kernel_rfl) ?_
  refine evs_endS (by kernel_rfl) (fun τ hτ => ?_)
  refine th_normalS hτ ⟨[(0, (.sl (List.map (cS cI) needs))), (1, (vI stations)), (2, (.sl (List.map c_Window l))), (8, (vI r4))], []⟩ (here (by kernel_rfl)) ?_
  refine sem_seq (by kernel_rfl) ?_
  refine sem_region (by kernel_rfl) ?_
  refine evs_run 2 (by kernel_rfl) ?_
  refine evs_endS (by kernel_rfl) (fun τ hτ => ?_)
  refine th_normalS hτ ⟨[(0, (.sl (List.map (cS cI) needs))), (1, (vI stations)), (2, (.sl (List.map c_Window l))), (8, (vI r4)), (18, (vB (r4 != 0)))], []⟩ (here (by kernel_rfl)) ?_
  refine sem_cond (r4 != 0) (by kernel_rfl) (by kernel_rfl) (fun hb => ?_) (fun hb => ?_)
  · replace h := iteT hb h
    refine sem_seq (by kernel_rfl) ?_
    refine sem_region (by kernel_rfl) ?_
    refine evs_run 3 (by kernel_rfl) ?_
    refine evs_endS (by kernel_rfl) (fun τ hτ => ?_)
    refine th_normalS hτ ⟨[(6, (vI 0)), (7, (vI r4))], []⟩ (here (by kernel_rfl)) ?_
    refine sem_retS (by kernel_rfl) (fun τ hτ => ?_)
    refine th_ret ?_
    obtain rfl := Option.some.inj h
    exact rk_ret hτ [(6, (vI 0)), (7, (vI r4))] (here (by kernel_rfl)) (by kernel_rfl)
  · replace h := iteF hb h
    refine sem_skipS (by kernel_rfl) (fun τ hτ => ?_)
    refine th_normalS hτ ⟨[(0, (.sl (List.map (cS cI) needs))), (1, (vI stations)), (2, (.sl (List.map c_Window l)))], []⟩ (here (by kernel_rfl)) ?_
    refine sem_seq (by kernel_rfl) ?_
    refine sem_seq (by kernel_rfl) ?_
    refine sem_region (by kernel_rfl) ?_
    refine evs_run 1 (by kernel_rfl) ?_
    refine evs_op (st_len (c := c_Window) (l := l) (x := (.sl (List.map c_Window l))) (by kernel_rfl) (by kernel_rfl)) ?_
    refine evs_run 1 (by kernel_rfl) ?_
    refine evs_endS (by kernel_rfl) (fun τ hτ => ?_)
    refine th_normalS hτ ⟨[(0, (.sl (List.map (cS cI) needs))), (1, (vI stations)), (2, (.sl (List.map c_Window l))), (20, (.sl (List.map c_Window l))), (21, (vI (l.length : Int))), (22, (vI 0))], []⟩ (here (by kernel_rfl)) ?_
    refine sem_block (by kernel_rfl) ?_
    obtain ⟨x60, hx60, h⟩ := bindS h
    refine sem_loopS (fun (s43 : Int) => ⟨[(0, (.sl (List.map (cS cI) needs))), (1, (vI stations)), (2, (.sl (List.map c_Window l))), (20, (.sl (List.map c_Window l))), (21, (vI (l.length : Int))), (22, (vI s43))], []⟩) (fun (x60 : Unit ⊕ Unit) => match x60 with | .inl j61 => (.ret, ⟨[(6, (vI 0)), (7, (vI 1))], []⟩) | .inr j62 => (.exit 0, ⟨[(0, (.sl (List.map (cS cI) needs))), (1, (vI stations)), (2, (.sl (List.map c_Window l)))], []⟩)) (setup_CheckBound_l1 needs l) 0 x60 (by kernel_rfl) (here (by kernel_rfl)) hx60 ?_ ?_ ?_
    · intro s43 r h
      refine sem_seq (by kernel_rfl) ?_
      refine sem_region (by kernel_rfl) ?_
      refine evs_run 1 (by kernel_rfl) ?_
      refine evs_endS (by kernel_rfl) (fun τ hτ => ?_)
      refine th_normalS hτ ⟨[(0, (.sl (List.map (cS cI) needs))), (1, (vI stations)), (2, (.sl (List.map c_Window l))), (20, (.sl (List.map c_Window l))), (21, (vI (l.length : Int))), (22, (vI s43)), (23, (vB (decide (s43 < (l.length : Int)))))], []⟩ (here (by kernel_rfl)) ?_
      refine sem_seq (by kernel_rfl) ?_
      refine sem_cond (decide (s43 < (l.length : Int))) (by kernel_rfl) (by kernel_rfl) (fun hb => ?_) (fun hb => ?_)
      · replace h := iteT hb h
        refine sem_skipS (by kernel_rfl) (fun τ hτ => ?_)
        refine th_normalS hτ ⟨[(0, (.sl (List.map (cS cI) needs))), (1, (vI stations)), (2, (.sl (List.map c_Window l))), (20, (.sl (List.map c_Window l))), (21, (vI (l.length : Int))), (22, (vI s43))], []⟩ (here (by kernel_rfl)) ?_
        refine sem_seq (by kernel_rfl) ?_
        refine sem_block (by kernel_rfl) ?_
        refine sem_seq (by kernel_rfl) ?_
        refine sem_region (by kernel_rfl) ?_
        obtain ⟨x57, hx57, h⟩ := bindS h
        refine evs_op (st_idx (c := c_Window) (l := l) (i := s43) (kd := .i64) (sz := 2) (by kernel_rfl) hx57 rfl) ?_
        refine evs_run 3 (by kernel_rfl) ?_
        refine evs_endS (by kernel_rfl) (fun τ hτ => ?_)
        refine th_normalS hτ ⟨[(0, (.sl (List.map (cS cI) needs))), (1, (vI stations)), (2, (.sl (List.map c_Window l))), (10, (.ptr 10 0)), (20, (.sl (List.map c_Window l))), (21, (vI (l.length : Int))), (22, (vI s43))], [(10, .box [(vI x57.From), (vI x57.To)])]⟩ (here (by kernel_rfl)) ?_
        refine sem_seq (by kernel_rfl) ?_
        refine sem_region (by kernel_rfl) ?_
        refine evs_run 2 (by kernel_rfl) ?_
        obtain ⟨r59, hr59, h⟩ := bindS h
        refine evs_callP [] (by kernel_rfl) (W.setup_validWindow_ok hr59) (by kernel_rfl) (.inl rfl) (by kernel_rfl) ?_
        refine evs_run 1 (by kernel_rfl) ?_
        refine evs_endS (by kernel_rfl) (fun τ hτ => ?_)
        refine th_normalS hτ ⟨[(0, (.sl (List.map (cS cI) needs))), (1, (vI stations)), (2, (.sl (List.map c_Window l))), (20, (.sl (List.map c_Window l))), (21, (vI (l.length : Int))), (22, (vI s43)), (29, (vB (!r59)))], []⟩ (here (by kernel_rfl)) ?_
        refine sem_cond (!r59) (by kernel_rfl) (by kernel_rfl) (fun hb => ?_) (fun hb => ?_)
        · replace h := iteT hb h
          refine sem_seq (by kernel_rfl) ?_
          refine sem_region (by kernel_rfl) ?_
          refine evs_run 2 (by kernel_rfl) ?_
          refine evs_endS (by kernel_rfl) (fun τ hτ => ?_)
          refine th_normalS hτ ⟨[(6, (vI 0)), (7, (vI 1))], []⟩ (here (by kernel_rfl)) ?_
          refine sem_retS (by kernel_rfl) (fun τ hτ => ?_)
          refine bl_ret ?_
          refine th_ret ?_
          obtain rfl := Option.some.inj h
          exact lk_outS hτ rfl (here (by kernel_rfl))
        · replace h := iteF hb h
          refine sem_skipS (by kernel_rfl) (fun τ hτ => ?_)
          refine bl_normal ?_
          refine th_normalS hτ ⟨[(0, (.sl (List.map (cS cI) needs))), (1, (vI stations)), (2, (.sl (List.map c_Window l))), (20, (.sl (List.map c_Window l))), (21, (vI (l.length : Int))), (22, (vI s43))], []⟩ (here (by kernel_rfl)) ?_
          refine sem_region (by kernel_rfl) ?_
          refine evs_run 2 (by kernel_rfl) ?_
          refine evs_endS (by kernel_rfl) (fun τ hτ => ?_)
          obtain rfl := Option.some.inj h
          exact lk_nextS hτ (here (by kernel_rfl))
      · replace h := iteF hb h
        refine sem_exitS 0 (by kernel_rfl) rfl (fun τ hτ => ?_)
        refine th_exit ?_
        obtain rfl := Option.some.inj h
        exact lk_outS hτ rfl (here (by kernel_rfl))
    · intro x
      rcases x with _ | _ <;> rfl
    · intro τ hτ
      rcases x60 with j61 | j62
      · refine bl_ret ?_
        refine th_ret ?_
        obtain rfl := Option.some.inj h
        exact rk_ret hτ [(6, (vI 0)), (7, (vI 1))] (here (by kernel_rfl)) (by kernel_rfl)
      · refine bl_hit (by kernel_rfl) ?_
        refine th_normalS hτ ⟨[(0, (.sl (List.map (cS cI) needs))), (1, (vI stations)), (2, (.sl (List.map c_Window l)))], []⟩ (here (by kernel_rfl)) ?_
        refine sem_seq (by kernel_rfl) ?_
        refine sem_seq (by kernel_rfl) ?_
        refine sem_region (by kernel_rfl) ?_
        refine evs_run 1 (by kernel_rfl) ?_
        refine evs_endS (by kernel_rfl) (fun τ hτ => ?_)
        refine th_normalS hτ ⟨[(0, (.sl (List.map (cS cI) needs))), (1, (vI stations)), (2, (.sl (List.map c_Window l))), (11, (vI 1))], []⟩ (here (by kernel_rfl)) ?_
        refine sem_block (by kernel_rfl) ?_
        obtain ⟨x142, hx142, h⟩ := bindS h
        refine sem_loopS (fun (s117 : Int) => ⟨[(0, (.sl (List.map (cS cI) needs))), (1, (vI stations)), (2, (.sl (List.map c_Window l))), (11, (vI s117))], []⟩) (fun (x142 : Unit ⊕ Unit) => match x142 with | .inl j143 => (.ret, ⟨[(6, (vI 0)), (7, (vI 12))], []⟩) | .inr j144 => (.exit 2, ⟨[(0, (.sl (List.map (cS cI) needs))), (1, (vI stations)), (2, (.sl (List.map c_Window l)))], []⟩)) (setup_CheckBound_l2 l) 1 x142 (by kernel_rfl) (here (by kernel_rfl)) hx142 ?_ ?_ ?_
        · intro s117 r h
          refine sem_seq (by kernel_rfl) ?_
          refine sem_seq (by kernel_rfl) ?_
          refine sem_region (by kernel_rfl) ?_
          refine evs_run 2 (by kernel_rfl) ?_
          refine evs_op (st_len (c := c_Window) (l := l) (x := (.sl (List.map c_Window l))) (by kernel_rfl) (by kernel_rfl)) ?_
          refine evs_run 1 (by kernel_rfl) ?_
          refine evs_endS (by kernel_rfl) (fun τ hτ => ?_)
          refine th_normalS hτ ⟨[(0, (.sl (List.map (cS cI) needs))), (1, (vI stations)), (2, (.sl (List.map c_Window l))), (11, (vI s117)), (34, (vB (decide (s117 < (l.length : Int)))))], []⟩ (here (by kernel_rfl)) ?_
          refine sem_cond (decide (s117 < (l.length : Int))) (by kernel_rfl) (by kernel_rfl) (fun hb => ?_) (fun hb => ?_)
          · replace h := iteT hb h
            refine sem_skipS (by kernel_rfl) (fun τ hτ => ?_)
            refine th_normalS hτ ⟨[(0, (.sl (List.map (cS cI) needs))), (1, (vI stations)), (2, (.sl (List.map c_Window l))), (11, (vI s117))], []⟩ (here (by kernel_rfl)) ?_
            refine sem_seq (by kernel_rfl) ?_
            refine sem_block (by kernel_rfl) ?_
            refine sem_seq (by kernel_rfl) ?_
            refine sem_drawN [] [] [] [] [] 11 (by kernel_rfl) (by kernel_rfl) (by kernel_rfl) ?_
            refine evd_run 2 (by kernel_rfl) ?_
            obtain ⟨x140, hx140, h⟩ := bindS h
            refine evd_val (by kernel_rfl) (st_idx (c := c_Window) (l := l) (i := s117) (kd := .i64) (sz := 2) (by kernel_rfl) hx140 rfl) (by kernel_rfl) (by kernel_rfl) ?_
            refine evd_run 5 (by kernel_rfl) ?_
            obtain ⟨x141, hx141, h⟩ := bindS h
            refine evd_val (by kernel_rfl) (st_idx (c := c_Window) (l := l) (i := (isub s117 1)) (kd := .i64) (sz := 2) (by kernel_rfl) hx141 rfl) (by kernel_rfl) (by kernel_rfl) ?_
            refine evd_run 2 (by kernel_rfl) ?_
            refine evd_end (by kernel_rfl) ?_
            refine evo_run 1 (by kernel_rfl) ?_
            refine evo_endS (by kernel_rfl) (fun τ hτ => ?_)
            refine th_normalS hτ ⟨[(0, (.sl (List.map (cS cI) needs))), (1, (vI stations)), (2, (.sl (List.map c_Window l))), (11, (vI s117)), (48, (vB (decide (x140.From < x141.To))))], []⟩ (here (by kernel_rfl)) ?_
            refine sem_cond (decide (x140.From < x141.To)) (by kernel_rfl) (by kernel_rfl) (fun hb => ?_) (fun hb => ?_)
            · replace h := iteT hb h
              refine sem_seq (by kernel_rfl) ?_
              refine sem_region (by kernel_rfl) ?_
              refine evs_run 2 (by kernel_rfl) ?_
              refine evs_endS (by kernel_rfl) (fun τ hτ => ?_)
              refine th_normalS hτ ⟨[(6, (vI 0)), (7, (vI 12))], []⟩ (here (by kernel_rfl)) ?_
              refine sem_retS (by kernel_rfl) (fun τ hτ => ?_)
              refine bl_ret ?_
              refine th_ret ?_
              obtain rfl := Option.some.inj h
              exact lk_outS hτ rfl (here (by kernel_rfl))
            · replace h := iteF hb h
              refine sem_skipS (by kernel_rfl) (fun τ hτ => ?_)
              refine bl_normal ?_
              refine th_normalS hτ ⟨[(0, (.sl (List.map (cS cI) needs))), (1, (vI stations)), (2, (.sl (List.map c_Window l))), (11, (vI s117))], []⟩ (here (by kernel_rfl)) ?_
              refine sem_region (by kernel_rfl) ?_
              refine evs_run 3 (by kernel_rfl) ?_
              refine evs_endS (by kernel_rfl) (fun τ hτ => ?_)
              obtain rfl := Option.some.inj h
              exact lk_nextS hτ (here (by kernel_rfl))
          · replace h := iteF hb h
            refine sem_exitS 2 (by kernel_rfl) rfl (fun τ hτ => ?_)
            refine th_exit ?_
            obtain rfl := Option.some.inj h
            exact lk_outS hτ rfl (here (by kernel_rfl))
        · intro x
          rcases x with _ | _ <;> rfl
        · intro τ hτ
          rcases x142 with j143 | j144
          · refine bl_ret ?_
            refine th_ret ?_
            obtain rfl := Option.some.inj h
            exact rk_ret hτ [(6, (vI 0)), (7, (vI 12))] (here (by kernel_rfl)) (by kernel_rfl)
          · refine bl_hit (by kernel_rfl) ?_
            refine th_normalS hτ ⟨[(0, (.sl (List.map (cS cI) needs))), (1, (vI stations)), (2, (.sl (List.map c_Window l)))], []⟩ (here (by kernel_rfl)) ?_
            refine sem_seq (by kernel_rfl) ?_
            refine sem_seq (by kernel_rfl) ?_
            refine sem_region (by kernel_rfl) ?_
            refine evs_run 1 (by kernel_rfl) ?_
            refine evs_op (st_len (c := c_Window) (l := l) (x := (.sl (List.map c_Window l))) (by kernel_rfl) (by kernel_rfl)) ?_
            refine evs_run 1 (by kernel_rfl) ?_
            refine evs_endS (by kernel_rfl) (fun τ hτ => ?_)
            refine th_normalS hτ ⟨[(0, (.sl (List.map (cS cI) needs))), (1, (vI stations)), (2, (.sl (List.map c_Window l))), (49, (.sl (List.map c_Window l))), (50, (vI (l.length : Int))), (51, (vI 0))], []⟩ (here (by kernel_rfl)) ?_
            refine sem_block (by kernel_rfl) ?_
            obtain ⟨x200, hx200, h⟩ := bindS h
            refine sem_loopS (fun (s183 : Int) => ⟨[(0, (.sl (List.map (cS cI) needs))), (1, (vI stations)), (2, (.sl (List.map c_Window l))), (49, (.sl (List.map c_Window l))), (50, (vI (l.length : Int))), (51, (vI s183))], []⟩) (fun (x200 : Unit ⊕ Unit) => match x200 with | .inl j201 => (.ret, ⟨[(6, (vI 0)), (7, (vI 11))], []⟩) | .inr j202 => (.exit 4, ⟨[(0, (.sl (List.map (cS cI) needs))), (2, (.sl (List.map c_Window l)))], []⟩)) (setup_CheckBound_l3 needs stations l) 0 x200 (by kernel_rfl) (here (by kernel_rfl)) hx200 ?_ ?_ ?_
            · intro s183 r h
              refine sem_seq (by kernel_rfl) ?_
              refine sem_region (by kernel_rfl) ?_
              refine evs_run 1 (by kernel_rfl) ?_
              refine evs_endS (by kernel_rfl) (fun τ hτ => ?_)
              refine th_normalS hτ ⟨[(0, (.sl (List.map (cS cI) needs))), (1, (vI stations)), (2, (.sl (List.map c_Window l))), (49, (.sl (List.map c_Window l))), (50, (vI (l.length : Int))), (51, (vI s183)), (52, (vB (decide (s183 < (l.length : Int)))))], []⟩ (here (by kernel_rfl)) ?_
              refine sem_seq (by kernel_rfl) ?_
              refine sem_cond (decide (s183 < (l.length : Int))) (by kernel_rfl) (by kernel_rfl) (fun hb => ?_) (fun hb => ?_)
              · replace h := iteT hb h
                refine sem_skipS (by kernel_rfl) (fun τ hτ => ?_)
                refine th_normalS hτ ⟨[(0, (.sl (List.map (cS cI) needs))), (1, (vI stations)), (2, (.sl (List.map c_Window l))), (49, (.sl (List.map c_Window l))), (50, (vI (l.length : Int))), (51, (vI s183))], []⟩ (here (by kernel_rfl)) ?_
                refine sem_seq (by kernel_rfl) ?_
                refine sem_block (by kernel_rfl) ?_
                refine sem_seq (by kernel_rfl) ?_
                refine sem_region (by kernel_rfl) ?_
                obtain ⟨x197, hx197, h⟩ := bindS h
                refine evs_op (st_idx (c := c_Window) (l := l) (i := s183) (kd := .i64) (sz := 2) (by kernel_rfl) hx197 rfl) ?_
                refine evs_run 3 (by kernel_rfl) ?_
                refine evs_endS (by kernel_rfl) (fun τ hτ => ?_)
                refine th_normalS hτ ⟨[(0, (.sl (List.map (cS cI) needs))), (1, (vI stations)), (2, (.sl (List.map c_Window l))), (13, (.ptr 13 0)), (49, (.sl (List.map c_Window l))), (50, (vI (l.length : Int))), (51, (vI s183))], [(13, .box [(vI x197.From), (vI x197.To)])]⟩ (here (by kernel_rfl)) ?_
                refine sem_seq (by kernel_rfl) ?_
                refine sem_region (by kernel_rfl) ?_
                refine evs_run 3 (by kernel_rfl) ?_
                obtain ⟨r199, hr199, h⟩ := bindS h
                refine evs_callP [] (by kernel_rfl) (W.setup_blocked_ok hr199) (by kernel_rfl) (.inl rfl) (by kernel_rfl) ?_
                refine evs_run 1 (by kernel_rfl) ?_
                refine evs_endS (by kernel_rfl) (fun τ hτ => ?_)
                refine th_normalS hτ ⟨[(0, (.sl (List.map (cS cI) needs))), (1, (vI stations)), (2, (.sl (List.map c_Window l))), (49, (.sl (List.map c_Window l))), (50, (vI (l.length : Int))), (51, (vI s183)), (59, (vB (!r199)))], []⟩ (here (by kernel_rfl)) ?_
                refine sem_cond (!r199) (by kernel_rfl) (by kernel_rfl) (fun hb => ?_) (fun hb => ?_)
                · replace h := iteT hb h
                  refine sem_seq (by kernel_rfl) ?_
                  refine sem_region (by kernel_rfl) ?_
                  refine evs_run 2 (by kernel_rfl) ?_
                  refine evs_endS (by kernel_rfl) (fun τ hτ => ?_)
                  refine th_normalS hτ ⟨[(6, (vI 0)), (7, (vI 11))], []⟩ (here (by kernel_rfl)) ?_
                  refine sem_retS (by kernel_rfl) (fun τ hτ => ?_)
                  refine bl_ret ?_
                  refine th_ret ?_
                  obtain rfl := Option.some.inj h
                  exact lk_outS hτ rfl (here (by kernel_rfl))
                · replace h := iteF hb h
                  refine sem_skipS (by kernel_rfl) (fun τ hτ => ?_)
                  refine bl_normal ?_
                  refine th_normalS hτ ⟨[(0, (.sl (List.map (cS cI) needs))), (1, (vI stations)), (2, (.sl (List.map c_Window l))), (49, (.sl (List.map c_Window l))), (50, (vI (l.length : Int))), (51, (vI s183))], []⟩ (here (by kernel_rfl)) ?_
                  refine sem_region (by kernel_rfl) ?_
                  refine evs_run 2 (by kernel_rfl) ?_
                  refine evs_endS (by kernel_rfl) (fun τ hτ => ?_)
                  obtain rfl := Option.some.inj h
                  exact lk_nextS hτ (here (by kernel_rfl))
              · replace h := iteF hb h
                refine sem_exitS 4 (by kernel_rfl) rfl (fun τ hτ => ?_)
                refine th_exit ?_
                obtain rfl := Option.some.inj h
                exact lk_outS hτ rfl (here (by kernel_rfl))
            · intro x
              rcases x with _ | _ <;> rfl
            · intro τ hτ
              rcases x200 with j201 | j202
              · refine bl_ret ?_
                refine th_ret ?_
                obtain rfl := Option.some.inj h
                exact rk_ret hτ [(6, (vI 0)), (7, (vI 11))] (here (by kernel_rfl)) (by kernel_rfl)
              · refine bl_hit (by kernel_rfl) ?_
                refine th_normalS hτ ⟨[(0, (.sl (List.map (cS cI) needs))), (2, (.sl (List.map c_Window l)))], []⟩ (here (by kernel_rfl)) ?_
                refine sem_seq (by kernel_rfl) ?_
                refine sem_seq (by kernel_rfl) ?_
                refine sem_region (by kernel_rfl) ?_
                refine evs_run 1 (by kernel_rfl) ?_
                refine evs_op (st_len (c := (cS cI)) (l := needs) (x := (.sl (List.map (cS cI) needs))) (by kernel_rfl) (by kernel_rfl)) ?_
                refine evs_run 1 (by kernel_rfl) ?_
                refine evs_endS (by kernel_rfl) (fun τ hτ => ?_)
                refine th_normalS hτ ⟨[(2, (.sl (List.map c_Window l))), (63, (vB ((needs.length : Int) == 0)))], []⟩ (here (by kernel_rfl)) ?_
                refine sem_cond ((needs.length : Int) == 0) (by kernel_rfl) (by kernel_rfl) (fun hb => ?_) (fun hb => ?_)
                · replace h := iteT hb h
                  refine sem_seq (by kernel_rfl) ?_
                  refine sem_region (by kernel_rfl) ?_
                  refine evs_run 2 (by kernel_rfl) ?_
                  refine evs_endS (by kernel_rfl) (fun τ hτ => ?_)
                  refine th_normalS hτ ⟨[(6, (vI 0)), (7, (vI 0))], []⟩ (here (by kernel_rfl)) ?_
                  refine sem_retS (by kernel_rfl) (fun τ hτ => ?_)
                  refine th_ret ?_
                  obtain rfl := Option.some.inj h
                  exact rk_ret hτ [(6, (vI 0)), (7, (vI 0))] (here (by kernel_rfl)) (by kernel_rfl)
                · replace h := iteF hb h
                  refine sem_skipS (by kernel_rfl) (fun τ hτ => ?_)
                  refine th_normalS hτ ⟨[(2, (.sl (List.map c_Window l)))], []⟩ (here (by kernel_rfl)) ?_
                  refine sem_seq (by kernel_rfl) ?_
                  refine sem_region (by kernel_rfl) ?_
                  refine evs_run 1 (by kernel_rfl) ?_
                  refine evs_op (st_len (c := c_Window) (l := l) (x := (.sl (List.map c_Window l))) (by kernel_rfl) (by kernel_rfl)) ?_
                  refine evs_run 3 (by kernel_rfl) ?_
                  refine evs_endS (by kernel_rfl) (fun τ hτ => ?_)
                  refine th_normalS hτ ⟨[(6, (vI (iadd (l.length : Int) 1))), (7, (vI 0))], []⟩ (here (by kernel_rfl)) ?_
                  refine sem_retS (by kernel_rfl) (fun τ hτ => ?_)
                  obtain rfl := Option.some.inj h
                  exact rk_ret hτ [(6, (vI (iadd (l.length : Int) 1))), (7, (vI 0))] (here (by kernel_rfl)) (by kernel_rfl)
theorem W.setup_Bound_ok {needs : (List (List Int))} {stations : Int} {r : (List Window) × Int} (h : setup_Bound needs stations = some r) : PC G.P 20 [(.sl (List.map (cS cI) needs)), (vI stations)] [] (.tup [(.row (.top 0) 35), (vI r.2)]) [(0, .row 35 [] (List.map c_Window r.1))] := by
  refine pc_of G (fn := Try.f20) Try.func20 (by kernel_rfl) (by kernel_rfl) (by kernel_rfl) (by kernel_rfl) (by kernel_rfl) ?_
  refine sem_set ⟨[(0, (.sl (List.map (cS cI) needs))), (1, (vI stations))], []⟩ (by kernel_rfl) ?_
  refine sem_seq (by kernel_rfl) ?_
  refine sem_region (by kernel_rfl) ?_
  refine evs_run 2 (by kernel_rfl) ?_
  refine evs_endS (by kernel_rfl) (fun τ hτ => ?_)
  refine th_normalS hτ ⟨[(0, (.sl (List.map (cS cI) needs))), (1, (vI stations))], []⟩ (here (by kernel_rfl)) ?_
  refine sem_seq (by kernel_rfl) ?_
  refine sem_seq (by kernel_rfl) ?_
  refine sem_region (by kernel_rfl) ?_
  refine evs_run 2 (by kernel_rfl) ?_
  obtain ⟨r4, hr4, h⟩ := bindS h
  refine evs_callP [] (by kernel_rfl) (W.setup_check_ok hr4) (by kernel_rfl) (.inl rfl) (by kernel_rfl) ?_
  refine evs_run 1 (by kernel_rfl) ?_
  refine evs_endS (by kernel_rfl) (fun τ hτ => ?_)
  refine th_normalS hτ ⟨[(0, (.sl (List.map (cS cI) needs))), (1, (vI stations)), (6, (vI r4))], []⟩ (here (by kernel_rfl)) ?_
  refine sem_seq (by kernel_rfl) ?_
  refine sem_region (by kernel_rfl) ?_
  refine evs_run 2 (by kernel_rfl) ?_
  refine evs_endS (by kernel_rfl) (fun τ hτ => ?_)
  refine th_normalS hτ ⟨[(0, (.sl (List.map (cS cI) needs))), (1, (vI stations)), (6, (vI r4)), (13, (vB (r4 != 0)))], []⟩ (here (by kernel_rfl)) ?_
  refine sem_cond (r4 != 0) (by kernel_rfl) (by kernel_rfl) (fun hb => ?_) (fun hb => ?_)
  · replace h := iteT hb h
    refine sem_seq (by kernel_rfl) ?_
    refine sem_region (by kernel_rfl) ?_
    refine evs_run 3 (by kernel_rfl) ?_
    refine evs_endS (by kernel_rfl) (fun τ hτ => ?_)
    refine th_normalS hτ ⟨[(4, (.row (.top 4) 35)), (5, (vI r4))], [(4, .row 35 [] (List.map c_Window []))]⟩ (here (by kernel_rfl)) ?_
    refine sem_retS (by kernel_rfl) (fun τ hτ => ?_)
    refine th_ret ?_
    obtain rfl := Option.some.inj h
    exact rk_ret hτ [(4, (.row (.top 0) 35)), (5, (vI r4))] (subR_prep [] [(4, 0)] (by kernel_rfl) rfl rfl (by kernel_rfl)) (by kernel_rfl)
  · replace h := iteF hb h
    refine sem_skipS (by kernel_rfl) (fun τ hτ => ?_)
    refine th_normalS hτ ⟨[(0, (.sl (List.map (cS cI) needs))), (1, (vI stations))], []⟩ (here (by kernel_rfl)) ?_
    refine sem_seq (by kernel_rfl) ?_
    refine sem_region (by kernel_rfl) ?_
    refine evs_run 1 (by kernel_rfl) ?_
    refine evs_endS (by kernel_rfl) (fun τ hτ => ?_)
    refine th_normalS hτ ⟨[(0, (.sl (List.map (cS cI) needs))), (1, (vI stations)), (7, (.row (.top 7) 35))], [(7, .row 35 [] (List.map c_Window []))]⟩ (here (by kernel_rfl)) ?_
    refine sem_seq (by kernel_rfl) ?_
    refine sem_region (by kernel_rfl) ?_
    refine evs_run 3 (by kernel_rfl) ?_
    refine evs_endS (by kernel_rfl) (fun τ hτ => ?_)
    refine th_normalS hτ ⟨[(0, (.sl (List.map (cS cI) needs))), (1, (vI stations)), (7, (.row (.top 7) 35)), (8, (.ptr 8 0))], [(7, .row 35 [] (List.map c_Window [])), (8, .box [(vI 0), (vI 0)])]⟩ (here (by kernel_rfl)) ?_
    refine sem_seq (by kernel_rfl) ?_
    refine sem_block (by kernel_rfl) ?_
    obtain ⟨x60, hx60, h⟩ := bindS h
    refine sem_loopS (fun (s47 : (List Window) × Int × Int) => ⟨[(0, (.sl (List.map (cS cI) needs))), (1, (vI stations)), (7, (.row (.top 500000) 35)), (8, (.ptr 500001 0))], [(500000, .row 35 [] (List.map c_Window s47.1)), (500001, .box [(vI s47.2.1), (vI s47.2.2)])]⟩) (fun (x60 : (List Window)) => (.exit 0, ⟨[(7, (.row (.top 500000) 35))], [(500000, .row 35 [] (List.map c_Window x60))]⟩)) (setup_Bound_l1 needs stations) ([], 0, 0) x60 (by kernel_rfl) (subR_prep [] [(7, 500000), (8, 500001)] (by kernel_rfl) rfl rfl (by kernel_rfl)) hx60 ?_ ?_ ?_
    · intro s47 r h
      refine sem_seq (by kernel_rfl) ?_
      refine sem_seq (by kernel_rfl) ?_
      refine sem_region (by kernel_rfl) ?_
      refine evs_run 3 (by kernel_rfl) ?_
      refine evs_op (st_len (c := (cS cI)) (l := needs) (x := (.sl (List.map (cS cI) needs))) (by kernel_rfl) (by kernel_rfl)) ?_
      refine evs_run 1 (by kernel_rfl) ?_
      refine evs_endS (by kernel_rfl) (fun τ hτ => ?_)
      refine th_normalS hτ ⟨[(0, (.sl (List.map (cS cI) needs))), (1, (vI stations)), (7, (.row (.top 500000) 35)), (8, (.ptr 500001 0)), (20, (vB (decide (s47.2.2 < (needs.length : Int)))))], [(500000, .row 35 [] (List.map c_Window s47.1)), (500001, .box [(vI s47.2.1), (vI s47.2.2)])]⟩ (here (by kernel_rfl)) ?_
      refine sem_cond (decide (s47.2.2 < (needs.length : Int))) (by kernel_rfl) (by kernel_rfl) (fun hb => ?_) (fun hb => ?_)
      · replace h := iteT hb h
        refine sem_skipS (by kernel_rfl) (fun τ hτ => ?_)
        refine th_normalS hτ ⟨[(0, (.sl (List.map (cS cI) needs))), (1, (vI stations)), (7, (.row (.top 500000) 35)), (8, (.ptr 500001 0))], [(500000, .row 35 [] (List.map c_Window s47.1)), (500001, .box [(vI s47.2.1), (vI s47.2.2)])]⟩ (here (by kernel_rfl)) ?_
        refine sem_block (by kernel_rfl) ?_
        refine sem_seq (by kernel_rfl) ?_
        refine sem_seq (by kernel_rfl) ?_
        refine sem_region (by kernel_rfl) ?_
        refine evs_run 3 (by kernel_rfl) ?_
        obtain ⟨r57, hr57, h⟩ := bindS h
        refine evs_callP [] (by kernel_rfl) (W.setup_blocked_ok hr57) (by kernel_rfl) (.inl rfl) (by kernel_rfl) ?_
        refine evs_run 1 (by kernel_rfl) ?_
        refine evs_endS (by kernel_rfl) (fun τ hτ => ?_)
        refine th_normalS hτ ⟨[(0, (.sl (List.map (cS cI) needs))), (1, (vI stations)), (7, (.row (.top 500000) 35)), (8, (.ptr 500001 0)), (25, (vB (!r57)))], [(500000, .row 35 [] (List.map c_Window s47.1)), (500001, .box [(vI s47.2.1), (vI s47.2.2)])]⟩ (here (by kernel_rfl)) ?_
        refine sem_cond (!r57) (by kernel_rfl) (by kernel_rfl) (fun hb => ?_) (fun hb => ?_)
        · replace h := iteT hb h
          refine sem_seq (by kernel_rfl) ?_
          refine sem_region (by kernel_rfl) ?_
          refine evs_run 5 (by kernel_rfl) ?_
          refine evs_endS (by kernel_rfl) (fun τ hτ => ?_)
          refine th_normalS hτ ⟨[(0, (.sl (List.map (cS cI) needs))), (1, (vI stations)), (7, (.row (.top 500000) 35)), (8, (.ptr 500001 0))], [(500000, .row 35 [] (List.map c_Window s47.1)), (500001, .box [(vI s47.2.1), (vI (iadd s47.2.2 1))])]⟩ (here (by kernel_rfl)) ?_
          refine sem_exitS 1 (by kernel_rfl) rfl (fun τ hτ => ?_)
          refine th_exit ?_
          refine bl_hit (by kernel_rfl) ?_
          obtain rfl := Option.some.inj h
          exact lk_nextS hτ (here (by kernel_rfl))
        · replace h := iteF hb h
          refine sem_skipS (by kernel_rfl) (fun τ hτ => ?_)
          refine th_normalS hτ ⟨[(0, (.sl (List.map (cS cI) needs))), (1, (vI stations)), (7, (.row (.top 500000) 35)), (8, (.ptr 500001 0))], [(500000, .row 35 [] (List.map c_Window s47.1)), (500001, .box [(vI s47.2.1), (vI s47.2.2)])]⟩ (here (by kernel_rfl)) ?_
          refine sem_seq (by kernel_rfl) ?_
          refine sem_region (by kernel_rfl) ?_
          refine evs_run 3 (by kernel_rfl) ?_
          obtain ⟨l59, hl59, h⟩ := bindS h
          refine evs_op (st_app (c := c_Window) (l := s47.1) (l2 := [(Window.mk s47.2.1 s47.2.2)]) (x := (.sl (List.map c_Window [(Window.mk s47.2.1 s47.2.2)]))) (g := 500000) (e := 35) (sz := 2) (d := 33) (by kernel_rfl) (by kernel_rfl) (by kernel_rfl) (by kernel_rfl) (fun _ => rfl) rfl hl59) ?_
          refine evs_run 1 (by kernel_rfl) ?_
          refine evs_endS (by kernel_rfl) (fun τ hτ => ?_)
          refine th_normalS hτ ⟨[(0, (.sl (List.map (cS cI) needs))), (1, (vI stations)), (7, (.row (.top 500000) 35)), (8, (.ptr 500001 0))], [(500000, .row 35 [] (List.map c_Window l59)), (500001, .box [(vI s47.2.1), (vI s47.2.2)])]⟩ (here (by kernel_rfl)) ?_
          refine sem_region (by kernel_rfl) ?_
          refine evs_run 4 (by kernel_rfl) ?_
          refine evs_endS (by kernel_rfl) (fun τ hτ => ?_)
          refine bl_normal ?_
          obtain rfl := Option.some.inj h
          exact lk_nextS hτ (here (by kernel_rfl))
      · replace h := iteF hb h
        refine sem_exitS 0 (by kernel_rfl) rfl (fun τ hτ => ?_)
        refine th_exit ?_
        obtain rfl := Option.some.inj h
        exact lk_outS hτ rfl (here (by kernel_rfl))
    · intro x
      rfl
    · intro τ hτ
      refine bl_hit (by kernel_rfl) ?_
      refine th_normalS hτ ⟨[(7, (.row (.top 500000) 35))], [(500000, .row 35 [] (List.map c_Window x60))]⟩ (here (by kernel_rfl)) ?_
      refine sem_seq (by kernel_rfl) ?_
      refine sem_region (by kernel_rfl) ?_
      refine evs_run 3 (by kernel_rfl) ?_
      refine evs_endS (by kernel_rfl) (fun τ hτ => ?_)
      refine th_normalS hτ ⟨[(4, (.row (.top 500000) 35)), (5, (vI 0))], [(500000, .row 35 [] (List.map c_Window x60))]⟩ (here (by kernel_rfl)) ?_
      refine sem_retS (by kernel_rfl) (fun τ hτ => ?_)
      obtain rfl := Option.some.inj h
      exact rk_ret hτ [(4, (.row (.top 0) 35)), (5, (vI 0))] (subR_prep [] [(500000, 0)] (by kernel_rfl) rfl rfl (by kernel_rfl)) (by kernel_rfl)
theorem W.slices_Index_Lint_int_ok {s0 : (List Int)} {v : Int} {r : Int} (h : slices_Index_Lint_int s0 v = some r) : PC G.P 81 [(.sl (List.map cI s0)), (vI v)] [] (vI r) [] := by
  refine pc_of G (fn := Try.f81) Try.func81 (by kernel_rfl) (by kernel_rfl) (by kernel_rfl) (by kernel_rfl) (by kernel_rfl) ?_
  refine sem_set ⟨[(0, (.sl (List.map cI s0))), (1, (vI v))], []⟩ (by kernel_rfl) ?_
  refine sem_seq (by kernel_rfl) ?_
  refine sem_region (by kernel_rfl) ?_
  refine evs_run 1 (by kernel_rfl) ?_
  refine evs_endS (by kernel_rfl) (fun τ hτ => ?_)
  refine th_normalS hτ ⟨[(0, (.sl (List.map cI s0))), (1, (vI v))], []⟩ (here (by kernel_rfl)) ?_
  refine sem_seq (by kernel_rfl) ?_
  refine sem_seq (by kernel_rfl) ?_
  refine sem_region (by kernel_rfl) ?_
  refine evs_run 1 (by kernel_rfl) ?_
  refine evs_op (st_len (c := cI) (l := s0) (x := (.sl (List.map cI s0))) (by kernel_rfl) (by kernel_rfl)) ?_
  refine evs_run 1 (by kernel_rfl) ?_
  refine evs_endS (by kernel_rfl) (fun τ hτ => ?_)
  refine th_normalS hτ ⟨[(0, (.sl (List.map cI s0))), (1, (vI v)), (7, (vI (s0.length : Int))), (8, (vI 0))], []⟩ (here (by kernel_rfl)) ?_
  refine sem_block (by kernel_rfl) ?_
  obtain ⟨x32, hx32, h⟩ := bindS h
  refine sem_loopS (fun (s23 : Int) => ⟨[(0, (.sl (List.map cI s0))), (1, (vI v)), (7, (vI (s0.length : Int))), (8, (vI s23))], []⟩) (fun (x32 : Int ⊕ Unit) => match x32 with | .inl j33 => (.ret, ⟨[(4, (vI j33))], []⟩) | .inr j34 => (.exit 0, ⟨[], []⟩)) (slices_Index_Lint_int_l1 s0 v) 0 x32 (by kernel_rfl) (here (by kernel_rfl)) hx32 ?_ ?_ ?_
  · intro s23 r h
    refine sem_seq (by kernel_rfl) ?_
    refine sem_region (by kernel_rfl) ?_
    refine evs_run 1 (by kernel_rfl) ?_
    refine evs_endS (by kernel_rfl) (fun τ hτ => ?_)
    refine th_normalS hτ ⟨[(0, (.sl (List.map cI s0))), (1, (vI v)), (7, (vI (s0.length : Int))), (8, (vI s23)), (9, (vB (decide (s23 < (s0.length : Int)))))], []⟩ (here (by kernel_rfl)) ?_
    refine sem_seq (by kernel_rfl) ?_
    refine sem_cond (decide (s23 < (s0.length : Int))) (by kernel_rfl) (by kernel_rfl) (fun hb => ?_) (fun hb => ?_)
    · replace h := iteT hb h
      refine sem_skipS (by kernel_rfl) (fun τ hτ => ?_)
      refine th_normalS hτ ⟨[(0, (.sl (List.map cI s0))), (1, (vI v)), (7, (vI (s0.length : Int))), (8, (vI s23))], []⟩ (here (by kernel_rfl)) ?_
      refine sem_seq (by kernel_rfl) ?_
      refine sem_block (by kernel_rfl) ?_
      refine sem_seq (by kernel_rfl) ?_
      refine sem_region (by kernel_rfl) ?_
      refine evs_run 2 (by kernel_rfl) ?_
      refine evs_endS (by kernel_rfl) (fun τ hτ => ?_)
      refine th_normalS hτ ⟨[(0, (.sl (List.map cI s0))), (1, (vI v)), (5, (vI s23)), (7, (vI (s0.length : Int))), (8, (vI s23))], []⟩ (here (by kernel_rfl)) ?_
      refine sem_seq (by kernel_rfl) ?_
      refine sem_region (by kernel_rfl) ?_
      refine evs_run 3 (by kernel_rfl) ?_
      obtain ⟨x31, hx31, h⟩ := bindS h
      refine evs_op (st_idx (c := cI) (l := s0) (i := s23) (kd := .i64) (sz := 1) (by kernel_rfl) hx31 rfl) ?_
      refine evs_run 2 (by kernel_rfl) ?_
      refine evs_endS (by kernel_rfl) (fun τ hτ => ?_)
      refine th_normalS hτ ⟨[(0, (.sl (List.map cI s0))), (1, (vI v)), (5, (vI s23)), (7, (vI (s0.length : Int))), (8, (vI s23)), (16, (vB (v == x31)))], []⟩ (here (by kernel_rfl)) ?_
      refine sem_cond (v == x31) (by kernel_rfl) (by kernel_rfl) (fun hb => ?_) (fun hb => ?_)
      · replace h := iteT hb h
        refine sem_seq (by kernel_rfl) ?_
        refine sem_region (by kernel_rfl) ?_
        refine evs_run 2 (by kernel_rfl) ?_
        refine evs_endS (by kernel_rfl) (fun τ hτ => ?_)
        refine th_normalS hτ ⟨[(4, (vI s23))], []⟩ (here (by kernel_rfl)) ?_
        refine sem_retS (by kernel_rfl) (fun τ hτ => ?_)
        refine bl_ret ?_
        refine th_ret ?_
        obtain rfl := Option.some.inj h
        exact lk_outS hτ rfl (here (by kernel_rfl))
      · replace h := iteF hb h
        refine sem_skipS (by kernel_rfl) (fun τ hτ => ?_)
        refine bl_normal ?_
        refine th_normalS hτ ⟨[(0, (.sl (List.map cI s0))), (1, (vI v)), (7, (vI (s0.length : Int))), (8, (vI s23))], []⟩ (here (by kernel_rfl)) ?_
        refine sem_region (by kernel_rfl) ?_
        refine evs_run 2 (by kernel_rfl) ?_
        refine evs_endS (by kernel_rfl) (fun τ hτ => ?_)
        obtain rfl := Option.some.inj h
        exact lk_nextS hτ (here (by kernel_rfl))
    · replace h := iteF hb h
      refine sem_exitS 0 (by kernel_rfl) rfl (fun τ hτ => ?_)
      refine th_exit ?_
      obtain rfl := Option.some.inj h
      exact lk_outS hτ rfl (here (by kernel_rfl))
  · intro x
    rcases x with _ | _ <;> rfl
  · intro τ hτ
    rcases x32 with j33 | j34
    · refine bl_ret ?_
      refine th_ret ?_
      obtain rfl := Option.some.inj h
      exact rk_ret hτ [(4, (vI j33))] (here (by kernel_rfl)) (by kernel_rfl)
    · refine bl_hit (by kernel_rfl) ?_
      refine th_normalS hτ ⟨[], []⟩ (here (by kernel_rfl)) ?_
      refine sem_seq (by kernel_rfl) ?_
      refine sem_region (by kernel_rfl) ?_
      refine evs_run 1 (by kernel_rfl) ?_
      refine evs_endS (by kernel_rfl) (fun τ hτ => ?_)
      refine th_normalS hτ ⟨[(4, (vI (-1)))], []⟩ (here (by kernel_rfl)) ?_
      refine sem_retS (by kernel_rfl) (fun τ hτ => ?_)
      obtain rfl := Option.some.inj h
      exact rk_ret hτ [(4, (vI (-1)))] (here (by kernel_rfl)) (by kernel_rfl)
theorem W.slices_Contains_Lint_int_ok {s0 : (List Int)} {v : Int} {r : Bool} (h : slices_Contains_Lint_int s0 v = some r) : PC G.P 64 [(.sl (List.map cI s0)), (vI v)] [] (vB r) [] := by
  refine pc_of G (fn := Try.f64) Try.func64 (by kernel_rfl) (by kernel_rfl) (by kernel_rfl) (by kernel_rfl) (by kernel_rfl) ?_
  refine sem_set ⟨[(0, (.sl (List.map cI s0))), (1, (vI v))], []⟩ (by kernel_rfl) ?_
  refine sem_seq (by kernel_rfl) ?_
  refine sem_region (by kernel_rfl) ?_
  refine evs_run 1 (by kernel_rfl) ?_
  refine evs_endS (by kernel_rfl) (fun τ hτ => ?_)
  refine th_normalS hτ ⟨[(0, (.sl (List.map cI s0))), (1, (vI v))], []⟩ (here (by kernel_rfl)) ?_
  refine sem_seq (by kernel_rfl) ?_
  refine sem_region (by kernel_rfl) ?_
  refine evs_run 2 (by kernel_rfl) ?_
  obtain ⟨r2, hr2, h⟩ := bindS h
  refine evs_callP [] (by kernel_rfl) (W.slices_Index_Lint_int_ok hr2) (by kernel_rfl) (.inl rfl) (by kernel_rfl) ?_
  refine evs_run 2 (by kernel_rfl) ?_
  refine evs_endS (by kernel_rfl) (fun τ hτ => ?_)
  refine th_normalS hτ ⟨[(4, (vB (decide (r2 ≥ 0))))], []⟩ (here (by kernel_rfl)) ?_
  refine sem_retS (by kernel_rfl) (fun τ hτ => ?_)
  obtain rfl := Option.some.inj h
  exact rk_ret hτ [(4, (vB (decide (r2 ≥ 0))))] (here (by kernel_rfl)) (by kernel_rfl)
theorem W.setup_meets_1_ok {x0 : Int} {a_0 : (List Int)} {r : Bool} (h : setup_meets_1 x0 a_0 = some r) : PC G.P 90 [(vI x0), (.vptr [(.sl (List.map cI a_0))] 0)] [] (vB r) [] := by
  refine pc_of G (fn := Try.f90) Try.func90 (by kernel_rfl) (by kernel_rfl) (by kernel_rfl) (by kernel_rfl) (by kernel_rfl) ?_
  refine sem_set ⟨[(0, (vI x0)), (1, (.vptr [(.sl (List.map cI a_0))] 0))], []⟩ (by kernel_rfl) ?_
  refine sem_seq (by kernel_rfl) ?_
  refine sem_region (by kernel_rfl) ?_
  refine evs_run 1 (by kernel_rfl) ?_
  refine evs_endS (by kernel_rfl) (fun τ hτ => ?_)
  refine th_normalS hτ ⟨[(0, (vI x0)), (1, (.vptr [(.sl (List.map cI a_0))] 0))], []⟩ (here (by kernel_rfl)) ?_
  refine sem_seq (by kernel_rfl) ?_
  refine sem_region (by kernel_rfl) ?_
  refine evs_run 2 (by kernel_rfl) ?_
  obtain ⟨r2, hr2, h⟩ := bindS h
  refine evs_callP [] (by kernel_rfl) (W.slices_Contains_Lint_int_ok hr2) (by kernel_rfl) (.inl rfl) (by kernel_rfl) ?_
  refine evs_run 1 (by kernel_rfl) ?_
  refine evs_endS (by kernel_rfl) (fun τ hτ => ?_)
  refine th_normalS hτ ⟨[(3, (vB r2))], []⟩ (here (by kernel_rfl)) ?_
  refine sem_retS (by kernel_rfl) (fun τ hτ => ?_)
  obtain rfl := Option.some.inj h
  exact rk_ret hτ [(3, (vB r2))] (here (by kernel_rfl)) (by kernel_rfl)
theorem W.slices_IndexFunc_Lint_int__setup_meets_1_ok {s0 : (List Int)} {f_0_0 : (List Int)} {r : Int} (h : slices_IndexFunc_Lint_int__setup_meets_1 s0 f_0_0 = some r) : PC G.P 86 [(.sl (List.map cI s0)), (.fn 90 [(.vptr [(.sl (List.map cI f_0_0))] 0)])] [] (vI r) [] := by
  refine pc_of G (fn := Try.f86) Try.func86 (by kernel_rfl) (by kernel_rfl) (by kernel_rfl) (by kernel_rfl) (by kernel_rfl) ?_
  refine sem_set ⟨[(0, (.sl (List.map cI s0))), (1, (.fn 90 [(.vptr [(.sl (List.map cI f_0_0))] 0)]))], []⟩ (by kernel_rfl) ?_
  refine sem_seq (by kernel_rfl) ?_
  refine sem_region (by kernel_rfl) ?_
  refine evs_run 1 (by kernel_rfl) ?_
  refine evs_endS (by kernel_rfl) (fun τ hτ => ?_)
  refine th_normalS hτ ⟨[(0, (.sl (List.map cI s0))), (1, (.fn 90 [(.vptr [(.sl (List.map cI f_0_0))] 0)]))], []⟩ (here (by kernel_rfl)) ?_
  refine sem_seq (by kernel_rfl) ?_
  refine sem_seq (by kernel_rfl) ?_
  refine sem_region (by kernel_rfl) ?_
  refine evs_run 1 (by kernel_rfl) ?_
  refine evs_op (st_len (c := cI) (l := s0) (x := (.sl (List.map cI s0))) (by kernel_rfl) (by kernel_rfl)) ?_
  refine evs_run 1 (by kernel_rfl) ?_
  refine evs_endS (by kernel_rfl) (fun τ hτ => ?_)
  refine th_normalS hτ ⟨[(0, (.sl (List.map cI s0))), (1, (.fn 90 [(.vptr [(.sl (List.map cI f_0_0))] 0)])), (7, (vI (s0.length : Int))), (8, (vI 0))], []⟩ (here (by kernel_rfl)) ?_
  refine sem_block (by kernel_rfl) ?_
  obtain ⟨x56, hx56, h⟩ := bindS h
  refine sem_loopS (fun (s39 : Int) => ⟨[(0, (.sl (List.map cI s0))), (1, (.fn 90 [(.vptr [(.sl (List.map cI f_0_0))] 0)])), (7, (vI (s0.length : Int))), (8, (vI s39))], []⟩) (fun (x56 : Int ⊕ Unit) => match x56 with | .inl j57 => (.ret, ⟨[(4, (vI j57))], []⟩) | .inr j58 => (.exit 0, ⟨[], []⟩)) (slices_IndexFunc_Lint_int__setup_meets_1_l1 s0 f_0_0) 0 x56 (by kernel_rfl) (here (by kernel_rfl)) hx56 ?_ ?_ ?_
  · intro s39 r h
    refine sem_seq (by kernel_rfl) ?_
    refine sem_region (by kernel_rfl) ?_
    refine evs_run 1 (by kernel_rfl) ?_
    refine evs_endS (by kernel_rfl) (fun τ hτ => ?_)
    refine th_normalS hτ ⟨[(0, (.sl (List.map cI s0))), (1, (.fn 90 [(.vptr [(.sl (List.map cI f_0_0))] 0)])), (7, (vI (s0.length : Int))), (8, (vI s39)), (9, (vB (decide (s39 < (s0.length : Int)))))], []⟩ (here (by kernel_rfl)) ?_
    refine sem_seq (by kernel_rfl) ?_
    refine sem_cond (decide (s39 < (s0.length : Int))) (by kernel_rfl) (by kernel_rfl) (fun hb => ?_) (fun hb => ?_)
    · replace h := iteT hb h
      refine sem_skipS (by kernel_rfl) (fun τ hτ => ?_)
      refine th_normalS hτ ⟨[(0, (.sl (List.map cI s0))), (1, (.fn 90 [(.vptr [(.sl (List.map cI f_0_0))] 0)])), (7, (vI (s0.length : Int))), (8, (vI s39))], []⟩ (here (by kernel_rfl)) ?_
      refine sem_seq (by kernel_rfl) ?_
      refine sem_block (by kernel_rfl) ?_
      refine sem_seq (by kernel_rfl) ?_
      refine sem_region (by kernel_rfl) ?_
      refine evs_run 2 (by kernel_rfl) ?_
      refine evs_endS (by kernel_rfl) (fun τ hτ => ?_)
      refine th_normalS hτ ⟨[(0, (.sl (List.map cI s0))), (1, (.fn 90 [(.vptr [(.sl (List.map cI f_0_0))] 0)])), (5, (vI s39)), (7, (vI (s0.length : Int))), (8, (vI s39))], []⟩ (here (by kernel_rfl)) ?_
      refine sem_seq (by kernel_rfl) ?_
      refine sem_region (by kernel_rfl) ?_
      refine evs_run 3 (by kernel_rfl) ?_
      obtain ⟨x54, hx54, h⟩ := bindS h
      refine evs_op (st_idx (c := cI) (l := s0) (i := s39) (kd := .i64) (sz := 1) (by kernel_rfl) hx54 rfl) ?_
      refine evs_run 1 (by kernel_rfl) ?_
      obtain ⟨r55, hr55, h⟩ := bindS h
      refine evs_callP [] (by kernel_rfl) (W.setup_meets_1_ok hr55) (by kernel_rfl) (.inl rfl) (by kernel_rfl) ?_
      refine evs_endS (by kernel_rfl) (fun τ hτ => ?_)
      refine th_normalS hτ ⟨[(0, (.sl (List.map cI s0))), (1, (.fn 90 [(.vptr [(.sl (List.map cI f_0_0))] 0)])), (5, (vI s39)), (7, (vI (s0.length : Int))), (8, (vI s39)), (16, (vB r55))], []⟩ (here (by kernel_rfl)) ?_
      refine sem_cond r55 (by kernel_rfl) (by kernel_rfl) (fun hb => ?_) (fun hb => ?_)
      · replace h := iteT hb h
        refine sem_seq (by kernel_rfl) ?_
        refine sem_region (by kernel_rfl) ?_
        refine evs_run 2 (by kernel_rfl) ?_
        refine evs_endS (by kernel_rfl) (fun τ hτ => ?_)
        refine th_normalS hτ ⟨[(4, (vI s39))], []⟩ (here (by kernel_rfl)) ?_
        refine sem_retS (by kernel_rfl) (fun τ hτ => ?_)
        refine bl_ret ?_
        refine th_ret ?_
        obtain rfl := Option.some.inj h
        exact lk_outS hτ rfl (here (by kernel_rfl))
      · replace h := iteF hb h
        refine sem_skipS (by kernel_rfl) (fun τ hτ => ?_)
        refine bl_normal ?_
        refine th_normalS hτ ⟨[(0, (.sl (List.map cI s0))), (1, (.fn 90 [(.vptr [(.sl (List.map cI f_0_0))] 0)])), (7, (vI (s0.length : Int))), (8, (vI s39))], []⟩ (here (by kernel_rfl)) ?_
        refine sem_region (by kernel_rfl) ?_
        refine evs_run 2 (by kernel_rfl) ?_
        refine evs_endS (by kernel_rfl) (fun τ hτ => ?_)
        obtain rfl := Option.some.inj h
        exact lk_nextS hτ (here (by kernel_rfl))
    · replace h := iteF hb h
      refine sem_exitS 0 (by kernel_rfl) rfl (fun τ hτ => ?_)
      refine th_exit ?_
      obtain rfl := Option.some.inj h
      exact lk_outS hτ rfl (here (by kernel_rfl))
  · intro x
    rcases x with _ | _ <;> rfl
  · intro τ hτ
    rcases x56 with j57 | j58
    · refine bl_ret ?_
      refine th_ret ?_
      obtain rfl := Option.some.inj h
      exact rk_ret hτ [(4, (vI j57))] (here (by kernel_rfl)) (by kernel_rfl)
    · refine bl_hit (by kernel_rfl) ?_
      refine th_normalS hτ ⟨[], []⟩ (here (by kernel_rfl)) ?_
      refine sem_seq (by kernel_rfl) ?_
      refine sem_region (by kernel_rfl) ?_
      refine evs_run 1 (by kernel_rfl) ?_
      refine evs_endS (by kernel_rfl) (fun τ hτ => ?_)
      refine th_normalS hτ ⟨[(4, (vI (-1)))], []⟩ (here (by kernel_rfl)) ?_
      refine sem_retS (by kernel_rfl) (fun τ hτ => ?_)
      obtain rfl := Option.some.inj h
      exact rk_ret hτ [(4, (vI (-1)))] (here (by kernel_rfl)) (by kernel_rfl)
theorem W.slices_ContainsFunc_Lint_int__setup_meets_1_ok {s0 : (List Int)} {f_0_0 : (List Int)} {r : Bool} (h : slices_ContainsFunc_Lint_int__setup_meets_1 s0 f_0_0 = some r) : PC G.P 89 [(.sl (List.map cI s0)), (.fn 90 [(.vptr [(.sl (List.map cI f_0_0))] 0)])] [] (vB r) [] := by
  refine pc_of G (fn := Try.f89) Try.func89 (by kernel_rfl) (by kernel_rfl) (by kernel_rfl) (by kernel_rfl) (by kernel_rfl) ?_
  refine sem_set ⟨[(0, (.sl (List.map cI s0))), (1, (.fn 90 [(.vptr [(.sl (List.map cI f_0_0))] 0)]))], []⟩ (by kernel_rfl) ?_
  refine sem_seq (by kernel_rfl) ?_
  refine sem_region (by kernel_rfl) ?_
  refine evs_run 1 (by kernel_rfl) ?_
  refine evs_endS (by kernel_rfl) (fun τ hτ => ?_)
  refine th_normalS hτ ⟨[(0, (.sl (List.map cI s0))), (1, (.fn 90 [(.vptr [(.sl (List.map cI f_0_0))] 0)]))], []⟩ (here (by kernel_rfl)) ?_
  refine sem_seq (by kernel_rfl) ?_
  refine sem_region (by kernel_rfl) ?_
  refine evs_run 2 (by kernel_rfl) ?_
  obtain ⟨r2, hr2, h⟩ := bindS h
  refine evs_callP [] (by kernel_rfl) (W.slices_IndexFunc_Lint_int__setup_meets_1_ok hr2) (by kernel_rfl) (.inl rfl) (by kernel_rfl) ?_
  refine evs_run 2 (by kernel_rfl) ?_
  refine evs_endS (by kernel_rfl) (fun τ hτ => ?_)
  refine th_normalS hτ ⟨[(4, (vB (decide (r2 ≥ 0))))], []⟩ (here (by kernel_rfl)) ?_
  refine sem_retS (by kernel_rfl) (fun τ hτ => ?_)
  obtain rfl := Option.some.inj h
  exact rk_ret hτ [(4, (vB (decide (r2 ≥ 0))))] (here (by kernel_rfl)) (by kernel_rfl)
theorem W.setup_meets_ok {a : (List Int)} {b : (List Int)} {r : Bool} (h : setup_meets a b = some r) : PC G.P 76 [(.sl (List.map cI a)), (.sl (List.map cI b))] [] (vB r) [] := by
  refine pc_of G (fn := Try.f76) Try.func76 (by kernel_rfl) (by kernel_rfl) (by kernel_rfl) (by kernel_rfl) (by kernel_rfl) ?_
  refine sem_set ⟨[(0, (.sl (List.map cI a))), (1, (.sl (List.map cI b)))], []⟩ (by kernel_rfl) ?_
  refine sem_seq (by kernel_rfl) ?_
  refine sem_region (by kernel_rfl) ?_
  refine evs_run 2 (by kernel_rfl) ?_
  refine evs_endS (by kernel_rfl) (fun τ hτ => ?_)
  refine th_normalS hτ ⟨[(0, (.sl (List.map cI a))), (3, (.ptr 3 0))], [(3, .box [(.sl (List.map cI b))])]⟩ (here (by kernel_rfl)) ?_
  refine sem_seq (by kernel_rfl) ?_
  refine sem_region (by kernel_rfl) ?_
  refine evs_run 2 (by kernel_rfl) ?_
  obtain ⟨r2, hr2, h⟩ := bindS h
  refine evs_callP [3] (by kernel_rfl) (W.slices_ContainsFunc_Lint_int__setup_meets_1_ok hr2) (by kernel_rfl) (.inr rfl) (by kernel_rfl) ?_
  refine evs_run 1 (by kernel_rfl) ?_
  refine evs_endS (by kernel_rfl) (fun τ hτ => ?_)
  refine th_normalS hτ ⟨[(4, (vB r2))], []⟩ (here (by kernel_rfl)) ?_
  refine sem_retS (by kernel_rfl) (fun τ hτ => ?_)
  obtain rfl := Option.some.inj h
  exact rk_ret hτ [(4, (vB r2))] (here (by kernel_rfl)) (by kernel_rfl)
theorem W.setup_inOrder_1_ok {d : Change} {a_0 : Int} {a_1 : Int} {a_2 : Int} {r : Bool} (h : setup_inOrder_1 d a_0 a_1 a_2 = some r) : PC G.P 83 [(.agg [(vI d.Step), (vI d.Station), (vI d.Pair)]), (.vptr [(vI a_0), (vI a_1), (vI a_2)] 0)] [] (vB r) [] := by
  refine pc_of G (fn := Try.f83) Try.func83 (by kernel_rfl) (by kernel_rfl) (by kernel_rfl) (by kernel_rfl) (by kernel_rfl) ?_
  refine sem_set ⟨[(0, (.agg [(vI d.Step), (vI d.Station), (vI d.Pair)])), (1, (.vptr [(vI a_0), (vI a_1), (vI a_2)] 0))], []⟩ (by kernel_rfl) ?_
  refine sem_seq (by kernel_rfl) ?_
  refine sem_region (by kernel_rfl) ?_
  refine evs_run 2 (by kernel_rfl) ?_
  refine evs_endS (by kernel_rfl) (fun τ hτ => ?_)
  refine th_normalS hτ ⟨[(1, (.vptr [(vI a_0), (vI a_1), (vI a_2)] 0)), (2, (.ptr 2 0))], [(2, .box [(vI d.Step), (vI d.Station), (vI d.Pair)])]⟩ (here (by kernel_rfl)) ?_
  refine sem_seq (by kernel_rfl) ?_
  obtain ⟨j1, hj1, h⟩ := bindS h
  refine sem_regionC ⟨[(3, (vB j1))], []⟩ (by kernel_rfl) ?_ (fun τ hτ => ?_)
  · replace h := hj1
    refine evs_run 6 (by kernel_rfl) ?_
    refine evs_split (d.Step == a_0) (fun b0 => ⟨[(1, (.vptr [(vI a_0), (vI a_1), (vI a_2)] 0)), (2, (.ptr 2 0)), (9, (vB b0))], [(2, .box [(vI d.Step), (vI d.Station), (vI d.Pair)])]⟩) (by kernel_rfl) (fun hb => ?_) (fun hb => ?_)
    · replace h := iteT hb h
      refine evs_run 7 (by kernel_rfl) ?_
      refine evs_endS (by kernel_rfl) (fun τ hτ => ?_)
      obtain rfl := Option.some.inj h
      exact leafC hτ (here (by kernel_rfl))
    · replace h := iteF hb h
      refine evs_run 7 (by kernel_rfl) ?_
      refine evs_endS (by kernel_rfl) (fun τ hτ => ?_)
      obtain rfl := Option.some.inj h
      exact leafC hτ (here (by kernel_rfl))
  refine th_normalS hτ ⟨[(3, (vB j1))], []⟩ (here (by kernel_rfl)) ?_
  refine sem_retS (by kernel_rfl) (fun τ hτ => ?_)
  obtain rfl := Option.some.inj h
  exact rk_ret hτ [(3, (vB j1))] (here (by kernel_rfl)) (by kernel_rfl)
theorem W.slices_IndexFunc_Lapi_Change_api_Change__setup_inOrder_1_ok {s0 : (List Change)} {f_0_0 : Int} {f_0_1 : Int} {f_0_2 : Int} {r : Int} (h : slices_IndexFunc_Lapi_Change_api_Change__setup_inOrder_1 s0 f_0_0 f_0_1 f_0_2 = some r) : PC G.P 91 [(.sl (List.map c_Change s0)), (.fn 83 [(.vptr [(vI f_0_0), (vI f_0_1), (vI f_0_2)] 0)])] [] (vI r) [] := by
  refine pc_of G (fn := Try.f91) Try.func91 (by kernel_rfl) (by kernel_rfl) (by kernel_rfl) (by kernel_rfl) (by kernel_rfl) ?_
  refine sem_set ⟨[(0, (.sl (List.map c_Change s0))), (1, (.fn 83 [(.vptr [(vI f_0_0), (vI f_0_1), (vI f_0_2)] 0)]))], []⟩ (by kernel_rfl) ?_
  refine sem_seq (by kernel_rfl) ?_
  refine sem_region (by kernel_rfl) ?_
  refine evs_run 1 (by kernel_rfl) ?_
  refine evs_endS (by kernel_rfl) (fun τ hτ => ?_)
  refine th_normalS hτ ⟨[(0, (.sl (List.map c_Change s0))), (1, (.fn 83 [(.vptr [(vI f_0_0), (vI f_0_1), (vI f_0_2)] 0)]))], []⟩ (here (by kernel_rfl)) ?_
  refine sem_seq (by kernel_rfl) ?_
  refine sem_seq (by kernel_rfl) ?_
  refine sem_region (by kernel_rfl) ?_
  refine evs_run 1 (by kernel_rfl) ?_
  refine evs_op (st_len (c := c_Change) (l := s0) (x := (.sl (List.map c_Change s0))) (by kernel_rfl) (by kernel_rfl)) ?_
  refine evs_run 1 (by kernel_rfl) ?_
  refine evs_endS (by kernel_rfl) (fun τ hτ => ?_)
  refine th_normalS hτ ⟨[(0, (.sl (List.map c_Change s0))), (1, (.fn 83 [(.vptr [(vI f_0_0), (vI f_0_1), (vI f_0_2)] 0)])), (7, (vI (s0.length : Int))), (8, (vI 0))], []⟩ (here (by kernel_rfl)) ?_
  refine sem_block (by kernel_rfl) ?_
  obtain ⟨x56, hx56, h⟩ := bindS h
  refine sem_loopS (fun (s39 : Int) => ⟨[(0, (.sl (List.map c_Change s0))), (1, (.fn 83 [(.vptr [(vI f_0_0), (vI f_0_1), (vI f_0_2)] 0)])), (7, (vI (s0.length : Int))), (8, (vI s39))], []⟩) (fun (x56 : Int ⊕ Unit) => match x56 with | .inl j57 => (.ret, ⟨[(4, (vI j57))], []⟩) | .inr j58 => (.exit 0, ⟨[], []⟩)) (slices_IndexFunc_Lapi_Change_api_Change__setup_inOrder_1_l1 s0 f_0_0 f_0_1 f_0_2) 0 x56 (by kernel_rfl) (here (by kernel_rfl)) hx56 ?_ ?_ ?_
  · intro s39 r h
    refine sem_seq (by kernel_rfl) ?_
    refine sem_region (by kernel_rfl) ?_
    refine evs_run 1 (by kernel_rfl) ?_
    refine evs_endS (by kernel_rfl) (fun τ hτ => ?_)
    refine th_normalS hτ ⟨[(0, (.sl (List.map c_Change s0))), (1, (.fn 83 [(.vptr [(vI f_0_0), (vI f_0_1), (vI f_0_2)] 0)])), (7, (vI (s0.length : Int))), (8, (vI s39)), (9, (vB (decide (s39 < (s0.length : Int)))))], []⟩ (here (by kernel_rfl)) ?_
    refine sem_seq (by kernel_rfl) ?_
    refine sem_cond (decide (s39 < (s0.length : Int))) (by kernel_rfl) (by kernel_rfl) (fun hb => ?_) (fun hb => ?_)
    · replace h := iteT hb h
      refine sem_skipS (by kernel_rfl) (fun τ hτ => ?_)
      refine th_normalS hτ ⟨[(0, (.sl (List.map c_Change s0))), (1, (.fn 83 [(.vptr [(vI f_0_0), (vI f_0_1), (vI f_0_2)] 0)])), (7, (vI (s0.length : Int))), (8, (vI s39))], []⟩ (here (by kernel_rfl)) ?_
      refine sem_seq (by kernel_rfl) ?_
      refine sem_block (by kernel_rfl) ?_
      refine sem_seq (by kernel_rfl) ?_
      refine sem_region (by kernel_rfl) ?_
      refine evs_run 2 (by kernel_rfl) ?_
      refine evs_endS (by kernel_rfl) (fun τ hτ => ?_)
      refine th_normalS hτ ⟨[(0, (.sl (List.map c_Change s0))), (1, (.fn 83 [(.vptr [(vI f_0_0), (vI f_0_1), (vI f_0_2)] 0)])), (5, (vI s39)), (7, (vI (s0.length : Int))), (8, (vI s39))], []⟩ (here (by kernel_rfl)) ?_
      refine sem_seq (by kernel_rfl) ?_
      refine sem_region (by kernel_rfl) ?_
      refine evs_run 3 (by kernel_rfl) ?_
      obtain ⟨x54, hx54, h⟩ := bindS h
      refine evs_op (st_idx (c := c_Change) (l := s0) (i := s39) (kd := .i64) (sz := 3) (by kernel_rfl) hx54 rfl) ?_
      refine evs_run 1 (by kernel_rfl) ?_
      obtain ⟨r55, hr55, h⟩ := bindS h
      refine evs_callP [] (by kernel_rfl) (W.setup_inOrder_1_ok hr55) (by kernel_rfl) (.inl rfl) (by kernel_rfl) ?_
      refine evs_endS (by kernel_rfl) (fun τ hτ => ?_)
      refine th_normalS hτ ⟨[(0, (.sl (List.map c_Change s0))), (1, (.fn 83 [(.vptr [(vI f_0_0), (vI f_0_1), (vI f_0_2)] 0)])), (5, (vI s39)), (7, (vI (s0.length : Int))), (8, (vI s39)), (16, (vB r55))], []⟩ (here (by kernel_rfl)) ?_
      refine sem_cond r55 (by kernel_rfl) (by kernel_rfl) (fun hb => ?_) (fun hb => ?_)
      · replace h := iteT hb h
        refine sem_seq (by kernel_rfl) ?_
        refine sem_region (by kernel_rfl) ?_
        refine evs_run 2 (by kernel_rfl) ?_
        refine evs_endS (by kernel_rfl) (fun τ hτ => ?_)
        refine th_normalS hτ ⟨[(4, (vI s39))], []⟩ (here (by kernel_rfl)) ?_
        refine sem_retS (by kernel_rfl) (fun τ hτ => ?_)
        refine bl_ret ?_
        refine th_ret ?_
        obtain rfl := Option.some.inj h
        exact lk_outS hτ rfl (here (by kernel_rfl))
      · replace h := iteF hb h
        refine sem_skipS (by kernel_rfl) (fun τ hτ => ?_)
        refine bl_normal ?_
        refine th_normalS hτ ⟨[(0, (.sl (List.map c_Change s0))), (1, (.fn 83 [(.vptr [(vI f_0_0), (vI f_0_1), (vI f_0_2)] 0)])), (7, (vI (s0.length : Int))), (8, (vI s39))], []⟩ (here (by kernel_rfl)) ?_
        refine sem_region (by kernel_rfl) ?_
        refine evs_run 2 (by kernel_rfl) ?_
        refine evs_endS (by kernel_rfl) (fun τ hτ => ?_)
        obtain rfl := Option.some.inj h
        exact lk_nextS hτ (here (by kernel_rfl))
    · replace h := iteF hb h
      refine sem_exitS 0 (by kernel_rfl) rfl (fun τ hτ => ?_)
      refine th_exit ?_
      obtain rfl := Option.some.inj h
      exact lk_outS hτ rfl (here (by kernel_rfl))
  · intro x
    rcases x with _ | _ <;> rfl
  · intro τ hτ
    rcases x56 with j57 | j58
    · refine bl_ret ?_
      refine th_ret ?_
      obtain rfl := Option.some.inj h
      exact rk_ret hτ [(4, (vI j57))] (here (by kernel_rfl)) (by kernel_rfl)
    · refine bl_hit (by kernel_rfl) ?_
      refine th_normalS hτ ⟨[], []⟩ (here (by kernel_rfl)) ?_
      refine sem_seq (by kernel_rfl) ?_
      refine sem_region (by kernel_rfl) ?_
      refine evs_run 1 (by kernel_rfl) ?_
      refine evs_endS (by kernel_rfl) (fun τ hτ => ?_)
      refine th_normalS hτ ⟨[(4, (vI (-1)))], []⟩ (here (by kernel_rfl)) ?_
      refine sem_retS (by kernel_rfl) (fun τ hτ => ?_)
      obtain rfl := Option.some.inj h
      exact rk_ret hτ [(4, (vI (-1)))] (here (by kernel_rfl)) (by kernel_rfl)
theorem W.slices_ContainsFunc_Lapi_Change_api_Change__setup_inOrder_1_ok {s0 : (List Change)} {f_0_0 : Int} {f_0_1 : Int} {f_0_2 : Int} {r : Bool} (h : slices_ContainsFunc_Lapi_Change_api_Change__setup_inOrder_1 s0 f_0_0 f_0_1 f_0_2 = some r) : PC G.P 82 [(.sl (List.map c_Change s0)), (.fn 83 [(.vptr [(vI f_0_0), (vI f_0_1), (vI f_0_2)] 0)])] [] (vB r) [] := by
  refine pc_of G (fn := Try.f82) Try.func82 (by kernel_rfl) (by kernel_rfl) (by kernel_rfl) (by kernel_rfl) (by kernel_rfl) ?_
  refine sem_set ⟨[(0, (.sl (List.map c_Change s0))), (1, (.fn 83 [(.vptr [(vI f_0_0), (vI f_0_1), (vI f_0_2)] 0)]))], []⟩ (by kernel_rfl) ?_
  refine sem_seq (by kernel_rfl) ?_
  refine sem_region (by kernel_rfl) ?_
  refine evs_run 1 (by kernel_rfl) ?_
  refine evs_endS (by kernel_rfl) (fun τ hτ => ?_)
  refine th_normalS hτ ⟨[(0, (.sl (List.map c_Change s0))), (1, (.fn 83 [(.vptr [(vI f_0_0), (vI f_0_1), (vI f_0_2)] 0)]))], []⟩ (here (by kernel_rfl)) ?_
  refine sem_seq (by kernel_rfl) ?_
  refine sem_region (by kernel_rfl) ?_
  refine evs_run 2 (by kernel_rfl) ?_
  obtain ⟨r2, hr2, h⟩ := bindS h
  refine evs_callP [] (by kernel_rfl) (W.slices_IndexFunc_Lapi_Change_api_Change__setup_inOrder_1_ok hr2) (by kernel_rfl) (.inl rfl) (by kernel_rfl) ?_
  refine evs_run 2 (by kernel_rfl) ?_
  refine evs_endS (by kernel_rfl) (fun τ hτ => ?_)
  refine th_normalS hτ ⟨[(4, (vB (decide (r2 ≥ 0))))], []⟩ (here (by kernel_rfl)) ?_
  refine sem_retS (by kernel_rfl) (fun τ hτ => ?_)
  obtain rfl := Option.some.inj h
  exact rk_ret hτ [(4, (vB (decide (r2 ≥ 0))))] (here (by kernel_rfl)) (by kernel_rfl)
theorem W.setup_inOrder_ok {needs : (List (List Int))} {stations : Int} {l : (List Change)} {r : Bool} (h : setup_inOrder needs stations l = some r) : PC G.P 68 [(.sl (List.map (cS cI) needs)), (vI stations), (.sl (List.map c_Change l))] [] (vB r) [] := by
  refine pc_of G (fn := Try.f68) Try.func68 (by kernel_rfl) (by kernel_rfl) (by kernel_rfl) (by kernel_rfl) (by kernel_rfl) ?_
  refine sem_set ⟨[(0, (.sl (List.map (cS cI) needs))), (1, (vI stations)), (2, (.sl (List.map c_Change l)))], []⟩ (by kernel_rfl) ?_
  refine sem_seq (by kernel_rfl) ?_
  refine sem_region (by kernel_rfl) ?_
  refine evs_run 1 (by kernel_rfl) ?_
  refine evs_endS (by kernel_rfl) (fun τ hτ => ?_)
  refine th_normalS hτ ⟨[(0, (.sl (List.map (cS cI) needs))), (1, (vI stations)), (2, (.sl (List.map c_Change l)))], []⟩ (here (by kernel_rfl)) ?_
  refine sem_seq (by kernel_rfl) ?_
  refine sem_seq (by kernel_rfl) ?_
  refine sem_region (by kernel_rfl) ?_
  refine evs_run 1 (by kernel_rfl) ?_
  refine evs_op (st_len (c := c_Change) (l := l) (x := (.sl (List.map c_Change l))) (by kernel_rfl) (by kernel_rfl)) ?_
  refine evs_run 1 (by kernel_rfl) ?_
  refine evs_endS (by kernel_rfl) (fun τ hτ => ?_)
  refine th_normalS hτ ⟨[(0, (.sl (List.map (cS cI) needs))), (1, (vI stations)), (2, (.sl (List.map c_Change l))), (9, (.sl (List.map c_Change l))), (10, (vI (l.length : Int))), (11, (vI 0))], []⟩ (here (by kernel_rfl)) ?_
  refine sem_block (by kernel_rfl) ?_
  obtain ⟨x168, hx168, h⟩ := bindS h
  refine sem_loopS (fun (s103 : Int) => ⟨[(0, (.sl (List.map (cS cI) needs))), (1, (vI stations)), (2, (.sl (List.map c_Change l))), (9, (.sl (List.map c_Change l))), (10, (vI (l.length : Int))), (11, (vI s103))], []⟩) (fun (x168 : Unit ⊕ Unit) => match x168 with | .inl j169 => (.ret, ⟨[(6, (vB false))], []⟩) | .inr j170 => (.exit 0, ⟨[], []⟩)) (setup_inOrder_l1 needs stations l) 0 x168 (by kernel_rfl) (here (by kernel_rfl)) hx168 ?_ ?_ ?_
  · intro s103 r h
    refine sem_seq (by kernel_rfl) ?_
    refine sem_region (by kernel_rfl) ?_
    refine evs_run 1 (by kernel_rfl) ?_
    refine evs_endS (by kernel_rfl) (fun τ hτ => ?_)
    refine th_normalS hτ ⟨[(0, (.sl (List.map (cS cI) needs))), (1, (vI stations)), (2, (.sl (List.map c_Change l))), (9, (.sl (List.map c_Change l))), (10, (vI (l.length : Int))), (11, (vI s103)), (12, (vB (decide (s103 < (l.length : Int)))))], []⟩ (here (by kernel_rfl)) ?_
    refine sem_seq (by kernel_rfl) ?_
    refine sem_cond (decide (s103 < (l.length : Int))) (by kernel_rfl) (by kernel_rfl) (fun hb => ?_) (fun hb => ?_)
    · replace h := iteT hb h
      refine sem_skipS (by kernel_rfl) (fun τ hτ => ?_)
      refine th_normalS hτ ⟨[(0, (.sl (List.map (cS cI) needs))), (1, (vI stations)), (2, (.sl (List.map c_Change l))), (9, (.sl (List.map c_Change l))), (10, (vI (l.length : Int))), (11, (vI s103))], []⟩ (here (by kernel_rfl)) ?_
      refine sem_seq (by kernel_rfl) ?_
      refine sem_block (by kernel_rfl) ?_
      refine sem_seq (by kernel_rfl) ?_
      refine sem_region (by kernel_rfl) ?_
      refine evs_run 1 (by kernel_rfl) ?_
      obtain ⟨x153, hx153, h⟩ := bindS h
      refine evs_op (st_idx (c := c_Change) (l := l) (i := s103) (kd := .i64) (sz := 3) (by kernel_rfl) hx153 rfl) ?_
      refine evs_run 4 (by kernel_rfl) ?_
      refine evs_endS (by kernel_rfl) (fun τ hτ => ?_)
      refine th_normalS hτ ⟨[(0, (.sl (List.map (cS cI) needs))), (1, (vI stations)), (2, (.sl (List.map c_Change l))), (7, (vI s103)), (8, (.ptr 8 0)), (9, (.sl (List.map c_Change l))), (10, (vI (l.length : Int))), (11, (vI s103))], [(8, .box [(vI x153.Step), (vI x153.Station), (vI x153.Pair)])]⟩ (here (by kernel_rfl)) ?_
      refine sem_seq (by kernel_rfl) ?_
      refine sem_seq (by kernel_rfl) ?_
      obtain ⟨j155, hj155, h⟩ := bindS h
      refine sem_regionC ⟨[(0, (.sl (List.map (cS cI) needs))), (1, (vI stations)), (2, (.sl (List.map c_Change l))), (7, (vI s103)), (8, (.ptr 500000 0)), (9, (.sl (List.map c_Change l))), (10, (vI (l.length : Int))), (11, (vI s103)), (46, (vB j155))], [(500000, .box [(vI x153.Step), (vI x153.Station), (vI x153.Pair)])]⟩ (by kernel_rfl) ?_ (fun τ hτ => ?_)
      · replace h := hj155
        refine evs_run 4 (by kernel_rfl) ?_
        refine evs_split (decide (x153.Step < 0)) (fun b0 => ⟨[(0, (.sl (List.map (cS cI) needs))), (1, (vI stations)), (2, (.sl (List.map c_Change l))), (7, (vI s103)), (8, (.ptr 8 0)), (9, (.sl (List.map c_Change l))), (10, (vI (l.length : Int))), (11, (vI s103)), (19, (vB b0))], [(8, .box [(vI x153.Step), (vI x153.Station), (vI x153.Pair)])]⟩) (by kernel_rfl) (fun hb => ?_) (fun hb => ?_)
        · replace h := iteT hb h
          refine evs_run 27 (by kernel_rfl) ?_
          refine evs_endS (by kernel_rfl) (fun τ hτ => ?_)
          obtain rfl := Option.some.inj h
          exact leafC hτ (subR_prep [] [(8, 500000)] (by kernel_rfl) rfl rfl (by kernel_rfl))
        · replace h := iteF hb h
          refine evs_run 3 (by kernel_rfl) ?_
          refine evs_op (st_len (c := (cS cI)) (l := needs) (x := (.sl (List.map (cS cI) needs))) (by kernel_rfl) (by kernel_rfl)) ?_
          refine evs_run 3 (by kernel_rfl) ?_
          refine evs_split (decide (x153.Step ≥ (needs.length : Int))) (fun b0 => ⟨[(0, (.sl (List.map (cS cI) needs))), (1, (vI stations)), (2, (.sl (List.map c_Change l))), (7, (vI s103)), (8, (.ptr 8 0)), (9, (.sl (List.map c_Change l))), (10, (vI (l.length : Int))), (11, (vI s103)), (20, (.ptr 8 0)), (21, (vI x153.Step)), (22, (.sl (List.map (cS cI) needs))), (23, (vI (needs.length : Int))), (24, (vB b0)), (26, (vB b0))], [(8, .box [(vI x153.Step), (vI x153.Station), (vI x153.Pair)])]⟩) (by kernel_rfl) (fun hb => ?_) (fun hb => ?_)
          · replace h := iteT hb h
            refine evs_run 20 (by kernel_rfl) ?_
            refine evs_endS (by kernel_rfl) (fun τ hτ => ?_)
            obtain rfl := Option.some.inj h
            exact leafC hτ (subR_prep [] [(8, 500000)] (by kernel_rfl) rfl rfl (by kernel_rfl))
          · replace h := iteF hb h
            refine evs_run 5 (by kernel_rfl) ?_
            refine evs_split (decide (x153.Station < 0)) (fun b0 => ⟨[(0, (.sl (List.map (cS cI) needs))), (1, (vI stations)), (2, (.sl (List.map c_Change l))), (7, (vI s103)), (8, (.ptr 8 0)), (9, (.sl (List.map c_Change l))), (10, (vI (l.length : Int))), (11, (vI s103)), (20, (.ptr 8 0)), (21, (vI x153.Step)), (22, (.sl (List.map (cS cI) needs))), (23, (vI (needs.length : Int))), (24, (vB false)), (27, (.ptr 8 1)), (28, (vI x153.Station)), (29, (vB b0)), (31, (vB b0))], [(8, .box [(vI x153.Step), (vI x153.Station), (vI x153.Pair)])]⟩) (by kernel_rfl) (fun hb => ?_) (fun hb => ?_)
            · replace h := iteT hb h
              refine evs_run 15 (by kernel_rfl) ?_
              refine evs_endS (by kernel_rfl) (fun τ hτ => ?_)
              obtain rfl := Option.some.inj h
              exact leafC hτ (subR_prep [] [(8, 500000)] (by kernel_rfl) rfl rfl (by kernel_rfl))
            · replace h := iteF hb h
              refine evs_run 6 (by kernel_rfl) ?_
              refine evs_split (decide (x153.Station ≥ stations)) (fun b0 => ⟨[(0, (.sl (List.map (cS cI) needs))), (1, (vI stations)), (2, (.sl (List.map c_Change l))), (7, (vI s103)), (8, (.ptr 8 0)), (9, (.sl (List.map c_Change l))), (10, (vI (l.length : Int))), (11, (vI s103)), (20, (.ptr 8 0)), (21, (vI x153.Step)), (22, (.sl (List.map (cS cI) needs))), (23, (vI (needs.length : Int))), (24, (vB false)), (27, (.ptr 8 1)), (28, (vI x153.Station)), (29, (vB false)), (32, (.ptr 8 1)), (33, (vI x153.Station)), (34, (vI stations)), (35, (vB b0)), (37, (vB b0))], [(8, .box [(vI x153.Step), (vI x153.Station), (vI x153.Pair)])]⟩) (by kernel_rfl) (fun hb => ?_) (fun hb => ?_)
              · replace h := iteT hb h
                refine evs_run 9 (by kernel_rfl) ?_
                refine evs_endS (by kernel_rfl) (fun τ hτ => ?_)
                obtain rfl := Option.some.inj h
                exact leafC hτ (subR_prep [] [(8, 500000)] (by kernel_rfl) rfl rfl (by kernel_rfl))
              · replace h := iteF hb h
                refine evs_run 5 (by kernel_rfl) ?_
                refine evs_split (decide (x153.Pair < 0)) (fun b0 => ⟨[(0, (.sl (List.map (cS cI) needs))), (1, (vI stations)), (2, (.sl (List.map c_Change l))), (7, (vI s103)), (8, (.ptr 8 0)), (9, (.sl (List.map c_Change l))), (10, (vI (l.length : Int))), (11, (vI s103)), (20, (.ptr 8 0)), (21, (vI x153.Step)), (22, (.sl (List.map (cS cI) needs))), (23, (vI (needs.length : Int))), (24, (vB false)), (27, (.ptr 8 1)), (28, (vI x153.Station)), (29, (vB false)), (32, (.ptr 8 1)), (33, (vI x153.Station)), (34, (vI stations)), (35, (vB false)), (38, (.ptr 8 2)), (39, (vI x153.Pair)), (40, (vB b0)), (42, (vB b0))], [(8, .box [(vI x153.Step), (vI x153.Station), (vI x153.Pair)])]⟩) (by kernel_rfl) (fun hb => ?_) (fun hb => ?_)
                · replace h := iteT hb h
                  refine evs_run 4 (by kernel_rfl) ?_
                  refine evs_endS (by kernel_rfl) (fun τ hτ => ?_)
                  obtain rfl := Option.some.inj h
                  exact leafC hτ (subR_prep [] [(8, 500000)] (by kernel_rfl) rfl rfl (by kernel_rfl))
                · replace h := iteF hb h
                  refine evs_run 4 (by kernel_rfl) ?_
                  refine evs_endS (by kernel_rfl) (fun τ hτ => ?_)
                  obtain rfl := Option.some.inj h
                  exact leafC hτ (subR_prep [] [(8, 500000)] (by kernel_rfl) rfl rfl (by kernel_rfl))
      refine th_normalS hτ ⟨[(0, (.sl (List.map (cS cI) needs))), (1, (vI stations)), (2, (.sl (List.map c_Change l))), (7, (vI s103)), (8, (.ptr 500000 0)), (9, (.sl (List.map c_Change l))), (10, (vI (l.length : Int))), (11, (vI s103)), (46, (vB j155))], [(500000, .box [(vI x153.Step), (vI x153.Station), (vI x153.Pair)])]⟩ (here (by kernel_rfl)) ?_
      refine sem_cond j155 (by kernel_rfl) (by kernel_rfl) (fun hb => ?_) (fun hb => ?_)
      · replace h := iteT hb h
        refine sem_seq (by kernel_rfl) ?_
        refine sem_region (by kernel_rfl) ?_
        refine evs_run 1 (by kernel_rfl) ?_
        refine evs_endS (by kernel_rfl) (fun τ hτ => ?_)
        refine th_normalS hτ ⟨[(6, (vB false))], []⟩ (here (by kernel_rfl)) ?_
        refine sem_retS (by kernel_rfl) (fun τ hτ => ?_)
        refine th_ret ?_
        refine bl_ret ?_
        refine th_ret ?_
        obtain rfl := Option.some.inj h
        exact lk_outS hτ rfl (here (by kernel_rfl))
      · replace h := iteF hb h
        refine sem_skipS (by kernel_rfl) (fun τ hτ => ?_)
        refine th_normalS hτ ⟨[(0, (.sl (List.map (cS cI) needs))), (1, (vI stations)), (2, (.sl (List.map c_Change l))), (7, (vI s103)), (8, (.ptr 500000 0)), (9, (.sl (List.map c_Change l))), (10, (vI (l.length : Int))), (11, (vI s103))], [(500000, .box [(vI x153.Step), (vI x153.Station), (vI x153.Pair)])]⟩ (here (by kernel_rfl)) ?_
        refine sem_seq (by kernel_rfl) ?_
        refine sem_seq (by kernel_rfl) ?_
        obtain ⟨j162, hj162, h⟩ := bindS h
        refine sem_drawP ⟨[(0, (.sl (List.map (cS cI) needs))), (1, (vI stations)), (2, (.sl (List.map c_Change l))), (7, (vI s103)), (8, (.ptr 500000 0)), (9, (.sl (List.map c_Change l))), (10, (vI (l.length : Int))), (11, (vI s103)), (59, (vB j162))], [(500000, .box [(vI x153.Step), (vI x153.Station), (vI x153.Pair)])]⟩ [] [] [] [] [] 11 (by kernel_rfl) (by kernel_rfl) (by kernel_rfl) ?_ (fun τ hτ => ?_)
        · replace h := hj162
          refine evd_run 3 (by kernel_rfl) ?_
          refine evd_split (decide (s103 > 0)) (fun b0 => ⟨[(49, (vB b0)), (48, (vB b0)), (47, (vI s103)), (0, (.sl (List.map (cS cI) needs))), (1, (vI stations)), (2, (.sl (List.map c_Change l))), (7, (vI s103)), (8, (.ptr 500000 0)), (9, (.sl (List.map c_Change l))), (10, (vI (l.length : Int))), (11, (vI s103))], [(500000, .box [(vI x153.Step), (vI x153.Station), (vI x153.Pair)])]⟩) (by kernel_rfl) (fun hb => ?_) (fun hb => ?_)
          · replace h := iteT hb h
            refine evd_run 3 (by kernel_rfl) ?_
            obtain ⟨x163, hx163, h⟩ := bindS h
            refine evd_val (by kernel_rfl) (st_idx (c := c_Change) (l := l) (i := (isub s103 1)) (kd := .i64) (sz := 3) (by kernel_rfl) hx163 rfl) (by kernel_rfl) (by kernel_rfl) ?_
            refine evd_run 4 (by kernel_rfl) ?_
            refine evd_end (by kernel_rfl) ?_
            refine evo_run 2 (by kernel_rfl) ?_
            refine evo_endS (by kernel_rfl) (fun τ hτ => ?_)
            obtain rfl := Option.some.inj h
            exact leafC hτ (here (by kernel_rfl))
          · replace h := iteF hb h
            refine evd_run 8 (by kernel_rfl) ?_
            refine evd_end (by kernel_rfl) ?_
            refine evo_run 2 (by kernel_rfl) ?_
            refine evo_endS (by kernel_rfl) (fun τ hτ => ?_)
            obtain rfl := Option.some.inj h
            exact leafC hτ (here (by kernel_rfl))
        refine th_normalS hτ ⟨[(0, (.sl (List.map (cS cI) needs))), (1, (vI stations)), (2, (.sl (List.map c_Change l))), (7, (vI s103)), (8, (.ptr 500000 0)), (9, (.sl (List.map c_Change l))), (10, (vI (l.length : Int))), (11, (vI s103)), (59, (vB j162))], [(500000, .box [(vI x153.Step), (vI x153.Station), (vI x153.Pair)])]⟩ (here (by kernel_rfl)) ?_
        refine sem_cond j162 (by kernel_rfl) (by kernel_rfl) (fun hb => ?_) (fun hb => ?_)
        · replace h := iteT hb h
          refine sem_seq (by kernel_rfl) ?_
          refine sem_region (by kernel_rfl) ?_
          refine evs_run 1 (by kernel_rfl) ?_
          refine evs_endS (by kernel_rfl) (fun τ hτ => ?_)
          refine th_normalS hτ ⟨[(6, (vB false))], []⟩ (here (by kernel_rfl)) ?_
          refine sem_retS (by kernel_rfl) (fun τ hτ => ?_)
          refine th_ret ?_
          refine bl_ret ?_
          refine th_ret ?_
          obtain rfl := Option.some.inj h
          exact lk_outS hτ rfl (here (by kernel_rfl))
        · replace h := iteF hb h
          refine sem_skipS (by kernel_rfl) (fun τ hτ => ?_)
          refine th_normalS hτ ⟨[(0, (.sl (List.map (cS cI) needs))), (1, (vI stations)), (2, (.sl (List.map c_Change l))), (7, (vI s103)), (8, (.ptr 500000 0)), (9, (.sl (List.map c_Change l))), (10, (vI (l.length : Int))), (11, (vI s103))], [(500000, .box [(vI x153.Step), (vI x153.Station), (vI x153.Pair)])]⟩ (here (by kernel_rfl)) ?_
          refine sem_seq (by kernel_rfl) ?_
          refine sem_region (by kernel_rfl) ?_
          refine evs_run 2 (by kernel_rfl) ?_
          obtain ⟨l166, hl166, h⟩ := bindS h
          refine evs_op (st_slH (c := c_Change) (l := l) (sz := 3) (hi := s103) (k2 := .i64) (by kernel_rfl) hl166) ?_
          refine evs_run 1 (by kernel_rfl) ?_
          obtain ⟨r167, hr167, h⟩ := bindS h
          refine evs_callP [500000] (by kernel_rfl) (W.slices_ContainsFunc_Lapi_Change_api_Change__setup_inOrder_1_ok hr167) (by kernel_rfl) (.inr rfl) (by kernel_rfl) ?_
          refine evs_endS (by kernel_rfl) (fun τ hτ => ?_)
          refine th_normalS hτ ⟨[(0, (.sl (List.map (cS cI) needs))), (1, (vI stations)), (2, (.sl (List.map c_Change l))), (9, (.sl (List.map c_Change l))), (10, (vI (l.length : Int))), (11, (vI s103)), (64, (vB r167))], []⟩ (here (by kernel_rfl)) ?_
          refine sem_cond r167 (by kernel_rfl) (by kernel_rfl) (fun hb => ?_) (fun hb => ?_)
          · replace h := iteT hb h
            refine sem_seq (by kernel_rfl) ?_
            refine sem_region (by kernel_rfl) ?_
            refine evs_run 1 (by kernel_rfl) ?_
            refine evs_endS (by kernel_rfl) (fun τ hτ => ?_)
            refine th_normalS hτ ⟨[(6, (vB false))], []⟩ (here (by kernel_rfl)) ?_
            refine sem_retS (by kernel_rfl) (fun τ hτ => ?_)
            refine bl_ret ?_
            refine th_ret ?_
            obtain rfl := Option.some.inj h
            exact lk_outS hτ rfl (here (by kernel_rfl))
          · replace h := iteF hb h
            refine sem_skipS (by kernel_rfl) (fun τ hτ => ?_)
            refine bl_normal ?_
            refine th_normalS hτ ⟨[(0, (.sl (List.map (cS cI) needs))), (1, (vI stations)), (2, (.sl (List.map c_Change l))), (9, (.sl (List.map c_Change l))), (10, (vI (l.length : Int))), (11, (vI s103))], []⟩ (here (by kernel_rfl)) ?_
            refine sem_region (by kernel_rfl) ?_
            refine evs_run 2 (by kernel_rfl) ?_
            refine evs_endS (by kernel_rfl) (fun τ hτ => ?_)
            obtain rfl := Option.some.inj h
            exact lk_nextS hτ (here (by kernel_rfl))
    · replace h := iteF hb h
      refine sem_exitS 0 (by kernel_rfl) rfl (fun τ hτ => ?_)
      refine th_exit ?_
      obtain rfl := Option.some.inj h
      exact lk_outS hτ rfl (here (by kernel_rfl))
  · intro x
    rcases x with _ | _ <;> rfl
  · intro τ hτ
    rcases x168 with j169 | j170
    · refine bl_ret ?_
      refine th_ret ?_
      obtain rfl := Option.some.inj h
      exact rk_ret hτ [(6, (vB false))] (here (by kernel_rfl)) (by kernel_rfl)
    · refine bl_hit (by kernel_rfl) ?_
      refine th_normalS hτ ⟨[], []⟩ (here (by kernel_rfl)) ?_
      refine sem_seq (by kernel_rfl) ?_
      refine sem_region (by kernel_rfl) ?_
      refine evs_run 1 (by kernel_rfl) ?_
      refine evs_endS (by kernel_rfl) (fun τ hτ => ?_)
      refine th_normalS hτ ⟨[(6, (vB true))], []⟩ (here (by kernel_rfl)) ?_
      refine sem_retS (by kernel_rfl) (fun τ hτ => ?_)
      obtain rfl := Option.some.inj h
      exact rk_ret hτ [(6, (vB true))] (here (by kernel_rfl)) (by kernel_rfl)
theorem W.bits_Mul64_ok {x0 : Int} {y : Int} {r : Int × Int} (h : bits_Mul64 x0 y = some r) : PC G.P 95 [(vK .u64 x0), (vK .u64 y)] [] (.tup [(vK .u64 r.1), (vK .u64 r.2)]) [] := by
  refine pc_of G (fn := Try.f95) Try.func95 (by kernel_rfl) (by kernel_rfl) (by kernel_rfl) (by kernel_rfl) (by kernel_rfl) ?_
  refine sem_set ⟨[(0, (vK .u64 x0)), (1, (vK .u64 y))], []⟩ (by kernel_rfl) ?_
  refine sem_seq (by kernel_rfl) ?_
  refine sem_region (by kernel_rfl) ?_
  refine evs_run 2 (by kernel_rfl) ?_
  refine evs_endS (by kernel_rfl) (fun τ hτ => ?_)
  refine th_normalS hτ ⟨[(0, (vK .u64 x0)), (1, (vK .u64 y))], []⟩ (here (by kernel_rfl)) ?_
  refine sem_seq (by kernel_rfl) ?_
  refine sem_region (by kernel_rfl) ?_
  refine evs_run 3 (by kernel_rfl) ?_
  refine evs_endS (by kernel_rfl) (fun τ hτ => ?_)
  refine th_normalS hτ ⟨[(0, (vK .u64 x0)), (1, (vK .u64 y)), (6, (vK .u64 (kand .u64 x0 4294967295)))], []⟩ (here (by kernel_rfl)) ?_
  refine sem_seq (by kernel_rfl) ?_
  refine sem_region (by kernel_rfl) ?_
  refine evs_run 3 (by kernel_rfl) ?_
  refine evs_endS (by kernel_rfl) (fun τ hτ => ?_)
  refine th_normalS hτ ⟨[(0, (vK .u64 x0)), (1, (vK .u64 y)), (6, (vK .u64 (kand .u64 x0 4294967295))), (7, (vK .u64 (Int.fdiv x0 (2 ^ (min (Int.toNat 32) 64)))))], []⟩ (here (by kernel_rfl)) ?_
  refine sem_seq (by kernel_rfl) ?_
  refine sem_region (by kernel_rfl) ?_
  refine evs_run 3 (by kernel_rfl) ?_
  refine evs_endS (by kernel_rfl) (fun τ hτ => ?_)
  refine th_normalS hτ ⟨[(0, (vK .u64 x0)), (1, (vK .u64 y)), (6, (vK .u64 (kand .u64 x0 4294967295))), (7, (vK .u64 (Int.fdiv x0 (2 ^ (min (Int.toNat 32) 64))))), (8, (vK .u64 (kand .u64 y 4294967295)))], []⟩ (here (by kernel_rfl)) ?_
  refine sem_seq (by kernel_rfl) ?_
  refine sem_region (by kernel_rfl) ?_
  refine evs_run 3 (by kernel_rfl) ?_
  refine evs_endS (by kernel_rfl) (fun τ hτ => ?_)
  refine th_normalS hτ ⟨[(0, (vK .u64 x0)), (1, (vK .u64 y)), (6, (vK .u64 (kand .u64 x0 4294967295))), (7, (vK .u64 (Int.fdiv x0 (2 ^ (min (Int.toNat 32) 64))))), (8, (vK .u64 (kand .u64 y 4294967295))), (9, (vK .u64 (Int.fdiv y (2 ^ (min (Int.toNat 32) 64)))))], []⟩ (here (by kernel_rfl)) ?_
  refine sem_seq (by kernel_rfl) ?_
  refine sem_region (by kernel_rfl) ?_
  refine evs_run 4 (by kernel_rfl) ?_
  refine evs_endS (by kernel_rfl) (fun τ hτ => ?_)
  refine th_normalS hτ ⟨[(0, (vK .u64 x0)), (1, (vK .u64 y)), (6, (vK .u64 (kand .u64 x0 4294967295))), (7, (vK .u64 (Int.fdiv x0 (2 ^ (min (Int.toNat 32) 64))))), (8, (vK .u64 (kand .u64 y 4294967295))), (9, (vK .u64 (Int.fdiv y (2 ^ (min (Int.toNat 32) 64))))), (10, (vK .u64 (IntKind.wrap .u64 ((kand .u64 x0 4294967295) * (kand .u64 y 4294967295)))))], []⟩ (here (by kernel_rfl)) ?_
  refine sem_seq (by kernel_rfl) ?_
  refine sem_region (by kernel_rfl) ?_
  refine evs_run 7 (by kernel_rfl) ?_
  refine evs_endS (by kernel_rfl) (fun τ hτ => ?_)
  refine th_normalS hτ ⟨[(0, (vK .u64 x0)), (1, (vK .u64 y)), (6, (vK .u64 (kand .u64 x0 4294967295))), (7, (vK .u64 (Int.fdiv x0 (2 ^ (min (Int.toNat 32) 64))))), (9, (vK .u64 (Int.fdiv y (2 ^ (min (Int.toNat 32) 64))))), (11, (vK .u64 (IntKind.wrap .u64 ((IntKind.wrap .u64 ((Int.fdiv x0 (2 ^ (min (Int.toNat 32) 64))) * (kand .u64 y 4294967295))) + (Int.fdiv (IntKind.wrap .u64 ((kand .u64 x0 4294967295) * (kand .u64 y 4294967295))) (2 ^ (min (Int.toNat 32) 64)))))))], []⟩ (here (by kernel_rfl)) ?_
  refine sem_seq (by kernel_rfl) ?_
  refine sem_region (by kernel_rfl) ?_
  refine evs_run 3 (by kernel_rfl) ?_
  refine evs_endS (by kernel_rfl) (fun τ hτ => ?_)
  refine th_normalS hτ ⟨[(0, (vK .u64 x0)), (1, (vK .u64 y)), (6, (vK .u64 (kand .u64 x0 4294967295))), (7, (vK .u64 (Int.fdiv x0 (2 ^ (min (Int.toNat 32) 64))))), (9, (vK .u64 (Int.fdiv y (2 ^ (min (Int.toNat 32) 64))))), (11, (vK .u64 (IntKind.wrap .u64 ((IntKind.wrap .u64 ((Int.fdiv x0 (2 ^ (min (Int.toNat 32) 64))) * (kand .u64 y 4294967295))) + (Int.fdiv (IntKind.wrap .u64 ((kand .u64 x0 4294967295) * (kand .u64 y 4294967295))) (2 ^ (min (Int.toNat 32) 64))))))), (12, (vK .u64 (kand .u64 (IntKind.wrap .u64 ((IntKind.wrap .u64 ((Int.fdiv x0 (2 ^ (min (Int.toNat 32) 64))) * (kand .u64 y 4294967295))) + (Int.fdiv (IntKind.wrap .u64 ((kand .u64 x0 4294967295) * (kand .u64 y 4294967295))) (2 ^ (min (Int.toNat 32) 64))))) 4294967295)))], []⟩ (here (by kernel_rfl)) ?_
  refine sem_seq (by kernel_rfl) ?_
  refine sem_region (by kernel_rfl) ?_
  refine evs_run 3 (by kernel_rfl) ?_
  refine evs_endS (by kernel_rfl) (fun τ hτ => ?_)
  refine th_normalS hτ ⟨[(0, (vK .u64 x0)), (1, (vK .u64 y)), (6, (vK .u64 (kand .u64 x0 4294967295))), (7, (vK .u64 (Int.fdiv x0 (2 ^ (min (Int.toNat 32) 64))))), (9, (vK .u64 (Int.fdiv y (2 ^ (min (Int.toNat 32) 64))))), (12, (vK .u64 (kand .u64 (IntKind.wrap .u64 ((IntKind.wrap .u64 ((Int.fdiv x0 (2 ^ (min (Int.toNat 32) 64))) * (kand .u64 y 4294967295))) + (Int.fdiv (IntKind.wrap .u64 ((kand .u64 x0 4294967295) * (kand .u64 y 4294967295))) (2 ^ (min (Int.toNat 32) 64))))) 4294967295))), (13, (vK .u64 (Int.fdiv (IntKind.wrap .u64 ((IntKind.wrap .u64 ((Int.fdiv x0 (2 ^ (min (Int.toNat 32) 64))) * (kand .u64 y 4294967295))) + (Int.fdiv (IntKind.wrap .u64 ((kand .u64 x0 4294967295) * (kand .u64 y 4294967295))) (2 ^ (min (Int.toNat 32) 64))))) (2 ^ (min (Int.toNat 32) 64)))))], []⟩ (here (by kernel_rfl)) ?_
  refine sem_seq (by kernel_rfl) ?_
  refine sem_region (by kernel_rfl) ?_
  refine evs_run 6 (by kernel_rfl) ?_
  refine evs_endS (by kernel_rfl) (fun τ hτ => ?_)
  refine th_normalS hτ ⟨[(0, (vK .u64 x0)), (1, (vK .u64 y)), (7, (vK .u64 (Int.fdiv x0 (2 ^ (min (Int.toNat 32) 64))))), (9, (vK .u64 (Int.fdiv y (2 ^ (min (Int.toNat 32) 64))))), (12, (vK .u64 (IntKind.wrap .u64 ((kand .u64 (IntKind.wrap .u64 ((IntKind.wrap .u64 ((Int.fdiv x0 (2 ^ (min (Int.toNat 32) 64))) * (kand .u64 y 4294967295))) + (Int.fdiv (IntKind.wrap .u64 ((kand .u64 x0 4294967295) * (kand .u64 y 4294967295))) (2 ^ (min (Int.toNat 32) 64))))) 4294967295) + (IntKind.wrap .u64 ((kand .u64 x0 4294967295) * (Int.fdiv y (2 ^ (min (Int.toNat 32) 64))))))))), (13, (vK .u64 (Int.fdiv (IntKind.wrap .u64 ((IntKind.wrap .u64 ((Int.fdiv x0 (2 ^ (min (Int.toNat 32) 64))) * (kand .u64 y 4294967295))) + (Int.fdiv (IntKind.wrap .u64 ((kand .u64 x0 4294967295) * (kand .u64 y 4294967295))) (2 ^ (min (Int.toNat 32) 64))))) (2 ^ (min (Int.toNat 32) 64)))))], []⟩ (here (by kernel_rfl)) ?_
  refine sem_seq (by kernel_rfl) ?_
  refine sem_region (by kernel_rfl) ?_
  refine evs_run 9 (by kernel_rfl) ?_
  refine evs_endS (by kernel_rfl) (fun τ hτ => ?_)
  refine th_normalS hτ ⟨[(0, (vK .u64 x0)), (1, (vK .u64 y)), (4, (vK .u64 (IntKind.wrap .u64 ((IntKind.wrap .u64 ((IntKind.wrap .u64 ((Int.fdiv x0 (2 ^ (min (Int.toNat 32) 64))) * (Int.fdiv y (2 ^ (min (Int.toNat 32) 64))))) + (Int.fdiv (IntKind.wrap .u64 ((IntKind.wrap .u64 ((Int.fdiv x0 (2 ^ (min (Int.toNat 32) 64))) * (kand .u64 y 4294967295))) + (Int.fdiv (IntKind.wrap .u64 ((kand .u64 x0 4294967295) * (kand .u64 y 4294967295))) (2 ^ (min (Int.toNat 32) 64))))) (2 ^ (min (Int.toNat 32) 64))))) + (Int.fdiv (IntKind.wrap .u64 ((kand .u64 (IntKind.wrap .u64 ((IntKind.wrap .u64 ((Int.fdiv x0 (2 ^ (min (Int.toNat 32) 64))) * (kand .u64 y 4294967295))) + (Int.fdiv (IntKind.wrap .u64 ((kand .u64 x0 4294967295) * (kand .u64 y 4294967295))) (2 ^ (min (Int.toNat 32) 64))))) 4294967295) + (IntKind.wrap .u64 ((kand .u64 x0 4294967295) * (Int.fdiv y (2 ^ (min (Int.toNat 32) 64))))))) (2 ^ (min (Int.toNat 32) 64)))))))], []⟩ (here (by kernel_rfl)) ?_
  refine sem_seq (by kernel_rfl) ?_
  refine sem_region (by kernel_rfl) ?_
  refine evs_run 4 (by kernel_rfl) ?_
  refine evs_endS (by kernel_rfl) (fun τ hτ => ?_)
  refine th_normalS hτ ⟨[(4, (vK .u64 (IntKind.wrap .u64 ((IntKind.wrap .u64 ((IntKind.wrap .u64 ((Int.fdiv x0 (2 ^ (min (Int.toNat 32) 64))) * (Int.fdiv y (2 ^ (min (Int.toNat 32) 64))))) + (Int.fdiv (IntKind.wrap .u64 ((IntKind.wrap .u64 ((Int.fdiv x0 (2 ^ (min (Int.toNat 32) 64))) * (kand .u64 y 4294967295))) + (Int.fdiv (IntKind.wrap .u64 ((kand .u64 x0 4294967295) * (kand .u64 y 4294967295))) (2 ^ (min (Int.toNat 32) 64))))) (2 ^ (min (Int.toNat 32) 64))))) + (Int.fdiv (IntKind.wrap .u64 ((kand .u64 (IntKind.wrap .u64 ((IntKind.wrap .u64 ((Int.fdiv x0 (2 ^ (min (Int.toNat 32) 64))) * (kand .u64 y 4294967295))) + (Int.fdiv (IntKind.wrap .u64 ((kand .u64 x0 4294967295) * (kand .u64 y 4294967295))) (2 ^ (min (Int.toNat 32) 64))))) 4294967295) + (IntKind.wrap .u64 ((kand .u64 x0 4294967295) * (Int.fdiv y (2 ^ (min (Int.toNat 32) 64))))))) (2 ^ (min (Int.toNat 32) 64))))))), (5, (vK .u64 (IntKind.wrap .u64 (x0 * y))))], []⟩ (here (by kernel_rfl)) ?_
  refine sem_retS (by kernel_rfl) (fun τ hτ => ?_)
  obtain rfl := Option.some.inj h
  exact rk_ret hτ [(4, (vK .u64 (IntKind.wrap .u64 ((IntKind.wrap .u64 ((IntKind.wrap .u64 ((Int.fdiv x0 (2 ^ (min (Int.toNat 32) 64))) * (Int.fdiv y (2 ^ (min (Int.toNat 32) 64))))) + (Int.fdiv (IntKind.wrap .u64 ((IntKind.wrap .u64 ((Int.fdiv x0 (2 ^ (min (Int.toNat 32) 64))) * (kand .u64 y 4294967295))) + (Int.fdiv (IntKind.wrap .u64 ((kand .u64 x0 4294967295) * (kand .u64 y 4294967295))) (2 ^ (min (Int.toNat 32) 64))))) (2 ^ (min (Int.toNat 32) 64))))) + (Int.fdiv (IntKind.wrap .u64 ((kand .u64 (IntKind.wrap .u64 ((IntKind.wrap .u64 ((Int.fdiv x0 (2 ^ (min (Int.toNat 32) 64))) * (kand .u64 y 4294967295))) + (Int.fdiv (IntKind.wrap .u64 ((kand .u64 x0 4294967295) * (kand .u64 y 4294967295))) (2 ^ (min (Int.toNat 32) 64))))) 4294967295) + (IntKind.wrap .u64 ((kand .u64 x0 4294967295) * (Int.fdiv y (2 ^ (min (Int.toNat 32) 64))))))) (2 ^ (min (Int.toNat 32) 64))))))), (5, (vK .u64 (IntKind.wrap .u64 (x0 * y))))] (here (by kernel_rfl)) (by kernel_rfl)
theorem W.bits_Mul_ok {x0 : Int} {y : Int} {r : Int × Int} (h : bits_Mul x0 y = some r) : PC G.P 85 [(vK .u64 x0), (vK .u64 y)] [] (.tup [(vK .u64 r.1), (vK .u64 r.2)]) [] := by
  refine pc_of G (fn := Try.f85) Try.func85 (by kernel_rfl) (by kernel_rfl) (by kernel_rfl) (by kernel_rfl) (by kernel_rfl) ?_
  refine sem_set ⟨[(0, (vK .u64 x0)), (1, (vK .u64 y))], []⟩ (by kernel_rfl) ?_
  refine sem_seq (by kernel_rfl) ?_
  refine sem_region (by kernel_rfl) ?_
  refine evs_run 2 (by kernel_rfl) ?_
  refine evs_endS (by kernel_rfl) (fun τ hτ => ?_)
  refine th_normalS hτ ⟨[(0, (vK .u64 x0)), (1, (vK .u64 y))], []⟩ (here (by kernel_rfl)) ?_
  refine sem_seq (by kernel_rfl) ?_
  refine sem_condF (by kernel_rfl) (by kernel_rfl) ?_
  refine sem_skipS (by kernel_rfl) (fun τ hτ => ?_)
  refine th_normalS hτ ⟨[(0, (vK .u64 x0)), (1, (vK .u64 y))], []⟩ (here (by kernel_rfl)) ?_
  refine sem_seq (by kernel_rfl) ?_
  refine sem_region (by kernel_rfl) ?_
  refine evs_run 2 (by kernel_rfl) ?_
  obtain ⟨r2, hr2, h⟩ := bindS h
  refine evs_callP [] (by kernel_rfl) (W.bits_Mul64_ok hr2) (by kernel_rfl) (.inl rfl) (by kernel_rfl) ?_
  refine evs_run 5 (by kernel_rfl) ?_
  refine evs_endS (by kernel_rfl) (fun τ hτ => ?_)
  refine th_normalS hτ ⟨[(8, (vK .u64 r2.1)), (9, (vK .u64 r2.2))], []⟩ (here (by kernel_rfl)) ?_
  refine sem_seq (by kernel_rfl) ?_
  refine sem_region (by kernel_rfl) ?_
  refine evs_run 4 (by kernel_rfl) ?_
  refine evs_endS (by kernel_rfl) (fun τ hτ => ?_)
  refine th_normalS hτ ⟨[(4, (vK .u64 r2.1)), (5, (vK .u64 r2.2))], []⟩ (here (by kernel_rfl)) ?_
  refine sem_retS (by kernel_rfl) (fun τ hτ => ?_)
  obtain rfl := Option.some.inj h
  exact rk_ret hτ [(4, (vK .u64 r2.1)), (5, (vK .u64 r2.2))] (here (by kernel_rfl)) (by kernel_rfl)
theorem W.slices_Repeat_Lint_int_ok {x0 : (List Int)} {count : Int} {r : (List Int)} (h : slices_Repeat_Lint_int x0 count = some r) : PC G.P 74 [(.sl (List.map cI x0)), (vI count)] [] (.row (.top 0) 3) [(0, .row 3 [] (List.map cI r))] := by
  refine pc_of G (fn := Try.f74) Try.func74 (by kernel_rfl) (by kernel_rfl) (by kernel_rfl) (by kernel_rfl) (by kernel_rfl) ?_
  refine sem_set ⟨[(0, (.sl (List.map cI x0))), (1, (vI count))], []⟩ (by kernel_rfl) ?_
  refine sem_seq (by kernel_rfl) ?_
  refine sem_region (by kernel_rfl) ?_
  refine evs_run 1 (by kernel_rfl) ?_
  refine evs_endS (by kernel_rfl) (fun τ hτ => ?_)
  refine th_normalS hτ ⟨[(0, (.sl (List.map cI x0))), (1, (vI count))], []⟩ (here (by kernel_rfl)) ?_
  refine sem_seq (by kernel_rfl) ?_
  refine sem_seq (by kernel_rfl) ?_
  refine sem_region (by kernel_rfl) ?_
  refine evs_run 2 (by kernel_rfl) ?_
  refine evs_endS (by kernel_rfl) (fun τ hτ => ?_)
  refine th_normalS hτ ⟨[(0, (.sl (List.map cI x0))), (1, (vI count)), (10, (vB (decide (count < 0))))], []⟩ (here (by kernel_rfl)) ?_
  refine sem_cond (decide (count < 0)) (by kernel_rfl) (by kernel_rfl) (fun hb => ?_) (fun hb => ?_)
  · replace h := iteT hb h
    refine sem_region (by kernel_rfl) ?_
    exact nomatch h
  · replace h := iteF hb h
    refine sem_skipS (by kernel_rfl) (fun τ hτ => ?_)
    refine th_normalS hτ ⟨[(0, (.sl (List.map cI x0))), (1, (vI count))], []⟩ (here (by kernel_rfl)) ?_
    refine sem_seq (by kernel_rfl) ?_
    refine sem_region (by kernel_rfl) ?_
    refine evs_run 1 (by kernel_rfl) ?_
    refine evs_op (st_len (c := cI) (l := x0) (x := (.sl (List.map cI x0))) (by kernel_rfl) (by kernel_rfl)) ?_
    refine evs_run 3 (by kernel_rfl) ?_
    obtain ⟨r2, hr2, h⟩ := bindS h
    refine evs_callP [] (by kernel_rfl) (W.bits_Mul_ok hr2) (by kernel_rfl) (.inl rfl) (by kernel_rfl) ?_
    refine evs_run 5 (by kernel_rfl) ?_
    refine evs_endS (by kernel_rfl) (fun τ hτ => ?_)
    refine th_normalS hτ ⟨[(0, (.sl (List.map cI x0))), (5, (vK .u64 r2.1)), (6, (vK .u64 r2.2))], []⟩ (here (by kernel_rfl)) ?_
    refine sem_seq (by kernel_rfl) ?_
    refine sem_seq (by kernel_rfl) ?_
    obtain ⟨j4, hj4, h⟩ := bindS h
    refine sem_regionC ⟨[(0, (.sl (List.map cI x0))), (6, (vK .u64 r2.2)), (26, (vB j4))], []⟩ (by kernel_rfl) ?_ (fun τ hτ => ?_)
    · replace h := hj4
      refine evs_run 3 (by kernel_rfl) ?_
      refine evs_split (decide (r2.1 > 0)) (fun b0 => ⟨[(0, (.sl (List.map cI x0))), (6, (vK .u64 r2.2)), (23, (vB b0))], []⟩) (by kernel_rfl) (fun hb => ?_) (fun hb => ?_)
      · replace h := iteT hb h
        refine evs_run 3 (by kernel_rfl) ?_
        refine evs_endS (by kernel_rfl) (fun τ hτ => ?_)
        obtain rfl := Option.some.inj h
        exact leafC hτ (here (by kernel_rfl))
      · replace h := iteF hb h
        refine evs_run 3 (by kernel_rfl) ?_
        refine evs_endS (by kernel_rfl) (fun τ hτ => ?_)
        obtain rfl := Option.some.inj h
        exact leafC hτ (here (by kernel_rfl))
    refine th_normalS hτ ⟨[(0, (.sl (List.map cI x0))), (6, (vK .u64 r2.2)), (26, (vB j4))], []⟩ (here (by kernel_rfl)) ?_
    refine sem_cond j4 (by kernel_rfl) (by kernel_rfl) (fun hb => ?_) (fun hb => ?_)
    · replace h := iteT hb h
      refine sem_region (by kernel_rfl) ?_
      exact nomatch h
    · replace h := iteF hb h
      refine sem_skipS (by kernel_rfl) (fun τ hτ => ?_)
      refine th_normalS hτ ⟨[(0, (.sl (List.map cI x0))), (6, (vK .u64 r2.2))], []⟩ (here (by kernel_rfl)) ?_
      refine sem_seq (by kernel_rfl) ?_
      refine sem_region (by kernel_rfl) ?_
      refine evs_run 2 (by kernel_rfl) ?_
      obtain ⟨l6, hl6, h⟩ := bindS h
      refine evs_op (st_mk (c := cI) (z := 0) (n := (IntKind.wrap .i64 r2.2)) (e := 3) (d := 30) (zs := [(vI 0)]) (k1 := .i64) (k2 := .i64) (by kernel_rfl) rfl hl6) ?_
      refine evs_run 1 (by kernel_rfl) ?_
      refine evs_endS (by kernel_rfl) (fun τ hτ => ?_)
      refine th_normalS hτ ⟨[(0, (.sl (List.map cI x0))), (7, (.row (.top 30) 3))], [(30, .row 3 [] (List.map cI l6))]⟩ (here (by kernel_rfl)) ?_
      refine sem_seq (by kernel_rfl) ?_
      refine sem_region (by kernel_rfl) ?_
      refine evs_run 2 (by kernel_rfl) ?_
      refine evs_at (at_copy (c := cI) (l := l6) (l2 := x0) (d := (.row (.top 30) 3)) (x := (.sl (List.map cI x0))) (e := 3) (sz := 1) (g := 30) (lo := 0) (n := l6.length) (by kernel_rfl) (by kernel_rfl) (by kernel_rfl) (Nat.le_of_eq (Nat.zero_add _)) (by kernel_rfl) (by kernel_rfl) (fun _ => rfl)) ?_
      refine evs_run 1 (by kernel_rfl) ?_
      refine evs_endS (by kernel_rfl) (fun τ hτ => ?_)
      refine th_normalS hτ ⟨[(7, (.row (.top 30) 3)), (8, (vI (((min x0.length (l6.length)) : Nat) : Int)))], [(30, .row 3 [] (List.map cI (cpy l6 (0) (List.take (min x0.length (l6.length)) x0))))]⟩ (here (by kernel_rfl)) ?_
      refine sem_seq (by kernel_rfl) ?_
      refine sem_block (by kernel_rfl) ?_
      obtain ⟨x12, hx12, h⟩ := bindS h
      refine sem_loopS (fun (s11 : Int × (List Int)) => ⟨[(7, (.row (.top 500000) 3)), (8, (vI s11.1))], [(500000, .row 3 [] (List.map cI s11.2))]⟩) (fun (x12 : (List Int)) => (.exit 0, ⟨[(7, (.row (.top 500000) 3))], [(500000, .row 3 [] (List.map cI x12))]⟩)) (slices_Repeat_Lint_int_l1) ((((min x0.length (l6.length)) : Nat) : Int), (cpy l6 (0) (List.take (min x0.length (l6.length)) x0))) x12 (by kernel_rfl) (subR_prep [] [(30, 500000)] (by kernel_rfl) rfl rfl (by kernel_rfl)) hx12 ?_ ?_ ?_
      · intro s11 r h
        refine sem_seq (by kernel_rfl) ?_
        refine sem_seq (by kernel_rfl) ?_
        refine sem_region (by kernel_rfl) ?_
        refine evs_run 2 (by kernel_rfl) ?_
        refine evs_op (st_len (c := cI) (l := s11.2) (x := (.row (.top 500000) 3)) (by kernel_rfl) (by kernel_rfl)) ?_
        refine evs_run 1 (by kernel_rfl) ?_
        refine evs_endS (by kernel_rfl) (fun τ hτ => ?_)
        refine th_normalS hτ ⟨[(7, (.row (.top 500000) 3)), (8, (vI s11.1)), (37, (vB (decide (s11.1 < (s11.2.length : Int)))))], [(500000, .row 3 [] (List.map cI s11.2))]⟩ (here (by kernel_rfl)) ?_
        refine sem_cond (decide (s11.1 < (s11.2.length : Int))) (by kernel_rfl) (by kernel_rfl) (fun hb => ?_) (fun hb => ?_)
        · replace h := iteT hb h
          refine sem_skipS (by kernel_rfl) (fun τ hτ => ?_)
          refine th_normalS hτ ⟨[(7, (.row (.top 500000) 3)), (8, (vI s11.1))], [(500000, .row 3 [] (List.map cI s11.2))]⟩ (here (by kernel_rfl)) ?_
          refine sem_block (by kernel_rfl) ?_
          refine sem_drawN [(7, [500000])] [] [] [(0, [500000])] [] 8 (by kernel_rfl) (by kernel_rfl) (by kernel_rfl) ?_
          refine evd_run 3 (by kernel_rfl) ?_
          obtain ⟨hp3, h⟩ := iteN h
          refine evd_val (by kernel_rfl) (st_slPL (c := cI) (l := s11.2) (kk := (.top 500000)) (e := 3) (sz := 1) (lo := s11.1) (k1 := .i64) (by kernel_rfl) (by kernel_rfl) (fun _ => rfl) hp3) (by kernel_rfl) (by kernel_rfl) ?_
          refine evd_run 2 (by kernel_rfl) ?_
          obtain ⟨hp6, h⟩ := iteN h
          refine evd_val (by kernel_rfl) (st_slPH (c := cI) (l := s11.2) (kk := (.top 500000)) (e := 3) (sz := 1) (hi := s11.1) (k2 := .i64) (by kernel_rfl) (by kernel_rfl) (fun _ => rfl) hp6) (by kernel_rfl) (by kernel_rfl) ?_
          refine evd_copy (c := cI) (l := s11.2) (l2 := (List.take (Int.toNat s11.1 - Int.toNat 0) (List.drop (Int.toNat 0) s11.2))) (d := (.part (.top 500000) 3 (Int.toNat s11.1) (Int.toNat (s11.2.length : Int) - Int.toNat s11.1))) (x := (.part (.top 500000) 3 (Int.toNat 0) (Int.toNat s11.1 - Int.toNat 0))) (e := 3) (sz := 1) (g := 500000) (lo := (Int.toNat s11.1)) (n := (Int.toNat (s11.2.length : Int) - Int.toNat s11.1)) (by kernel_rfl) (by kernel_rfl) (by kernel_rfl) (by kernel_rfl) (part_fit hp3) (elems_part (by kernel_rfl) (part_fit hp6)) (by kernel_rfl) (fun _ => rfl) (by kernel_rfl) (by kernel_rfl) (by kernel_rfl) ?_
          refine evd_end (by kernel_rfl) ?_
          refine evo_run 2 (by kernel_rfl) ?_
          refine evo_endS (by kernel_rfl) (fun τ hτ => ?_)
          refine bl_normal ?_
          obtain rfl := Option.some.inj h
          exact lk_nextS hτ (here (by kernel_rfl))
        · replace h := iteF hb h
          refine sem_exitS 0 (by kernel_rfl) rfl (fun τ hτ => ?_)
          refine th_exit ?_
          obtain rfl := Option.some.inj h
          exact lk_outS hτ rfl (here (by kernel_rfl))
      · intro x
        rfl
      · intro τ hτ
        refine bl_hit (by kernel_rfl) ?_
        refine th_normalS hτ ⟨[(7, (.row (.top 500000) 3))], [(500000, .row 3 [] (List.map cI x12))]⟩ (here (by kernel_rfl)) ?_
        refine sem_seq (by kernel_rfl) ?_
        refine sem_region (by kernel_rfl) ?_
        refine evs_run 2 (by kernel_rfl) ?_
        refine evs_endS (by kernel_rfl) (fun τ hτ => ?_)
        refine th_normalS hτ ⟨[(4, (.row (.top 500000) 3))], [(500000, .row 3 [] (List.map cI x12))]⟩ (here (by kernel_rfl)) ?_
        refine sem_retS (by kernel_rfl) (fun τ hτ => ?_)
        obtain rfl := Option.some.inj h
        exact rk_ret hτ [(4, (.row (.top 0) 3))] (subR_prep [] [(500000, 0)] (by kernel_rfl) rfl rfl (by kernel_rfl)) (by kernel_rfl)
theorem W.setup_mounted_ok {stations : Int} {l : (List Change)} {step : Int} {r : (List Int)} (h : setup_mounted stations l step = some r) : PC G.P 69 [(vI stations), (.sl (List.map c_Change l)), (vI step)] [] (.row (.top 0) 3) [(0, .row 3 [] (List.map cI r))] := by
  refine pc_of G (fn := Try.f69) Try.func69 (by kernel_rfl) (by kernel_rfl) (by kernel_rfl) (by kernel_rfl) (by kernel_rfl) ?_
  refine sem_set ⟨[(0, (vI stations)), (1, (.sl (List.map c_Change l))), (2, (vI step))], []⟩ (by kernel_rfl) ?_
  refine sem_seq (by kernel_rfl) ?_
  refine sem_region (by kernel_rfl) ?_
  refine evs_run 1 (by kernel_rfl) ?_
  refine evs_endS (by kernel_rfl) (fun τ hτ => ?_)
  refine th_normalS hτ ⟨[(0, (vI stations)), (1, (.sl (List.map c_Change l))), (2, (vI step))], []⟩ (here (by kernel_rfl)) ?_
  refine sem_seq (by kernel_rfl) ?_
  refine sem_region (by kernel_rfl) ?_
  refine evs_run 2 (by kernel_rfl) ?_
  obtain ⟨r2, hr2, h⟩ := bindS h
  refine evs_callS [] [(0, 700100)] [] (by kernel_rfl) (W.slices_Repeat_Lint_int_ok hr2) (by kernel_rfl) (by kernel_rfl) (.inl rfl) ?_
  refine evs_run 1 (by kernel_rfl) ?_
  refine evs_endS (by kernel_rfl) (fun τ hτ => ?_)
  refine th_normalS hτ ⟨[(1, (.sl (List.map c_Change l))), (2, (vI step)), (7, (.row (.top 700100) 3))], [(700100, .row 3 [] (List.map cI r2))]⟩ (here (by kernel_rfl)) ?_
  refine sem_seq (by kernel_rfl) ?_
  refine sem_seq (by kernel_rfl) ?_
  refine sem_region (by kernel_rfl) ?_
  refine evs_run 1 (by kernel_rfl) ?_
  refine evs_op (st_len (c := c_Change) (l := l) (x := (.sl (List.map c_Change l))) (by kernel_rfl) (by kernel_rfl)) ?_
  refine evs_run 1 (by kernel_rfl) ?_
  refine evs_endS (by kernel_rfl) (fun τ hτ => ?_)
  refine th_normalS hτ ⟨[(2, (vI step)), (7, (.row (.top 700100) 3)), (13, (.sl (List.map c_Change l))), (14, (vI (l.length : Int))), (15, (vI 0))], [(700100, .row 3 [] (List.map cI r2))]⟩ (here (by kernel_rfl)) ?_
  refine sem_block (by kernel_rfl) ?_
  obtain ⟨x62, hx62, h⟩ := bindS h
  refine sem_loopS (fun (s43 : Int × (List Int)) => ⟨[(2, (vI step)), (7, (.row (.top 500000) 3)), (13, (.sl (List.map c_Change l))), (14, (vI (l.length : Int))), (15, (vI s43.1))], [(500000, .row 3 [] (List.map cI s43.2))]⟩) (fun (x62 : (List Int)) => (.exit 0, ⟨[(7, (.row (.top 500000) 3))], [(500000, .row 3 [] (List.map cI x62))]⟩)) (setup_mounted_l2 l step) (0, r2) x62 (by kernel_rfl) (subR_prep [] [(700100, 500000)] (by kernel_rfl) rfl rfl (by kernel_rfl)) hx62 ?_ ?_ ?_
  · intro s43 r h
    refine sem_seq (by kernel_rfl) ?_
    refine sem_region (by kernel_rfl) ?_
    refine evs_run 1 (by kernel_rfl) ?_
    refine evs_endS (by kernel_rfl) (fun τ hτ => ?_)
    refine th_normalS hτ ⟨[(2, (vI step)), (7, (.row (.top 500000) 3)), (13, (.sl (List.map c_Change l))), (14, (vI (l.length : Int))), (15, (vI s43.1)), (16, (vB (decide (s43.1 < (l.length : Int)))))], [(500000, .row 3 [] (List.map cI s43.2))]⟩ (here (by kernel_rfl)) ?_
    refine sem_seq (by kernel_rfl) ?_
    refine sem_cond (decide (s43.1 < (l.length : Int))) (by kernel_rfl) (by kernel_rfl) (fun hb => ?_) (fun hb => ?_)
    · replace h := iteT hb h
      refine sem_skipS (by kernel_rfl) (fun τ hτ => ?_)
      refine th_normalS hτ ⟨[(2, (vI step)), (7, (.row (.top 500000) 3)), (13, (.sl (List.map c_Change l))), (14, (vI (l.length : Int))), (15, (vI s43.1))], [(500000, .row 3 [] (List.map cI s43.2))]⟩ (here (by kernel_rfl)) ?_
      refine sem_seqJ (fun (j57 : (List Int)) => ⟨[(2, (vI step)), (7, (.row (.top 500000) 3)), (13, (.sl (List.map c_Change l))), (14, (vI (l.length : Int))), (15, (vI s43.1))], [(500000, .row 3 [] (List.map cI j57))]⟩) (setup_mounted_k1 s43) r (by kernel_rfl) (fun j57 h => ?_) ?_
      · refine sem_region (by kernel_rfl) ?_
        refine evs_run 2 (by kernel_rfl) ?_
        refine evs_endS (by kernel_rfl) (fun τ hτ => ?_)
        obtain rfl := Option.some.inj h
        exact lk_nextS hτ (here (by kernel_rfl))
      refine sem_block (by kernel_rfl) ?_
      refine sem_seq (by kernel_rfl) ?_
      refine sem_region (by kernel_rfl) ?_
      obtain ⟨x59, hx59, h⟩ := bindS h
      refine evs_op (st_idx (c := c_Change) (l := l) (i := s43.1) (kd := .i64) (sz := 3) (by kernel_rfl) hx59 rfl) ?_
      refine evs_run 3 (by kernel_rfl) ?_
      refine evs_endS (by kernel_rfl) (fun τ hτ => ?_)
      refine th_normalS hτ ⟨[(2, (vI step)), (7, (.row (.top 500000) 3)), (9, (.ptr 9 0)), (13, (.sl (List.map c_Change l))), (14, (vI (l.length : Int))), (15, (vI s43.1))], [(9, .box [(vI x59.Step), (vI x59.Station), (vI x59.Pair)]), (500000, .row 3 [] (List.map cI s43.2))]⟩ (here (by kernel_rfl)) ?_
      refine sem_seq (by kernel_rfl) ?_
      refine sem_region (by kernel_rfl) ?_
      refine evs_run 4 (by kernel_rfl) ?_
      refine evs_endS (by kernel_rfl) (fun τ hτ => ?_)
      refine th_normalS hτ ⟨[(2, (vI step)), (7, (.row (.top 500000) 3)), (9, (.ptr 9 0)), (13, (.sl (List.map c_Change l))), (14, (vI (l.length : Int))), (15, (vI s43.1)), (22, (vB (decide (x59.Step ≤ step))))], [(9, .box [(vI x59.Step), (vI x59.Station), (vI x59.Pair)]), (500000, .row 3 [] (List.map cI s43.2))]⟩ (here (by kernel_rfl)) ?_
      refine sem_cond (decide (x59.Step ≤ step)) (by kernel_rfl) (by kernel_rfl) (fun hb => ?_) (fun hb => ?_)
      · replace h := iteT hb h
        refine sem_region (by kernel_rfl) ?_
        refine evs_run 5 (by kernel_rfl) ?_
        obtain ⟨x61, hx61, h⟩ := bindS h
        refine evs_op (st_idxO (c := cI) (l := s43.2) (i := x59.Station) (kd := .i64) (kk := (.top 500000)) (e := 3) (sz := 1) (by kernel_rfl) (by kernel_rfl) hx61 rfl) ?_
        refine evs_op (st_stO (c := cI) (l := s43.2) (i := (Int.toNat x59.Station)) (x := x61) (x' := x59.Pair) (v := (vI x59.Pair)) (agg := false) (sz := 1) (kk := (.top 500000)) (e := 3) (off := 0) (J := []) (o := .row 3 [] (List.map cI (List.set s43.2 (Int.toNat x59.Station) x59.Pair))) (by kernel_rfl) (by kernel_rfl) (by kernel_rfl) ((idxS hx61).2) (by kernel_rfl) (by kernel_rfl) (by kernel_rfl)) ?_
        refine evs_endS (by kernel_rfl) (fun τ hτ => ?_)
        refine bl_normal ?_
        exact jk_normal (List.set s43.2 (Int.toNat x59.Station) x59.Pair) h hτ (here (by kernel_rfl))
      · replace h := iteF hb h
        refine sem_skipS (by kernel_rfl) (fun τ hτ => ?_)
        refine bl_normal ?_
        exact jk_normal s43.2 h hτ (here (by kernel_rfl))
    · replace h := iteF hb h
      refine sem_exitS 0 (by kernel_rfl) rfl (fun τ hτ => ?_)
      refine th_exit ?_
      obtain rfl := Option.some.inj h
      exact lk_outS hτ rfl (here (by kernel_rfl))
  · intro x
    rfl
  · intro τ hτ
    refine bl_hit (by kernel_rfl) ?_
    refine th_normalS hτ ⟨[(7, (.row (.top 500000) 3))], [(500000, .row 3 [] (List.map cI x62))]⟩ (here (by kernel_rfl)) ?_
    refine sem_seq (by kernel_rfl) ?_
    refine sem_region (by kernel_rfl) ?_
    refine evs_run 2 (by kernel_rfl) ?_
    refine evs_endS (by kernel_rfl) (fun τ hτ => ?_)
    refine th_normalS hτ ⟨[(6, (.row (.top 500000) 3))], [(500000, .row 3 [] (List.map cI x62))]⟩ (here (by kernel_rfl)) ?_
    refine sem_retS (by kernel_rfl) (fun τ hτ => ?_)
    obtain rfl := Option.some.inj h
    exact rk_ret hτ [(6, (.row (.top 0) 3))] (subR_prep [] [(500000, 0)] (by kernel_rfl) rfl rfl (by kernel_rfl)) (by kernel_rfl)
theorem W.setup_Check_ok {needs : (List (List Int))} {stations : Int} {l : (List Change)} {r : Int} (h : setup_Check needs stations l = some r) : PC G.P 40 [(.sl (List.map (cS cI) needs)), (vI stations), (.sl (List.map c_Change l))] [] (vI r) [] := by
  refine pc_of G (fn := Try.f40) Try.func40 (by kernel_rfl) (by kernel_rfl) (by kernel_rfl) (by kernel_rfl) (by kernel_rfl) ?_
  refine sem_set ⟨[(0, (.sl (List.map (cS cI) needs))), (1, (vI stations)), (2, (.sl (List.map c_Change l)))], []⟩ (by kernel_rfl) ?_
  refine sem_seq (by kernel_rfl) ?_
  refine sem_region (by kernel_rfl) ?_
  refine evs_run 1 (by kernel_rfl) ?_
  refine evs_endS (by kernel_rfl) (fun τ hτ => ?_)
  refine th_normalS hτ ⟨[(0, (.sl (List.map (cS cI) needs))), (1, (vI stations)), (2, (.sl (List.map c_Change l)))], []⟩ (here (by kernel_rfl)) ?_
  refine sem_seq (by kernel_rfl) ?_
  refine sem_seq (by kernel_rfl) ?_
  refine sem_region (by kernel_rfl) ?_
  refine evs_run 2 (by kernel_rfl) ?_
  obtain ⟨r4, hr4, h⟩ := bindS h
  refine evs_callP [] (by kernel_rfl) (W.setup_check_ok hr4) (by kernel_rfl) (.inl rfl) (by kernel_rfl) ?_
  refine evs_run 1 (by kernel_rfl) ?_
  refine evs_endS (by kernel_rfl) (fun τ hτ => ?_)
  refine th_normalS hτ ⟨[(0, (.sl (List.map (cS cI) needs))), (1, (vI stations)), (2, (.sl (List.map c_Change l))), (7, (vI r4))], []⟩ (here (by kernel_rfl)) ?_
  refine sem_seq (by kernel_rfl) ?_
  refine sem_region (by kernel_rfl) ?_
  refine evs_run 2 (by kernel_rfl) ?_
  refine evs_endS (by kernel_rfl) (fun τ hτ => ?_)
  refine th_normalS hτ ⟨[(0, (.sl (List.map (cS cI) needs))), (1, (vI stations)), (2, (.sl (List.map c_Change l))), (7, (vI r4)), (14, (vB (r4 != 0)))], []⟩ (here (by kernel_rfl)) ?_
  refine sem_cond (r4 != 0) (by kernel_rfl) (by kernel_rfl) (fun hb => ?_) (fun hb => ?_)
  · replace h := iteT hb h
    refine sem_seq (by kernel_rfl) ?_
    refine sem_region (by kernel_rfl) ?_
    refine evs_run 2 (by kernel_rfl) ?_
    refine evs_endS (by kernel_rfl) (fun τ hτ => ?_)
    refine th_normalS hτ ⟨[(6, (vI r4))], []⟩ (here (by kernel_rfl)) ?_
    refine sem_retS (by kernel_rfl) (fun τ hτ => ?_)
    refine th_ret ?_
    obtain rfl := Option.some.inj h
    exact rk_ret hτ [(6, (vI r4))] (here (by kernel_rfl)) (by kernel_rfl)
  · replace h := iteF hb h
    refine sem_skipS (by kernel_rfl) (fun τ hτ => ?_)
    refine th_normalS hτ ⟨[(0, (.sl (List.map (cS cI) needs))), (1, (vI stations)), (2, (.sl (List.map c_Change l)))], []⟩ (here (by kernel_rfl)) ?_
    refine sem_seq (by kernel_rfl) ?_
    refine sem_seq (by kernel_rfl) ?_
    refine sem_region (by kernel_rfl) ?_
    refine evs_run 3 (by kernel_rfl) ?_
    obtain ⟨r8, hr8, h⟩ := bindS h
    refine evs_callP [] (by kernel_rfl) (W.setup_inOrder_ok hr8) (by kernel_rfl) (.inl rfl) (by kernel_rfl) ?_
    refine evs_run 1 (by kernel_rfl) ?_
    refine evs_endS (by kernel_rfl) (fun τ hτ => ?_)
    refine th_normalS hτ ⟨[(0, (.sl (List.map (cS cI) needs))), (1, (vI stations)), (2, (.sl (List.map c_Change l))), (20, (vB (!r8)))], []⟩ (here (by kernel_rfl)) ?_
    refine sem_cond (!r8) (by kernel_rfl) (by kernel_rfl) (fun hb => ?_) (fun hb => ?_)
    · replace h := iteT hb h
      refine sem_seq (by kernel_rfl) ?_
      refine sem_region (by kernel_rfl) ?_
      refine evs_run 1 (by kernel_rfl) ?_
      refine evs_endS (by kernel_rfl) (fun τ hτ => ?_)
      refine th_normalS hτ ⟨[(6, (vI 12))], []⟩ (here (by kernel_rfl)) ?_
      refine sem_retS (by kernel_rfl) (fun τ hτ => ?_)
      refine th_ret ?_
      obtain rfl := Option.some.inj h
      exact rk_ret hτ [(6, (vI 12))] (here (by kernel_rfl)) (by kernel_rfl)
    · replace h := iteF hb h
      refine sem_skipS (by kernel_rfl) (fun τ hτ => ?_)
      refine th_normalS hτ ⟨[(0, (.sl (List.map (cS cI) needs))), (1, (vI stations)), (2, (.sl (List.map c_Change l)))], []⟩ (here (by kernel_rfl)) ?_
      refine sem_seq (by kernel_rfl) ?_
      refine sem_seq (by kernel_rfl) ?_
      refine sem_region (by kernel_rfl) ?_
      refine evs_run 1 (by kernel_rfl) ?_
      refine evs_op (st_len (c := (cS cI)) (l := needs) (x := (.sl (List.map (cS cI) needs))) (by kernel_rfl) (by kernel_rfl)) ?_
      refine evs_run 1 (by kernel_rfl) ?_
      refine evs_endS (by kernel_rfl) (fun τ hτ => ?_)
      refine th_normalS hτ ⟨[(1, (vI stations)), (2, (.sl (List.map c_Change l))), (21, (.sl (List.map (cS cI) needs))), (22, (vI (needs.length : Int))), (23, (vI 0))], []⟩ (here (by kernel_rfl)) ?_
      refine sem_block (by kernel_rfl) ?_
      obtain ⟨x88, hx88, h⟩ := bindS h
      refine sem_loopS (fun (s63 : Int) => ⟨[(1, (vI stations)), (2, (.sl (List.map c_Change l))), (21, (.sl (List.map (cS cI) needs))), (22, (vI (needs.length : Int))), (23, (vI s63))], []⟩) (fun (x88 : Unit ⊕ Unit) => match x88 with | .inl j89 => (.ret, ⟨[(6, (vI 11))], []⟩) | .inr j90 => (.exit 0, ⟨[], []⟩)) (setup_Check_l1 needs stations l) 0 x88 (by kernel_rfl) (here (by kernel_rfl)) hx88 ?_ ?_ ?_
      · intro s63 r h
        refine sem_seq (by kernel_rfl) ?_
        refine sem_region (by kernel_rfl) ?_
        refine evs_run 1 (by kernel_rfl) ?_
        refine evs_endS (by kernel_rfl) (fun τ hτ => ?_)
        refine th_normalS hτ ⟨[(1, (vI stations)), (2, (.sl (List.map c_Change l))), (21, (.sl (List.map (cS cI) needs))), (22, (vI (needs.length : Int))), (23, (vI s63)), (24, (vB (decide (s63 < (needs.length : Int)))))], []⟩ (here (by kernel_rfl)) ?_
        refine sem_seq (by kernel_rfl) ?_
        refine sem_cond (decide (s63 < (needs.length : Int))) (by kernel_rfl) (by kernel_rfl) (fun hb => ?_) (fun hb => ?_)
        · replace h := iteT hb h
          refine sem_skipS (by kernel_rfl) (fun τ hτ => ?_)
          refine th_normalS hτ ⟨[(1, (vI stations)), (2, (.sl (List.map c_Change l))), (21, (.sl (List.map (cS cI) needs))), (22, (vI (needs.length : Int))), (23, (vI s63))], []⟩ (here (by kernel_rfl)) ?_
          refine sem_seq (by kernel_rfl) ?_
          refine sem_block (by kernel_rfl) ?_
          refine sem_seq (by kernel_rfl) ?_
          refine sem_region (by kernel_rfl) ?_
          refine evs_run 1 (by kernel_rfl) ?_
          obtain ⟨x83, hx83, h⟩ := bindS h
          refine evs_op (st_idx (c := (cS cI)) (l := needs) (i := s63) (kd := .i64) (sz := 1) (by kernel_rfl) hx83 rfl) ?_
          refine evs_run 3 (by kernel_rfl) ?_
          refine evs_endS (by kernel_rfl) (fun τ hτ => ?_)
          refine th_normalS hτ ⟨[(1, (vI stations)), (2, (.sl (List.map c_Change l))), (8, (vI s63)), (9, (.sl (List.map cI x83))), (21, (.sl (List.map (cS cI) needs))), (22, (vI (needs.length : Int))), (23, (vI s63))], []⟩ (here (by kernel_rfl)) ?_
          refine sem_seq (by kernel_rfl) ?_
          refine sem_region (by kernel_rfl) ?_
          refine evs_run 3 (by kernel_rfl) ?_
          obtain ⟨r86, hr86, h⟩ := bindS h
          refine evs_callS [] [(0, 700150)] [] (by kernel_rfl) (W.setup_mounted_ok hr86) (by kernel_rfl) (by kernel_rfl) (.inl rfl) ?_
          refine evs_run 1 (by kernel_rfl) ?_
          obtain ⟨r87, hr87, h⟩ := bindS h
          refine evs_callP [700150] (by kernel_rfl) (W.setup_meets_ok hr87) (by kernel_rfl) (.inr rfl) (by kernel_rfl) ?_
          refine evs_run 1 (by kernel_rfl) ?_
          refine evs_endS (by kernel_rfl) (fun τ hτ => ?_)
          refine th_normalS hτ ⟨[(1, (vI stations)), (2, (.sl (List.map c_Change l))), (21, (.sl (List.map (cS cI) needs))), (22, (vI (needs.length : Int))), (23, (vI s63)), (34, (vB (!r87)))], []⟩ (here (by kernel_rfl)) ?_
          refine sem_cond (!r87) (by kernel_rfl) (by kernel_rfl) (fun hb => ?_) (fun hb => ?_)
          · replace h := iteT hb h
            refine sem_seq (by kernel_rfl) ?_
            refine sem_region (by kernel_rfl) ?_
            refine evs_run 1 (by kernel_rfl) ?_
            refine evs_endS (by kernel_rfl) (fun τ hτ => ?_)
            refine th_normalS hτ ⟨[(6, (vI 11))], []⟩ (here (by kernel_rfl)) ?_
            refine sem_retS (by kernel_rfl) (fun τ hτ => ?_)
            refine bl_ret ?_
            refine th_ret ?_
            obtain rfl := Option.some.inj h
            exact lk_outS hτ rfl (here (by kernel_rfl))
          · replace h := iteF hb h
            refine sem_skipS (by kernel_rfl) (fun τ hτ => ?_)
            refine bl_normal ?_
            refine th_normalS hτ ⟨[(1, (vI stations)), (2, (.sl (List.map c_Change l))), (21, (.sl (List.map (cS cI) needs))), (22, (vI (needs.length : Int))), (23, (vI s63))], []⟩ (here (by kernel_rfl)) ?_
            refine sem_region (by kernel_rfl) ?_
            refine evs_run 2 (by kernel_rfl) ?_
            refine evs_endS (by kernel_rfl) (fun τ hτ => ?_)
            obtain rfl := Option.some.inj h
            exact lk_nextS hτ (here (by kernel_rfl))
        · replace h := iteF hb h
          refine sem_exitS 0 (by kernel_rfl) rfl (fun τ hτ => ?_)
          refine th_exit ?_
          obtain rfl := Option.some.inj h
          exact lk_outS hτ rfl (here (by kernel_rfl))
      · intro x
        rcases x with _ | _ <;> rfl
      · intro τ hτ
        rcases x88 with j89 | j90
        · refine bl_ret ?_
          refine th_ret ?_
          obtain rfl := Option.some.inj h
          exact rk_ret hτ [(6, (vI 11))] (here (by kernel_rfl)) (by kernel_rfl)
        · refine bl_hit (by kernel_rfl) ?_
          refine th_normalS hτ ⟨[], []⟩ (here (by kernel_rfl)) ?_
          refine sem_seq (by kernel_rfl) ?_
          refine sem_region (by kernel_rfl) ?_
          refine evs_run 1 (by kernel_rfl) ?_
          refine evs_endS (by kernel_rfl) (fun τ hτ => ?_)
          refine th_normalS hτ ⟨[(6, (vI 0))], []⟩ (here (by kernel_rfl)) ?_
          refine sem_retS (by kernel_rfl) (fun τ hτ => ?_)
          obtain rfl := Option.some.inj h
          exact rk_ret hτ [(6, (vI 0))] (here (by kernel_rfl)) (by kernel_rfl)
theorem W.setup_checkJobs_ok {jobs : (List (List (List Int)))} {r : Int} (h : setup_checkJobs jobs = some r) : PC G.P 55 [(.sl (List.map (cS (cS cI)) jobs))] [] (vI r) [] := by
  refine pc_of G (fn := Try.f55) Try.func55 (by kernel_rfl) (by kernel_rfl) (by kernel_rfl) (by kernel_rfl) (by kernel_rfl) ?_
  refine sem_set ⟨[(0, (.sl (List.map (cS (cS cI)) jobs)))], []⟩ (by kernel_rfl) ?_
  refine sem_seq (by kernel_rfl) ?_
  refine sem_region (by kernel_rfl) ?_
  refine evs_run 1 (by kernel_rfl) ?_
  refine evs_endS (by kernel_rfl) (fun τ hτ => ?_)
  refine th_normalS hτ ⟨[(0, (.sl (List.map (cS (cS cI)) jobs)))], []⟩ (here (by kernel_rfl)) ?_
  refine sem_seq (by kernel_rfl) ?_
  refine sem_seq (by kernel_rfl) ?_
  refine sem_region (by kernel_rfl) ?_
  refine evs_run 1 (by kernel_rfl) ?_
  refine evs_op (st_len (c := (cS (cS cI))) (l := jobs) (x := (.sl (List.map (cS (cS cI)) jobs))) (by kernel_rfl) (by kernel_rfl)) ?_
  refine evs_run 1 (by kernel_rfl) ?_
  refine evs_endS (by kernel_rfl) (fun τ hτ => ?_)
  refine th_normalS hτ ⟨[(0, (.sl (List.map (cS (cS cI)) jobs))), (8, (vB (decide ((jobs.length : Int) > 4))))], []⟩ (here (by kernel_rfl)) ?_
  refine sem_cond (decide ((jobs.length : Int) > 4)) (by kernel_rfl) (by kernel_rfl) (fun hb => ?_) (fun hb => ?_)
  · replace h := iteT hb h
    refine sem_seq (by kernel_rfl) ?_
    refine sem_region (by kernel_rfl) ?_
    refine evs_run 1 (by kernel_rfl) ?_
    refine evs_endS (by kernel_rfl) (fun τ hτ => ?_)
    refine th_normalS hτ ⟨[(2, (vI 4))], []⟩ (here (by kernel_rfl)) ?_
    refine sem_retS (by kernel_rfl) (fun τ hτ => ?_)
    refine th_ret ?_
    obtain rfl := Option.some.inj h
    exact rk_ret hτ [(2, (vI 4))] (here (by kernel_rfl)) (by kernel_rfl)
  · replace h := iteF hb h
    refine sem_skipS (by kernel_rfl) (fun τ hτ => ?_)
    refine th_normalS hτ ⟨[(0, (.sl (List.map (cS (cS cI)) jobs)))], []⟩ (here (by kernel_rfl)) ?_
    refine sem_seq (by kernel_rfl) ?_
    refine sem_seq (by kernel_rfl) ?_
    refine sem_region (by kernel_rfl) ?_
    refine evs_run 1 (by kernel_rfl) ?_
    refine evs_op (st_len (c := (cS (cS cI))) (l := jobs) (x := (.sl (List.map (cS (cS cI)) jobs))) (by kernel_rfl) (by kernel_rfl)) ?_
    refine evs_run 1 (by kernel_rfl) ?_
    refine evs_endS (by kernel_rfl) (fun τ hτ => ?_)
    refine th_normalS hτ ⟨[(9, (.sl (List.map (cS (cS cI)) jobs))), (10, (vI (jobs.length : Int))), (11, (vI 0))], []⟩ (here (by kernel_rfl)) ?_
    refine sem_block (by kernel_rfl) ?_
    obtain ⟨x56, hx56, h⟩ := bindS h
    refine sem_loopS (fun (s39 : Int) => ⟨[(9, (.sl (List.map (cS (cS cI)) jobs))), (10, (vI (jobs.length : Int))), (11, (vI s39))], []⟩) (fun (x56 : Int ⊕ Unit) => match x56 with | .inl j57 => (.ret, ⟨[(2, (vI j57))], []⟩) | .inr j58 => (.exit 0, ⟨[], []⟩)) (setup_checkJobs_l1 jobs) 0 x56 (by kernel_rfl) (here (by kernel_rfl)) hx56 ?_ ?_ ?_
    · intro s39 r h
      refine sem_seq (by kernel_rfl) ?_
      refine sem_region (by kernel_rfl) ?_
      refine evs_run 1 (by kernel_rfl) ?_
      refine evs_endS (by kernel_rfl) (fun τ hτ => ?_)
      refine th_normalS hτ ⟨[(9, (.sl (List.map (cS (cS cI)) jobs))), (10, (vI (jobs.length : Int))), (11, (vI s39)), (12, (vB (decide (s39 < (jobs.length : Int)))))], []⟩ (here (by kernel_rfl)) ?_
      refine sem_seq (by kernel_rfl) ?_
      refine sem_cond (decide (s39 < (jobs.length : Int))) (by kernel_rfl) (by kernel_rfl) (fun hb => ?_) (fun hb => ?_)
      · replace h := iteT hb h
        refine sem_skipS (by kernel_rfl) (fun τ hτ => ?_)
        refine th_normalS hτ ⟨[(9, (.sl (List.map (cS (cS cI)) jobs))), (10, (vI (jobs.length : Int))), (11, (vI s39))], []⟩ (here (by kernel_rfl)) ?_
        refine sem_seq (by kernel_rfl) ?_
        refine sem_block (by kernel_rfl) ?_
        refine sem_seq (by kernel_rfl) ?_
        refine sem_region (by kernel_rfl) ?_
        obtain ⟨x53, hx53, h⟩ := bindS h
        refine evs_op (st_idx (c := (cS (cS cI))) (l := jobs) (i := s39) (kd := .i64) (sz := 1) (by kernel_rfl) hx53 rfl) ?_
        refine evs_run 2 (by kernel_rfl) ?_
        refine evs_endS (by kernel_rfl) (fun τ hτ => ?_)
        refine th_normalS hτ ⟨[(4, (.sl (List.map (cS cI) x53))), (9, (.sl (List.map (cS (cS cI)) jobs))), (10, (vI (jobs.length : Int))), (11, (vI s39))], []⟩ (here (by kernel_rfl)) ?_
        refine sem_seq (by kernel_rfl) ?_
        refine sem_region (by kernel_rfl) ?_
        refine evs_run 1 (by kernel_rfl) ?_
        obtain ⟨r55, hr55, h⟩ := bindS h
        refine evs_callP [] (by kernel_rfl) (W.setup_Validate_ok hr55) (by kernel_rfl) (.inl rfl) (by kernel_rfl) ?_
        refine evs_run 1 (by kernel_rfl) ?_
        refine evs_endS (by kernel_rfl) (fun τ hτ => ?_)
        refine th_normalS hτ ⟨[(5, (vI r55)), (9, (.sl (List.map (cS (cS cI)) jobs))), (10, (vI (jobs.length : Int))), (11, (vI s39))], []⟩ (here (by kernel_rfl)) ?_
        refine sem_seq (by kernel_rfl) ?_
        refine sem_region (by kernel_rfl) ?_
        refine evs_run 2 (by kernel_rfl) ?_
        refine evs_endS (by kernel_rfl) (fun τ hτ => ?_)
        refine th_normalS hτ ⟨[(5, (vI r55)), (9, (.sl (List.map (cS (cS cI)) jobs))), (10, (vI (jobs.length : Int))), (11, (vI s39)), (18, (vB (r55 != 0)))], []⟩ (here (by kernel_rfl)) ?_
        refine sem_cond (r55 != 0) (by kernel_rfl) (by kernel_rfl) (fun hb => ?_) (fun hb => ?_)
        · replace h := iteT hb h
          refine sem_seq (by kernel_rfl) ?_
          refine sem_region (by kernel_rfl) ?_
          refine evs_run 2 (by kernel_rfl) ?_
          refine evs_endS (by kernel_rfl) (fun τ hτ => ?_)
          refine th_normalS hτ ⟨[(2, (vI r55))], []⟩ (here (by kernel_rfl)) ?_
          refine sem_retS (by kernel_rfl) (fun τ hτ => ?_)
          refine bl_ret ?_
          refine th_ret ?_
          obtain rfl := Option.some.inj h
          exact lk_outS hτ rfl (here (by kernel_rfl))
        · replace h := iteF hb h
          refine sem_skipS (by kernel_rfl) (fun τ hτ => ?_)
          refine bl_normal ?_
          refine th_normalS hτ ⟨[(9, (.sl (List.map (cS (cS cI)) jobs))), (10, (vI (jobs.length : Int))), (11, (vI s39))], []⟩ (here (by kernel_rfl)) ?_
          refine sem_region (by kernel_rfl) ?_
          refine evs_run 2 (by kernel_rfl) ?_
          refine evs_endS (by kernel_rfl) (fun τ hτ => ?_)
          obtain rfl := Option.some.inj h
          exact lk_nextS hτ (here (by kernel_rfl))
      · replace h := iteF hb h
        refine sem_exitS 0 (by kernel_rfl) rfl (fun τ hτ => ?_)
        refine th_exit ?_
        obtain rfl := Option.some.inj h
        exact lk_outS hτ rfl (here (by kernel_rfl))
    · intro x
      rcases x with _ | _ <;> rfl
    · intro τ hτ
      rcases x56 with j57 | j58
      · refine bl_ret ?_
        refine th_ret ?_
        obtain rfl := Option.some.inj h
        exact rk_ret hτ [(2, (vI j57))] (here (by kernel_rfl)) (by kernel_rfl)
      · refine bl_hit (by kernel_rfl) ?_
        refine th_normalS hτ ⟨[], []⟩ (here (by kernel_rfl)) ?_
        refine sem_seq (by kernel_rfl) ?_
        refine sem_region (by kernel_rfl) ?_
        refine evs_run 1 (by kernel_rfl) ?_
        refine evs_endS (by kernel_rfl) (fun τ hτ => ?_)
        refine th_normalS hτ ⟨[(2, (vI 0))], []⟩ (here (by kernel_rfl)) ?_
        refine sem_retS (by kernel_rfl) (fun τ hτ => ?_)
        obtain rfl := Option.some.inj h
        exact rk_ret hτ [(2, (vI 0))] (here (by kernel_rfl)) (by kernel_rfl)
theorem W.setup_tooMany_ok {jobs : (List (List (List Int)))} {r : Bool} (h : setup_tooMany jobs = some r) : PC G.P 57 [(.sl (List.map (cS (cS cI)) jobs))] [] (vB r) [] := by
  refine pc_of G (fn := Try.f57) Try.func57 (by kernel_rfl) (by kernel_rfl) (by kernel_rfl) (by kernel_rfl) (by kernel_rfl) ?_
  refine sem_set ⟨[(0, (.sl (List.map (cS (cS cI)) jobs)))], []⟩ (by kernel_rfl) ?_
  refine sem_seq (by kernel_rfl) ?_
  refine sem_region (by kernel_rfl) ?_
  refine evs_run 1 (by kernel_rfl) ?_
  refine evs_endS (by kernel_rfl) (fun τ hτ => ?_)
  refine th_normalS hτ ⟨[(0, (.sl (List.map (cS (cS cI)) jobs)))], []⟩ (here (by kernel_rfl)) ?_
  refine sem_seq (by kernel_rfl) ?_
  refine sem_region (by kernel_rfl) ?_
  refine evs_run 1 (by kernel_rfl) ?_
  refine evs_endS (by kernel_rfl) (fun τ hτ => ?_)
  refine th_normalS hτ ⟨[(0, (.sl (List.map (cS (cS cI)) jobs))), (3, (vI 0))], []⟩ (here (by kernel_rfl)) ?_
  refine sem_seq (by kernel_rfl) ?_
  refine sem_seq (by kernel_rfl) ?_
  refine sem_region (by kernel_rfl) ?_
  refine evs_run 1 (by kernel_rfl) ?_
  refine evs_op (st_len (c := (cS (cS cI))) (l := jobs) (x := (.sl (List.map (cS (cS cI)) jobs))) (by kernel_rfl) (by kernel_rfl)) ?_
  refine evs_run 1 (by kernel_rfl) ?_
  refine evs_endS (by kernel_rfl) (fun τ hτ => ?_)
  refine th_normalS hτ ⟨[(3, (vI 0)), (6, (.sl (List.map (cS (cS cI)) jobs))), (7, (vI (jobs.length : Int))), (8, (vI 0))], []⟩ (here (by kernel_rfl)) ?_
  refine sem_block (by kernel_rfl) ?_
  obtain ⟨x30, hx30, h⟩ := bindS h
  refine sem_loopS (fun (s21 : Int × Int) => ⟨[(3, (vI s21.1)), (6, (.sl (List.map (cS (cS cI)) jobs))), (7, (vI (jobs.length : Int))), (8, (vI s21.2))], []⟩) (fun (x30 : Int) => (.exit 0, ⟨[(3, (vI x30))], []⟩)) (setup_tooMany_l1 jobs) (0, 0) x30 (by kernel_rfl) (here (by kernel_rfl)) hx30 ?_ ?_ ?_
  · intro s21 r h
    refine sem_seq (by kernel_rfl) ?_
    refine sem_region (by kernel_rfl) ?_
    refine evs_run 1 (by kernel_rfl) ?_
    refine evs_endS (by kernel_rfl) (fun τ hτ => ?_)
    refine th_normalS hτ ⟨[(3, (vI s21.1)), (6, (.sl (List.map (cS (cS cI)) jobs))), (7, (vI (jobs.length : Int))), (8, (vI s21.2)), (9, (vB (decide (s21.2 < (jobs.length : Int)))))], []⟩ (here (by kernel_rfl)) ?_
    refine sem_seq (by kernel_rfl) ?_
    refine sem_cond (decide (s21.2 < (jobs.length : Int))) (by kernel_rfl) (by kernel_rfl) (fun hb => ?_) (fun hb => ?_)
    · replace h := iteT hb h
      refine sem_skipS (by kernel_rfl) (fun τ hτ => ?_)
      refine th_normalS hτ ⟨[(3, (vI s21.1)), (6, (.sl (List.map (cS (cS cI)) jobs))), (7, (vI (jobs.length : Int))), (8, (vI s21.2))], []⟩ (here (by kernel_rfl)) ?_
      refine sem_seq (by kernel_rfl) ?_
      refine sem_block (by kernel_rfl) ?_
      refine sem_seq (by kernel_rfl) ?_
      refine sem_region (by kernel_rfl) ?_
      obtain ⟨x29, hx29, h⟩ := bindS h
      refine evs_op (st_idx (c := (cS (cS cI))) (l := jobs) (i := s21.2) (kd := .i64) (sz := 1) (by kernel_rfl) hx29 rfl) ?_
      refine evs_run 2 (by kernel_rfl) ?_
      refine evs_endS (by kernel_rfl) (fun τ hτ => ?_)
      refine th_normalS hτ ⟨[(3, (vI s21.1)), (5, (.sl (List.map (cS cI) x29))), (6, (.sl (List.map (cS (cS cI)) jobs))), (7, (vI (jobs.length : Int))), (8, (vI s21.2))], []⟩ (here (by kernel_rfl)) ?_
      refine sem_region (by kernel_rfl) ?_
      refine evs_run 2 (by kernel_rfl) ?_
      refine evs_op (st_len (c := (cS cI)) (l := x29) (x := (.sl (List.map (cS cI) x29))) (by kernel_rfl) (by kernel_rfl)) ?_
      refine evs_run 2 (by kernel_rfl) ?_
      refine evs_endS (by kernel_rfl) (fun τ hτ => ?_)
      refine bl_normal ?_
      refine th_normalS hτ ⟨[(3, (vI (iadd s21.1 (x29.length : Int)))), (6, (.sl (List.map (cS (cS cI)) jobs))), (7, (vI (jobs.length : Int))), (8, (vI s21.2))], []⟩ (here (by kernel_rfl)) ?_
      refine sem_region (by kernel_rfl) ?_
      refine evs_run 2 (by kernel_rfl) ?_
      refine evs_endS (by kernel_rfl) (fun τ hτ => ?_)
      obtain rfl := Option.some.inj h
      exact lk_nextS hτ (here (by kernel_rfl))
    · replace h := iteF hb h
      refine sem_exitS 0 (by kernel_rfl) rfl (fun τ hτ => ?_)
      refine th_exit ?_
      obtain rfl := Option.some.inj h
      exact lk_outS hτ rfl (here (by kernel_rfl))
  · intro x
    rfl
  · intro τ hτ
    refine bl_hit (by kernel_rfl) ?_
    refine th_normalS hτ ⟨[(3, (vI x30))], []⟩ (here (by kernel_rfl)) ?_
    refine sem_seq (by kernel_rfl) ?_
    refine sem_region (by kernel_rfl) ?_
    refine evs_run 3 (by kernel_rfl) ?_
    refine evs_endS (by kernel_rfl) (fun τ hτ => ?_)
    refine th_normalS hτ ⟨[(2, (vB (decide (x30 > 24))))], []⟩ (here (by kernel_rfl)) ?_
    refine sem_retS (by kernel_rfl) (fun τ hτ => ?_)
    obtain rfl := Option.some.inj h
    exact rk_ret hτ [(2, (vB (decide (x30 > 24))))] (here (by kernel_rfl)) (by kernel_rfl)
theorem W.slices_Clone_Lint_int_ok {s r : (List Int)} (h : slices_Clone_Lint_int s = some r) : PC G.P 65 [.sl (List.map cI s)] [] (.row (.top 0) 3) [(0, .row 3 [] (List.map cI r))] := by
  replace h : app [] s = some r := h
  refine pc_of G (fn := Try.f65) Try.func65 (by kernel_rfl) (by kernel_rfl) (by kernel_rfl) (by kernel_rfl) (by kernel_rfl) ?_
  refine sem_seq (by kernel_rfl) ?_
  refine sem_region (by kernel_rfl) ?_
  refine evs_run 1 (by kernel_rfl) ?_
  refine evs_endS (by kernel_rfl) (fun τ hτ => ?_)
  refine th_normalS hτ ⟨[(0, .sl (List.map cI s))], []⟩ (here (by kernel_rfl)) ?_
  refine sem_seq (by kernel_rfl) ?_
  refine sem_seq (by kernel_rfl) ?_
  refine sem_region (by kernel_rfl) ?_
  refine evs_run 1 (by kernel_rfl) ?_
  refine evs_isnil (es := List.map cI s) (by kernel_rfl) (fun hn => ?_) ?_
  · obtain rfl : s = [] := List.map_eq_nil_iff.1 hn
    obtain rfl : [] = r := Option.some.inj ((app_eq (by simp [LIM])).symm.trans h)
    refine evs_endS (by kernel_rfl) (fun τ hτ => ?_)
    refine th_normalS hτ ⟨[(0, .sl (List.map cI [])), (4, vB true)], []⟩ (here (by kernel_rfl)) ?_
    refine sem_condT (by kernel_rfl) (by kernel_rfl) ?_
    refine sem_seq (by kernel_rfl) ?_
    refine sem_region (by kernel_rfl) ?_
    refine evs_run 1 (by kernel_rfl) ?_
    refine evs_endS (by kernel_rfl) (fun τ hτ => ?_)
    refine th_normalS hτ ⟨[(2, .row (.top 2) 3)], [(2, .row 3 [] (List.map cI []))]⟩ (here (by kernel_rfl)) ?_
    refine sem_retS (by kernel_rfl) (fun τ hτ => ?_)
    refine th_ret ?_
    exact rk_ret hτ [(2, .row (.top 0) 3)] (subR_of [(2, 0)] rfl rfl (by kernel_rfl)) (by kernel_rfl)
  · refine evs_endS (by kernel_rfl) (fun τ hτ => ?_)
    refine th_normalS hτ ⟨[(0, .sl (List.map cI s)), (4, vB false)], []⟩ (here (by kernel_rfl)) ?_
    refine sem_condF (by kernel_rfl) (by kernel_rfl) ?_
    refine sem_skipS (by kernel_rfl) (fun τ hτ => ?_)
    refine th_normalS hτ ⟨[(0, .sl (List.map cI s))], []⟩ (here (by kernel_rfl)) ?_
    refine sem_seq (by kernel_rfl) ?_
    refine sem_region (by kernel_rfl) ?_
    refine evs_at (at_build (es := List.map cI []) (e := 3) (d := 5) (by kernel_rfl)) ?_
    refine evs_run 1 (by kernel_rfl) ?_
    refine evs_op (st_app (c := cI) (l := []) (l2 := s) (x := .sl (List.map cI s)) (g := 5) (e := 3) (sz := 1) (d := 7) (by kernel_rfl) (by kernel_rfl) (by kernel_rfl) (by kernel_rfl) (fun _ => rfl) rfl h) ?_
    refine evs_run 1 (by kernel_rfl) ?_
    refine evs_endS (by kernel_rfl) (fun τ hτ => ?_)
    refine th_normalS hτ ⟨[(2, .row (.top 5) 3)], [(5, .row 3 [] (List.map cI r))]⟩ (here (by kernel_rfl)) ?_
    refine sem_retS (by kernel_rfl) (fun τ hτ => ?_)
    exact rk_ret hτ [(2, .row (.top 0) 3)] (subR_of [(5, 0)] rfl rfl (by kernel_rfl)) (by kernel_rfl)
theorem W.setup_join_ok {jobs : (List (List (List Int)))} {order : (List Int)} {r : (List (List Int))} (h : setup_join jobs order = some r) : PC G.P 58 [(.sl (List.map (cS (cS cI)) jobs)), (.sl (List.map cI order))] [] (.row (.top 0) 38) [(0, .row 38 [(0, 3)] (List.map (cS cI) r))] := by
  refine pc_of G (fn := Try.f58) Try.func58 (by kernel_rfl) (by kernel_rfl) (by kernel_rfl) (by kernel_rfl) (by kernel_rfl) ?_
  refine sem_set ⟨[(0, (.sl (List.map (cS (cS cI)) jobs))), (1, (.sl (List.map cI order)))], []⟩ (by kernel_rfl) ?_
  refine sem_seq (by kernel_rfl) ?_
  refine sem_region (by kernel_rfl) ?_
  refine evs_run 1 (by kernel_rfl) ?_
  refine evs_endS (by kernel_rfl) (fun τ hτ => ?_)
  refine th_normalS hτ ⟨[(0, (.sl (List.map (cS (cS cI)) jobs))), (1, (.sl (List.map cI order)))], []⟩ (here (by kernel_rfl)) ?_
  refine sem_seq (by kernel_rfl) ?_
  refine sem_region (by kernel_rfl) ?_
  refine evs_run 1 (by kernel_rfl) ?_
  refine evs_endS (by kernel_rfl) (fun τ hτ => ?_)
  refine th_normalS hτ ⟨[(0, (.sl (List.map (cS (cS cI)) jobs))), (1, (.sl (List.map cI order))), (5, (.row (.top 5) 38))], [(5, .row 38 [] (List.map (cS cI) []))]⟩ (here (by kernel_rfl)) ?_
  refine sem_seq (by kernel_rfl) ?_
  refine sem_seq (by kernel_rfl) ?_
  refine sem_region (by kernel_rfl) ?_
  refine evs_run 1 (by kernel_rfl) ?_
  refine evs_op (st_len (c := cI) (l := order) (x := (.sl (List.map cI order))) (by kernel_rfl) (by kernel_rfl)) ?_
  refine evs_run 1 (by kernel_rfl) ?_
  refine evs_endS (by kernel_rfl) (fun τ hτ => ?_)
  refine th_normalS hτ ⟨[(0, (.sl (List.map (cS (cS cI)) jobs))), (5, (.row (.top 5) 38)), (10, (.sl (List.map cI order))), (11, (vI (order.length : Int))), (12, (vI 0))], [(5, .row 38 [] (List.map (cS cI) []))]⟩ (here (by kernel_rfl)) ?_
  refine sem_block (by kernel_rfl) ?_
  obtain ⟨x522, hx522, h⟩ := bindS h
  refine sem_loopS (fun (s349 : Int × (List (List Int))) => ⟨[(0, (.sl (List.map (cS (cS cI)) jobs))), (5, (.row (.top 500000) 38)), (10, (.sl (List.map cI order))), (11, (vI (order.length : Int))), (12, (vI s349.1))], [(500000, .row 38 [(0, 3)] (List.map (cS cI) s349.2))]⟩) (fun (x522 : (List (List Int))) => (.exit 0, ⟨[(5, (.row (.top 500000) 38))], [(500000, .row 38 [(0, 3)] (List.map (cS cI) x522))]⟩)) (setup_join_l2 jobs order) (0, []) x522 (by kernel_rfl) (subR_prep [.jrow 5 [(0, 3)]] [(5, 500000)] (by kernel_rfl) rfl rfl (by kernel_rfl)) hx522 ?_ ?_ ?_
  · intro s349 r h
    refine sem_seq (by kernel_rfl) ?_
    refine sem_region (by kernel_rfl) ?_
    refine evs_run 1 (by kernel_rfl) ?_
    refine evs_endS (by kernel_rfl) (fun τ hτ => ?_)
    refine th_normalS hτ ⟨[(0, (.sl (List.map (cS (cS cI)) jobs))), (5, (.row (.top 500000) 38)), (10, (.sl (List.map cI order))), (11, (vI (order.length : Int))), (12, (vI s349.1)), (13, (vB (decide (s349.1 < (order.length : Int)))))], [(500000, .row 38 [(0, 3)] (List.map (cS cI) s349.2))]⟩ (here (by kernel_rfl)) ?_
    refine sem_seq (by kernel_rfl) ?_
    refine sem_cond (decide (s349.1 < (order.length : Int))) (by kernel_rfl) (by kernel_rfl) (fun hb => ?_) (fun hb => ?_)
    · replace h := iteT hb h
      refine sem_skipS (by kernel_rfl) (fun τ hτ => ?_)
      refine th_normalS hτ ⟨[(0, (.sl (List.map (cS (cS cI)) jobs))), (5, (.row (.top 500000) 38)), (10, (.sl (List.map cI order))), (11, (vI (order.length : Int))), (12, (vI s349.1))], [(500000, .row 38 [(0, 3)] (List.map (cS cI) s349.2))]⟩ (here (by kernel_rfl)) ?_
      refine sem_seq (by kernel_rfl) ?_
      refine sem_block (by kernel_rfl) ?_
      refine sem_seq (by kernel_rfl) ?_
      refine sem_region (by kernel_rfl) ?_
      obtain ⟨x480, hx480, h⟩ := bindS h
      refine evs_op (st_idx (c := cI) (l := order) (i := s349.1) (kd := .i64) (sz := 1) (by kernel_rfl) hx480 rfl) ?_
      refine evs_run 2 (by kernel_rfl) ?_
      refine evs_endS (by kernel_rfl) (fun τ hτ => ?_)
      refine th_normalS hτ ⟨[(0, (.sl (List.map (cS (cS cI)) jobs))), (5, (.row (.top 500000) 38)), (7, (vI x480)), (10, (.sl (List.map cI order))), (11, (vI (order.length : Int))), (12, (vI s349.1))], [(500000, .row 38 [(0, 3)] (List.map (cS cI) s349.2))]⟩ (here (by kernel_rfl)) ?_
      refine sem_seq (by kernel_rfl) ?_
      refine sem_region (by kernel_rfl) ?_
      refine evs_run 2 (by kernel_rfl) ?_
      obtain ⟨x482, hx482, h⟩ := bindS h
      refine evs_op (st_idx (c := (cS (cS cI))) (l := jobs) (i := x480) (kd := .i64) (sz := 1) (by kernel_rfl) hx482 rfl) ?_
      refine evs_run 1 (by kernel_rfl) ?_
      refine evs_op (st_len (c := (cS cI)) (l := x482) (x := (.sl (List.map (cS cI) x482))) (by kernel_rfl) (by kernel_rfl)) ?_
      refine evs_run 1 (by kernel_rfl) ?_
      refine evs_endS (by kernel_rfl) (fun τ hτ => ?_)
      refine th_normalS hτ ⟨[(0, (.sl (List.map (cS (cS cI)) jobs))), (5, (.row (.top 500000) 38)), (10, (.sl (List.map cI order))), (11, (vI (order.length : Int))), (12, (vI s349.1)), (19, (.sl (List.map (cS cI) x482))), (20, (vI (x482.length : Int))), (21, (vI 0))], [(500000, .row 38 [(0, 3)] (List.map (cS cI) s349.2))]⟩ (here (by kernel_rfl)) ?_
      refine sem_block (by kernel_rfl) ?_
      obtain ⟨x521, hx521, h⟩ := bindS h
      refine sem_loopS (fun (s496 : Int × (List (List Int))) => ⟨[(0, (.sl (List.map (cS (cS cI)) jobs))), (5, (.row (.top 500000) 38)), (10, (.sl (List.map cI order))), (11, (vI (order.length : Int))), (12, (vI s349.1)), (19, (.sl (List.map (cS cI) x482))), (20, (vI (x482.length : Int))), (21, (vI s496.1))], [(500000, .row 38 [(0, 3)] (List.map (cS cI) s496.2))]⟩) (fun (x521 : (List (List Int))) => (.exit 2, ⟨[(0, (.sl (List.map (cS (cS cI)) jobs))), (5, (.row (.top 500000) 38)), (10, (.sl (List.map cI order))), (11, (vI (order.length : Int))), (12, (vI s349.1))], [(500000, .row 38 [(0, 3)] (List.map (cS cI) x521))]⟩)) (setup_join_l1 x482) (0, s349.2) x521 (by kernel_rfl) (here (by kernel_rfl)) hx521 ?_ ?_ ?_
      · intro s496 r h
        refine sem_seq (by kernel_rfl) ?_
        refine sem_region (by kernel_rfl) ?_
        refine evs_run 1 (by kernel_rfl) ?_
        refine evs_endS (by kernel_rfl) (fun τ hτ => ?_)
        refine th_normalS hτ ⟨[(0, (.sl (List.map (cS (cS cI)) jobs))), (5, (.row (.top 500000) 38)), (10, (.sl (List.map cI order))), (11, (vI (order.length : Int))), (12, (vI s349.1)), (19, (.sl (List.map (cS cI) x482))), (20, (vI (x482.length : Int))), (21, (vI s496.1)), (22, (vB (decide (s496.1 < (x482.length : Int)))))], [(500000, .row 38 [(0, 3)] (List.map (cS cI) s496.2))]⟩ (here (by kernel_rfl)) ?_
        refine sem_seq (by kernel_rfl) ?_
        refine sem_cond (decide (s496.1 < (x482.length : Int))) (by kernel_rfl) (by kernel_rfl) (fun hb => ?_) (fun hb => ?_)
        · replace h := iteT hb h
          refine sem_skipS (by kernel_rfl) (fun τ hτ => ?_)
          refine th_normalS hτ ⟨[(0, (.sl (List.map (cS (cS cI)) jobs))), (5, (.row (.top 500000) 38)), (10, (.sl (List.map cI order))), (11, (vI (order.length : Int))), (12, (vI s349.1)), (19, (.sl (List.map (cS cI) x482))), (20, (vI (x482.length : Int))), (21, (vI s496.1))], [(500000, .row 38 [(0, 3)] (List.map (cS cI) s496.2))]⟩ (here (by kernel_rfl)) ?_
          refine sem_seq (by kernel_rfl) ?_
          refine sem_block (by kernel_rfl) ?_
          refine sem_seq (by kernel_rfl) ?_
          refine sem_region (by kernel_rfl) ?_
          obtain ⟨x516, hx516, h⟩ := bindS h
          refine evs_op (st_idx (c := (cS cI)) (l := x482) (i := s496.1) (kd := .i64) (sz := 1) (by kernel_rfl) hx516 rfl) ?_
          refine evs_run 2 (by kernel_rfl) ?_
          refine evs_endS (by kernel_rfl) (fun τ hτ => ?_)
          refine th_normalS hτ ⟨[(0, (.sl (List.map (cS (cS cI)) jobs))), (5, (.row (.top 500000) 38)), (9, (.sl (List.map cI x516))), (10, (.sl (List.map cI order))), (11, (vI (order.length : Int))), (12, (vI s349.1)), (19, (.sl (List.map (cS cI) x482))), (20, (vI (x482.length : Int))), (21, (vI s496.1))], [(500000, .row 38 [(0, 3)] (List.map (cS cI) s496.2))]⟩ (here (by kernel_rfl)) ?_
          refine sem_region (by kernel_rfl) ?_
          refine evs_run 2 (by kernel_rfl) ?_
          obtain ⟨r519, hr519, h⟩ := bindS h
          refine evs_callS [] [(0, 700100)] [] (by kernel_rfl) (W.slices_Clone_Lint_int_ok hr519) (by kernel_rfl) (by kernel_rfl) (.inl rfl) ?_
          refine evs_at (at_buildJ (c := (cS cI)) (c2 := cI) (e := 38) (e' := 3) (d := 700100) (T := 28) (l := r519) (x := r519) (by kernel_rfl) (by kernel_rfl) (by kernel_rfl) rfl) ?_
          obtain ⟨l520, hl520, h⟩ := bindS h
          refine evs_at (at_appJ (c := (cS cI)) (l := s496.2) (l2 := [r519]) (g := 500000) (T := 28) (e := 38) (J := [(0, 3)]) (sz := 1) (d := 29) (by kernel_rfl) (by kernel_rfl) (by kernel_rfl) (by kernel_rfl) hl520) ?_
          refine evs_run 1 (by kernel_rfl) ?_
          refine evs_endS (by kernel_rfl) (fun τ hτ => ?_)
          refine bl_normal ?_
          refine th_normalS hτ ⟨[(0, (.sl (List.map (cS (cS cI)) jobs))), (5, (.row (.top 500000) 38)), (10, (.sl (List.map cI order))), (11, (vI (order.length : Int))), (12, (vI s349.1)), (19, (.sl (List.map (cS cI) x482))), (20, (vI (x482.length : Int))), (21, (vI s496.1))], [(500000, .row 38 [(0, 3)] (List.map (cS cI) l520))]⟩ (here (by kernel_rfl)) ?_
          refine sem_region (by kernel_rfl) ?_
          refine evs_run 2 (by kernel_rfl) ?_
          refine evs_endS (by kernel_rfl) (fun τ hτ => ?_)
          obtain rfl := Option.some.inj h
          exact lk_nextS hτ (here (by kernel_rfl))
        · replace h := iteF hb h
          refine sem_exitS 2 (by kernel_rfl) rfl (fun τ hτ => ?_)
          refine th_exit ?_
          obtain rfl := Option.some.inj h
          exact lk_outS hτ rfl (here (by kernel_rfl))
      · intro x
        rfl
      · intro τ hτ
        refine bl_hit (by kernel_rfl) ?_
        refine bl_normal ?_
        refine th_normalS hτ ⟨[(0, (.sl (List.map (cS (cS cI)) jobs))), (5, (.row (.top 500000) 38)), (10, (.sl (List.map cI order))), (11, (vI (order.length : Int))), (12, (vI s349.1))], [(500000, .row 38 [(0, 3)] (List.map (cS cI) x521))]⟩ (here (by kernel_rfl)) ?_
        refine sem_region (by kernel_rfl) ?_
        refine evs_run 2 (by kernel_rfl) ?_
        refine evs_endS (by kernel_rfl) (fun τ hτ => ?_)
        obtain rfl := Option.some.inj h
        exact lk_nextS hτ (here (by kernel_rfl))
    · replace h := iteF hb h
      refine sem_exitS 0 (by kernel_rfl) rfl (fun τ hτ => ?_)
      refine th_exit ?_
      obtain rfl := Option.some.inj h
      exact lk_outS hτ rfl (here (by kernel_rfl))
  · intro x
    rfl
  · intro τ hτ
    refine bl_hit (by kernel_rfl) ?_
    refine th_normalS hτ ⟨[(5, (.row (.top 500000) 38))], [(500000, .row 38 [(0, 3)] (List.map (cS cI) x522))]⟩ (here (by kernel_rfl)) ?_
    refine sem_seq (by kernel_rfl) ?_
    refine sem_region (by kernel_rfl) ?_
    refine evs_run 2 (by kernel_rfl) ?_
    refine evs_endS (by kernel_rfl) (fun τ hτ => ?_)
    refine th_normalS hτ ⟨[(4, (.row (.top 500000) 38))], [(500000, .row 38 [(0, 3)] (List.map (cS cI) x522))]⟩ (here (by kernel_rfl)) ?_
    refine sem_retS (by kernel_rfl) (fun τ hτ => ?_)
    obtain rfl := Option.some.inj h
    exact rk_ret hτ [(4, (.row (.top 0) 38))] (subR_prep [] [(500000, 0)] (by kernel_rfl) rfl rfl (by kernel_rfl)) (by kernel_rfl)
end Go.Proofs.Ytppmnjiibmomoaa
