/- Each Go function does what its model says; written by a program out of the translation. -/
import Derived.Test.YtiodkdpfkchkjaaWA
import Derived.Test.YtiodkdpfkchkjaaGeMA
set_option linter.unusedVariables false
set_option linter.unusedSimpArgs false
set_option linter.unusedSectionVars false
namespace Go.Proofs.Ytiodkdpfkchkjaa
open Go Go.VI Go.SM Go.Proofs
set_option maxRecDepth 100000
set_option maxHeartbeats 4000000
theorem W.sheetmetalref01_ValidRect_ok {r0 : Rect} {r : Bool} (h : sheetmetalref01_ValidRect r0 = some r) : PCalls G.P 27 [(.agg [(vI r0.X), (vI r0.Y), (vI r0.W), (vI r0.H)])] (vB r) := by
  refine pc_view G (fn := Try.f27) Try.func27 (by as_aux_lemma => kernel_rfl) (by as_aux_lemma => kernel_rfl) (by as_aux_lemma => kernel_rfl) (by as_aux_lemma => kernel_rfl) ?_
  refine sem_set [(0, (.agg [(vI r0.X), (vI r0.Y), (vI r0.W), (vI r0.H)]))] (by as_aux_lemma => kernel_rfl) ?_
  refine sem_seq (by as_aux_lemma => kernel_rfl) ?_
  refine sem_region (by as_aux_lemma => kernel_rfl) ?_
  refine evs_run 2 (by as_aux_lemma => kernel_rfl) ?_
  refine evs_endS (by as_aux_lemma => kernel_rfl) (fun τ hτ => ?_)
  refine th_normalS hτ [(1, (.ptr 1 [(vI r0.X), (vI r0.Y), (vI r0.W), (vI r0.H)] 0))] (by as_aux_lemma => kernel_rfl) ?_
  refine sem_seq (by as_aux_lemma => kernel_rfl) ?_
  refine sem_seq (by as_aux_lemma => kernel_rfl) ?_
  obtain ⟨j14, hj14, h⟩ := bindS h
  refine sem_regionC [(1, (.ptr 1 [(vI r0.X), (vI r0.Y), (vI r0.W), (vI r0.H)] 0)), (24, (vB j14))] (by as_aux_lemma => kernel_rfl) ?_ (fun τ hτ => ?_)
  · replace h := hj14
    refine evs_run 2 (by as_aux_lemma => kernel_rfl) ?_
    obtain ⟨r15, hr15, h⟩ := bindS h
    refine evs_call (b := true) (by as_aux_lemma => kernel_rfl) (W.sheetmetalref01_within_ok hr15) (.inl rfl) ?_
    refine evs_run 2 (by as_aux_lemma => kernel_rfl) ?_
    refine evs_split r15 (fun b0 => [(1, (.ptr 1 [(vI r0.X), (vI r0.Y), (vI r0.W), (vI r0.H)] 0)), (7, (vB (!b0)))]) (by as_aux_lemma => kernel_rfl) (fun hb => ?_) (fun hb => ?_)
    · replace h := iteT hb h
      refine evs_run 2 (by as_aux_lemma => kernel_rfl) ?_
      obtain ⟨r16, hr16, h⟩ := bindS h
      refine evs_call (b := true) (by as_aux_lemma => kernel_rfl) (W.sheetmetalref01_within_ok hr16) (.inl rfl) ?_
      refine evs_run 3 (by as_aux_lemma => kernel_rfl) ?_
      refine evs_split r16 (fun b0 => [(1, (.ptr 1 [(vI r0.X), (vI r0.Y), (vI r0.W), (vI r0.H)] 0)), (13, (vB (!b0)))]) (by as_aux_lemma => kernel_rfl) (fun hb => ?_) (fun hb => ?_)
      · replace h := iteT hb h
        refine evs_run 2 (by as_aux_lemma => kernel_rfl) ?_
        obtain ⟨r17, hr17, h⟩ := bindS h
        refine evs_call (b := true) (by as_aux_lemma => kernel_rfl) (W.sheetmetalref01_within_ok hr17) (.inl rfl) ?_
        refine evs_run 3 (by as_aux_lemma => kernel_rfl) ?_
        refine evs_split r17 (fun b0 => [(1, (.ptr 1 [(vI r0.X), (vI r0.Y), (vI r0.W), (vI r0.H)] 0)), (19, (vB (!b0)))]) (by as_aux_lemma => kernel_rfl) (fun hb => ?_) (fun hb => ?_)
        · replace h := iteT hb h
          refine evs_run 2 (by as_aux_lemma => kernel_rfl) ?_
          obtain ⟨r18, hr18, h⟩ := bindS h
          refine evs_call (b := true) (by as_aux_lemma => kernel_rfl) (W.sheetmetalref01_within_ok hr18) (.inl rfl) ?_
          refine evs_run 2 (by as_aux_lemma => kernel_rfl) ?_
          refine evs_endS (by as_aux_lemma => kernel_rfl) (fun τ hτ => ?_)
          obtain rfl := Option.some.inj h
          exact leafC hτ (by as_aux_lemma => kernel_rfl)
        · replace h := iteF hb h
          refine evs_run 5 (by as_aux_lemma => kernel_rfl) ?_
          refine evs_endS (by as_aux_lemma => kernel_rfl) (fun τ hτ => ?_)
          obtain rfl := Option.some.inj h
          exact leafC hτ (by as_aux_lemma => kernel_rfl)
      · replace h := iteF hb h
        refine evs_run 11 (by as_aux_lemma => kernel_rfl) ?_
        refine evs_endS (by as_aux_lemma => kernel_rfl) (fun τ hτ => ?_)
        obtain rfl := Option.some.inj h
        exact leafC hτ (by as_aux_lemma => kernel_rfl)
    · replace h := iteF hb h
      refine evs_run 17 (by as_aux_lemma => kernel_rfl) ?_
      refine evs_endS (by as_aux_lemma => kernel_rfl) (fun τ hτ => ?_)
      obtain rfl := Option.some.inj h
      exact leafC hτ (by as_aux_lemma => kernel_rfl)
  refine th_normalS hτ [(1, (.ptr 1 [(vI r0.X), (vI r0.Y), (vI r0.W), (vI r0.H)] 0)), (24, (vB j14))] (by as_aux_lemma => kernel_rfl) ?_
  refine sem_cond j14 (by as_aux_lemma => kernel_rfl) (by as_aux_lemma => kernel_rfl) (fun hb => ?_) (fun hb => ?_)
  · replace h := iteT hb h
    refine sem_seq (by as_aux_lemma => kernel_rfl) ?_
    refine sem_region (by as_aux_lemma => kernel_rfl) ?_
    refine evs_run 1 (by as_aux_lemma => kernel_rfl) ?_
    refine evs_endS (by as_aux_lemma => kernel_rfl) (fun τ hτ => ?_)
    refine th_normalS hτ [(2, (vB false))] (by as_aux_lemma => kernel_rfl) ?_
    refine sem_retS (by as_aux_lemma => kernel_rfl) (fun τ hτ => ?_)
    refine th_ret ?_
    obtain rfl := Option.some.inj h
    exact rv_ret hτ (by as_aux_lemma => kernel_rfl)
  · replace h := iteF hb h
    refine sem_skipS (by as_aux_lemma => kernel_rfl) (fun τ hτ => ?_)
    refine th_normalS hτ [(1, (.ptr 1 [(vI r0.X), (vI r0.Y), (vI r0.W), (vI r0.H)] 0))] (by as_aux_lemma => kernel_rfl) ?_
    refine sem_seq (by as_aux_lemma => kernel_rfl) ?_
    obtain ⟨j19, hj19, h⟩ := bindS h
    refine sem_regionC [(2, (vB j19))] (by as_aux_lemma => kernel_rfl) ?_ (fun τ hτ => ?_)
    · replace h := hj19
      refine evs_run 7 (by as_aux_lemma => kernel_rfl) ?_
      refine evs_split (decide ((iadd r0.X r0.W) ≤ 1048576)) (fun b0 => [(1, (.ptr 1 [(vI r0.X), (vI r0.Y), (vI r0.W), (vI r0.H)] 0)), (31, (vB b0))]) (by as_aux_lemma => kernel_rfl) (fun hb => ?_) (fun hb => ?_)
      · replace h := iteT hb h
        refine evs_run 8 (by as_aux_lemma => kernel_rfl) ?_
        refine evs_endS (by as_aux_lemma => kernel_rfl) (fun τ hτ => ?_)
        obtain rfl := Option.some.inj h
        exact leafC hτ (by as_aux_lemma => kernel_rfl)
      · replace h := iteF hb h
        refine evs_run 8 (by as_aux_lemma => kernel_rfl) ?_
        refine evs_endS (by as_aux_lemma => kernel_rfl) (fun τ hτ => ?_)
        obtain rfl := Option.some.inj h
        exact leafC hτ (by as_aux_lemma => kernel_rfl)
    refine th_normalS hτ [(2, (vB j19))] (by as_aux_lemma => kernel_rfl) ?_
    refine sem_retS (by as_aux_lemma => kernel_rfl) (fun τ hτ => ?_)
    obtain rfl := Option.some.inj h
    exact rv_ret hτ (by as_aux_lemma => kernel_rfl)
theorem W.geom_Overlap_ok {a : Rect} {b : Rect} {r : Bool} (h : geom_Overlap a b = some r) : PCalls G.P 28 [(.agg [(vI a.X), (vI a.Y), (vI a.W), (vI a.H)]), (.agg [(vI b.X), (vI b.Y), (vI b.W), (vI b.H)])] (vB r) := by
  refine pc_view G (fn := Try.f28) Try.func28 (by as_aux_lemma => kernel_rfl) (by as_aux_lemma => kernel_rfl) (by as_aux_lemma => kernel_rfl) (by as_aux_lemma => kernel_rfl) ?_
  refine sem_set [(0, (.agg [(vI a.X), (vI a.Y), (vI a.W), (vI a.H)])), (1, (.agg [(vI b.X), (vI b.Y), (vI b.W), (vI b.H)]))] (by as_aux_lemma => kernel_rfl) ?_
  refine sem_seq (by as_aux_lemma => kernel_rfl) ?_
  refine sem_region (by as_aux_lemma => kernel_rfl) ?_
  refine evs_run 3 (by as_aux_lemma => kernel_rfl) ?_
  refine evs_endS (by as_aux_lemma => kernel_rfl) (fun τ hτ => ?_)
  refine th_normalS hτ [(2, (.ptr 2 [(vI a.X), (vI a.Y), (vI a.W), (vI a.H)] 0)), (3, (.ptr 3 [(vI b.X), (vI b.Y), (vI b.W), (vI b.H)] 0))] (by as_aux_lemma => kernel_rfl) ?_
  refine sem_seq (by as_aux_lemma => kernel_rfl) ?_
  obtain ⟨j3, hj3, h⟩ := bindS h
  refine sem_regionC [(4, (vB j3))] (by as_aux_lemma => kernel_rfl) ?_ (fun τ hτ => ?_)
  · replace h := hj3
    refine evs_run 1 (by as_aux_lemma => kernel_rfl) ?_
    obtain ⟨r4, hr4, h⟩ := bindS h
    refine evs_call (b := true) (by as_aux_lemma => kernel_rfl) (W.geom_ValidRect_ok hr4) (.inl rfl) ?_
    refine evs_run 1 (by as_aux_lemma => kernel_rfl) ?_
    refine evs_split r4 (fun b0 => [(2, (.ptr 2 [(vI a.X), (vI a.Y), (vI a.W), (vI a.H)] 0)), (3, (.ptr 3 [(vI b.X), (vI b.Y), (vI b.W), (vI b.H)] 0)), (7, (vB b0))]) (by as_aux_lemma => kernel_rfl) (fun hb => ?_) (fun hb => ?_)
    · replace h := iteT hb h
      refine evs_run 1 (by as_aux_lemma => kernel_rfl) ?_
      obtain ⟨r5, hr5, h⟩ := bindS h
      refine evs_call (b := true) (by as_aux_lemma => kernel_rfl) (W.geom_ValidRect_ok hr5) (.inl rfl) ?_
      refine evs_run 2 (by as_aux_lemma => kernel_rfl) ?_
      refine evs_split r5 (fun b0 => [(2, (.ptr 2 [(vI a.X), (vI a.Y), (vI a.W), (vI a.H)] 0)), (3, (.ptr 3 [(vI b.X), (vI b.Y), (vI b.W), (vI b.H)] 0)), (11, (vB b0))]) (by as_aux_lemma => kernel_rfl) (fun hb => ?_) (fun hb => ?_)
      · replace h := iteT hb h
        refine evs_run 10 (by as_aux_lemma => kernel_rfl) ?_
        refine evs_split (decide (a.X < (iadd b.X b.W))) (fun b0 => [(2, (.ptr 2 [(vI a.X), (vI a.Y), (vI a.W), (vI a.H)] 0)), (3, (.ptr 3 [(vI b.X), (vI b.Y), (vI b.W), (vI b.H)] 0)), (21, (vB b0))]) (by as_aux_lemma => kernel_rfl) (fun hb => ?_) (fun hb => ?_)
        · replace h := iteT hb h
          refine evs_run 10 (by as_aux_lemma => kernel_rfl) ?_
          refine evs_split (decide (b.X < (iadd a.X a.W))) (fun b0 => [(2, (.ptr 2 [(vI a.X), (vI a.Y), (vI a.W), (vI a.H)] 0)), (3, (.ptr 3 [(vI b.X), (vI b.Y), (vI b.W), (vI b.H)] 0)), (31, (vB b0))]) (by as_aux_lemma => kernel_rfl) (fun hb => ?_) (fun hb => ?_)
          · replace h := iteT hb h
            refine evs_run 10 (by as_aux_lemma => kernel_rfl) ?_
            refine evs_split (decide (a.Y < (iadd b.Y b.H))) (fun b0 => [(2, (.ptr 2 [(vI a.X), (vI a.Y), (vI a.W), (vI a.H)] 0)), (3, (.ptr 3 [(vI b.X), (vI b.Y), (vI b.W), (vI b.H)] 0)), (41, (vB b0))]) (by as_aux_lemma => kernel_rfl) (fun hb => ?_) (fun hb => ?_)
            · replace h := iteT hb h
              refine evs_run 10 (by as_aux_lemma => kernel_rfl) ?_
              refine evs_endS (by as_aux_lemma => kernel_rfl) (fun τ hτ => ?_)
              obtain rfl := Option.some.inj h
              exact leafC hτ (by as_aux_lemma => kernel_rfl)
            · replace h := iteF hb h
              refine evs_run 10 (by as_aux_lemma => kernel_rfl) ?_
              refine evs_endS (by as_aux_lemma => kernel_rfl) (fun τ hτ => ?_)
              obtain rfl := Option.some.inj h
              exact leafC hτ (by as_aux_lemma => kernel_rfl)
          · replace h := iteF hb h
            refine evs_run 20 (by as_aux_lemma => kernel_rfl) ?_
            refine evs_endS (by as_aux_lemma => kernel_rfl) (fun τ hτ => ?_)
            obtain rfl := Option.some.inj h
            exact leafC hτ (by as_aux_lemma => kernel_rfl)
        · replace h := iteF hb h
          refine evs_run 30 (by as_aux_lemma => kernel_rfl) ?_
          refine evs_endS (by as_aux_lemma => kernel_rfl) (fun τ hτ => ?_)
          obtain rfl := Option.some.inj h
          exact leafC hτ (by as_aux_lemma => kernel_rfl)
      · replace h := iteF hb h
        refine evs_run 40 (by as_aux_lemma => kernel_rfl) ?_
        refine evs_endS (by as_aux_lemma => kernel_rfl) (fun τ hτ => ?_)
        obtain rfl := Option.some.inj h
        exact leafC hτ (by as_aux_lemma => kernel_rfl)
    · replace h := iteF hb h
      refine evs_run 44 (by as_aux_lemma => kernel_rfl) ?_
      refine evs_endS (by as_aux_lemma => kernel_rfl) (fun τ hτ => ?_)
      obtain rfl := Option.some.inj h
      exact leafC hτ (by as_aux_lemma => kernel_rfl)
  refine th_normalS hτ [(4, (vB j3))] (by as_aux_lemma => kernel_rfl) ?_
  refine sem_retS (by as_aux_lemma => kernel_rfl) (fun τ hτ => ?_)
  obtain rfl := Option.some.inj h
  exact rv_ret hτ (by as_aux_lemma => kernel_rfl)
theorem W.sheetmetalref01_gap_ok {a : Int} {b : Int} {c : Int} {d : Int} {r : Int} (h : sheetmetalref01_gap a b c d = some r) : PCalls G.P 72 [(vI a), (vI b), (vI c), (vI d)] (vI r) := by
  refine pc_view G (fn := Try.f72) Try.func72 (by as_aux_lemma => kernel_rfl) (by as_aux_lemma => kernel_rfl) (by as_aux_lemma => kernel_rfl) (by as_aux_lemma => kernel_rfl) ?_
  refine sem_set [(0, (vI a)), (1, (vI b)), (2, (vI c)), (3, (vI d))] (by as_aux_lemma => kernel_rfl) ?_
  refine sem_seq (by as_aux_lemma => kernel_rfl) ?_
  refine sem_region (by as_aux_lemma => kernel_rfl) ?_
  refine evs_run 1 (by as_aux_lemma => kernel_rfl) ?_
  refine evs_endS (by as_aux_lemma => kernel_rfl) (fun τ hτ => ?_)
  refine th_normalS hτ [(0, (vI a)), (1, (vI b)), (2, (vI c)), (3, (vI d))] (by as_aux_lemma => kernel_rfl) ?_
  refine sem_seq (by as_aux_lemma => kernel_rfl) ?_
  refine sem_seq (by as_aux_lemma => kernel_rfl) ?_
  refine sem_region (by as_aux_lemma => kernel_rfl) ?_
  refine evs_run 7 (by as_aux_lemma => kernel_rfl) ?_
  refine evs_endS (by as_aux_lemma => kernel_rfl) (fun τ hτ => ?_)
  refine th_normalS hτ [(0, (vI a)), (1, (vI b)), (2, (vI c)), (3, (vI d)), (15, (vB (decide ((isub c b) > (isub a d)))))] (by as_aux_lemma => kernel_rfl) ?_
  refine sem_cond (decide ((isub c b) > (isub a d))) (by as_aux_lemma => kernel_rfl) (by as_aux_lemma => kernel_rfl) (fun hb => ?_) (fun hb => ?_)
  · replace h := iteT hb h
    refine sem_seq (by as_aux_lemma => kernel_rfl) ?_
    refine sem_region (by as_aux_lemma => kernel_rfl) ?_
    refine evs_run 4 (by as_aux_lemma => kernel_rfl) ?_
    refine evs_endS (by as_aux_lemma => kernel_rfl) (fun τ hτ => ?_)
    refine th_normalS hτ [(8, (vI (isub c b)))] (by as_aux_lemma => kernel_rfl) ?_
    refine sem_retS (by as_aux_lemma => kernel_rfl) (fun τ hτ => ?_)
    refine th_ret ?_
    obtain rfl := Option.some.inj h
    exact rv_ret hτ (by as_aux_lemma => kernel_rfl)
  · replace h := iteF hb h
    refine sem_skipS (by as_aux_lemma => kernel_rfl) (fun τ hτ => ?_)
    refine th_normalS hτ [(0, (vI a)), (3, (vI d))] (by as_aux_lemma => kernel_rfl) ?_
    refine sem_seq (by as_aux_lemma => kernel_rfl) ?_
    refine sem_region (by as_aux_lemma => kernel_rfl) ?_
    refine evs_run 4 (by as_aux_lemma => kernel_rfl) ?_
    refine evs_endS (by as_aux_lemma => kernel_rfl) (fun τ hτ => ?_)
    refine th_normalS hτ [(8, (vI (isub a d)))] (by as_aux_lemma => kernel_rfl) ?_
    refine sem_retS (by as_aux_lemma => kernel_rfl) (fun τ hτ => ?_)
    obtain rfl := Option.some.inj h
    exact rv_ret hτ (by as_aux_lemma => kernel_rfl)
theorem W.sheetmetalref01_Overlap_ok {a : Rect} {b : Rect} {r : Bool} (h : sheetmetalref01_Overlap a b = some r) : PCalls G.P 29 [(.agg [(vI a.X), (vI a.Y), (vI a.W), (vI a.H)]), (.agg [(vI b.X), (vI b.Y), (vI b.W), (vI b.H)])] (vB r) := by
  refine pc_view G (fn := Try.f29) Try.func29 (by as_aux_lemma => kernel_rfl) (by as_aux_lemma => kernel_rfl) (by as_aux_lemma => kernel_rfl) (by as_aux_lemma => kernel_rfl) ?_
  refine sem_set [(0, (.agg [(vI a.X), (vI a.Y), (vI a.W), (vI a.H)])), (1, (.agg [(vI b.X), (vI b.Y), (vI b.W), (vI b.H)]))] (by as_aux_lemma => kernel_rfl) ?_
  refine sem_seq (by as_aux_lemma => kernel_rfl) ?_
  refine sem_region (by as_aux_lemma => kernel_rfl) ?_
  refine evs_run 3 (by as_aux_lemma => kernel_rfl) ?_
  refine evs_endS (by as_aux_lemma => kernel_rfl) (fun τ hτ => ?_)
  refine th_normalS hτ [(2, (.ptr 2 [(vI a.X), (vI a.Y), (vI a.W), (vI a.H)] 0)), (3, (.ptr 3 [(vI b.X), (vI b.Y), (vI b.W), (vI b.H)] 0))] (by as_aux_lemma => kernel_rfl) ?_
  refine sem_seq (by as_aux_lemma => kernel_rfl) ?_
  obtain ⟨j5, hj5, h⟩ := bindS h
  refine sem_regionC [(4, (vB j5))] (by as_aux_lemma => kernel_rfl) ?_ (fun τ hτ => ?_)
  · replace h := hj5
    refine evs_run 1 (by as_aux_lemma => kernel_rfl) ?_
    obtain ⟨r6, hr6, h⟩ := bindS h
    refine evs_call (b := true) (by as_aux_lemma => kernel_rfl) (W.sheetmetalref01_ValidRect_ok hr6) (.inl rfl) ?_
    refine evs_run 1 (by as_aux_lemma => kernel_rfl) ?_
    refine evs_split r6 (fun b0 => [(2, (.ptr 2 [(vI a.X), (vI a.Y), (vI a.W), (vI a.H)] 0)), (3, (.ptr 3 [(vI b.X), (vI b.Y), (vI b.W), (vI b.H)] 0)), (7, (vB b0))]) (by as_aux_lemma => kernel_rfl) (fun hb => ?_) (fun hb => ?_)
    · replace h := iteT hb h
      refine evs_run 1 (by as_aux_lemma => kernel_rfl) ?_
      obtain ⟨r7, hr7, h⟩ := bindS h
      refine evs_call (b := true) (by as_aux_lemma => kernel_rfl) (W.sheetmetalref01_ValidRect_ok hr7) (.inl rfl) ?_
      refine evs_run 2 (by as_aux_lemma => kernel_rfl) ?_
      refine evs_split r7 (fun b0 => [(2, (.ptr 2 [(vI a.X), (vI a.Y), (vI a.W), (vI a.H)] 0)), (3, (.ptr 3 [(vI b.X), (vI b.Y), (vI b.W), (vI b.H)] 0)), (11, (vB b0))]) (by as_aux_lemma => kernel_rfl) (fun hb => ?_) (fun hb => ?_)
      · replace h := iteT hb h
        refine evs_run 14 (by as_aux_lemma => kernel_rfl) ?_
        obtain ⟨r8, hr8, h⟩ := bindS h
        refine evs_call (b := true) (by as_aux_lemma => kernel_rfl) (W.sheetmetalref01_gap_ok hr8) (.inl rfl) ?_
        refine evs_run 3 (by as_aux_lemma => kernel_rfl) ?_
        refine evs_split (decide (r8 < 0)) (fun b0 => [(2, (.ptr 2 [(vI a.X), (vI a.Y), (vI a.W), (vI a.H)] 0)), (3, (.ptr 3 [(vI b.X), (vI b.Y), (vI b.W), (vI b.H)] 0)), (29, (vB b0))]) (by as_aux_lemma => kernel_rfl) (fun hb => ?_) (fun hb => ?_)
        · replace h := iteT hb h
          refine evs_run 14 (by as_aux_lemma => kernel_rfl) ?_
          obtain ⟨r9, hr9, h⟩ := bindS h
          refine evs_call (b := true) (by as_aux_lemma => kernel_rfl) (W.sheetmetalref01_gap_ok hr9) (.inl rfl) ?_
          refine evs_run 3 (by as_aux_lemma => kernel_rfl) ?_
          refine evs_endS (by as_aux_lemma => kernel_rfl) (fun τ hτ => ?_)
          obtain rfl := Option.some.inj h
          exact leafC hτ (by as_aux_lemma => kernel_rfl)
        · replace h := iteF hb h
          refine evs_run 18 (by as_aux_lemma => kernel_rfl) ?_
          refine evs_endS (by as_aux_lemma => kernel_rfl) (fun τ hτ => ?_)
          obtain rfl := Option.some.inj h
          exact leafC hτ (by as_aux_lemma => kernel_rfl)
      · replace h := iteF hb h
        refine evs_run 36 (by as_aux_lemma => kernel_rfl) ?_
        refine evs_endS (by as_aux_lemma => kernel_rfl) (fun τ hτ => ?_)
        obtain rfl := Option.some.inj h
        exact leafC hτ (by as_aux_lemma => kernel_rfl)
    · replace h := iteF hb h
      refine evs_run 40 (by as_aux_lemma => kernel_rfl) ?_
      refine evs_endS (by as_aux_lemma => kernel_rfl) (fun τ hτ => ?_)
      obtain rfl := Option.some.inj h
      exact leafC hτ (by as_aux_lemma => kernel_rfl)
  refine th_normalS hτ [(4, (vB j5))] (by as_aux_lemma => kernel_rfl) ?_
  refine sem_retS (by as_aux_lemma => kernel_rfl) (fun τ hτ => ?_)
  obtain rfl := Option.some.inj h
  exact rv_ret hτ (by as_aux_lemma => kernel_rfl)
theorem W.geom_Inside_ok {a : Rect} {b : Rect} {r : Bool} (h : geom_Inside a b = some r) : PCalls G.P 30 [(.agg [(vI a.X), (vI a.Y), (vI a.W), (vI a.H)]), (.agg [(vI b.X), (vI b.Y), (vI b.W), (vI b.H)])] (vB r) := by
  refine pc_view G (fn := Try.f30) Try.func30 (by as_aux_lemma => kernel_rfl) (by as_aux_lemma => kernel_rfl) (by as_aux_lemma => kernel_rfl) (by as_aux_lemma => kernel_rfl) ?_
  refine sem_set [(0, (.agg [(vI a.X), (vI a.Y), (vI a.W), (vI a.H)])), (1, (.agg [(vI b.X), (vI b.Y), (vI b.W), (vI b.H)]))] (by as_aux_lemma => kernel_rfl) ?_
  refine sem_seq (by as_aux_lemma => kernel_rfl) ?_
  refine sem_region (by as_aux_lemma => kernel_rfl) ?_
  refine evs_run 3 (by as_aux_lemma => kernel_rfl) ?_
  refine evs_endS (by as_aux_lemma => kernel_rfl) (fun τ hτ => ?_)
  refine th_normalS hτ [(2, (.ptr 2 [(vI a.X), (vI a.Y), (vI a.W), (vI a.H)] 0)), (3, (.ptr 3 [(vI b.X), (vI b.Y), (vI b.W), (vI b.H)] 0))] (by as_aux_lemma => kernel_rfl) ?_
  refine sem_seq (by as_aux_lemma => kernel_rfl) ?_
  obtain ⟨j3, hj3, h⟩ := bindS h
  refine sem_regionC [(4, (vB j3))] (by as_aux_lemma => kernel_rfl) ?_ (fun τ hτ => ?_)
  · replace h := hj3
    refine evs_run 1 (by as_aux_lemma => kernel_rfl) ?_
    obtain ⟨r4, hr4, h⟩ := bindS h
    refine evs_call (b := true) (by as_aux_lemma => kernel_rfl) (W.geom_ValidRect_ok hr4) (.inl rfl) ?_
    refine evs_run 1 (by as_aux_lemma => kernel_rfl) ?_
    refine evs_split r4 (fun b0 => [(2, (.ptr 2 [(vI a.X), (vI a.Y), (vI a.W), (vI a.H)] 0)), (3, (.ptr 3 [(vI b.X), (vI b.Y), (vI b.W), (vI b.H)] 0)), (7, (vB b0))]) (by as_aux_lemma => kernel_rfl) (fun hb => ?_) (fun hb => ?_)
    · replace h := iteT hb h
      refine evs_run 1 (by as_aux_lemma => kernel_rfl) ?_
      obtain ⟨r5, hr5, h⟩ := bindS h
      refine evs_call (b := true) (by as_aux_lemma => kernel_rfl) (W.geom_ValidRect_ok hr5) (.inl rfl) ?_
      refine evs_run 2 (by as_aux_lemma => kernel_rfl) ?_
      refine evs_split r5 (fun b0 => [(2, (.ptr 2 [(vI a.X), (vI a.Y), (vI a.W), (vI a.H)] 0)), (3, (.ptr 3 [(vI b.X), (vI b.Y), (vI b.W), (vI b.H)] 0)), (11, (vB b0))]) (by as_aux_lemma => kernel_rfl) (fun hb => ?_) (fun hb => ?_)
      · replace h := iteT hb h
        refine evs_run 7 (by as_aux_lemma => kernel_rfl) ?_
        refine evs_split (decide (b.X ≤ a.X)) (fun b0 => [(2, (.ptr 2 [(vI a.X), (vI a.Y), (vI a.W), (vI a.H)] 0)), (3, (.ptr 3 [(vI b.X), (vI b.Y), (vI b.W), (vI b.H)] 0)), (18, (vB b0))]) (by as_aux_lemma => kernel_rfl) (fun hb => ?_) (fun hb => ?_)
        · replace h := iteT hb h
          refine evs_run 13 (by as_aux_lemma => kernel_rfl) ?_
          refine evs_split (decide ((iadd a.X a.W) ≤ (iadd b.X b.W))) (fun b0 => [(2, (.ptr 2 [(vI a.X), (vI a.Y), (vI a.W), (vI a.H)] 0)), (3, (.ptr 3 [(vI b.X), (vI b.Y), (vI b.W), (vI b.H)] 0)), (31, (vB b0))]) (by as_aux_lemma => kernel_rfl) (fun hb => ?_) (fun hb => ?_)
          · replace h := iteT hb h
            refine evs_run 7 (by as_aux_lemma => kernel_rfl) ?_
            refine evs_split (decide (b.Y ≤ a.Y)) (fun b0 => [(2, (.ptr 2 [(vI a.X), (vI a.Y), (vI a.W), (vI a.H)] 0)), (3, (.ptr 3 [(vI b.X), (vI b.Y), (vI b.W), (vI b.H)] 0)), (38, (vB b0))]) (by as_aux_lemma => kernel_rfl) (fun hb => ?_) (fun hb => ?_)
            · replace h := iteT hb h
              refine evs_run 13 (by as_aux_lemma => kernel_rfl) ?_
              refine evs_endS (by as_aux_lemma => kernel_rfl) (fun τ hτ => ?_)
              obtain rfl := Option.some.inj h
              exact leafC hτ (by as_aux_lemma => kernel_rfl)
            · replace h := iteF hb h
              refine evs_run 13 (by as_aux_lemma => kernel_rfl) ?_
              refine evs_endS (by as_aux_lemma => kernel_rfl) (fun τ hτ => ?_)
              obtain rfl := Option.some.inj h
              exact leafC hτ (by as_aux_lemma => kernel_rfl)
          · replace h := iteF hb h
            refine evs_run 20 (by as_aux_lemma => kernel_rfl) ?_
            refine evs_endS (by as_aux_lemma => kernel_rfl) (fun τ hτ => ?_)
            obtain rfl := Option.some.inj h
            exact leafC hτ (by as_aux_lemma => kernel_rfl)
        · replace h := iteF hb h
          refine evs_run 33 (by as_aux_lemma => kernel_rfl) ?_
          refine evs_endS (by as_aux_lemma => kernel_rfl) (fun τ hτ => ?_)
          obtain rfl := Option.some.inj h
          exact leafC hτ (by as_aux_lemma => kernel_rfl)
      · replace h := iteF hb h
        refine evs_run 40 (by as_aux_lemma => kernel_rfl) ?_
        refine evs_endS (by as_aux_lemma => kernel_rfl) (fun τ hτ => ?_)
        obtain rfl := Option.some.inj h
        exact leafC hτ (by as_aux_lemma => kernel_rfl)
    · replace h := iteF hb h
      refine evs_run 44 (by as_aux_lemma => kernel_rfl) ?_
      refine evs_endS (by as_aux_lemma => kernel_rfl) (fun τ hτ => ?_)
      obtain rfl := Option.some.inj h
      exact leafC hτ (by as_aux_lemma => kernel_rfl)
  refine th_normalS hτ [(4, (vB j3))] (by as_aux_lemma => kernel_rfl) ?_
  refine sem_retS (by as_aux_lemma => kernel_rfl) (fun τ hτ => ?_)
  obtain rfl := Option.some.inj h
  exact rv_ret hτ (by as_aux_lemma => kernel_rfl)
theorem W.sheetmetalref01_Inside_ok {a : Rect} {b : Rect} {r : Bool} (h : sheetmetalref01_Inside a b = some r) : PCalls G.P 31 [(.agg [(vI a.X), (vI a.Y), (vI a.W), (vI a.H)]), (.agg [(vI b.X), (vI b.Y), (vI b.W), (vI b.H)])] (vB r) := by
  refine pc_view G (fn := Try.f31) Try.func31 (by as_aux_lemma => kernel_rfl) (by as_aux_lemma => kernel_rfl) (by as_aux_lemma => kernel_rfl) (by as_aux_lemma => kernel_rfl) ?_
  refine sem_set [(0, (.agg [(vI a.X), (vI a.Y), (vI a.W), (vI a.H)])), (1, (.agg [(vI b.X), (vI b.Y), (vI b.W), (vI b.H)]))] (by as_aux_lemma => kernel_rfl) ?_
  refine sem_seq (by as_aux_lemma => kernel_rfl) ?_
  refine sem_region (by as_aux_lemma => kernel_rfl) ?_
  refine evs_run 3 (by as_aux_lemma => kernel_rfl) ?_
  refine evs_endS (by as_aux_lemma => kernel_rfl) (fun τ hτ => ?_)
  refine th_normalS hτ [(2, (.ptr 2 [(vI a.X), (vI a.Y), (vI a.W), (vI a.H)] 0)), (3, (.ptr 3 [(vI b.X), (vI b.Y), (vI b.W), (vI b.H)] 0))] (by as_aux_lemma => kernel_rfl) ?_
  refine sem_seq (by as_aux_lemma => kernel_rfl) ?_
  obtain ⟨j3, hj3, h⟩ := bindS h
  refine sem_regionC [(4, (vB j3))] (by as_aux_lemma => kernel_rfl) ?_ (fun τ hτ => ?_)
  · replace h := hj3
    refine evs_run 1 (by as_aux_lemma => kernel_rfl) ?_
    obtain ⟨r4, hr4, h⟩ := bindS h
    refine evs_call (b := true) (by as_aux_lemma => kernel_rfl) (W.sheetmetalref01_ValidRect_ok hr4) (.inl rfl) ?_
    refine evs_run 1 (by as_aux_lemma => kernel_rfl) ?_
    refine evs_split r4 (fun b0 => [(2, (.ptr 2 [(vI a.X), (vI a.Y), (vI a.W), (vI a.H)] 0)), (3, (.ptr 3 [(vI b.X), (vI b.Y), (vI b.W), (vI b.H)] 0)), (7, (vB b0))]) (by as_aux_lemma => kernel_rfl) (fun hb => ?_) (fun hb => ?_)
    · replace h := iteT hb h
      refine evs_run 1 (by as_aux_lemma => kernel_rfl) ?_
      obtain ⟨r5, hr5, h⟩ := bindS h
      refine evs_call (b := true) (by as_aux_lemma => kernel_rfl) (W.sheetmetalref01_ValidRect_ok hr5) (.inl rfl) ?_
      refine evs_run 2 (by as_aux_lemma => kernel_rfl) ?_
      refine evs_split r5 (fun b0 => [(2, (.ptr 2 [(vI a.X), (vI a.Y), (vI a.W), (vI a.H)] 0)), (3, (.ptr 3 [(vI b.X), (vI b.Y), (vI b.W), (vI b.H)] 0)), (11, (vB b0))]) (by as_aux_lemma => kernel_rfl) (fun hb => ?_) (fun hb => ?_)
      · replace h := iteT hb h
        refine evs_run 7 (by as_aux_lemma => kernel_rfl) ?_
        refine evs_split (decide (a.X ≥ b.X)) (fun b0 => [(2, (.ptr 2 [(vI a.X), (vI a.Y), (vI a.W), (vI a.H)] 0)), (3, (.ptr 3 [(vI b.X), (vI b.Y), (vI b.W), (vI b.H)] 0)), (18, (vB b0))]) (by as_aux_lemma => kernel_rfl) (fun hb => ?_) (fun hb => ?_)
        · replace h := iteT hb h
          refine evs_run 7 (by as_aux_lemma => kernel_rfl) ?_
          refine evs_split (decide (a.Y ≥ b.Y)) (fun b0 => [(2, (.ptr 2 [(vI a.X), (vI a.Y), (vI a.W), (vI a.H)] 0)), (3, (.ptr 3 [(vI b.X), (vI b.Y), (vI b.W), (vI b.H)] 0)), (25, (vB b0))]) (by as_aux_lemma => kernel_rfl) (fun hb => ?_) (fun hb => ?_)
          · replace h := iteT hb h
            refine evs_run 13 (by as_aux_lemma => kernel_rfl) ?_
            refine evs_split (decide ((iadd a.X a.W) ≤ (iadd b.X b.W))) (fun b0 => [(2, (.ptr 2 [(vI a.X), (vI a.Y), (vI a.W), (vI a.H)] 0)), (3, (.ptr 3 [(vI b.X), (vI b.Y), (vI b.W), (vI b.H)] 0)), (38, (vB b0))]) (by as_aux_lemma => kernel_rfl) (fun hb => ?_) (fun hb => ?_)
            · replace h := iteT hb h
              refine evs_run 13 (by as_aux_lemma => kernel_rfl) ?_
              refine evs_endS (by as_aux_lemma => kernel_rfl) (fun τ hτ => ?_)
              obtain rfl := Option.some.inj h
              exact leafC hτ (by as_aux_lemma => kernel_rfl)
            · replace h := iteF hb h
              refine evs_run 13 (by as_aux_lemma => kernel_rfl) ?_
              refine evs_endS (by as_aux_lemma => kernel_rfl) (fun τ hτ => ?_)
              obtain rfl := Option.some.inj h
              exact leafC hτ (by as_aux_lemma => kernel_rfl)
          · replace h := iteF hb h
            refine evs_run 26 (by as_aux_lemma => kernel_rfl) ?_
            refine evs_endS (by as_aux_lemma => kernel_rfl) (fun τ hτ => ?_)
            obtain rfl := Option.some.inj h
            exact leafC hτ (by as_aux_lemma => kernel_rfl)
        · replace h := iteF hb h
          refine evs_run 33 (by as_aux_lemma => kernel_rfl) ?_
          refine evs_endS (by as_aux_lemma => kernel_rfl) (fun τ hτ => ?_)
          obtain rfl := Option.some.inj h
          exact leafC hτ (by as_aux_lemma => kernel_rfl)
      · replace h := iteF hb h
        refine evs_run 40 (by as_aux_lemma => kernel_rfl) ?_
        refine evs_endS (by as_aux_lemma => kernel_rfl) (fun τ hτ => ?_)
        obtain rfl := Option.some.inj h
        exact leafC hτ (by as_aux_lemma => kernel_rfl)
    · replace h := iteF hb h
      refine evs_run 44 (by as_aux_lemma => kernel_rfl) ?_
      refine evs_endS (by as_aux_lemma => kernel_rfl) (fun τ hτ => ?_)
      obtain rfl := Option.some.inj h
      exact leafC hτ (by as_aux_lemma => kernel_rfl)
  refine th_normalS hτ [(4, (vB j3))] (by as_aux_lemma => kernel_rfl) ?_
  refine sem_retS (by as_aux_lemma => kernel_rfl) (fun τ hτ => ?_)
  obtain rfl := Option.some.inj h
  exact rv_ret hτ (by as_aux_lemma => kernel_rfl)
theorem W.geom_Distance_ok {a : Rect} {b : Rect} {r : Int} (h : geom_Distance a b = some r) : PCalls G.P 32 [(.agg [(vI a.X), (vI a.Y), (vI a.W), (vI a.H)]), (.agg [(vI b.X), (vI b.Y), (vI b.W), (vI b.H)])] (vI r) := by
  refine pc_view G (fn := Try.f32) Try.func32 (by as_aux_lemma => kernel_rfl) (by as_aux_lemma => kernel_rfl) (by as_aux_lemma => kernel_rfl) (by as_aux_lemma => kernel_rfl) ?_
  refine sem_set [(0, (.agg [(vI a.X), (vI a.Y), (vI a.W), (vI a.H)])), (1, (.agg [(vI b.X), (vI b.Y), (vI b.W), (vI b.H)]))] (by as_aux_lemma => kernel_rfl) ?_
  refine sem_seq (by as_aux_lemma => kernel_rfl) ?_
  refine sem_region (by as_aux_lemma => kernel_rfl) ?_
  refine evs_run 3 (by as_aux_lemma => kernel_rfl) ?_
  refine evs_endS (by as_aux_lemma => kernel_rfl) (fun τ hτ => ?_)
  refine th_normalS hτ [(2, (.ptr 2 [(vI a.X), (vI a.Y), (vI a.W), (vI a.H)] 0)), (3, (.ptr 3 [(vI b.X), (vI b.Y), (vI b.W), (vI b.H)] 0))] (by as_aux_lemma => kernel_rfl) ?_
  refine sem_seq (by as_aux_lemma => kernel_rfl) ?_
  refine sem_seq (by as_aux_lemma => kernel_rfl) ?_
  obtain ⟨j8, hj8, h⟩ := bindS h
  refine sem_regionC [(2, (.ptr 2 [(vI a.X), (vI a.Y), (vI a.W), (vI a.H)] 0)), (3, (.ptr 3 [(vI b.X), (vI b.Y), (vI b.W), (vI b.H)] 0)), (13, (vB j8))] (by as_aux_lemma => kernel_rfl) ?_ (fun τ hτ => ?_)
  · replace h := hj8
    refine evs_run 1 (by as_aux_lemma => kernel_rfl) ?_
    obtain ⟨r9, hr9, h⟩ := bindS h
    refine evs_call (b := true) (by as_aux_lemma => kernel_rfl) (W.geom_ValidRect_ok hr9) (.inl rfl) ?_
    refine evs_run 2 (by as_aux_lemma => kernel_rfl) ?_
    refine evs_split r9 (fun b0 => [(2, (.ptr 2 [(vI a.X), (vI a.Y), (vI a.W), (vI a.H)] 0)), (3, (.ptr 3 [(vI b.X), (vI b.Y), (vI b.W), (vI b.H)] 0)), (9, (vB (!b0)))]) (by as_aux_lemma => kernel_rfl) (fun hb => ?_) (fun hb => ?_)
    · replace h := iteT hb h
      refine evs_run 1 (by as_aux_lemma => kernel_rfl) ?_
      obtain ⟨r10, hr10, h⟩ := bindS h
      refine evs_call (b := true) (by as_aux_lemma => kernel_rfl) (W.geom_ValidRect_ok hr10) (.inl rfl) ?_
      refine evs_run 2 (by as_aux_lemma => kernel_rfl) ?_
      refine evs_endS (by as_aux_lemma => kernel_rfl) (fun τ hτ => ?_)
      obtain rfl := Option.some.inj h
      exact leafC hτ (by as_aux_lemma => kernel_rfl)
    · replace h := iteF hb h
      refine evs_run 4 (by as_aux_lemma => kernel_rfl) ?_
      refine evs_endS (by as_aux_lemma => kernel_rfl) (fun τ hτ => ?_)
      obtain rfl := Option.some.inj h
      exact leafC hτ (by as_aux_lemma => kernel_rfl)
  refine th_normalS hτ [(2, (.ptr 2 [(vI a.X), (vI a.Y), (vI a.W), (vI a.H)] 0)), (3, (.ptr 3 [(vI b.X), (vI b.Y), (vI b.W), (vI b.H)] 0)), (13, (vB j8))] (by as_aux_lemma => kernel_rfl) ?_
  refine sem_cond j8 (by as_aux_lemma => kernel_rfl) (by as_aux_lemma => kernel_rfl) (fun hb => ?_) (fun hb => ?_)
  · replace h := iteT hb h
    refine sem_seq (by as_aux_lemma => kernel_rfl) ?_
    refine sem_region (by as_aux_lemma => kernel_rfl) ?_
    refine evs_run 1 (by as_aux_lemma => kernel_rfl) ?_
    refine evs_endS (by as_aux_lemma => kernel_rfl) (fun τ hτ => ?_)
    refine th_normalS hτ [(4, (vI 0))] (by as_aux_lemma => kernel_rfl) ?_
    refine sem_retS (by as_aux_lemma => kernel_rfl) (fun τ hτ => ?_)
    refine th_ret ?_
    obtain rfl := Option.some.inj h
    exact rv_ret hτ (by as_aux_lemma => kernel_rfl)
  · replace h := iteF hb h
    refine sem_skipS (by as_aux_lemma => kernel_rfl) (fun τ hτ => ?_)
    refine th_normalS hτ [(2, (.ptr 2 [(vI a.X), (vI a.Y), (vI a.W), (vI a.H)] 0)), (3, (.ptr 3 [(vI b.X), (vI b.Y), (vI b.W), (vI b.H)] 0))] (by as_aux_lemma => kernel_rfl) ?_
    refine sem_seq (by as_aux_lemma => kernel_rfl) ?_
    refine sem_region (by as_aux_lemma => kernel_rfl) ?_
    refine evs_run 18 (by as_aux_lemma => kernel_rfl) ?_
    refine evs_endS (by as_aux_lemma => kernel_rfl) (fun τ hτ => ?_)
    refine th_normalS hτ [(2, (.ptr 2 [(vI a.X), (vI a.Y), (vI a.W), (vI a.H)] 0)), (3, (.ptr 3 [(vI b.X), (vI b.Y), (vI b.W), (vI b.H)] 0)), (5, (vI (imax (imax 0 (isub (isub b.X a.X) a.W)) (isub (isub a.X b.X) b.W))))] (by as_aux_lemma => kernel_rfl) ?_
    refine sem_seq (by as_aux_lemma => kernel_rfl) ?_
    refine sem_region (by as_aux_lemma => kernel_rfl) ?_
    refine evs_run 19 (by as_aux_lemma => kernel_rfl) ?_
    refine evs_endS (by as_aux_lemma => kernel_rfl) (fun τ hτ => ?_)
    refine th_normalS hτ [(4, (vI (imax (imax (imax (imax 0 (isub (isub b.X a.X) a.W)) (isub (isub a.X b.X) b.W)) (isub (isub b.Y a.Y) a.H)) (isub (isub a.Y b.Y) b.H))))] (by as_aux_lemma => kernel_rfl) ?_
    refine sem_retS (by as_aux_lemma => kernel_rfl) (fun τ hτ => ?_)
    obtain rfl := Option.some.inj h
    exact rv_ret hτ (by as_aux_lemma => kernel_rfl)
theorem W.sheetmetalref01_Distance_ok {a : Rect} {b : Rect} {r : Int} (h : sheetmetalref01_Distance a b = some r) : PCalls G.P 33 [(.agg [(vI a.X), (vI a.Y), (vI a.W), (vI a.H)]), (.agg [(vI b.X), (vI b.Y), (vI b.W), (vI b.H)])] (vI r) := by
  refine pc_view G (fn := Try.f33) Try.func33 (by as_aux_lemma => kernel_rfl) (by as_aux_lemma => kernel_rfl) (by as_aux_lemma => kernel_rfl) (by as_aux_lemma => kernel_rfl) ?_
  refine sem_set [(0, (.agg [(vI a.X), (vI a.Y), (vI a.W), (vI a.H)])), (1, (.agg [(vI b.X), (vI b.Y), (vI b.W), (vI b.H)]))] (by as_aux_lemma => kernel_rfl) ?_
  refine sem_seq (by as_aux_lemma => kernel_rfl) ?_
  refine sem_region (by as_aux_lemma => kernel_rfl) ?_
  refine evs_run 3 (by as_aux_lemma => kernel_rfl) ?_
  refine evs_endS (by as_aux_lemma => kernel_rfl) (fun τ hτ => ?_)
  refine th_normalS hτ [(2, (.ptr 2 [(vI a.X), (vI a.Y), (vI a.W), (vI a.H)] 0)), (3, (.ptr 3 [(vI b.X), (vI b.Y), (vI b.W), (vI b.H)] 0))] (by as_aux_lemma => kernel_rfl) ?_
  refine sem_seq (by as_aux_lemma => kernel_rfl) ?_
  refine sem_seq (by as_aux_lemma => kernel_rfl) ?_
  obtain ⟨j8, hj8, h⟩ := bindS h
  refine sem_regionC [(2, (.ptr 2 [(vI a.X), (vI a.Y), (vI a.W), (vI a.H)] 0)), (3, (.ptr 3 [(vI b.X), (vI b.Y), (vI b.W), (vI b.H)] 0)), (14, (vB j8))] (by as_aux_lemma => kernel_rfl) ?_ (fun τ hτ => ?_)
  · replace h := hj8
    refine evs_run 1 (by as_aux_lemma => kernel_rfl) ?_
    obtain ⟨r9, hr9, h⟩ := bindS h
    refine evs_call (b := true) (by as_aux_lemma => kernel_rfl) (W.sheetmetalref01_ValidRect_ok hr9) (.inl rfl) ?_
    refine evs_run 2 (by as_aux_lemma => kernel_rfl) ?_
    refine evs_split r9 (fun b0 => [(2, (.ptr 2 [(vI a.X), (vI a.Y), (vI a.W), (vI a.H)] 0)), (3, (.ptr 3 [(vI b.X), (vI b.Y), (vI b.W), (vI b.H)] 0)), (10, (vB (!b0)))]) (by as_aux_lemma => kernel_rfl) (fun hb => ?_) (fun hb => ?_)
    · replace h := iteT hb h
      refine evs_run 1 (by as_aux_lemma => kernel_rfl) ?_
      obtain ⟨r10, hr10, h⟩ := bindS h
      refine evs_call (b := true) (by as_aux_lemma => kernel_rfl) (W.sheetmetalref01_ValidRect_ok hr10) (.inl rfl) ?_
      refine evs_run 2 (by as_aux_lemma => kernel_rfl) ?_
      refine evs_endS (by as_aux_lemma => kernel_rfl) (fun τ hτ => ?_)
      obtain rfl := Option.some.inj h
      exact leafC hτ (by as_aux_lemma => kernel_rfl)
    · replace h := iteF hb h
      refine evs_run 4 (by as_aux_lemma => kernel_rfl) ?_
      refine evs_endS (by as_aux_lemma => kernel_rfl) (fun τ hτ => ?_)
      obtain rfl := Option.some.inj h
      exact leafC hτ (by as_aux_lemma => kernel_rfl)
  refine th_normalS hτ [(2, (.ptr 2 [(vI a.X), (vI a.Y), (vI a.W), (vI a.H)] 0)), (3, (.ptr 3 [(vI b.X), (vI b.Y), (vI b.W), (vI b.H)] 0)), (14, (vB j8))] (by as_aux_lemma => kernel_rfl) ?_
  refine sem_cond j8 (by as_aux_lemma => kernel_rfl) (by as_aux_lemma => kernel_rfl) (fun hb => ?_) (fun hb => ?_)
  · replace h := iteT hb h
    refine sem_seq (by as_aux_lemma => kernel_rfl) ?_
    refine sem_region (by as_aux_lemma => kernel_rfl) ?_
    refine evs_run 1 (by as_aux_lemma => kernel_rfl) ?_
    refine evs_endS (by as_aux_lemma => kernel_rfl) (fun τ hτ => ?_)
    refine th_normalS hτ [(4, (vI 0))] (by as_aux_lemma => kernel_rfl) ?_
    refine sem_retS (by as_aux_lemma => kernel_rfl) (fun τ hτ => ?_)
    refine th_ret ?_
    obtain rfl := Option.some.inj h
    exact rv_ret hτ (by as_aux_lemma => kernel_rfl)
  · replace h := iteF hb h
    refine sem_skipS (by as_aux_lemma => kernel_rfl) (fun τ hτ => ?_)
    refine th_normalS hτ [(2, (.ptr 2 [(vI a.X), (vI a.Y), (vI a.W), (vI a.H)] 0)), (3, (.ptr 3 [(vI b.X), (vI b.Y), (vI b.W), (vI b.H)] 0))] (by as_aux_lemma => kernel_rfl) ?_
    refine sem_seq (by as_aux_lemma => kernel_rfl) ?_
    refine sem_draw [] 29 [(2, (.ptr 2 [(vI a.X), (vI a.Y), (vI a.W), (vI a.H)] 0)), (3, (.ptr 3 [(vI b.X), (vI b.Y), (vI b.W), (vI b.H)] 0))] (by as_aux_lemma => kernel_rfl) (by as_aux_lemma => kernel_rfl) (by as_aux_lemma => kernel_rfl) ?_
    refine evd_run 14 (by as_aux_lemma => kernel_rfl) ?_
    obtain ⟨r13, hr13, h⟩ := bindS h
    refine evd_call (b := true) (by as_aux_lemma => kernel_rfl) (by as_aux_lemma => kernel_rfl) (W.sheetmetalref01_gap_ok hr13) (.inl rfl) ?_
    refine evd_run 14 (by as_aux_lemma => kernel_rfl) ?_
    refine evd_tail (by as_aux_lemma => kernel_rfl) ?_
    obtain ⟨r14, hr14, h⟩ := bindS h
    refine evo_call (b := true) (by as_aux_lemma => kernel_rfl) (W.sheetmetalref01_gap_ok hr14) (.inl rfl) ?_
    refine evo_run 2 (by as_aux_lemma => kernel_rfl) ?_
    refine evo_endS (by as_aux_lemma => kernel_rfl) (fun τ hτ => ?_)
    refine th_normalS hτ [(5, (vI r13)), (6, (vI r14))] (by as_aux_lemma => kernel_rfl) ?_
    refine sem_seqJ (fun (j15 : Int) => [(5, (vI j15))]) (sheetmetalref01_Distance_k1) r (by as_aux_lemma => kernel_rfl) (fun j15 h => ?_) ?_
    · refine sem_seq (by as_aux_lemma => kernel_rfl) ?_
      refine sem_seq (by as_aux_lemma => kernel_rfl) ?_
      refine sem_region (by as_aux_lemma => kernel_rfl) ?_
      refine evs_run 2 (by as_aux_lemma => kernel_rfl) ?_
      refine evs_endS (by as_aux_lemma => kernel_rfl) (fun τ hτ => ?_)
      refine th_normalS hτ [(5, (vI j15)), (50, (vB (decide (j15 < 0))))] (by as_aux_lemma => kernel_rfl) ?_
      refine sem_cond (decide (j15 < 0)) (by as_aux_lemma => kernel_rfl) (by as_aux_lemma => kernel_rfl) (fun hb => ?_) (fun hb => ?_)
      · replace h := iteT hb h
        refine sem_seq (by as_aux_lemma => kernel_rfl) ?_
        refine sem_region (by as_aux_lemma => kernel_rfl) ?_
        refine evs_run 1 (by as_aux_lemma => kernel_rfl) ?_
        refine evs_endS (by as_aux_lemma => kernel_rfl) (fun τ hτ => ?_)
        refine th_normalS hτ [(4, (vI 0))] (by as_aux_lemma => kernel_rfl) ?_
        refine sem_retS (by as_aux_lemma => kernel_rfl) (fun τ hτ => ?_)
        refine th_ret ?_
        obtain rfl := Option.some.inj h
        exact rv_ret hτ (by as_aux_lemma => kernel_rfl)
      · replace h := iteF hb h
        refine sem_skipS (by as_aux_lemma => kernel_rfl) (fun τ hτ => ?_)
        refine th_normalS hτ [(5, (vI j15))] (by as_aux_lemma => kernel_rfl) ?_
        refine sem_seq (by as_aux_lemma => kernel_rfl) ?_
        refine sem_region (by as_aux_lemma => kernel_rfl) ?_
        refine evs_run 2 (by as_aux_lemma => kernel_rfl) ?_
        refine evs_endS (by as_aux_lemma => kernel_rfl) (fun τ hτ => ?_)
        refine th_normalS hτ [(4, (vI j15))] (by as_aux_lemma => kernel_rfl) ?_
        refine sem_retS (by as_aux_lemma => kernel_rfl) (fun τ hτ => ?_)
        obtain rfl := Option.some.inj h
        exact rv_ret hτ (by as_aux_lemma => kernel_rfl)
    refine sem_seq (by as_aux_lemma => kernel_rfl) ?_
    refine sem_region (by as_aux_lemma => kernel_rfl) ?_
    refine evs_run 3 (by as_aux_lemma => kernel_rfl) ?_
    refine evs_endS (by as_aux_lemma => kernel_rfl) (fun τ hτ => ?_)
    refine th_normalS hτ [(5, (vI r13)), (6, (vI r14)), (47, (vB (decide (r14 > r13))))] (by as_aux_lemma => kernel_rfl) ?_
    refine sem_cond (decide (r14 > r13)) (by as_aux_lemma => kernel_rfl) (by as_aux_lemma => kernel_rfl) (fun hb => ?_) (fun hb => ?_)
    · replace h := iteT hb h
      refine sem_region (by as_aux_lemma => kernel_rfl) ?_
      refine evs_run 2 (by as_aux_lemma => kernel_rfl) ?_
      refine evs_endS (by as_aux_lemma => kernel_rfl) (fun τ hτ => ?_)
      exact jk_normal r14 h hτ (by as_aux_lemma => kernel_rfl)
    · replace h := iteF hb h
      refine sem_skipS (by as_aux_lemma => kernel_rfl) (fun τ hτ => ?_)
      exact jk_normal r13 h hτ (by as_aux_lemma => kernel_rfl)
theorem W.sheetmetallaw01_GeomRects_ok {a : Rect} {a1 : Rect} {r : Bool} (h : sheetmetallaw01_GeomRects a a1 = some r) : PCalls G.P 6 [(.agg [(vI a.X), (vI a.Y), (vI a.W), (vI a.H)]), (.agg [(vI a1.X), (vI a1.Y), (vI a1.W), (vI a1.H)])] (vB r) := by
  refine pc_view G (fn := Try.f6) Try.func6 (by as_aux_lemma => kernel_rfl) (by as_aux_lemma => kernel_rfl) (by as_aux_lemma => kernel_rfl) (by as_aux_lemma => kernel_rfl) ?_
  refine sem_set [(0, (.agg [(vI a.X), (vI a.Y), (vI a.W), (vI a.H)])), (1, (.agg [(vI a1.X), (vI a1.Y), (vI a1.W), (vI a1.H)]))] (by as_aux_lemma => kernel_rfl) ?_
  refine sem_seq (by as_aux_lemma => kernel_rfl) ?_
  refine sem_region (by as_aux_lemma => kernel_rfl) ?_
  refine evs_run 3 (by as_aux_lemma => kernel_rfl) ?_
  refine evs_endS (by as_aux_lemma => kernel_rfl) (fun τ hτ => ?_)
  refine th_normalS hτ [(2, (.ptr 2 [(vI a.X), (vI a.Y), (vI a.W), (vI a.H)] 0)), (3, (.ptr 3 [(vI a1.X), (vI a1.Y), (vI a1.W), (vI a1.H)] 0))] (by as_aux_lemma => kernel_rfl) ?_
  refine sem_seq (by as_aux_lemma => kernel_rfl) ?_
  refine sem_seq (by as_aux_lemma => kernel_rfl) ?_
  obtain ⟨j26, hj26, h⟩ := bindS h
  refine sem_drawC [] 29 [(2, (.ptr 2 [(vI a.X), (vI a.Y), (vI a.W), (vI a.H)] 0)), (3, (.ptr 3 [(vI a1.X), (vI a1.Y), (vI a1.W), (vI a1.H)] 0))] [(2, (.ptr 2 [(vI a.X), (vI a.Y), (vI a.W), (vI a.H)] 0)), (3, (.ptr 3 [(vI a1.X), (vI a1.Y), (vI a1.W), (vI a1.H)] 0)), (36, (vB j26))] (by as_aux_lemma => kernel_rfl) (by as_aux_lemma => kernel_rfl) (by as_aux_lemma => kernel_rfl) ?_ (fun τ hτ => ?_)
  · replace h := hj26
    refine evd_run 1 (by as_aux_lemma => kernel_rfl) ?_
    obtain ⟨r27, hr27, h⟩ := bindS h
    refine evd_call (b := true) (by as_aux_lemma => kernel_rfl) (by as_aux_lemma => kernel_rfl) (W.geom_ValidRect_ok hr27) (.inl rfl) ?_
    refine evd_run 1 (by as_aux_lemma => kernel_rfl) ?_
    obtain ⟨r28, hr28, h⟩ := bindS h
    refine evd_call (b := true) (by as_aux_lemma => kernel_rfl) (by as_aux_lemma => kernel_rfl) (W.sheetmetalref01_ValidRect_ok hr28) (.inl rfl) ?_
    refine evd_run 2 (by as_aux_lemma => kernel_rfl) ?_
    refine evd_split (r27 == r28) (fun b0 => [(10, (vB (!b0))), (9, (vB (!b0))), (8, (vB r28)), (7, (.agg [(vI a.X), (vI a.Y), (vI a.W), (vI a.H)])), (6, (vB r27)), (5, (.agg [(vI a.X), (vI a.Y), (vI a.W), (vI a.H)])), (2, (.ptr 2 [(vI a.X), (vI a.Y), (vI a.W), (vI a.H)] 0)), (3, (.ptr 3 [(vI a1.X), (vI a1.Y), (vI a1.W), (vI a1.H)] 0))]) (by as_aux_lemma => kernel_rfl) (fun hb => ?_) (fun hb => ?_)
    · replace h := iteT hb h
      refine evd_run 2 (by as_aux_lemma => kernel_rfl) ?_
      obtain ⟨r29, hr29, h⟩ := bindS h
      refine evd_call (b := true) (by as_aux_lemma => kernel_rfl) (by as_aux_lemma => kernel_rfl) (W.geom_Overlap_ok hr29) (.inl rfl) ?_
      refine evd_run 2 (by as_aux_lemma => kernel_rfl) ?_
      obtain ⟨r30, hr30, h⟩ := bindS h
      refine evd_call (b := true) (by as_aux_lemma => kernel_rfl) (by as_aux_lemma => kernel_rfl) (W.sheetmetalref01_Overlap_ok hr30) (.inl rfl) ?_
      refine evd_run 3 (by as_aux_lemma => kernel_rfl) ?_
      refine evd_split (r29 == r30) (fun b0 => [(19, (vB (!b0))), (18, (vB (!b0))), (17, (vB (!b0))), (16, (vB r30)), (15, (.agg [(vI a1.X), (vI a1.Y), (vI a1.W), (vI a1.H)])), (14, (.agg [(vI a.X), (vI a.Y), (vI a.W), (vI a.H)])), (13, (vB r29)), (12, (.agg [(vI a1.X), (vI a1.Y), (vI a1.W), (vI a1.H)])), (11, (.agg [(vI a.X), (vI a.Y), (vI a.W), (vI a.H)])), (10, (vB false)), (9, (vB false)), (8, (vB r28)), (7, (.agg [(vI a.X), (vI a.Y), (vI a.W), (vI a.H)])), (6, (vB r27)), (5, (.agg [(vI a.X), (vI a.Y), (vI a.W), (vI a.H)])), (2, (.ptr 2 [(vI a.X), (vI a.Y), (vI a.W), (vI a.H)] 0)), (3, (.ptr 3 [(vI a1.X), (vI a1.Y), (vI a1.W), (vI a1.H)] 0))]) (by as_aux_lemma => kernel_rfl) (fun hb => ?_) (fun hb => ?_)
      · replace h := iteT hb h
        refine evd_run 2 (by as_aux_lemma => kernel_rfl) ?_
        obtain ⟨r31, hr31, h⟩ := bindS h
        refine evd_call (b := true) (by as_aux_lemma => kernel_rfl) (by as_aux_lemma => kernel_rfl) (W.geom_Inside_ok hr31) (.inl rfl) ?_
        refine evd_run 2 (by as_aux_lemma => kernel_rfl) ?_
        obtain ⟨r32, hr32, h⟩ := bindS h
        refine evd_call (b := true) (by as_aux_lemma => kernel_rfl) (by as_aux_lemma => kernel_rfl) (W.sheetmetalref01_Inside_ok hr32) (.inl rfl) ?_
        refine evd_run 3 (by as_aux_lemma => kernel_rfl) ?_
        refine evd_split (r31 == r32) (fun b0 => [(28, (vB (!b0))), (27, (vB (!b0))), (26, (vB (!b0))), (25, (vB r32)), (24, (.agg [(vI a1.X), (vI a1.Y), (vI a1.W), (vI a1.H)])), (23, (.agg [(vI a.X), (vI a.Y), (vI a.W), (vI a.H)])), (22, (vB r31)), (21, (.agg [(vI a1.X), (vI a1.Y), (vI a1.W), (vI a1.H)])), (20, (.agg [(vI a.X), (vI a.Y), (vI a.W), (vI a.H)])), (19, (vB false)), (18, (vB false)), (17, (vB false)), (16, (vB r30)), (15, (.agg [(vI a1.X), (vI a1.Y), (vI a1.W), (vI a1.H)])), (14, (.agg [(vI a.X), (vI a.Y), (vI a.W), (vI a.H)])), (13, (vB r29)), (12, (.agg [(vI a1.X), (vI a1.Y), (vI a1.W), (vI a1.H)])), (11, (.agg [(vI a.X), (vI a.Y), (vI a.W), (vI a.H)])), (10, (vB false)), (9, (vB false)), (8, (vB r28)), (7, (.agg [(vI a.X), (vI a.Y), (vI a.W), (vI a.H)])), (6, (vB r27)), (5, (.agg [(vI a.X), (vI a.Y), (vI a.W), (vI a.H)])), (2, (.ptr 2 [(vI a.X), (vI a.Y), (vI a.W), (vI a.H)] 0)), (3, (.ptr 3 [(vI a1.X), (vI a1.Y), (vI a1.W), (vI a1.H)] 0))]) (by as_aux_lemma => kernel_rfl) (fun hb => ?_) (fun hb => ?_)
        · replace h := iteT hb h
          refine evd_run 2 (by as_aux_lemma => kernel_rfl) ?_
          obtain ⟨r33, hr33, h⟩ := bindS h
          refine evd_call (b := true) (by as_aux_lemma => kernel_rfl) (by as_aux_lemma => kernel_rfl) (W.geom_Distance_ok hr33) (.inl rfl) ?_
          refine evd_run 2 (by as_aux_lemma => kernel_rfl) ?_
          refine evd_tail (by as_aux_lemma => kernel_rfl) ?_
          obtain ⟨r34, hr34, h⟩ := bindS h
          refine evo_call (b := true) (by as_aux_lemma => kernel_rfl) (W.sheetmetalref01_Distance_ok hr34) (.inl rfl) ?_
          refine evo_run 2 (by as_aux_lemma => kernel_rfl) ?_
          refine evo_endS (by as_aux_lemma => kernel_rfl) (fun τ hτ => ?_)
          obtain rfl := Option.some.inj h
          exact leafC hτ (by as_aux_lemma => kernel_rfl)
        · replace h := iteF hb h
          refine evd_run 5 (by as_aux_lemma => kernel_rfl) ?_
          refine evd_tail (by as_aux_lemma => kernel_rfl) ?_
          refine evo_run 3 (by as_aux_lemma => kernel_rfl) ?_
          refine evo_endS (by as_aux_lemma => kernel_rfl) (fun τ hτ => ?_)
          obtain rfl := Option.some.inj h
          exact leafC hτ (by as_aux_lemma => kernel_rfl)
      · replace h := iteF hb h
        refine evd_run 14 (by as_aux_lemma => kernel_rfl) ?_
        refine evd_tail (by as_aux_lemma => kernel_rfl) ?_
        refine evo_run 3 (by as_aux_lemma => kernel_rfl) ?_
        refine evo_endS (by as_aux_lemma => kernel_rfl) (fun τ hτ => ?_)
        obtain rfl := Option.some.inj h
        exact leafC hτ (by as_aux_lemma => kernel_rfl)
    · replace h := iteF hb h
      refine evd_run 23 (by as_aux_lemma => kernel_rfl) ?_
      refine evd_tail (by as_aux_lemma => kernel_rfl) ?_
      refine evo_run 3 (by as_aux_lemma => kernel_rfl) ?_
      refine evo_endS (by as_aux_lemma => kernel_rfl) (fun τ hτ => ?_)
      obtain rfl := Option.some.inj h
      exact leafC hτ (by as_aux_lemma => kernel_rfl)
  refine th_normalS hτ [(2, (.ptr 2 [(vI a.X), (vI a.Y), (vI a.W), (vI a.H)] 0)), (3, (.ptr 3 [(vI a1.X), (vI a1.Y), (vI a1.W), (vI a1.H)] 0)), (36, (vB j26))] (by as_aux_lemma => kernel_rfl) ?_
  refine sem_cond j26 (by as_aux_lemma => kernel_rfl) (by as_aux_lemma => kernel_rfl) (fun hb => ?_) (fun hb => ?_)
  · replace h := iteT hb h
    refine sem_seq (by as_aux_lemma => kernel_rfl) ?_
    refine sem_region (by as_aux_lemma => kernel_rfl) ?_
    refine evs_run 1 (by as_aux_lemma => kernel_rfl) ?_
    refine evs_endS (by as_aux_lemma => kernel_rfl) (fun τ hτ => ?_)
    refine th_normalS hτ [(4, (vB false))] (by as_aux_lemma => kernel_rfl) ?_
    refine sem_retS (by as_aux_lemma => kernel_rfl) (fun τ hτ => ?_)
    refine th_ret ?_
    obtain rfl := Option.some.inj h
    exact rv_ret hτ (by as_aux_lemma => kernel_rfl)
  · replace h := iteF hb h
    refine sem_skipS (by as_aux_lemma => kernel_rfl) (fun τ hτ => ?_)
    refine th_normalS hτ [(2, (.ptr 2 [(vI a.X), (vI a.Y), (vI a.W), (vI a.H)] 0)), (3, (.ptr 3 [(vI a1.X), (vI a1.Y), (vI a1.W), (vI a1.H)] 0))] (by as_aux_lemma => kernel_rfl) ?_
    refine sem_seq (by as_aux_lemma => kernel_rfl) ?_
    obtain ⟨j43, hj43, h⟩ := bindS h
    refine sem_drawC [] 24 [(2, (.ptr 2 [(vI a.X), (vI a.Y), (vI a.W), (vI a.H)] 0)), (3, (.ptr 3 [(vI a1.X), (vI a1.Y), (vI a1.W), (vI a1.H)] 0))] [(4, (vB j43))] (by as_aux_lemma => kernel_rfl) (by as_aux_lemma => kernel_rfl) (by as_aux_lemma => kernel_rfl) ?_ (fun τ hτ => ?_)
    · replace h := hj43
      refine evd_run 2 (by as_aux_lemma => kernel_rfl) ?_
      obtain ⟨r44, hr44, h⟩ := bindS h
      refine evd_call (b := true) (by as_aux_lemma => kernel_rfl) (by as_aux_lemma => kernel_rfl) (W.geom_Overlap_ok hr44) (.inl rfl) ?_
      refine evd_run 2 (by as_aux_lemma => kernel_rfl) ?_
      obtain ⟨r45, hr45, h⟩ := bindS h
      refine evd_call (b := true) (by as_aux_lemma => kernel_rfl) (by as_aux_lemma => kernel_rfl) (W.geom_Overlap_ok hr45) (.inl rfl) ?_
      refine evd_run 2 (by as_aux_lemma => kernel_rfl) ?_
      refine evd_split (r44 == r45) (fun b0 => [(44, (vB b0)), (43, (vB b0)), (42, (vB r45)), (41, (.agg [(vI a.X), (vI a.Y), (vI a.W), (vI a.H)])), (40, (.agg [(vI a1.X), (vI a1.Y), (vI a1.W), (vI a1.H)])), (39, (vB r44)), (38, (.agg [(vI a1.X), (vI a1.Y), (vI a1.W), (vI a1.H)])), (37, (.agg [(vI a.X), (vI a.Y), (vI a.W), (vI a.H)])), (2, (.ptr 2 [(vI a.X), (vI a.Y), (vI a.W), (vI a.H)] 0)), (3, (.ptr 3 [(vI a1.X), (vI a1.Y), (vI a1.W), (vI a1.H)] 0))]) (by as_aux_lemma => kernel_rfl) (fun hb => ?_) (fun hb => ?_)
      · replace h := iteT hb h
        refine evd_run 2 (by as_aux_lemma => kernel_rfl) ?_
        obtain ⟨r46, hr46, h⟩ := bindS h
        refine evd_call (b := true) (by as_aux_lemma => kernel_rfl) (by as_aux_lemma => kernel_rfl) (W.geom_Distance_ok hr46) (.inl rfl) ?_
        refine evd_run 2 (by as_aux_lemma => kernel_rfl) ?_
        obtain ⟨r47, hr47, h⟩ := bindS h
        refine evd_call (b := true) (by as_aux_lemma => kernel_rfl) (by as_aux_lemma => kernel_rfl) (W.geom_Distance_ok hr47) (.inl rfl) ?_
        refine evd_run 3 (by as_aux_lemma => kernel_rfl) ?_
        refine evd_split (r46 == r47) (fun b0 => [(53, (vB b0)), (52, (vB b0)), (51, (vB b0)), (50, (vI r47)), (49, (.agg [(vI a.X), (vI a.Y), (vI a.W), (vI a.H)])), (48, (.agg [(vI a1.X), (vI a1.Y), (vI a1.W), (vI a1.H)])), (47, (vI r46)), (46, (.agg [(vI a1.X), (vI a1.Y), (vI a1.W), (vI a1.H)])), (45, (.agg [(vI a.X), (vI a.Y), (vI a.W), (vI a.H)])), (44, (vB true)), (43, (vB true)), (42, (vB r45)), (41, (.agg [(vI a.X), (vI a.Y), (vI a.W), (vI a.H)])), (40, (.agg [(vI a1.X), (vI a1.Y), (vI a1.W), (vI a1.H)])), (39, (vB r44)), (38, (.agg [(vI a1.X), (vI a1.Y), (vI a1.W), (vI a1.H)])), (37, (.agg [(vI a.X), (vI a.Y), (vI a.W), (vI a.H)])), (2, (.ptr 2 [(vI a.X), (vI a.Y), (vI a.W), (vI a.H)] 0)), (3, (.ptr 3 [(vI a1.X), (vI a1.Y), (vI a1.W), (vI a1.H)] 0))]) (by as_aux_lemma => kernel_rfl) (fun hb => ?_) (fun hb => ?_)
        · replace h := iteT hb h
          refine evd_run 2 (by as_aux_lemma => kernel_rfl) ?_
          obtain ⟨r48, hr48, h⟩ := bindS h
          refine evd_call (b := true) (by as_aux_lemma => kernel_rfl) (by as_aux_lemma => kernel_rfl) (W.geom_Overlap_ok hr48) (.inl rfl) ?_
          refine evd_run 2 (by as_aux_lemma => kernel_rfl) ?_
          refine evd_split r48 (fun b0 => [(58, (vB (!b0))), (57, (vB (!b0))), (56, (vB b0)), (55, (.agg [(vI a1.X), (vI a1.Y), (vI a1.W), (vI a1.H)])), (54, (.agg [(vI a.X), (vI a.Y), (vI a.W), (vI a.H)])), (53, (vB true)), (52, (vB true)), (51, (vB true)), (50, (vI r47)), (49, (.agg [(vI a.X), (vI a.Y), (vI a.W), (vI a.H)])), (48, (.agg [(vI a1.X), (vI a1.Y), (vI a1.W), (vI a1.H)])), (47, (vI r46)), (46, (.agg [(vI a1.X), (vI a1.Y), (vI a1.W), (vI a1.H)])), (45, (.agg [(vI a.X), (vI a.Y), (vI a.W), (vI a.H)])), (44, (vB true)), (43, (vB true)), (42, (vB r45)), (41, (.agg [(vI a.X), (vI a.Y), (vI a.W), (vI a.H)])), (40, (.agg [(vI a1.X), (vI a1.Y), (vI a1.W), (vI a1.H)])), (39, (vB r44)), (38, (.agg [(vI a1.X), (vI a1.Y), (vI a1.W), (vI a1.H)])), (37, (.agg [(vI a.X), (vI a.Y), (vI a.W), (vI a.H)])), (2, (.ptr 2 [(vI a.X), (vI a.Y), (vI a.W), (vI a.H)] 0)), (3, (.ptr 3 [(vI a1.X), (vI a1.Y), (vI a1.W), (vI a1.H)] 0))]) (by as_aux_lemma => kernel_rfl) (fun hb => ?_) (fun hb => ?_)
          · replace h := iteT hb h
            refine evd_run 2 (by as_aux_lemma => kernel_rfl) ?_
            refine evd_tail (by as_aux_lemma => kernel_rfl) ?_
            obtain ⟨r49, hr49, h⟩ := bindS h
            refine evo_call (b := true) (by as_aux_lemma => kernel_rfl) (W.geom_Distance_ok hr49) (.inl rfl) ?_
            refine evo_run 4 (by as_aux_lemma => kernel_rfl) ?_
            refine evo_split (r49 == 0) (fun b0 => [(65, (vB b0)), (64, (vB b0)), (63, (vB b0)), (62, (vB b0)), (61, (vI r49)), (60, (.agg [(vI a1.X), (vI a1.Y), (vI a1.W), (vI a1.H)])), (59, (.agg [(vI a.X), (vI a.Y), (vI a.W), (vI a.H)])), (58, (vB false)), (57, (vB false)), (56, (vB true)), (55, (.agg [(vI a1.X), (vI a1.Y), (vI a1.W), (vI a1.H)])), (54, (.agg [(vI a.X), (vI a.Y), (vI a.W), (vI a.H)])), (53, (vB true)), (52, (vB true)), (51, (vB true)), (50, (vI r47)), (49, (.agg [(vI a.X), (vI a.Y), (vI a.W), (vI a.H)])), (48, (.agg [(vI a1.X), (vI a1.Y), (vI a1.W), (vI a1.H)])), (47, (vI r46)), (46, (.agg [(vI a1.X), (vI a1.Y), (vI a1.W), (vI a1.H)])), (45, (.agg [(vI a.X), (vI a.Y), (vI a.W), (vI a.H)])), (44, (vB true)), (43, (vB true)), (42, (vB r45)), (41, (.agg [(vI a.X), (vI a.Y), (vI a.W), (vI a.H)])), (40, (.agg [(vI a1.X), (vI a1.Y), (vI a1.W), (vI a1.H)])), (39, (vB r44)), (38, (.agg [(vI a1.X), (vI a1.Y), (vI a1.W), (vI a1.H)])), (37, (.agg [(vI a.X), (vI a.Y), (vI a.W), (vI a.H)])), (2, (.ptr 2 [(vI a.X), (vI a.Y), (vI a.W), (vI a.H)] 0)), (3, (.ptr 3 [(vI a1.X), (vI a1.Y), (vI a1.W), (vI a1.H)] 0))]) (by as_aux_lemma => kernel_rfl) (fun hb => ?_) (fun hb => ?_)
            · replace h := iteT hb h
              obtain ⟨r50, hr50, h⟩ := bindS h
              refine evo_call (b := true) (by as_aux_lemma => kernel_rfl) (W.sheetmetallaw01_known_ok hr50) (.inl rfl) ?_
              refine evo_run 2 (by as_aux_lemma => kernel_rfl) ?_
              refine evo_endS (by as_aux_lemma => kernel_rfl) (fun τ hτ => ?_)
              obtain rfl := Option.some.inj h
              exact leafC hτ (by as_aux_lemma => kernel_rfl)
            · replace h := iteF hb h
              refine evo_run 3 (by as_aux_lemma => kernel_rfl) ?_
              refine evo_endS (by as_aux_lemma => kernel_rfl) (fun τ hτ => ?_)
              obtain rfl := Option.some.inj h
              exact leafC hτ (by as_aux_lemma => kernel_rfl)
          · replace h := iteF hb h
            refine evd_run 2 (by as_aux_lemma => kernel_rfl) ?_
            refine evd_tail (by as_aux_lemma => kernel_rfl) ?_
            refine evo_run 5 (by as_aux_lemma => kernel_rfl) ?_
            obtain ⟨r51, hr51, h⟩ := bindS h
            refine evo_call (b := true) (by as_aux_lemma => kernel_rfl) (W.sheetmetallaw01_known_ok hr51) (.inl rfl) ?_
            refine evo_run 2 (by as_aux_lemma => kernel_rfl) ?_
            refine evo_endS (by as_aux_lemma => kernel_rfl) (fun τ hτ => ?_)
            obtain rfl := Option.some.inj h
            exact leafC hτ (by as_aux_lemma => kernel_rfl)
        · replace h := iteF hb h
          refine evd_run 7 (by as_aux_lemma => kernel_rfl) ?_
          refine evd_tail (by as_aux_lemma => kernel_rfl) ?_
          refine evo_run 8 (by as_aux_lemma => kernel_rfl) ?_
          refine evo_endS (by as_aux_lemma => kernel_rfl) (fun τ hτ => ?_)
          obtain rfl := Option.some.inj h
          exact leafC hτ (by as_aux_lemma => kernel_rfl)
      · replace h := iteF hb h
        refine evd_run 16 (by as_aux_lemma => kernel_rfl) ?_
        refine evd_tail (by as_aux_lemma => kernel_rfl) ?_
        refine evo_run 8 (by as_aux_lemma => kernel_rfl) ?_
        refine evo_endS (by as_aux_lemma => kernel_rfl) (fun τ hτ => ?_)
        obtain rfl := Option.some.inj h
        exact leafC hτ (by as_aux_lemma => kernel_rfl)
    refine th_normalS hτ [(4, (vB j43))] (by as_aux_lemma => kernel_rfl) ?_
    refine sem_retS (by as_aux_lemma => kernel_rfl) (fun τ hτ => ?_)
    obtain rfl := Option.some.inj h
    exact rv_ret hτ (by as_aux_lemma => kernel_rfl)
theorem W.geom_small_ok {l : (List Point)} {r : Bool} (h : geom_small l = some r) : PCalls G.P 73 [(.sl (List.map c_Point l))] (vB r) := by
  refine pc_view G (fn := Try.f73) Try.func73 (by as_aux_lemma => kernel_rfl) (by as_aux_lemma => kernel_rfl) (by as_aux_lemma => kernel_rfl) (by as_aux_lemma => kernel_rfl) ?_
  refine sem_set [(0, (.sl (List.map c_Point l)))] (by as_aux_lemma => kernel_rfl) ?_
  refine sem_seq (by as_aux_lemma => kernel_rfl) ?_
  refine sem_region (by as_aux_lemma => kernel_rfl) ?_
  refine evs_run 1 (by as_aux_lemma => kernel_rfl) ?_
  refine evs_endS (by as_aux_lemma => kernel_rfl) (fun τ hτ => ?_)
  refine th_normalS hτ [(0, (.sl (List.map c_Point l)))] (by as_aux_lemma => kernel_rfl) ?_
  refine sem_seq (by as_aux_lemma => kernel_rfl) ?_
  refine sem_seq (by as_aux_lemma => kernel_rfl) ?_
  refine sem_region (by as_aux_lemma => kernel_rfl) ?_
  refine evs_run 1 (by as_aux_lemma => kernel_rfl) ?_
  refine evs_op (st_len (c := c_Point) (l := l) (x := (.sl (List.map c_Point l))) (by as_aux_lemma => kernel_rfl) (by as_aux_lemma => kernel_rfl)) ?_
  refine evs_run 1 (by as_aux_lemma => kernel_rfl) ?_
  refine evs_endS (by as_aux_lemma => kernel_rfl) (fun τ hτ => ?_)
  refine th_normalS hτ [(5, (.sl (List.map c_Point l))), (6, (vI (l.length : Int))), (7, (vI 0))] (by as_aux_lemma => kernel_rfl) ?_
  refine sem_block (by as_aux_lemma => kernel_rfl) ?_
  obtain ⟨x140, hx140, h⟩ := bindS h
  refine sem_loopS (fun (s95 : Int) => [(5, (.sl (List.map c_Point l))), (6, (vI (l.length : Int))), (7, (vI s95))]) (fun (x140 : Unit ⊕ Unit) => match x140 with | .inl j141 => (.ret, [(2, (vB false))]) | .inr j142 => (.exit 0, [])) (geom_small_l1 l) 0 x140 (by as_aux_lemma => kernel_rfl) (by as_aux_lemma => kernel_rfl) hx140 ?_ ?_ ?_
  · intro s95 r h
    refine sem_seq (by as_aux_lemma => kernel_rfl) ?_
    refine sem_region (by as_aux_lemma => kernel_rfl) ?_
    refine evs_run 1 (by as_aux_lemma => kernel_rfl) ?_
    refine evs_endS (by as_aux_lemma => kernel_rfl) (fun τ hτ => ?_)
    refine th_normalS hτ [(5, (.sl (List.map c_Point l))), (6, (vI (l.length : Int))), (7, (vI s95)), (8, (vB (decide (s95 < (l.length : Int)))))] (by as_aux_lemma => kernel_rfl) ?_
    refine sem_seq (by as_aux_lemma => kernel_rfl) ?_
    refine sem_cond (decide (s95 < (l.length : Int))) (by as_aux_lemma => kernel_rfl) (by as_aux_lemma => kernel_rfl) (fun hb => ?_) (fun hb => ?_)
    · replace h := iteT hb h
      refine sem_skipS (by as_aux_lemma => kernel_rfl) (fun τ hτ => ?_)
      refine th_normalS hτ [(5, (.sl (List.map c_Point l))), (6, (vI (l.length : Int))), (7, (vI s95))] (by as_aux_lemma => kernel_rfl) ?_
      refine sem_seq (by as_aux_lemma => kernel_rfl) ?_
      refine sem_block (by as_aux_lemma => kernel_rfl) ?_
      refine sem_seq (by as_aux_lemma => kernel_rfl) ?_
      refine sem_region (by as_aux_lemma => kernel_rfl) ?_
      obtain ⟨x130, hx130, h⟩ := bindS h
      refine evs_op (st_idx (c := c_Point) (l := l) (i := s95) (kd := .i64) (sz := 4) (by as_aux_lemma => kernel_rfl) hx130 rfl) ?_
      refine evs_run 3 (by as_aux_lemma => kernel_rfl) ?_
      refine evs_endS (by as_aux_lemma => kernel_rfl) (fun τ hτ => ?_)
      refine th_normalS hτ [(4, (.ptr 4 [(vI x130.X.A), (vI x130.X.B), (vI x130.Y.A), (vI x130.Y.B)] 0)), (5, (.sl (List.map c_Point l))), (6, (vI (l.length : Int))), (7, (vI s95))] (by as_aux_lemma => kernel_rfl) ?_
      refine sem_seq (by as_aux_lemma => kernel_rfl) ?_
      obtain ⟨j135, hj135, h⟩ := bindS h
      refine sem_regionC [(5, (.sl (List.map c_Point l))), (6, (vI (l.length : Int))), (7, (vI s95)), (36, (vB j135))] (by as_aux_lemma => kernel_rfl) ?_ (fun τ hτ => ?_)
      · replace h := hj135
        refine evs_run 3 (by as_aux_lemma => kernel_rfl) ?_
        obtain ⟨r136, hr136, h⟩ := bindS h
        refine evs_call (b := true) (by as_aux_lemma => kernel_rfl) (W.geom_within_ok hr136) (.inl rfl) ?_
        refine evs_run 2 (by as_aux_lemma => kernel_rfl) ?_
        refine evs_split r136 (fun b0 => [(4, (.ptr 4 [(vI x130.X.A), (vI x130.X.B), (vI x130.Y.A), (vI x130.Y.B)] 0)), (5, (.sl (List.map c_Point l))), (6, (vI (l.length : Int))), (7, (vI s95)), (16, (vB (!b0)))]) (by as_aux_lemma => kernel_rfl) (fun hb => ?_) (fun hb => ?_)
        · replace h := iteT hb h
          refine evs_run 3 (by as_aux_lemma => kernel_rfl) ?_
          obtain ⟨r137, hr137, h⟩ := bindS h
          refine evs_call (b := true) (by as_aux_lemma => kernel_rfl) (W.geom_within_ok hr137) (.inl rfl) ?_
          refine evs_run 3 (by as_aux_lemma => kernel_rfl) ?_
          refine evs_split r137 (fun b0 => [(4, (.ptr 4 [(vI x130.X.A), (vI x130.X.B), (vI x130.Y.A), (vI x130.Y.B)] 0)), (5, (.sl (List.map c_Point l))), (6, (vI (l.length : Int))), (7, (vI s95)), (17, (.ptr 4 [(vI x130.X.A), (vI x130.X.B), (vI x130.Y.A), (vI x130.Y.B)] 0)), (18, (.ptr 4 [(vI x130.X.A), (vI x130.X.B), (vI x130.Y.A), (vI x130.Y.B)] 1)), (19, (vI x130.X.B)), (20, (vB b0)), (21, (vB (!b0))), (23, (vB (!b0)))]) (by as_aux_lemma => kernel_rfl) (fun hb => ?_) (fun hb => ?_)
          · replace h := iteT hb h
            refine evs_run 3 (by as_aux_lemma => kernel_rfl) ?_
            obtain ⟨r138, hr138, h⟩ := bindS h
            refine evs_call (b := true) (by as_aux_lemma => kernel_rfl) (W.geom_within_ok hr138) (.inl rfl) ?_
            refine evs_run 3 (by as_aux_lemma => kernel_rfl) ?_
            refine evs_split r138 (fun b0 => [(4, (.ptr 4 [(vI x130.X.A), (vI x130.X.B), (vI x130.Y.A), (vI x130.Y.B)] 0)), (5, (.sl (List.map c_Point l))), (6, (vI (l.length : Int))), (7, (vI s95)), (17, (.ptr 4 [(vI x130.X.A), (vI x130.X.B), (vI x130.Y.A), (vI x130.Y.B)] 0)), (18, (.ptr 4 [(vI x130.X.A), (vI x130.X.B), (vI x130.Y.A), (vI x130.Y.B)] 1)), (19, (vI x130.X.B)), (20, (vB true)), (21, (vB false)), (24, (.ptr 4 [(vI x130.X.A), (vI x130.X.B), (vI x130.Y.A), (vI x130.Y.B)] 2)), (25, (.ptr 4 [(vI x130.X.A), (vI x130.X.B), (vI x130.Y.A), (vI x130.Y.B)] 2)), (26, (vI x130.Y.A)), (27, (vB b0)), (28, (vB (!b0))), (30, (vB (!b0)))]) (by as_aux_lemma => kernel_rfl) (fun hb => ?_) (fun hb => ?_)
            · replace h := iteT hb h
              refine evs_run 3 (by as_aux_lemma => kernel_rfl) ?_
              obtain ⟨r139, hr139, h⟩ := bindS h
              refine evs_call (b := true) (by as_aux_lemma => kernel_rfl) (W.geom_within_ok hr139) (.inl rfl) ?_
              refine evs_run 2 (by as_aux_lemma => kernel_rfl) ?_
              refine evs_endS (by as_aux_lemma => kernel_rfl) (fun τ hτ => ?_)
              obtain rfl := Option.some.inj h
              exact leafC hτ (by as_aux_lemma => kernel_rfl)
            · replace h := iteF hb h
              refine evs_run 6 (by as_aux_lemma => kernel_rfl) ?_
              refine evs_endS (by as_aux_lemma => kernel_rfl) (fun τ hτ => ?_)
              obtain rfl := Option.some.inj h
              exact leafC hτ (by as_aux_lemma => kernel_rfl)
          · replace h := iteF hb h
            refine evs_run 13 (by as_aux_lemma => kernel_rfl) ?_
            refine evs_endS (by as_aux_lemma => kernel_rfl) (fun τ hτ => ?_)
            obtain rfl := Option.some.inj h
            exact leafC hτ (by as_aux_lemma => kernel_rfl)
        · replace h := iteF hb h
          refine evs_run 20 (by as_aux_lemma => kernel_rfl) ?_
          refine evs_endS (by as_aux_lemma => kernel_rfl) (fun τ hτ => ?_)
          obtain rfl := Option.some.inj h
          exact leafC hτ (by as_aux_lemma => kernel_rfl)
      refine th_normalS hτ [(5, (.sl (List.map c_Point l))), (6, (vI (l.length : Int))), (7, (vI s95)), (36, (vB j135))] (by as_aux_lemma => kernel_rfl) ?_
      refine sem_cond j135 (by as_aux_lemma => kernel_rfl) (by as_aux_lemma => kernel_rfl) (fun hb => ?_) (fun hb => ?_)
      · replace h := iteT hb h
        refine sem_seq (by as_aux_lemma => kernel_rfl) ?_
        refine sem_region (by as_aux_lemma => kernel_rfl) ?_
        refine evs_run 1 (by as_aux_lemma => kernel_rfl) ?_
        refine evs_endS (by as_aux_lemma => kernel_rfl) (fun τ hτ => ?_)
        refine th_normalS hτ [(2, (vB false))] (by as_aux_lemma => kernel_rfl) ?_
        refine sem_retS (by as_aux_lemma => kernel_rfl) (fun τ hτ => ?_)
        refine bl_ret ?_
        refine th_ret ?_
        obtain rfl := Option.some.inj h
        exact lk_outS hτ rfl (by as_aux_lemma => kernel_rfl)
      · replace h := iteF hb h
        refine sem_skipS (by as_aux_lemma => kernel_rfl) (fun τ hτ => ?_)
        refine bl_normal ?_
        refine th_normalS hτ [(5, (.sl (List.map c_Point l))), (6, (vI (l.length : Int))), (7, (vI s95))] (by as_aux_lemma => kernel_rfl) ?_
        refine sem_region (by as_aux_lemma => kernel_rfl) ?_
        refine evs_run 2 (by as_aux_lemma => kernel_rfl) ?_
        refine evs_endS (by as_aux_lemma => kernel_rfl) (fun τ hτ => ?_)
        obtain rfl := Option.some.inj h
        exact lk_nextS hτ (by as_aux_lemma => kernel_rfl)
    · replace h := iteF hb h
      refine sem_exitS 0 (by as_aux_lemma => kernel_rfl) rfl (fun τ hτ => ?_)
      refine th_exit ?_
      obtain rfl := Option.some.inj h
      exact lk_outS hτ rfl (by as_aux_lemma => kernel_rfl)
  · intro x
    rcases x with _ | _ <;> rfl
  · intro τ hτ
    rcases x140 with j141 | j142
    · refine bl_ret ?_
      refine th_ret ?_
      obtain rfl := Option.some.inj h
      exact rv_ret hτ (by as_aux_lemma => kernel_rfl)
    · refine bl_hit (by as_aux_lemma => kernel_rfl) ?_
      refine th_normalS hτ [] (by as_aux_lemma => kernel_rfl) ?_
      refine sem_seq (by as_aux_lemma => kernel_rfl) ?_
      refine sem_region (by as_aux_lemma => kernel_rfl) ?_
      refine evs_run 1 (by as_aux_lemma => kernel_rfl) ?_
      refine evs_endS (by as_aux_lemma => kernel_rfl) (fun τ hτ => ?_)
      refine th_normalS hτ [(2, (vB true))] (by as_aux_lemma => kernel_rfl) ?_
      refine sem_retS (by as_aux_lemma => kernel_rfl) (fun τ hτ => ?_)
      obtain rfl := Option.some.inj h
      exact rv_ret hτ (by as_aux_lemma => kernel_rfl)
theorem W.geom_orient_ok {a : Point} {b : Point} {c : Point} {r : Int} (h : geom_orient a b c = some r) : PCalls G.P 74 [(.agg [(vI a.X.A), (vI a.X.B), (vI a.Y.A), (vI a.Y.B)]), (.agg [(vI b.X.A), (vI b.X.B), (vI b.Y.A), (vI b.Y.B)]), (.agg [(vI c.X.A), (vI c.X.B), (vI c.Y.A), (vI c.Y.B)])] (vI r) := by
  refine pc_view G (fn := Try.f74) Try.func74 (by as_aux_lemma => kernel_rfl) (by as_aux_lemma => kernel_rfl) (by as_aux_lemma => kernel_rfl) (by as_aux_lemma => kernel_rfl) ?_
  refine sem_set [(0, (.agg [(vI a.X.A), (vI a.X.B), (vI a.Y.A), (vI a.Y.B)])), (1, (.agg [(vI b.X.A), (vI b.X.B), (vI b.Y.A), (vI b.Y.B)])), (2, (.agg [(vI c.X.A), (vI c.X.B), (vI c.Y.A), (vI c.Y.B)]))] (by as_aux_lemma => kernel_rfl) ?_
  refine sem_seq (by as_aux_lemma => kernel_rfl) ?_
  refine sem_region (by as_aux_lemma => kernel_rfl) ?_
  refine evs_run 4 (by as_aux_lemma => kernel_rfl) ?_
  refine evs_endS (by as_aux_lemma => kernel_rfl) (fun τ hτ => ?_)
  refine th_normalS hτ [(3, (.ptr 3 [(vI a.X.A), (vI a.X.B), (vI a.Y.A), (vI a.Y.B)] 0)), (4, (.ptr 4 [(vI b.X.A), (vI b.X.B), (vI b.Y.A), (vI b.Y.B)] 0)), (5, (.ptr 5 [(vI c.X.A), (vI c.X.B), (vI c.Y.A), (vI c.Y.B)] 0))] (by as_aux_lemma => kernel_rfl) ?_
  refine sem_seq (by as_aux_lemma => kernel_rfl) ?_
  refine sem_draw [[7], [7], [7], [7], [7], [7], [7], [7], [7], [7], [7], []] 12 [(3, (.ptr 3 [(vI a.X.A), (vI a.X.B), (vI a.Y.A), (vI a.Y.B)] 0)), (4, (.ptr 4 [(vI b.X.A), (vI b.X.B), (vI b.Y.A), (vI b.Y.B)] 0)), (5, (.ptr 5 [(vI c.X.A), (vI c.X.B), (vI c.Y.A), (vI c.Y.B)] 0))] (by as_aux_lemma => kernel_rfl) (by as_aux_lemma => kernel_rfl) (by as_aux_lemma => kernel_rfl) ?_
  refine evd_run 4 (by as_aux_lemma => kernel_rfl) ?_
  obtain ⟨r4, hr4, h⟩ := bindS h
  refine evd_call (b := true) (by as_aux_lemma => kernel_rfl) (by as_aux_lemma => kernel_rfl) (W.geom_minus_ok hr4) (.inl rfl) ?_
  refine evd_run 4 (by as_aux_lemma => kernel_rfl) ?_
  obtain ⟨r5, hr5, h⟩ := bindS h
  refine evd_call (b := true) (by as_aux_lemma => kernel_rfl) (by as_aux_lemma => kernel_rfl) (W.geom_minus_ok hr5) (.inl rfl) ?_
  obtain ⟨r6, hr6, h⟩ := bindS h
  refine evd_call (b := true) (by as_aux_lemma => kernel_rfl) (by as_aux_lemma => kernel_rfl) (W.geom_times_ok hr6) (.inl rfl) ?_
  refine evd_run 1 (by as_aux_lemma => kernel_rfl) ?_
  refine evd_tail (by as_aux_lemma => kernel_rfl) ?_
  refine evo_run 1 (by as_aux_lemma => kernel_rfl) ?_
  refine evo_endS (by as_aux_lemma => kernel_rfl) (fun τ hτ => ?_)
  refine th_normalS hτ [(3, (.ptr 3 [(vI a.X.A), (vI a.X.B), (vI a.Y.A), (vI a.Y.B)] 0)), (4, (.ptr 4 [(vI b.X.A), (vI b.X.B), (vI b.Y.A), (vI b.Y.B)] 0)), (5, (.ptr 5 [(vI c.X.A), (vI c.X.B), (vI c.Y.A), (vI c.Y.B)] 0)), (7, (.ptr 7 [(vI r6.A), (vI r6.B)] 0))] (by as_aux_lemma => kernel_rfl) ?_
  refine sem_seq (by as_aux_lemma => kernel_rfl) ?_
  refine sem_draw [[8], [8], [8], [8], [8], [8], [8], [8], [8], [8], [8], []] 12 [(3, (.ptr 3 [(vI a.X.A), (vI a.X.B), (vI a.Y.A), (vI a.Y.B)] 0)), (4, (.ptr 4 [(vI b.X.A), (vI b.X.B), (vI b.Y.A), (vI b.Y.B)] 0)), (5, (.ptr 5 [(vI c.X.A), (vI c.X.B), (vI c.Y.A), (vI c.Y.B)] 0)), (7, (.ptr 7 [(vI r6.A), (vI r6.B)] 0))] (by as_aux_lemma => kernel_rfl) (by as_aux_lemma => kernel_rfl) (by as_aux_lemma => kernel_rfl) ?_
  refine evd_run 4 (by as_aux_lemma => kernel_rfl) ?_
  obtain ⟨r10, hr10, h⟩ := bindS h
  refine evd_call (b := true) (by as_aux_lemma => kernel_rfl) (by as_aux_lemma => kernel_rfl) (W.geom_minus_ok hr10) (.inl rfl) ?_
  refine evd_run 4 (by as_aux_lemma => kernel_rfl) ?_
  obtain ⟨r11, hr11, h⟩ := bindS h
  refine evd_call (b := true) (by as_aux_lemma => kernel_rfl) (by as_aux_lemma => kernel_rfl) (W.geom_minus_ok hr11) (.inl rfl) ?_
  obtain ⟨r12, hr12, h⟩ := bindS h
  refine evd_call (b := true) (by as_aux_lemma => kernel_rfl) (by as_aux_lemma => kernel_rfl) (W.geom_times_ok hr12) (.inl rfl) ?_
  refine evd_run 1 (by as_aux_lemma => kernel_rfl) ?_
  refine evd_tail (by as_aux_lemma => kernel_rfl) ?_
  refine evo_run 1 (by as_aux_lemma => kernel_rfl) ?_
  refine evo_endS (by as_aux_lemma => kernel_rfl) (fun τ hτ => ?_)
  refine th_normalS hτ [(7, (.ptr 7 [(vI r6.A), (vI r6.B)] 0)), (8, (.ptr 8 [(vI r12.A), (vI r12.B)] 0))] (by as_aux_lemma => kernel_rfl) ?_
  refine sem_seq (by as_aux_lemma => kernel_rfl) ?_
  refine sem_region (by as_aux_lemma => kernel_rfl) ?_
  refine evs_run 2 (by as_aux_lemma => kernel_rfl) ?_
  obtain ⟨r15, hr15, h⟩ := bindS h
  refine evs_call (b := true) (by as_aux_lemma => kernel_rfl) (W.geom_minus_ok hr15) (.inl rfl) ?_
  obtain ⟨r16, hr16, h⟩ := bindS h
  refine evs_call (b := true) (by as_aux_lemma => kernel_rfl) (W.geom_signOf_ok hr16) (.inl rfl) ?_
  refine evs_run 1 (by as_aux_lemma => kernel_rfl) ?_
  refine evs_endS (by as_aux_lemma => kernel_rfl) (fun τ hτ => ?_)
  refine th_normalS hτ [(6, (vI r16))] (by as_aux_lemma => kernel_rfl) ?_
  refine sem_retS (by as_aux_lemma => kernel_rfl) (fun τ hτ => ?_)
  obtain rfl := Option.some.inj h
  exact rv_ret hτ (by as_aux_lemma => kernel_rfl)
theorem W.geom_Orient_ok {a : Point} {b : Point} {c : Point} {r : Int × Int} (h : geom_Orient a b c = some r) : PCalls G.P 34 [(.agg [(vI a.X.A), (vI a.X.B), (vI a.Y.A), (vI a.Y.B)]), (.agg [(vI b.X.A), (vI b.X.B), (vI b.Y.A), (vI b.Y.B)]), (.agg [(vI c.X.A), (vI c.X.B), (vI c.Y.A), (vI c.Y.B)])] (.tup [(vI r.1), (vI r.2)]) := by
  refine pc_view G (fn := Try.f34) Try.func34 (by as_aux_lemma => kernel_rfl) (by as_aux_lemma => kernel_rfl) (by as_aux_lemma => kernel_rfl) (by as_aux_lemma => kernel_rfl) ?_
  refine sem_set [(0, (.agg [(vI a.X.A), (vI a.X.B), (vI a.Y.A), (vI a.Y.B)])), (1, (.agg [(vI b.X.A), (vI b.X.B), (vI b.Y.A), (vI b.Y.B)])), (2, (.agg [(vI c.X.A), (vI c.X.B), (vI c.Y.A), (vI c.Y.B)]))] (by as_aux_lemma => kernel_rfl) ?_
  refine sem_seq (by as_aux_lemma => kernel_rfl) ?_
  refine sem_region (by as_aux_lemma => kernel_rfl) ?_
  refine evs_run 5 (by as_aux_lemma => kernel_rfl) ?_
  refine evs_endS (by as_aux_lemma => kernel_rfl) (fun τ hτ => ?_)
  refine th_normalS hτ [(3, (.ptr 3 [(vI a.X.A), (vI a.X.B), (vI a.Y.A), (vI a.Y.B)] 0)), (4, (.ptr 4 [(vI b.X.A), (vI b.X.B), (vI b.Y.A), (vI b.Y.B)] 0)), (5, (.ptr 5 [(vI c.X.A), (vI c.X.B), (vI c.Y.A), (vI c.Y.B)] 0))] (by as_aux_lemma => kernel_rfl) ?_
  refine sem_seq (by as_aux_lemma => kernel_rfl) ?_
  refine sem_seq (by as_aux_lemma => kernel_rfl) ?_
  refine sem_region (by as_aux_lemma => kernel_rfl) ?_
  refine evs_run 4 (by as_aux_lemma => kernel_rfl) ?_
  obtain ⟨r4, hr4, h⟩ := bindS h
  refine evs_call (b := true) (by as_aux_lemma => kernel_rfl) (W.geom_small_ok hr4) (.inl rfl) ?_
  refine evs_run 1 (by as_aux_lemma => kernel_rfl) ?_
  refine evs_endS (by as_aux_lemma => kernel_rfl) (fun τ hτ => ?_)
  refine th_normalS hτ [(3, (.ptr 3 [(vI a.X.A), (vI a.X.B), (vI a.Y.A), (vI a.Y.B)] 0)), (4, (.ptr 4 [(vI b.X.A), (vI b.X.B), (vI b.Y.A), (vI b.Y.B)] 0)), (5, (.ptr 5 [(vI c.X.A), (vI c.X.B), (vI c.Y.A), (vI c.Y.B)] 0)), (13, (vB (!r4)))] (by as_aux_lemma => kernel_rfl) ?_
  refine sem_cond (!r4) (by as_aux_lemma => kernel_rfl) (by as_aux_lemma => kernel_rfl) (fun hb => ?_) (fun hb => ?_)
  · replace h := iteT hb h
    refine sem_seq (by as_aux_lemma => kernel_rfl) ?_
    refine sem_region (by as_aux_lemma => kernel_rfl) ?_
    refine evs_run 2 (by as_aux_lemma => kernel_rfl) ?_
    refine evs_endS (by as_aux_lemma => kernel_rfl) (fun τ hτ => ?_)
    refine th_normalS hτ [(6, (vI 0)), (7, (vI 4))] (by as_aux_lemma => kernel_rfl) ?_
    refine sem_retS (by as_aux_lemma => kernel_rfl) (fun τ hτ => ?_)
    refine th_ret ?_
    obtain rfl := Option.some.inj h
    exact rv_ret hτ (by as_aux_lemma => kernel_rfl)
  · replace h := iteF hb h
    refine sem_skipS (by as_aux_lemma => kernel_rfl) (fun τ hτ => ?_)
    refine th_normalS hτ [(3, (.ptr 3 [(vI a.X.A), (vI a.X.B), (vI a.Y.A), (vI a.Y.B)] 0)), (4, (.ptr 4 [(vI b.X.A), (vI b.X.B), (vI b.Y.A), (vI b.Y.B)] 0)), (5, (.ptr 5 [(vI c.X.A), (vI c.X.B), (vI c.Y.A), (vI c.Y.B)] 0))] (by as_aux_lemma => kernel_rfl) ?_
    refine sem_seq (by as_aux_lemma => kernel_rfl) ?_
    refine sem_region (by as_aux_lemma => kernel_rfl) ?_
    refine evs_run 3 (by as_aux_lemma => kernel_rfl) ?_
    obtain ⟨r6, hr6, h⟩ := bindS h
    refine evs_call (b := true) (by as_aux_lemma => kernel_rfl) (W.geom_orient_ok hr6) (.inl rfl) ?_
    refine evs_run 2 (by as_aux_lemma => kernel_rfl) ?_
    refine evs_endS (by as_aux_lemma => kernel_rfl) (fun τ hτ => ?_)
    refine th_normalS hτ [(6, (vI r6)), (7, (vI 0))] (by as_aux_lemma => kernel_rfl) ?_
    refine sem_retS (by as_aux_lemma => kernel_rfl) (fun τ hτ => ?_)
    obtain rfl := Option.some.inj h
    exact rv_ret hτ (by as_aux_lemma => kernel_rfl)
theorem W.sheetmetalref01_pointIn_ok {p : Point} {r : Bool} (h : sheetmetalref01_pointIn p = some r) : PCalls G.P 75 [(.agg [(vI p.X.A), (vI p.X.B), (vI p.Y.A), (vI p.Y.B)])] (vB r) := by
  refine pc_view G (fn := Try.f75) Try.func75 (by as_aux_lemma => kernel_rfl) (by as_aux_lemma => kernel_rfl) (by as_aux_lemma => kernel_rfl) (by as_aux_lemma => kernel_rfl) ?_
  refine sem_set [(0, (.agg [(vI p.X.A), (vI p.X.B), (vI p.Y.A), (vI p.Y.B)]))] (by as_aux_lemma => kernel_rfl) ?_
  refine sem_seq (by as_aux_lemma => kernel_rfl) ?_
  refine sem_region (by as_aux_lemma => kernel_rfl) ?_
  refine evs_run 2 (by as_aux_lemma => kernel_rfl) ?_
  refine evs_endS (by as_aux_lemma => kernel_rfl) (fun τ hτ => ?_)
  refine th_normalS hτ [(1, (.ptr 1 [(vI p.X.A), (vI p.X.B), (vI p.Y.A), (vI p.Y.B)] 0))] (by as_aux_lemma => kernel_rfl) ?_
  refine sem_seq (by as_aux_lemma => kernel_rfl) ?_
  obtain ⟨j3, hj3, h⟩ := bindS h
  refine sem_regionC [(2, (vB j3))] (by as_aux_lemma => kernel_rfl) ?_ (fun τ hτ => ?_)
  · replace h := hj3
    refine evs_run 2 (by as_aux_lemma => kernel_rfl) ?_
    obtain ⟨r4, hr4, h⟩ := bindS h
    refine evs_call (b := true) (by as_aux_lemma => kernel_rfl) (W.sheetmetalref01_rootIn_ok hr4) (.inl rfl) ?_
    refine evs_run 1 (by as_aux_lemma => kernel_rfl) ?_
    refine evs_split r4 (fun b0 => [(1, (.ptr 1 [(vI p.X.A), (vI p.X.B), (vI p.Y.A), (vI p.Y.B)] 0)), (6, (vB b0))]) (by as_aux_lemma => kernel_rfl) (fun hb => ?_) (fun hb => ?_)
    · replace h := iteT hb h
      refine evs_run 2 (by as_aux_lemma => kernel_rfl) ?_
      obtain ⟨r5, hr5, h⟩ := bindS h
      refine evs_call (b := true) (by as_aux_lemma => kernel_rfl) (W.sheetmetalref01_rootIn_ok hr5) (.inl rfl) ?_
      refine evs_run 2 (by as_aux_lemma => kernel_rfl) ?_
      refine evs_endS (by as_aux_lemma => kernel_rfl) (fun τ hτ => ?_)
      obtain rfl := Option.some.inj h
      exact leafC hτ (by as_aux_lemma => kernel_rfl)
    · replace h := iteF hb h
      refine evs_run 5 (by as_aux_lemma => kernel_rfl) ?_
      refine evs_endS (by as_aux_lemma => kernel_rfl) (fun τ hτ => ?_)
      obtain rfl := Option.some.inj h
      exact leafC hτ (by as_aux_lemma => kernel_rfl)
  refine th_normalS hτ [(2, (vB j3))] (by as_aux_lemma => kernel_rfl) ?_
  refine sem_retS (by as_aux_lemma => kernel_rfl) (fun τ hτ => ?_)
  obtain rfl := Option.some.inj h
  exact rv_ret hτ (by as_aux_lemma => kernel_rfl)
theorem W.sheetmetalref01_orient_ok {a : Point} {b : Point} {c : Point} {r : Int} (h : sheetmetalref01_orient a b c = some r) : PCalls G.P 76 [(.agg [(vI a.X.A), (vI a.X.B), (vI a.Y.A), (vI a.Y.B)]), (.agg [(vI b.X.A), (vI b.X.B), (vI b.Y.A), (vI b.Y.B)]), (.agg [(vI c.X.A), (vI c.X.B), (vI c.Y.A), (vI c.Y.B)])] (vI r) := by
  refine pc_view G (fn := Try.f76) Try.func76 (by as_aux_lemma => kernel_rfl) (by as_aux_lemma => kernel_rfl) (by as_aux_lemma => kernel_rfl) (by as_aux_lemma => kernel_rfl) ?_
  refine sem_set [(0, (.agg [(vI a.X.A), (vI a.X.B), (vI a.Y.A), (vI a.Y.B)])), (1, (.agg [(vI b.X.A), (vI b.X.B), (vI b.Y.A), (vI b.Y.B)])), (2, (.agg [(vI c.X.A), (vI c.X.B), (vI c.Y.A), (vI c.Y.B)]))] (by as_aux_lemma => kernel_rfl) ?_
  refine sem_seq (by as_aux_lemma => kernel_rfl) ?_
  refine sem_region (by as_aux_lemma => kernel_rfl) ?_
  refine evs_run 4 (by as_aux_lemma => kernel_rfl) ?_
  refine evs_endS (by as_aux_lemma => kernel_rfl) (fun τ hτ => ?_)
  refine th_normalS hτ [(3, (.ptr 3 [(vI a.X.A), (vI a.X.B), (vI a.Y.A), (vI a.Y.B)] 0)), (4, (.ptr 4 [(vI b.X.A), (vI b.X.B), (vI b.Y.A), (vI b.Y.B)] 0)), (5, (.ptr 5 [(vI c.X.A), (vI c.X.B), (vI c.Y.A), (vI c.Y.B)] 0))] (by as_aux_lemma => kernel_rfl) ?_
  refine sem_seq (by as_aux_lemma => kernel_rfl) ?_
  refine sem_draw [] 20 [(3, (.ptr 3 [(vI a.X.A), (vI a.X.B), (vI a.Y.A), (vI a.Y.B)] 0)), (4, (.ptr 4 [(vI b.X.A), (vI b.X.B), (vI b.Y.A), (vI b.Y.B)] 0)), (5, (.ptr 5 [(vI c.X.A), (vI c.X.B), (vI c.Y.A), (vI c.Y.B)] 0))] (by as_aux_lemma => kernel_rfl) (by as_aux_lemma => kernel_rfl) (by as_aux_lemma => kernel_rfl) ?_
  refine evd_run 4 (by as_aux_lemma => kernel_rfl) ?_
  obtain ⟨r9, hr9, h⟩ := bindS h
  refine evd_call (b := true) (by as_aux_lemma => kernel_rfl) (by as_aux_lemma => kernel_rfl) (W.sheetmetalref01_minus_ok hr9) (.inl rfl) ?_
  refine evd_run 4 (by as_aux_lemma => kernel_rfl) ?_
  obtain ⟨r10, hr10, h⟩ := bindS h
  refine evd_call (b := true) (by as_aux_lemma => kernel_rfl) (by as_aux_lemma => kernel_rfl) (W.sheetmetalref01_minus_ok hr10) (.inl rfl) ?_
  obtain ⟨r11, hr11, h⟩ := bindS h
  refine evd_call (b := true) (by as_aux_lemma => kernel_rfl) (by as_aux_lemma => kernel_rfl) (W.sheetmetalref01_times_ok hr11) (.inl rfl) ?_
  refine evd_run 4 (by as_aux_lemma => kernel_rfl) ?_
  obtain ⟨r12, hr12, h⟩ := bindS h
  refine evd_call (b := true) (by as_aux_lemma => kernel_rfl) (by as_aux_lemma => kernel_rfl) (W.sheetmetalref01_minus_ok hr12) (.inl rfl) ?_
  refine evd_run 4 (by as_aux_lemma => kernel_rfl) ?_
  refine evd_tail (by as_aux_lemma => kernel_rfl) ?_
  obtain ⟨r13, hr13, h⟩ := bindS h
  refine evo_call (b := true) (by as_aux_lemma => kernel_rfl) (W.sheetmetalref01_minus_ok hr13) (.inl rfl) ?_
  obtain ⟨r14, hr14, h⟩ := bindS h
  refine evo_call (b := true) (by as_aux_lemma => kernel_rfl) (W.sheetmetalref01_times_ok hr14) (.inl rfl) ?_
  obtain ⟨r15, hr15, h⟩ := bindS h
  refine evo_call (b := true) (by as_aux_lemma => kernel_rfl) (W.sheetmetalref01_minus_ok hr15) (.inl rfl) ?_
  obtain ⟨r16, hr16, h⟩ := bindS h
  refine evo_call (b := true) (by as_aux_lemma => kernel_rfl) (W.sheetmetalref01_sign_ok hr16) (.inl rfl) ?_
  refine evo_run 1 (by as_aux_lemma => kernel_rfl) ?_
  refine evo_endS (by as_aux_lemma => kernel_rfl) (fun τ hτ => ?_)
  refine th_normalS hτ [(6, (vI r16))] (by as_aux_lemma => kernel_rfl) ?_
  refine sem_retS (by as_aux_lemma => kernel_rfl) (fun τ hτ => ?_)
  obtain rfl := Option.some.inj h
  exact rv_ret hτ (by as_aux_lemma => kernel_rfl)
theorem W.sheetmetalref01_Orient_ok {a : Point} {b : Point} {c : Point} {r : Int × Int} (h : sheetmetalref01_Orient a b c = some r) : PCalls G.P 35 [(.agg [(vI a.X.A), (vI a.X.B), (vI a.Y.A), (vI a.Y.B)]), (.agg [(vI b.X.A), (vI b.X.B), (vI b.Y.A), (vI b.Y.B)]), (.agg [(vI c.X.A), (vI c.X.B), (vI c.Y.A), (vI c.Y.B)])] (.tup [(vI r.1), (vI r.2)]) := by
  refine pc_view G (fn := Try.f35) Try.func35 (by as_aux_lemma => kernel_rfl) (by as_aux_lemma => kernel_rfl) (by as_aux_lemma => kernel_rfl) (by as_aux_lemma => kernel_rfl) ?_
  refine sem_set [(0, (.agg [(vI a.X.A), (vI a.X.B), (vI a.Y.A), (vI a.Y.B)])), (1, (.agg [(vI b.X.A), (vI b.X.B), (vI b.Y.A), (vI b.Y.B)])), (2, (.agg [(vI c.X.A), (vI c.X.B), (vI c.Y.A), (vI c.Y.B)]))] (by as_aux_lemma => kernel_rfl) ?_
  refine sem_seq (by as_aux_lemma => kernel_rfl) ?_
  refine sem_region (by as_aux_lemma => kernel_rfl) ?_
  refine evs_run 5 (by as_aux_lemma => kernel_rfl) ?_
  refine evs_endS (by as_aux_lemma => kernel_rfl) (fun τ hτ => ?_)
  refine th_normalS hτ [(3, (.ptr 3 [(vI a.X.A), (vI a.X.B), (vI a.Y.A), (vI a.Y.B)] 0)), (4, (.ptr 4 [(vI b.X.A), (vI b.X.B), (vI b.Y.A), (vI b.Y.B)] 0)), (5, (.ptr 5 [(vI c.X.A), (vI c.X.B), (vI c.Y.A), (vI c.Y.B)] 0))] (by as_aux_lemma => kernel_rfl) ?_
  refine sem_seq (by as_aux_lemma => kernel_rfl) ?_
  refine sem_seq (by as_aux_lemma => kernel_rfl) ?_
  obtain ⟨j11, hj11, h⟩ := bindS h
  refine sem_regionC [(3, (.ptr 3 [(vI a.X.A), (vI a.X.B), (vI a.Y.A), (vI a.Y.B)] 0)), (4, (.ptr 4 [(vI b.X.A), (vI b.X.B), (vI b.Y.A), (vI b.Y.B)] 0)), (5, (.ptr 5 [(vI c.X.A), (vI c.X.B), (vI c.Y.A), (vI c.Y.B)] 0)), (20, (vB j11))] (by as_aux_lemma => kernel_rfl) ?_ (fun τ hτ => ?_)
  · replace h := hj11
    refine evs_run 1 (by as_aux_lemma => kernel_rfl) ?_
    obtain ⟨r12, hr12, h⟩ := bindS h
    refine evs_call (b := true) (by as_aux_lemma => kernel_rfl) (W.sheetmetalref01_pointIn_ok hr12) (.inl rfl) ?_
    refine evs_run 2 (by as_aux_lemma => kernel_rfl) ?_
    refine evs_split r12 (fun b0 => [(3, (.ptr 3 [(vI a.X.A), (vI a.X.B), (vI a.Y.A), (vI a.Y.B)] 0)), (4, (.ptr 4 [(vI b.X.A), (vI b.X.B), (vI b.Y.A), (vI b.Y.B)] 0)), (5, (.ptr 5 [(vI c.X.A), (vI c.X.B), (vI c.Y.A), (vI c.Y.B)] 0)), (11, (vB (!b0)))]) (by as_aux_lemma => kernel_rfl) (fun hb => ?_) (fun hb => ?_)
    · replace h := iteT hb h
      refine evs_run 1 (by as_aux_lemma => kernel_rfl) ?_
      obtain ⟨r13, hr13, h⟩ := bindS h
      refine evs_call (b := true) (by as_aux_lemma => kernel_rfl) (W.sheetmetalref01_pointIn_ok hr13) (.inl rfl) ?_
      refine evs_run 3 (by as_aux_lemma => kernel_rfl) ?_
      refine evs_split r13 (fun b0 => [(3, (.ptr 3 [(vI a.X.A), (vI a.X.B), (vI a.Y.A), (vI a.Y.B)] 0)), (4, (.ptr 4 [(vI b.X.A), (vI b.X.B), (vI b.Y.A), (vI b.Y.B)] 0)), (5, (.ptr 5 [(vI c.X.A), (vI c.X.B), (vI c.Y.A), (vI c.Y.B)] 0)), (16, (vB (!b0)))]) (by as_aux_lemma => kernel_rfl) (fun hb => ?_) (fun hb => ?_)
      · replace h := iteT hb h
        refine evs_run 1 (by as_aux_lemma => kernel_rfl) ?_
        obtain ⟨r14, hr14, h⟩ := bindS h
        refine evs_call (b := true) (by as_aux_lemma => kernel_rfl) (W.sheetmetalref01_pointIn_ok hr14) (.inl rfl) ?_
        refine evs_run 2 (by as_aux_lemma => kernel_rfl) ?_
        refine evs_endS (by as_aux_lemma => kernel_rfl) (fun τ hτ => ?_)
        obtain rfl := Option.some.inj h
        exact leafC hτ (by as_aux_lemma => kernel_rfl)
      · replace h := iteF hb h
        refine evs_run 4 (by as_aux_lemma => kernel_rfl) ?_
        refine evs_endS (by as_aux_lemma => kernel_rfl) (fun τ hτ => ?_)
        obtain rfl := Option.some.inj h
        exact leafC hτ (by as_aux_lemma => kernel_rfl)
    · replace h := iteF hb h
      refine evs_run 9 (by as_aux_lemma => kernel_rfl) ?_
      refine evs_endS (by as_aux_lemma => kernel_rfl) (fun τ hτ => ?_)
      obtain rfl := Option.some.inj h
      exact leafC hτ (by as_aux_lemma => kernel_rfl)
  refine th_normalS hτ [(3, (.ptr 3 [(vI a.X.A), (vI a.X.B), (vI a.Y.A), (vI a.Y.B)] 0)), (4, (.ptr 4 [(vI b.X.A), (vI b.X.B), (vI b.Y.A), (vI b.Y.B)] 0)), (5, (.ptr 5 [(vI c.X.A), (vI c.X.B), (vI c.Y.A), (vI c.Y.B)] 0)), (20, (vB j11))] (by as_aux_lemma => kernel_rfl) ?_
  refine sem_cond j11 (by as_aux_lemma => kernel_rfl) (by as_aux_lemma => kernel_rfl) (fun hb => ?_) (fun hb => ?_)
  · replace h := iteT hb h
    refine sem_seq (by as_aux_lemma => kernel_rfl) ?_
    refine sem_region (by as_aux_lemma => kernel_rfl) ?_
    refine evs_run 2 (by as_aux_lemma => kernel_rfl) ?_
    refine evs_endS (by as_aux_lemma => kernel_rfl) (fun τ hτ => ?_)
    refine th_normalS hτ [(6, (vI 0)), (7, (vI 4))] (by as_aux_lemma => kernel_rfl) ?_
    refine sem_retS (by as_aux_lemma => kernel_rfl) (fun τ hτ => ?_)
    refine th_ret ?_
    obtain rfl := Option.some.inj h
    exact rv_ret hτ (by as_aux_lemma => kernel_rfl)
  · replace h := iteF hb h
    refine sem_skipS (by as_aux_lemma => kernel_rfl) (fun τ hτ => ?_)
    refine th_normalS hτ [(3, (.ptr 3 [(vI a.X.A), (vI a.X.B), (vI a.Y.A), (vI a.Y.B)] 0)), (4, (.ptr 4 [(vI b.X.A), (vI b.X.B), (vI b.Y.A), (vI b.Y.B)] 0)), (5, (.ptr 5 [(vI c.X.A), (vI c.X.B), (vI c.Y.A), (vI c.Y.B)] 0))] (by as_aux_lemma => kernel_rfl) ?_
    refine sem_seq (by as_aux_lemma => kernel_rfl) ?_
    refine sem_region (by as_aux_lemma => kernel_rfl) ?_
    refine evs_run 3 (by as_aux_lemma => kernel_rfl) ?_
    obtain ⟨r16, hr16, h⟩ := bindS h
    refine evs_call (b := true) (by as_aux_lemma => kernel_rfl) (W.sheetmetalref01_orient_ok hr16) (.inl rfl) ?_
    refine evs_run 2 (by as_aux_lemma => kernel_rfl) ?_
    refine evs_endS (by as_aux_lemma => kernel_rfl) (fun τ hτ => ?_)
    refine th_normalS hτ [(6, (vI r16)), (7, (vI 0))] (by as_aux_lemma => kernel_rfl) ?_
    refine sem_retS (by as_aux_lemma => kernel_rfl) (fun τ hτ => ?_)
    obtain rfl := Option.some.inj h
    exact rv_ret hτ (by as_aux_lemma => kernel_rfl)
theorem W.sheetmetallaw01_GeomOrients_ok {a : Point} {a1 : Point} {a2 : Point} {r : Bool} (h : sheetmetallaw01_GeomOrients a a1 a2 = some r) : PCalls G.P 7 [(.agg [(vI a.X.A), (vI a.X.B), (vI a.Y.A), (vI a.Y.B)]), (.agg [(vI a1.X.A), (vI a1.X.B), (vI a1.Y.A), (vI a1.Y.B)]), (.agg [(vI a2.X.A), (vI a2.X.B), (vI a2.Y.A), (vI a2.Y.B)])] (vB r) := by
  refine pc_view G (fn := Try.f7) Try.func7 (by as_aux_lemma => kernel_rfl) (by as_aux_lemma => kernel_rfl) (by as_aux_lemma => kernel_rfl) (by as_aux_lemma => kernel_rfl) ?_
  refine sem_set [(0, (.agg [(vI a.X.A), (vI a.X.B), (vI a.Y.A), (vI a.Y.B)])), (1, (.agg [(vI a1.X.A), (vI a1.X.B), (vI a1.Y.A), (vI a1.Y.B)])), (2, (.agg [(vI a2.X.A), (vI a2.X.B), (vI a2.Y.A), (vI a2.Y.B)]))] (by as_aux_lemma => kernel_rfl) ?_
  refine sem_seq (by as_aux_lemma => kernel_rfl) ?_
  refine sem_region (by as_aux_lemma => kernel_rfl) ?_
  refine evs_run 4 (by as_aux_lemma => kernel_rfl) ?_
  refine evs_endS (by as_aux_lemma => kernel_rfl) (fun τ hτ => ?_)
  refine th_normalS hτ [(3, (.ptr 3 [(vI a.X.A), (vI a.X.B), (vI a.Y.A), (vI a.Y.B)] 0)), (4, (.ptr 4 [(vI a1.X.A), (vI a1.X.B), (vI a1.Y.A), (vI a1.Y.B)] 0)), (5, (.ptr 5 [(vI a2.X.A), (vI a2.X.B), (vI a2.Y.A), (vI a2.Y.B)] 0))] (by as_aux_lemma => kernel_rfl) ?_
  refine sem_seq (by as_aux_lemma => kernel_rfl) ?_
  refine sem_region (by as_aux_lemma => kernel_rfl) ?_
  refine evs_run 3 (by as_aux_lemma => kernel_rfl) ?_
  obtain ⟨r2, hr2, h⟩ := bindS h
  refine evs_call (b := true) (by as_aux_lemma => kernel_rfl) (W.geom_Orient_ok hr2) (.inl rfl) ?_
  refine evs_run 5 (by as_aux_lemma => kernel_rfl) ?_
  refine evs_endS (by as_aux_lemma => kernel_rfl) (fun τ hτ => ?_)
  refine th_normalS hτ [(3, (.ptr 3 [(vI a.X.A), (vI a.X.B), (vI a.Y.A), (vI a.Y.B)] 0)), (4, (.ptr 4 [(vI a1.X.A), (vI a1.X.B), (vI a1.Y.A), (vI a1.Y.B)] 0)), (5, (.ptr 5 [(vI a2.X.A), (vI a2.X.B), (vI a2.Y.A), (vI a2.Y.B)] 0)), (7, (vI r2.1)), (8, (vI r2.2))] (by as_aux_lemma => kernel_rfl) ?_
  refine sem_seq (by as_aux_lemma => kernel_rfl) ?_
  refine sem_region (by as_aux_lemma => kernel_rfl) ?_
  refine evs_run 3 (by as_aux_lemma => kernel_rfl) ?_
  obtain ⟨r4, hr4, h⟩ := bindS h
  refine evs_call (b := true) (by as_aux_lemma => kernel_rfl) (W.sheetmetalref01_Orient_ok hr4) (.inl rfl) ?_
  refine evs_run 5 (by as_aux_lemma => kernel_rfl) ?_
  refine evs_endS (by as_aux_lemma => kernel_rfl) (fun τ hτ => ?_)
  refine th_normalS hτ [(3, (.ptr 3 [(vI a.X.A), (vI a.X.B), (vI a.Y.A), (vI a.Y.B)] 0)), (4, (.ptr 4 [(vI a1.X.A), (vI a1.X.B), (vI a1.Y.A), (vI a1.Y.B)] 0)), (5, (.ptr 5 [(vI a2.X.A), (vI a2.X.B), (vI a2.Y.A), (vI a2.Y.B)] 0)), (7, (vI r2.1)), (8, (vI r2.2)), (9, (vI r4.1)), (10, (vI r4.2))] (by as_aux_lemma => kernel_rfl) ?_
  refine sem_seq (by as_aux_lemma => kernel_rfl) ?_
  refine sem_region (by as_aux_lemma => kernel_rfl) ?_
  refine evs_run 3 (by as_aux_lemma => kernel_rfl) ?_
  obtain ⟨r6, hr6, h⟩ := bindS h
  refine evs_call (b := true) (by as_aux_lemma => kernel_rfl) (W.geom_Orient_ok hr6) (.inl rfl) ?_
  refine evs_run 5 (by as_aux_lemma => kernel_rfl) ?_
  refine evs_endS (by as_aux_lemma => kernel_rfl) (fun τ hτ => ?_)
  refine th_normalS hτ [(3, (.ptr 3 [(vI a.X.A), (vI a.X.B), (vI a.Y.A), (vI a.Y.B)] 0)), (4, (.ptr 4 [(vI a1.X.A), (vI a1.X.B), (vI a1.Y.A), (vI a1.Y.B)] 0)), (5, (.ptr 5 [(vI a2.X.A), (vI a2.X.B), (vI a2.Y.A), (vI a2.Y.B)] 0)), (7, (vI r2.1)), (8, (vI r2.2)), (9, (vI r4.1)), (10, (vI r4.2)), (11, (vI r6.1)), (12, (vI r6.2))] (by as_aux_lemma => kernel_rfl) ?_
  refine sem_seq (by as_aux_lemma => kernel_rfl) ?_
  refine sem_region (by as_aux_lemma => kernel_rfl) ?_
  refine evs_run 3 (by as_aux_lemma => kernel_rfl) ?_
  obtain ⟨r8, hr8, h⟩ := bindS h
  refine evs_call (b := true) (by as_aux_lemma => kernel_rfl) (W.geom_Orient_ok hr8) (.inl rfl) ?_
  refine evs_run 5 (by as_aux_lemma => kernel_rfl) ?_
  refine evs_endS (by as_aux_lemma => kernel_rfl) (fun τ hτ => ?_)
  refine th_normalS hτ [(7, (vI r2.1)), (8, (vI r2.2)), (9, (vI r4.1)), (10, (vI r4.2)), (11, (vI r6.1)), (12, (vI r6.2)), (13, (vI r8.1)), (14, (vI r8.2))] (by as_aux_lemma => kernel_rfl) ?_
  refine sem_seq (by as_aux_lemma => kernel_rfl) ?_
  obtain ⟨j10, hj10, h⟩ := bindS h
  refine sem_regionC [(6, (vB j10))] (by as_aux_lemma => kernel_rfl) ?_ (fun τ hτ => ?_)
  · replace h := hj10
    refine evs_run 4 (by as_aux_lemma => kernel_rfl) ?_
    refine evs_split (r2.1 == r4.1) (fun b0 => [(7, (vI r2.1)), (8, (vI r2.2)), (10, (vI r4.2)), (11, (vI r6.1)), (12, (vI r6.2)), (13, (vI r8.1)), (14, (vI r8.2)), (46, (vB b0))]) (by as_aux_lemma => kernel_rfl) (fun hb => ?_) (fun hb => ?_)
    · replace h := iteT hb h
      refine evs_run 5 (by as_aux_lemma => kernel_rfl) ?_
      refine evs_split (r2.2 == r4.2) (fun b0 => [(7, (vI r2.1)), (8, (vI r2.2)), (11, (vI r6.1)), (12, (vI r6.2)), (13, (vI r8.1)), (14, (vI r8.2)), (51, (vB b0))]) (by as_aux_lemma => kernel_rfl) (fun hb => ?_) (fun hb => ?_)
      · replace h := iteT hb h
        refine evs_run 6 (by as_aux_lemma => kernel_rfl) ?_
        refine evs_split (r6.1 == (ineg r2.1)) (fun b0 => [(7, (vI r2.1)), (8, (vI r2.2)), (12, (vI r6.2)), (13, (vI r8.1)), (14, (vI r8.2)), (57, (vB b0))]) (by as_aux_lemma => kernel_rfl) (fun hb => ?_) (fun hb => ?_)
        · replace h := iteT hb h
          refine evs_run 5 (by as_aux_lemma => kernel_rfl) ?_
          refine evs_split (r8.1 == r2.1) (fun b0 => [(8, (vI r2.2)), (12, (vI r6.2)), (14, (vI r8.2)), (62, (vB b0))]) (by as_aux_lemma => kernel_rfl) (fun hb => ?_) (fun hb => ?_)
          · replace h := iteT hb h
            refine evs_run 5 (by as_aux_lemma => kernel_rfl) ?_
            refine evs_split (r6.2 == r2.2) (fun b0 => [(8, (vI r2.2)), (14, (vI r8.2)), (67, (vB b0))]) (by as_aux_lemma => kernel_rfl) (fun hb => ?_) (fun hb => ?_)
            · replace h := iteT hb h
              refine evs_run 5 (by as_aux_lemma => kernel_rfl) ?_
              refine evs_split (r8.2 == r2.2) (fun b0 => [(72, (vB b0))]) (by as_aux_lemma => kernel_rfl) (fun hb => ?_) (fun hb => ?_)
              · replace h := iteT hb h
                obtain ⟨r11, hr11, h⟩ := bindS h
                refine evs_call (b := true) (by as_aux_lemma => kernel_rfl) (W.sheetmetallaw01_known_ok hr11) (.inl rfl) ?_
                refine evs_run 2 (by as_aux_lemma => kernel_rfl) ?_
                refine evs_endS (by as_aux_lemma => kernel_rfl) (fun τ hτ => ?_)
                obtain rfl := Option.some.inj h
                exact leafC hτ (by as_aux_lemma => kernel_rfl)
              · replace h := iteF hb h
                refine evs_run 3 (by as_aux_lemma => kernel_rfl) ?_
                refine evs_endS (by as_aux_lemma => kernel_rfl) (fun τ hτ => ?_)
                obtain rfl := Option.some.inj h
                exact leafC hτ (by as_aux_lemma => kernel_rfl)
            · replace h := iteF hb h
              refine evs_run 8 (by as_aux_lemma => kernel_rfl) ?_
              refine evs_endS (by as_aux_lemma => kernel_rfl) (fun τ hτ => ?_)
              obtain rfl := Option.some.inj h
              exact leafC hτ (by as_aux_lemma => kernel_rfl)
          · replace h := iteF hb h
            refine evs_run 13 (by as_aux_lemma => kernel_rfl) ?_
            refine evs_endS (by as_aux_lemma => kernel_rfl) (fun τ hτ => ?_)
            obtain rfl := Option.some.inj h
            exact leafC hτ (by as_aux_lemma => kernel_rfl)
        · replace h := iteF hb h
          refine evs_run 18 (by as_aux_lemma => kernel_rfl) ?_
          refine evs_endS (by as_aux_lemma => kernel_rfl) (fun τ hτ => ?_)
          obtain rfl := Option.some.inj h
          exact leafC hτ (by as_aux_lemma => kernel_rfl)
      · replace h := iteF hb h
        refine evs_run 24 (by as_aux_lemma => kernel_rfl) ?_
        refine evs_endS (by as_aux_lemma => kernel_rfl) (fun τ hτ => ?_)
        obtain rfl := Option.some.inj h
        exact leafC hτ (by as_aux_lemma => kernel_rfl)
    · replace h := iteF hb h
      refine evs_run 29 (by as_aux_lemma => kernel_rfl) ?_
      refine evs_endS (by as_aux_lemma => kernel_rfl) (fun τ hτ => ?_)
      obtain rfl := Option.some.inj h
      exact leafC hτ (by as_aux_lemma => kernel_rfl)
  refine th_normalS hτ [(6, (vB j10))] (by as_aux_lemma => kernel_rfl) ?_
  refine sem_retS (by as_aux_lemma => kernel_rfl) (fun τ hτ => ?_)
  obtain rfl := Option.some.inj h
  exact rv_ret hτ (by as_aux_lemma => kernel_rfl)
end Go.Proofs.Ytiodkdpfkchkjaa
