/- Each Go function does what its model says; written by a program out of the translation. -/
import Derived.Test.YtiodkdpfkchkjaaBase
import Derived.Test.YtiodkdpfkchkjaaGeMA
set_option linter.unusedVariables false
set_option linter.unusedSimpArgs false
set_option linter.unusedSectionVars false
namespace Go.Proofs.Ytiodkdpfkchkjaa
open Go Go.VI Go.SM Go.Proofs
set_option maxRecDepth 100000
set_option maxHeartbeats 4000000
theorem W.geom_within_ok {n : Int} {most : Int} {r : Bool} (h : geom_within n most = some r) : PCalls G.P 58 [(vI n), (vI most)] (vB r) := by
  refine pc_view G (fn := Try.f58) Try.func58 (by as_aux_lemma => kernel_rfl) (by as_aux_lemma => kernel_rfl) (by as_aux_lemma => kernel_rfl) (by as_aux_lemma => kernel_rfl) ?_
  refine sem_set [(0, (vI n)), (1, (vI most))] (by as_aux_lemma => kernel_rfl) ?_
  refine sem_seq (by as_aux_lemma => kernel_rfl) ?_
  refine sem_region (by as_aux_lemma => kernel_rfl) ?_
  refine evs_run 1 (by as_aux_lemma => kernel_rfl) ?_
  refine evs_endS (by as_aux_lemma => kernel_rfl) (fun τ hτ => ?_)
  refine th_normalS hτ [(0, (vI n)), (1, (vI most))] (by as_aux_lemma => kernel_rfl) ?_
  refine sem_seq (by as_aux_lemma => kernel_rfl) ?_
  obtain ⟨j1, hj1, h⟩ := bindS h
  refine sem_regionC [(4, (vB j1))] (by as_aux_lemma => kernel_rfl) ?_ (fun τ hτ => ?_)
  · replace h := hj1
    refine evs_run 5 (by as_aux_lemma => kernel_rfl) ?_
    refine evs_split (decide ((ineg most) ≤ n)) (fun b0 => [(0, (vI n)), (1, (vI most)), (9, (vB b0))]) (by as_aux_lemma => kernel_rfl) (fun hb => ?_) (fun hb => ?_)
    · replace h := iteT hb h
      refine evs_run 5 (by as_aux_lemma => kernel_rfl) ?_
      refine evs_endS (by as_aux_lemma => kernel_rfl) (fun τ hτ => ?_)
      obtain rfl := Option.some.inj h
      exact leafC hτ (by as_aux_lemma => kernel_rfl)
    · replace h := iteF hb h
      refine evs_run 5 (by as_aux_lemma => kernel_rfl) ?_
      refine evs_endS (by as_aux_lemma => kernel_rfl) (fun τ hτ => ?_)
      obtain rfl := Option.some.inj h
      exact leafC hτ (by as_aux_lemma => kernel_rfl)
  refine th_normalS hτ [(4, (vB j1))] (by as_aux_lemma => kernel_rfl) ?_
  refine sem_retS (by as_aux_lemma => kernel_rfl) (fun τ hτ => ?_)
  obtain rfl := Option.some.inj h
  exact rv_ret hτ (by as_aux_lemma => kernel_rfl)
theorem W.geom_sign_ok {n : Int} {r : Int} (h : geom_sign n = some r) : PCalls G.P 100 [(vI n)] (vI r) := by
  refine pc_view G (fn := Try.f100) Try.func100 (by as_aux_lemma => kernel_rfl) (by as_aux_lemma => kernel_rfl) (by as_aux_lemma => kernel_rfl) (by as_aux_lemma => kernel_rfl) ?_
  refine sem_set [(0, (vI n))] (by as_aux_lemma => kernel_rfl) ?_
  refine sem_seq (by as_aux_lemma => kernel_rfl) ?_
  refine sem_region (by as_aux_lemma => kernel_rfl) ?_
  refine evs_run 1 (by as_aux_lemma => kernel_rfl) ?_
  refine evs_endS (by as_aux_lemma => kernel_rfl) (fun τ hτ => ?_)
  refine th_normalS hτ [(0, (vI n))] (by as_aux_lemma => kernel_rfl) ?_
  refine sem_seq (by as_aux_lemma => kernel_rfl) ?_
  refine sem_block (by as_aux_lemma => kernel_rfl) ?_
  refine sem_seq (by as_aux_lemma => kernel_rfl) ?_
  refine sem_region (by as_aux_lemma => kernel_rfl) ?_
  refine evs_run 3 (by as_aux_lemma => kernel_rfl) ?_
  refine evs_endS (by as_aux_lemma => kernel_rfl) (fun τ hτ => ?_)
  refine th_normalS hτ [(0, (vI n)), (3, (vB (decide (n < 0))))] (by as_aux_lemma => kernel_rfl) ?_
  refine sem_cond (decide (n < 0)) (by as_aux_lemma => kernel_rfl) (by as_aux_lemma => kernel_rfl) (fun hb => ?_) (fun hb => ?_)
  · replace h := iteT hb h
    refine sem_seq (by as_aux_lemma => kernel_rfl) ?_
    refine sem_region (by as_aux_lemma => kernel_rfl) ?_
    refine evs_run 1 (by as_aux_lemma => kernel_rfl) ?_
    refine evs_endS (by as_aux_lemma => kernel_rfl) (fun τ hτ => ?_)
    refine th_normalS hτ [(2, (vI (-1)))] (by as_aux_lemma => kernel_rfl) ?_
    refine sem_retS (by as_aux_lemma => kernel_rfl) (fun τ hτ => ?_)
    refine bl_ret ?_
    refine th_ret ?_
    obtain rfl := Option.some.inj h
    exact rv_ret hτ (by as_aux_lemma => kernel_rfl)
  · replace h := iteF hb h
    refine sem_seq (by as_aux_lemma => kernel_rfl) ?_
    refine sem_region (by as_aux_lemma => kernel_rfl) ?_
    refine evs_run 3 (by as_aux_lemma => kernel_rfl) ?_
    refine evs_endS (by as_aux_lemma => kernel_rfl) (fun τ hτ => ?_)
    refine th_normalS hτ [(6, (vB (decide (n > 0))))] (by as_aux_lemma => kernel_rfl) ?_
    refine sem_cond (decide (n > 0)) (by as_aux_lemma => kernel_rfl) (by as_aux_lemma => kernel_rfl) (fun hb => ?_) (fun hb => ?_)
    · replace h := iteT hb h
      refine sem_seq (by as_aux_lemma => kernel_rfl) ?_
      refine sem_region (by as_aux_lemma => kernel_rfl) ?_
      refine evs_run 1 (by as_aux_lemma => kernel_rfl) ?_
      refine evs_endS (by as_aux_lemma => kernel_rfl) (fun τ hτ => ?_)
      refine th_normalS hτ [(2, (vI 1))] (by as_aux_lemma => kernel_rfl) ?_
      refine sem_retS (by as_aux_lemma => kernel_rfl) (fun τ hτ => ?_)
      refine bl_ret ?_
      refine th_ret ?_
      obtain rfl := Option.some.inj h
      exact rv_ret hτ (by as_aux_lemma => kernel_rfl)
    · replace h := iteF hb h
      refine sem_skipS (by as_aux_lemma => kernel_rfl) (fun τ hτ => ?_)
      refine bl_normal ?_
      refine th_normalS hτ [] (by as_aux_lemma => kernel_rfl) ?_
      refine sem_seq (by as_aux_lemma => kernel_rfl) ?_
      refine sem_region (by as_aux_lemma => kernel_rfl) ?_
      refine evs_run 1 (by as_aux_lemma => kernel_rfl) ?_
      refine evs_endS (by as_aux_lemma => kernel_rfl) (fun τ hτ => ?_)
      refine th_normalS hτ [(2, (vI 0))] (by as_aux_lemma => kernel_rfl) ?_
      refine sem_retS (by as_aux_lemma => kernel_rfl) (fun τ hτ => ?_)
      obtain rfl := Option.some.inj h
      exact rv_ret hτ (by as_aux_lemma => kernel_rfl)
theorem W.geom_signOf_ok {r0 : Root} {r : Int} (h : geom_signOf r0 = some r) : PCalls G.P 59 [(.agg [(vI r0.A), (vI r0.B)])] (vI r) := by
  refine pc_view G (fn := Try.f59) Try.func59 (by as_aux_lemma => kernel_rfl) (by as_aux_lemma => kernel_rfl) (by as_aux_lemma => kernel_rfl) (by as_aux_lemma => kernel_rfl) ?_
  refine sem_set [(0, (.agg [(vI r0.A), (vI r0.B)]))] (by as_aux_lemma => kernel_rfl) ?_
  refine sem_seq (by as_aux_lemma => kernel_rfl) ?_
  refine sem_region (by as_aux_lemma => kernel_rfl) ?_
  refine evs_run 2 (by as_aux_lemma => kernel_rfl) ?_
  refine evs_endS (by as_aux_lemma => kernel_rfl) (fun τ hτ => ?_)
  refine th_normalS hτ [(1, (.ptr 1 [(vI r0.A), (vI r0.B)] 0))] (by as_aux_lemma => kernel_rfl) ?_
  refine sem_seq (by as_aux_lemma => kernel_rfl) ?_
  refine sem_draw [] 5 [(1, (.ptr 1 [(vI r0.A), (vI r0.B)] 0))] (by as_aux_lemma => kernel_rfl) (by as_aux_lemma => kernel_rfl) (by as_aux_lemma => kernel_rfl) ?_
  refine evd_run 2 (by as_aux_lemma => kernel_rfl) ?_
  obtain ⟨r3, hr3, h⟩ := bindS h
  refine evd_call (b := true) (by as_aux_lemma => kernel_rfl) (by as_aux_lemma => kernel_rfl) (W.geom_sign_ok hr3) (.inl rfl) ?_
  refine evd_run 2 (by as_aux_lemma => kernel_rfl) ?_
  refine evd_tail (by as_aux_lemma => kernel_rfl) ?_
  obtain ⟨r4, hr4, h⟩ := bindS h
  refine evo_call (b := true) (by as_aux_lemma => kernel_rfl) (W.geom_sign_ok hr4) (.inl rfl) ?_
  refine evo_run 2 (by as_aux_lemma => kernel_rfl) ?_
  refine evo_endS (by as_aux_lemma => kernel_rfl) (fun τ hτ => ?_)
  refine th_normalS hτ [(1, (.ptr 1 [(vI r0.A), (vI r0.B)] 0)), (3, (vI r3)), (4, (vI r4))] (by as_aux_lemma => kernel_rfl) ?_
  refine sem_seq (by as_aux_lemma => kernel_rfl) ?_
  refine sem_seq (by as_aux_lemma => kernel_rfl) ?_
  refine sem_region (by as_aux_lemma => kernel_rfl) ?_
  refine evs_run 4 (by as_aux_lemma => kernel_rfl) ?_
  refine evs_endS (by as_aux_lemma => kernel_rfl) (fun τ hτ => ?_)
  refine th_normalS hτ [(1, (.ptr 1 [(vI r0.A), (vI r0.B)] 0)), (3, (vI r3)), (4, (vI r4)), (14, (vB (decide ((imul r3 r4) ≥ 0))))] (by as_aux_lemma => kernel_rfl) ?_
  refine sem_cond (decide ((imul r3 r4) ≥ 0)) (by as_aux_lemma => kernel_rfl) (by as_aux_lemma => kernel_rfl) (fun hb => ?_) (fun hb => ?_)
  · replace h := iteT hb h
    refine sem_seq (by as_aux_lemma => kernel_rfl) ?_
    refine sem_region (by as_aux_lemma => kernel_rfl) ?_
    refine evs_run 3 (by as_aux_lemma => kernel_rfl) ?_
    obtain ⟨r8, hr8, h⟩ := bindS h
    refine evs_call (b := true) (by as_aux_lemma => kernel_rfl) (W.geom_sign_ok hr8) (.inl rfl) ?_
    refine evs_run 1 (by as_aux_lemma => kernel_rfl) ?_
    refine evs_endS (by as_aux_lemma => kernel_rfl) (fun τ hτ => ?_)
    refine th_normalS hτ [(2, (vI r8))] (by as_aux_lemma => kernel_rfl) ?_
    refine sem_retS (by as_aux_lemma => kernel_rfl) (fun τ hτ => ?_)
    refine th_ret ?_
    obtain rfl := Option.some.inj h
    exact rv_ret hτ (by as_aux_lemma => kernel_rfl)
  · replace h := iteF hb h
    refine sem_skipS (by as_aux_lemma => kernel_rfl) (fun τ hτ => ?_)
    refine th_normalS hτ [(1, (.ptr 1 [(vI r0.A), (vI r0.B)] 0)), (3, (vI r3))] (by as_aux_lemma => kernel_rfl) ?_
    refine sem_seq (by as_aux_lemma => kernel_rfl) ?_
    refine sem_region (by as_aux_lemma => kernel_rfl) ?_
    refine evs_run 13 (by as_aux_lemma => kernel_rfl) ?_
    obtain ⟨r10, hr10, h⟩ := bindS h
    refine evs_call (b := true) (by as_aux_lemma => kernel_rfl) (W.geom_sign_ok hr10) (.inl rfl) ?_
    refine evs_run 2 (by as_aux_lemma => kernel_rfl) ?_
    refine evs_endS (by as_aux_lemma => kernel_rfl) (fun τ hτ => ?_)
    refine th_normalS hτ [(2, (vI (imul r3 r10)))] (by as_aux_lemma => kernel_rfl) ?_
    refine sem_retS (by as_aux_lemma => kernel_rfl) (fun τ hτ => ?_)
    obtain rfl := Option.some.inj h
    exact rv_ret hτ (by as_aux_lemma => kernel_rfl)
theorem W.geom_SignRoot_ok {r0 : Root} {r : Int × Int} (h : geom_SignRoot r0 = some r) : PCalls G.P 17 [(.agg [(vI r0.A), (vI r0.B)])] (.tup [(vI r.1), (vI r.2)]) := by
  refine pc_view G (fn := Try.f17) Try.func17 (by as_aux_lemma => kernel_rfl) (by as_aux_lemma => kernel_rfl) (by as_aux_lemma => kernel_rfl) (by as_aux_lemma => kernel_rfl) ?_
  refine sem_set [(0, (.agg [(vI r0.A), (vI r0.B)]))] (by as_aux_lemma => kernel_rfl) ?_
  refine sem_seq (by as_aux_lemma => kernel_rfl) ?_
  refine sem_region (by as_aux_lemma => kernel_rfl) ?_
  refine evs_run 3 (by as_aux_lemma => kernel_rfl) ?_
  refine evs_endS (by as_aux_lemma => kernel_rfl) (fun τ hτ => ?_)
  refine th_normalS hτ [(1, (.ptr 1 [(vI r0.A), (vI r0.B)] 0))] (by as_aux_lemma => kernel_rfl) ?_
  refine sem_seq (by as_aux_lemma => kernel_rfl) ?_
  refine sem_seq (by as_aux_lemma => kernel_rfl) ?_
  obtain ⟨j8, hj8, h⟩ := bindS h
  refine sem_regionC [(1, (.ptr 1 [(vI r0.A), (vI r0.B)] 0)), (13, (vB j8))] (by as_aux_lemma => kernel_rfl) ?_ (fun τ hτ => ?_)
  · replace h := hj8
    refine evs_run 2 (by as_aux_lemma => kernel_rfl) ?_
    obtain ⟨r9, hr9, h⟩ := bindS h
    refine evs_call (b := true) (by as_aux_lemma => kernel_rfl) (W.geom_within_ok hr9) (.inl rfl) ?_
    refine evs_run 2 (by as_aux_lemma => kernel_rfl) ?_
    refine evs_split r9 (fun b0 => [(1, (.ptr 1 [(vI r0.A), (vI r0.B)] 0)), (8, (vB (!b0)))]) (by as_aux_lemma => kernel_rfl) (fun hb => ?_) (fun hb => ?_)
    · replace h := iteT hb h
      refine evs_run 2 (by as_aux_lemma => kernel_rfl) ?_
      obtain ⟨r10, hr10, h⟩ := bindS h
      refine evs_call (b := true) (by as_aux_lemma => kernel_rfl) (W.geom_within_ok hr10) (.inl rfl) ?_
      refine evs_run 2 (by as_aux_lemma => kernel_rfl) ?_
      refine evs_endS (by as_aux_lemma => kernel_rfl) (fun τ hτ => ?_)
      obtain rfl := Option.some.inj h
      exact leafC hτ (by as_aux_lemma => kernel_rfl)
    · replace h := iteF hb h
      refine evs_run 5 (by as_aux_lemma => kernel_rfl) ?_
      refine evs_endS (by as_aux_lemma => kernel_rfl) (fun τ hτ => ?_)
      obtain rfl := Option.some.inj h
      exact leafC hτ (by as_aux_lemma => kernel_rfl)
  refine th_normalS hτ [(1, (.ptr 1 [(vI r0.A), (vI r0.B)] 0)), (13, (vB j8))] (by as_aux_lemma => kernel_rfl) ?_
  refine sem_cond j8 (by as_aux_lemma => kernel_rfl) (by as_aux_lemma => kernel_rfl) (fun hb => ?_) (fun hb => ?_)
  · replace h := iteT hb h
    refine sem_seq (by as_aux_lemma => kernel_rfl) ?_
    refine sem_region (by as_aux_lemma => kernel_rfl) ?_
    refine evs_run 2 (by as_aux_lemma => kernel_rfl) ?_
    refine evs_endS (by as_aux_lemma => kernel_rfl) (fun τ hτ => ?_)
    refine th_normalS hτ [(2, (vI 0)), (3, (vI 4))] (by as_aux_lemma => kernel_rfl) ?_
    refine sem_retS (by as_aux_lemma => kernel_rfl) (fun τ hτ => ?_)
    refine th_ret ?_
    obtain rfl := Option.some.inj h
    exact rv_ret hτ (by as_aux_lemma => kernel_rfl)
  · replace h := iteF hb h
    refine sem_skipS (by as_aux_lemma => kernel_rfl) (fun τ hτ => ?_)
    refine th_normalS hτ [(1, (.ptr 1 [(vI r0.A), (vI r0.B)] 0))] (by as_aux_lemma => kernel_rfl) ?_
    refine sem_seq (by as_aux_lemma => kernel_rfl) ?_
    refine sem_region (by as_aux_lemma => kernel_rfl) ?_
    refine evs_run 1 (by as_aux_lemma => kernel_rfl) ?_
    obtain ⟨r12, hr12, h⟩ := bindS h
    refine evs_call (b := true) (by as_aux_lemma => kernel_rfl) (W.geom_signOf_ok hr12) (.inl rfl) ?_
    refine evs_run 2 (by as_aux_lemma => kernel_rfl) ?_
    refine evs_endS (by as_aux_lemma => kernel_rfl) (fun τ hτ => ?_)
    refine th_normalS hτ [(2, (vI r12)), (3, (vI 0))] (by as_aux_lemma => kernel_rfl) ?_
    refine sem_retS (by as_aux_lemma => kernel_rfl) (fun τ hτ => ?_)
    obtain rfl := Option.some.inj h
    exact rv_ret hτ (by as_aux_lemma => kernel_rfl)
theorem W.sheetmetalref01_within_ok {n : Int} {lo : Int} {hi : Int} {r : Bool} (h : sheetmetalref01_within n lo hi = some r) : PCalls G.P 69 [(vI n), (vI lo), (vI hi)] (vB r) := by
  refine pc_view G (fn := Try.f69) Try.func69 (by as_aux_lemma => kernel_rfl) (by as_aux_lemma => kernel_rfl) (by as_aux_lemma => kernel_rfl) (by as_aux_lemma => kernel_rfl) ?_
  refine sem_set [(0, (vI n)), (1, (vI lo)), (2, (vI hi))] (by as_aux_lemma => kernel_rfl) ?_
  refine sem_seq (by as_aux_lemma => kernel_rfl) ?_
  refine sem_region (by as_aux_lemma => kernel_rfl) ?_
  refine evs_run 1 (by as_aux_lemma => kernel_rfl) ?_
  refine evs_endS (by as_aux_lemma => kernel_rfl) (fun τ hτ => ?_)
  refine th_normalS hτ [(0, (vI n)), (1, (vI lo)), (2, (vI hi))] (by as_aux_lemma => kernel_rfl) ?_
  refine sem_seq (by as_aux_lemma => kernel_rfl) ?_
  obtain ⟨j1, hj1, h⟩ := bindS h
  refine sem_regionC [(6, (vB j1))] (by as_aux_lemma => kernel_rfl) ?_ (fun τ hτ => ?_)
  · replace h := hj1
    refine evs_run 4 (by as_aux_lemma => kernel_rfl) ?_
    refine evs_split (decide (n ≥ lo)) (fun b0 => [(0, (vI n)), (2, (vI hi)), (10, (vB b0))]) (by as_aux_lemma => kernel_rfl) (fun hb => ?_) (fun hb => ?_)
    · replace h := iteT hb h
      refine evs_run 5 (by as_aux_lemma => kernel_rfl) ?_
      refine evs_endS (by as_aux_lemma => kernel_rfl) (fun τ hτ => ?_)
      obtain rfl := Option.some.inj h
      exact leafC hτ (by as_aux_lemma => kernel_rfl)
    · replace h := iteF hb h
      refine evs_run 5 (by as_aux_lemma => kernel_rfl) ?_
      refine evs_endS (by as_aux_lemma => kernel_rfl) (fun τ hτ => ?_)
      obtain rfl := Option.some.inj h
      exact leafC hτ (by as_aux_lemma => kernel_rfl)
  refine th_normalS hτ [(6, (vB j1))] (by as_aux_lemma => kernel_rfl) ?_
  refine sem_retS (by as_aux_lemma => kernel_rfl) (fun τ hτ => ?_)
  obtain rfl := Option.some.inj h
  exact rv_ret hτ (by as_aux_lemma => kernel_rfl)
theorem W.sheetmetalref01_rootIn_ok {r0 : Root} {most : Int} {r : Bool} (h : sheetmetalref01_rootIn r0 most = some r) : PCalls G.P 60 [(.agg [(vI r0.A), (vI r0.B)]), (vI most)] (vB r) := by
  refine pc_view G (fn := Try.f60) Try.func60 (by as_aux_lemma => kernel_rfl) (by as_aux_lemma => kernel_rfl) (by as_aux_lemma => kernel_rfl) (by as_aux_lemma => kernel_rfl) ?_
  refine sem_set [(0, (.agg [(vI r0.A), (vI r0.B)])), (1, (vI most))] (by as_aux_lemma => kernel_rfl) ?_
  refine sem_seq (by as_aux_lemma => kernel_rfl) ?_
  refine sem_region (by as_aux_lemma => kernel_rfl) ?_
  refine evs_run 2 (by as_aux_lemma => kernel_rfl) ?_
  refine evs_endS (by as_aux_lemma => kernel_rfl) (fun τ hτ => ?_)
  refine th_normalS hτ [(1, (vI most)), (2, (.ptr 2 [(vI r0.A), (vI r0.B)] 0))] (by as_aux_lemma => kernel_rfl) ?_
  refine sem_seq (by as_aux_lemma => kernel_rfl) ?_
  obtain ⟨j3, hj3, h⟩ := bindS h
  refine sem_regionC [(4, (vB j3))] (by as_aux_lemma => kernel_rfl) ?_ (fun τ hτ => ?_)
  · replace h := hj3
    refine evs_run 5 (by as_aux_lemma => kernel_rfl) ?_
    obtain ⟨r4, hr4, h⟩ := bindS h
    refine evs_call (b := true) (by as_aux_lemma => kernel_rfl) (W.sheetmetalref01_within_ok hr4) (.inl rfl) ?_
    refine evs_run 1 (by as_aux_lemma => kernel_rfl) ?_
    refine evs_split r4 (fun b0 => [(1, (vI most)), (2, (.ptr 2 [(vI r0.A), (vI r0.B)] 0)), (11, (vB b0))]) (by as_aux_lemma => kernel_rfl) (fun hb => ?_) (fun hb => ?_)
    · replace h := iteT hb h
      refine evs_run 5 (by as_aux_lemma => kernel_rfl) ?_
      obtain ⟨r5, hr5, h⟩ := bindS h
      refine evs_call (b := true) (by as_aux_lemma => kernel_rfl) (W.sheetmetalref01_within_ok hr5) (.inl rfl) ?_
      refine evs_run 2 (by as_aux_lemma => kernel_rfl) ?_
      refine evs_endS (by as_aux_lemma => kernel_rfl) (fun τ hτ => ?_)
      obtain rfl := Option.some.inj h
      exact leafC hτ (by as_aux_lemma => kernel_rfl)
    · replace h := iteF hb h
      refine evs_run 8 (by as_aux_lemma => kernel_rfl) ?_
      refine evs_endS (by as_aux_lemma => kernel_rfl) (fun τ hτ => ?_)
      obtain rfl := Option.some.inj h
      exact leafC hτ (by as_aux_lemma => kernel_rfl)
  refine th_normalS hτ [(4, (vB j3))] (by as_aux_lemma => kernel_rfl) ?_
  refine sem_retS (by as_aux_lemma => kernel_rfl) (fun τ hτ => ?_)
  obtain rfl := Option.some.inj h
  exact rv_ret hτ (by as_aux_lemma => kernel_rfl)
theorem W.sheetmetalref01_sign_ok {r0 : Root} {r : Int} (h : sheetmetalref01_sign r0 = some r) : PCalls G.P 61 [(.agg [(vI r0.A), (vI r0.B)])] (vI r) := by
  refine pc_view G (fn := Try.f61) Try.func61 (by as_aux_lemma => kernel_rfl) (by as_aux_lemma => kernel_rfl) (by as_aux_lemma => kernel_rfl) (by as_aux_lemma => kernel_rfl) ?_
  refine sem_set [(0, (.agg [(vI r0.A), (vI r0.B)]))] (by as_aux_lemma => kernel_rfl) ?_
  refine sem_seq (by as_aux_lemma => kernel_rfl) ?_
  refine sem_region (by as_aux_lemma => kernel_rfl) ?_
  refine evs_run 2 (by as_aux_lemma => kernel_rfl) ?_
  refine evs_endS (by as_aux_lemma => kernel_rfl) (fun τ hτ => ?_)
  refine th_normalS hτ [(1, (.ptr 1 [(vI r0.A), (vI r0.B)] 0))] (by as_aux_lemma => kernel_rfl) ?_
  refine sem_seq (by as_aux_lemma => kernel_rfl) ?_
  refine sem_region (by as_aux_lemma => kernel_rfl) ?_
  refine evs_run 2 (by as_aux_lemma => kernel_rfl) ?_
  refine evs_endS (by as_aux_lemma => kernel_rfl) (fun τ hτ => ?_)
  refine th_normalS hτ [(1, (.ptr 1 [(vI r0.A), (vI r0.B)] 0)), (3, (vI 0)), (4, (vI 0))] (by as_aux_lemma => kernel_rfl) ?_
  refine sem_seqJ (fun (j1 : Int) => [(1, (.ptr 1 [(vI r0.A), (vI r0.B)] 0)), (3, (vI j1)), (4, (vI 0))]) (sheetmetalref01_sign_k4 r0) r (by as_aux_lemma => kernel_rfl) (fun j1 h => ?_) ?_
  · refine sem_seqJ (fun (j2 : Int) => [(1, (.ptr 1 [(vI r0.A), (vI r0.B)] 0)), (3, (vI j2)), (4, (vI 0))]) (sheetmetalref01_sign_k3 r0) r (by as_aux_lemma => kernel_rfl) (fun j2 h => ?_) ?_
    · refine sem_seqJ (fun (j3 : Int) => [(1, (.ptr 1 [(vI r0.A), (vI r0.B)] 0)), (3, (vI j2)), (4, (vI j3))]) (sheetmetalref01_sign_k2 r0 j2) r (by as_aux_lemma => kernel_rfl) (fun j3 h => ?_) ?_
      · refine sem_seqJ (fun (j4 : Int) => [(1, (.ptr 1 [(vI r0.A), (vI r0.B)] 0)), (3, (vI j2)), (4, (vI j4))]) (sheetmetalref01_sign_k1 r0 j2) r (by as_aux_lemma => kernel_rfl) (fun j4 h => ?_) ?_
        · refine sem_seq (by as_aux_lemma => kernel_rfl) ?_
          refine sem_seq (by as_aux_lemma => kernel_rfl) ?_
          obtain ⟨j6, hj6, h⟩ := bindS h
          refine sem_regionC [(1, (.ptr 1 [(vI r0.A), (vI r0.B)] 0)), (3, (vI j2)), (4, (vI j4)), (23, (vB j6))] (by as_aux_lemma => kernel_rfl) ?_ (fun τ hτ => ?_)
          · replace h := hj6
            refine evs_run 4 (by as_aux_lemma => kernel_rfl) ?_
            refine evs_split (j2 == j4) (fun b0 => [(1, (.ptr 1 [(vI r0.A), (vI r0.B)] 0)), (3, (vI j2)), (4, (vI j4)), (20, (vB b0))]) (by as_aux_lemma => kernel_rfl) (fun hb => ?_) (fun hb => ?_)
            · replace h := iteT hb h
              refine evs_run 3 (by as_aux_lemma => kernel_rfl) ?_
              refine evs_endS (by as_aux_lemma => kernel_rfl) (fun τ hτ => ?_)
              obtain rfl := Option.some.inj h
              exact leafC hτ (by as_aux_lemma => kernel_rfl)
            · replace h := iteF hb h
              refine evs_run 3 (by as_aux_lemma => kernel_rfl) ?_
              refine evs_endS (by as_aux_lemma => kernel_rfl) (fun τ hτ => ?_)
              obtain rfl := Option.some.inj h
              exact leafC hτ (by as_aux_lemma => kernel_rfl)
          refine th_normalS hτ [(1, (.ptr 1 [(vI r0.A), (vI r0.B)] 0)), (3, (vI j2)), (4, (vI j4)), (23, (vB j6))] (by as_aux_lemma => kernel_rfl) ?_
          refine sem_cond j6 (by as_aux_lemma => kernel_rfl) (by as_aux_lemma => kernel_rfl) (fun hb => ?_) (fun hb => ?_)
          · replace h := iteT hb h
            refine sem_seq (by as_aux_lemma => kernel_rfl) ?_
            refine sem_region (by as_aux_lemma => kernel_rfl) ?_
            refine evs_run 2 (by as_aux_lemma => kernel_rfl) ?_
            refine evs_endS (by as_aux_lemma => kernel_rfl) (fun τ hτ => ?_)
            refine th_normalS hτ [(2, (vI j2))] (by as_aux_lemma => kernel_rfl) ?_
            refine sem_retS (by as_aux_lemma => kernel_rfl) (fun τ hτ => ?_)
            refine th_ret ?_
            obtain rfl := Option.some.inj h
            exact rv_ret hτ (by as_aux_lemma => kernel_rfl)
          · replace h := iteF hb h
            refine sem_skipS (by as_aux_lemma => kernel_rfl) (fun τ hτ => ?_)
            refine th_normalS hτ [(1, (.ptr 1 [(vI r0.A), (vI r0.B)] 0)), (3, (vI j2)), (4, (vI j4))] (by as_aux_lemma => kernel_rfl) ?_
            refine sem_seq (by as_aux_lemma => kernel_rfl) ?_
            refine sem_seq (by as_aux_lemma => kernel_rfl) ?_
            refine sem_region (by as_aux_lemma => kernel_rfl) ?_
            refine evs_run 2 (by as_aux_lemma => kernel_rfl) ?_
            refine evs_endS (by as_aux_lemma => kernel_rfl) (fun τ hτ => ?_)
            refine th_normalS hτ [(1, (.ptr 1 [(vI r0.A), (vI r0.B)] 0)), (3, (vI j2)), (4, (vI j4)), (26, (vB (j2 == 0)))] (by as_aux_lemma => kernel_rfl) ?_
            refine sem_cond (j2 == 0) (by as_aux_lemma => kernel_rfl) (by as_aux_lemma => kernel_rfl) (fun hb => ?_) (fun hb => ?_)
            · replace h := iteT hb h
              refine sem_seq (by as_aux_lemma => kernel_rfl) ?_
              refine sem_region (by as_aux_lemma => kernel_rfl) ?_
              refine evs_run 2 (by as_aux_lemma => kernel_rfl) ?_
              refine evs_endS (by as_aux_lemma => kernel_rfl) (fun τ hτ => ?_)
              refine th_normalS hτ [(2, (vI j4))] (by as_aux_lemma => kernel_rfl) ?_
              refine sem_retS (by as_aux_lemma => kernel_rfl) (fun τ hτ => ?_)
              refine th_ret ?_
              obtain rfl := Option.some.inj h
              exact rv_ret hτ (by as_aux_lemma => kernel_rfl)
            · replace h := iteF hb h
              refine sem_skipS (by as_aux_lemma => kernel_rfl) (fun τ hτ => ?_)
              refine th_normalS hτ [(1, (.ptr 1 [(vI r0.A), (vI r0.B)] 0)), (3, (vI j2)), (4, (vI j4))] (by as_aux_lemma => kernel_rfl) ?_
              refine sem_seq (by as_aux_lemma => kernel_rfl) ?_
              refine sem_seq (by as_aux_lemma => kernel_rfl) ?_
              refine sem_region (by as_aux_lemma => kernel_rfl) ?_
              refine evs_run 12 (by as_aux_lemma => kernel_rfl) ?_
              refine evs_endS (by as_aux_lemma => kernel_rfl) (fun τ hτ => ?_)
              refine th_normalS hτ [(3, (vI j2)), (4, (vI j4)), (39, (vB (decide ((imul r0.A r0.A) > (imul (imul 3 r0.B) r0.B)))))] (by as_aux_lemma => kernel_rfl) ?_
              refine sem_cond (decide ((imul r0.A r0.A) > (imul (imul 3 r0.B) r0.B))) (by as_aux_lemma => kernel_rfl) (by as_aux_lemma => kernel_rfl) (fun hb => ?_) (fun hb => ?_)
              · replace h := iteT hb h
                refine sem_seq (by as_aux_lemma => kernel_rfl) ?_
                refine sem_region (by as_aux_lemma => kernel_rfl) ?_
                refine evs_run 2 (by as_aux_lemma => kernel_rfl) ?_
                refine evs_endS (by as_aux_lemma => kernel_rfl) (fun τ hτ => ?_)
                refine th_normalS hτ [(2, (vI j2))] (by as_aux_lemma => kernel_rfl) ?_
                refine sem_retS (by as_aux_lemma => kernel_rfl) (fun τ hτ => ?_)
                refine th_ret ?_
                obtain rfl := Option.some.inj h
                exact rv_ret hτ (by as_aux_lemma => kernel_rfl)
              · replace h := iteF hb h
                refine sem_skipS (by as_aux_lemma => kernel_rfl) (fun τ hτ => ?_)
                refine th_normalS hτ [(4, (vI j4))] (by as_aux_lemma => kernel_rfl) ?_
                refine sem_seq (by as_aux_lemma => kernel_rfl) ?_
                refine sem_region (by as_aux_lemma => kernel_rfl) ?_
                refine evs_run 2 (by as_aux_lemma => kernel_rfl) ?_
                refine evs_endS (by as_aux_lemma => kernel_rfl) (fun τ hτ => ?_)
                refine th_normalS hτ [(2, (vI j4))] (by as_aux_lemma => kernel_rfl) ?_
                refine sem_retS (by as_aux_lemma => kernel_rfl) (fun τ hτ => ?_)
                obtain rfl := Option.some.inj h
                exact rv_ret hτ (by as_aux_lemma => kernel_rfl)
        refine sem_seq (by as_aux_lemma => kernel_rfl) ?_
        refine sem_region (by as_aux_lemma => kernel_rfl) ?_
        refine evs_run 3 (by as_aux_lemma => kernel_rfl) ?_
        refine evs_endS (by as_aux_lemma => kernel_rfl) (fun τ hτ => ?_)
        refine th_normalS hτ [(1, (.ptr 1 [(vI r0.A), (vI r0.B)] 0)), (3, (vI j2)), (4, (vI j3)), (16, (vB (decide (r0.B < 0))))] (by as_aux_lemma => kernel_rfl) ?_
        refine sem_cond (decide (r0.B < 0)) (by as_aux_lemma => kernel_rfl) (by as_aux_lemma => kernel_rfl) (fun hb => ?_) (fun hb => ?_)
        · replace h := iteT hb h
          refine sem_region (by as_aux_lemma => kernel_rfl) ?_
          refine evs_run 1 (by as_aux_lemma => kernel_rfl) ?_
          refine evs_endS (by as_aux_lemma => kernel_rfl) (fun τ hτ => ?_)
          exact jk_normal (-1) h hτ (by as_aux_lemma => kernel_rfl)
        · replace h := iteF hb h
          refine sem_skipS (by as_aux_lemma => kernel_rfl) (fun τ hτ => ?_)
          exact jk_normal j3 h hτ (by as_aux_lemma => kernel_rfl)
      refine sem_seq (by as_aux_lemma => kernel_rfl) ?_
      refine sem_region (by as_aux_lemma => kernel_rfl) ?_
      refine evs_run 3 (by as_aux_lemma => kernel_rfl) ?_
      refine evs_endS (by as_aux_lemma => kernel_rfl) (fun τ hτ => ?_)
      refine th_normalS hτ [(1, (.ptr 1 [(vI r0.A), (vI r0.B)] 0)), (3, (vI j2)), (4, (vI 0)), (13, (vB (decide (r0.B > 0))))] (by as_aux_lemma => kernel_rfl) ?_
      refine sem_cond (decide (r0.B > 0)) (by as_aux_lemma => kernel_rfl) (by as_aux_lemma => kernel_rfl) (fun hb => ?_) (fun hb => ?_)
      · replace h := iteT hb h
        refine sem_region (by as_aux_lemma => kernel_rfl) ?_
        refine evs_run 1 (by as_aux_lemma => kernel_rfl) ?_
        refine evs_endS (by as_aux_lemma => kernel_rfl) (fun τ hτ => ?_)
        exact jk_normal 1 h hτ (by as_aux_lemma => kernel_rfl)
      · replace h := iteF hb h
        refine sem_skipS (by as_aux_lemma => kernel_rfl) (fun τ hτ => ?_)
        exact jk_normal 0 h hτ (by as_aux_lemma => kernel_rfl)
    refine sem_seq (by as_aux_lemma => kernel_rfl) ?_
    refine sem_region (by as_aux_lemma => kernel_rfl) ?_
    refine evs_run 3 (by as_aux_lemma => kernel_rfl) ?_
    refine evs_endS (by as_aux_lemma => kernel_rfl) (fun τ hτ => ?_)
    refine th_normalS hτ [(1, (.ptr 1 [(vI r0.A), (vI r0.B)] 0)), (3, (vI j1)), (4, (vI 0)), (10, (vB (decide (r0.A < 0))))] (by as_aux_lemma => kernel_rfl) ?_
    refine sem_cond (decide (r0.A < 0)) (by as_aux_lemma => kernel_rfl) (by as_aux_lemma => kernel_rfl) (fun hb => ?_) (fun hb => ?_)
    · replace h := iteT hb h
      refine sem_region (by as_aux_lemma => kernel_rfl) ?_
      refine evs_run 1 (by as_aux_lemma => kernel_rfl) ?_
      refine evs_endS (by as_aux_lemma => kernel_rfl) (fun τ hτ => ?_)
      exact jk_normal (-1) h hτ (by as_aux_lemma => kernel_rfl)
    · replace h := iteF hb h
      refine sem_skipS (by as_aux_lemma => kernel_rfl) (fun τ hτ => ?_)
      exact jk_normal j1 h hτ (by as_aux_lemma => kernel_rfl)
  refine sem_seq (by as_aux_lemma => kernel_rfl) ?_
  refine sem_region (by as_aux_lemma => kernel_rfl) ?_
  refine evs_run 3 (by as_aux_lemma => kernel_rfl) ?_
  refine evs_endS (by as_aux_lemma => kernel_rfl) (fun τ hτ => ?_)
  refine th_normalS hτ [(1, (.ptr 1 [(vI r0.A), (vI r0.B)] 0)), (3, (vI 0)), (4, (vI 0)), (7, (vB (decide (r0.A > 0))))] (by as_aux_lemma => kernel_rfl) ?_
  refine sem_cond (decide (r0.A > 0)) (by as_aux_lemma => kernel_rfl) (by as_aux_lemma => kernel_rfl) (fun hb => ?_) (fun hb => ?_)
  · replace h := iteT hb h
    refine sem_region (by as_aux_lemma => kernel_rfl) ?_
    refine evs_run 1 (by as_aux_lemma => kernel_rfl) ?_
    refine evs_endS (by as_aux_lemma => kernel_rfl) (fun τ hτ => ?_)
    exact jk_normal 1 h hτ (by as_aux_lemma => kernel_rfl)
  · replace h := iteF hb h
    refine sem_skipS (by as_aux_lemma => kernel_rfl) (fun τ hτ => ?_)
    exact jk_normal 0 h hτ (by as_aux_lemma => kernel_rfl)
theorem W.sheetmetalref01_SignRoot_ok {r0 : Root} {r : Int × Int} (h : sheetmetalref01_SignRoot r0 = some r) : PCalls G.P 18 [(.agg [(vI r0.A), (vI r0.B)])] (.tup [(vI r.1), (vI r.2)]) := by
  refine pc_view G (fn := Try.f18) Try.func18 (by as_aux_lemma => kernel_rfl) (by as_aux_lemma => kernel_rfl) (by as_aux_lemma => kernel_rfl) (by as_aux_lemma => kernel_rfl) ?_
  refine sem_set [(0, (.agg [(vI r0.A), (vI r0.B)]))] (by as_aux_lemma => kernel_rfl) ?_
  refine sem_seq (by as_aux_lemma => kernel_rfl) ?_
  refine sem_region (by as_aux_lemma => kernel_rfl) ?_
  refine evs_run 3 (by as_aux_lemma => kernel_rfl) ?_
  refine evs_endS (by as_aux_lemma => kernel_rfl) (fun τ hτ => ?_)
  refine th_normalS hτ [(1, (.ptr 1 [(vI r0.A), (vI r0.B)] 0))] (by as_aux_lemma => kernel_rfl) ?_
  refine sem_seq (by as_aux_lemma => kernel_rfl) ?_
  refine sem_seq (by as_aux_lemma => kernel_rfl) ?_
  refine sem_region (by as_aux_lemma => kernel_rfl) ?_
  refine evs_run 1 (by as_aux_lemma => kernel_rfl) ?_
  obtain ⟨r4, hr4, h⟩ := bindS h
  refine evs_call (b := true) (by as_aux_lemma => kernel_rfl) (W.sheetmetalref01_rootIn_ok hr4) (.inl rfl) ?_
  refine evs_run 1 (by as_aux_lemma => kernel_rfl) ?_
  refine evs_endS (by as_aux_lemma => kernel_rfl) (fun τ hτ => ?_)
  refine th_normalS hτ [(1, (.ptr 1 [(vI r0.A), (vI r0.B)] 0)), (6, (vB (!r4)))] (by as_aux_lemma => kernel_rfl) ?_
  refine sem_cond (!r4) (by as_aux_lemma => kernel_rfl) (by as_aux_lemma => kernel_rfl) (fun hb => ?_) (fun hb => ?_)
  · replace h := iteT hb h
    refine sem_seq (by as_aux_lemma => kernel_rfl) ?_
    refine sem_region (by as_aux_lemma => kernel_rfl) ?_
    refine evs_run 2 (by as_aux_lemma => kernel_rfl) ?_
    refine evs_endS (by as_aux_lemma => kernel_rfl) (fun τ hτ => ?_)
    refine th_normalS hτ [(2, (vI 0)), (3, (vI 4))] (by as_aux_lemma => kernel_rfl) ?_
    refine sem_retS (by as_aux_lemma => kernel_rfl) (fun τ hτ => ?_)
    refine th_ret ?_
    obtain rfl := Option.some.inj h
    exact rv_ret hτ (by as_aux_lemma => kernel_rfl)
  · replace h := iteF hb h
    refine sem_skipS (by as_aux_lemma => kernel_rfl) (fun τ hτ => ?_)
    refine th_normalS hτ [(1, (.ptr 1 [(vI r0.A), (vI r0.B)] 0))] (by as_aux_lemma => kernel_rfl) ?_
    refine sem_seq (by as_aux_lemma => kernel_rfl) ?_
    refine sem_region (by as_aux_lemma => kernel_rfl) ?_
    refine evs_run 1 (by as_aux_lemma => kernel_rfl) ?_
    obtain ⟨r6, hr6, h⟩ := bindS h
    refine evs_call (b := true) (by as_aux_lemma => kernel_rfl) (W.sheetmetalref01_sign_ok hr6) (.inl rfl) ?_
    refine evs_run 2 (by as_aux_lemma => kernel_rfl) ?_
    refine evs_endS (by as_aux_lemma => kernel_rfl) (fun τ hτ => ?_)
    refine th_normalS hτ [(2, (vI r6)), (3, (vI 0))] (by as_aux_lemma => kernel_rfl) ?_
    refine sem_retS (by as_aux_lemma => kernel_rfl) (fun τ hτ => ?_)
    obtain rfl := Option.some.inj h
    exact rv_ret hτ (by as_aux_lemma => kernel_rfl)
theorem W.geom_minus_ok {a : Root} {b : Root} {r : Root} (h : geom_minus a b = some r) : PCalls G.P 62 [(.agg [(vI a.A), (vI a.B)]), (.agg [(vI b.A), (vI b.B)])] (.agg [(vI r.A), (vI r.B)]) := by
  refine pc_view G (fn := Try.f62) Try.func62 (by as_aux_lemma => kernel_rfl) (by as_aux_lemma => kernel_rfl) (by as_aux_lemma => kernel_rfl) (by as_aux_lemma => kernel_rfl) ?_
  refine sem_set [(0, (.agg [(vI a.A), (vI a.B)])), (1, (.agg [(vI b.A), (vI b.B)]))] (by as_aux_lemma => kernel_rfl) ?_
  refine sem_seq (by as_aux_lemma => kernel_rfl) ?_
  refine sem_region (by as_aux_lemma => kernel_rfl) ?_
  refine evs_run 3 (by as_aux_lemma => kernel_rfl) ?_
  refine evs_endS (by as_aux_lemma => kernel_rfl) (fun τ hτ => ?_)
  refine th_normalS hτ [(2, (.ptr 2 [(vI a.A), (vI a.B)] 0)), (3, (.ptr 3 [(vI b.A), (vI b.B)] 0)), (4, (.ptr 4 [(vI 0), (vI 0)] 0))] (by as_aux_lemma => kernel_rfl) ?_
  refine sem_seq (by as_aux_lemma => kernel_rfl) ?_
  refine sem_region (by as_aux_lemma => kernel_rfl) ?_
  refine evs_run 12 (by as_aux_lemma => kernel_rfl) ?_
  refine evs_endS (by as_aux_lemma => kernel_rfl) (fun τ hτ => ?_)
  refine th_normalS hτ [(4, (.ptr 4 [(vI (isub a.A b.A)), (vI (isub a.B b.B))] 0))] (by as_aux_lemma => kernel_rfl) ?_
  refine sem_retS (by as_aux_lemma => kernel_rfl) (fun τ hτ => ?_)
  obtain rfl := Option.some.inj h
  exact rv_ret hτ (by as_aux_lemma => kernel_rfl)
theorem W.geom_CompareRoot_ok {a : Root} {b : Root} {r : Int × Int} (h : geom_CompareRoot a b = some r) : PCalls G.P 19 [(.agg [(vI a.A), (vI a.B)]), (.agg [(vI b.A), (vI b.B)])] (.tup [(vI r.1), (vI r.2)]) := by
  refine pc_view G (fn := Try.f19) Try.func19 (by as_aux_lemma => kernel_rfl) (by as_aux_lemma => kernel_rfl) (by as_aux_lemma => kernel_rfl) (by as_aux_lemma => kernel_rfl) ?_
  refine sem_set [(0, (.agg [(vI a.A), (vI a.B)])), (1, (.agg [(vI b.A), (vI b.B)]))] (by as_aux_lemma => kernel_rfl) ?_
  refine sem_seq (by as_aux_lemma => kernel_rfl) ?_
  refine sem_region (by as_aux_lemma => kernel_rfl) ?_
  refine evs_run 4 (by as_aux_lemma => kernel_rfl) ?_
  refine evs_endS (by as_aux_lemma => kernel_rfl) (fun τ hτ => ?_)
  refine th_normalS hτ [(2, (.ptr 2 [(vI a.A), (vI a.B)] 0)), (3, (.ptr 3 [(vI b.A), (vI b.B)] 0))] (by as_aux_lemma => kernel_rfl) ?_
  refine sem_seq (by as_aux_lemma => kernel_rfl) ?_
  refine sem_seq (by as_aux_lemma => kernel_rfl) ?_
  refine sem_region (by as_aux_lemma => kernel_rfl) ?_
  refine evs_run 10 (by as_aux_lemma => kernel_rfl) ?_
  refine evs_endS (by as_aux_lemma => kernel_rfl) (fun τ hτ => ?_)
  refine th_normalS hτ [(2, (.ptr 2 [(vI a.A), (vI a.B)] 0)), (3, (.ptr 3 [(vI b.A), (vI b.B)] 0)), (16, (.agg [(vI a.A), (vI a.B), (vI b.A), (vI b.B)])), (17, (vI 0))] (by as_aux_lemma => kernel_rfl) ?_
  refine sem_block (by as_aux_lemma => kernel_rfl) ?_
  obtain ⟨x48, hx48, h⟩ := bindS h
  refine sem_loopS (fun (s31 : Int) => [(2, (.ptr 2 [(vI a.A), (vI a.B)] 0)), (3, (.ptr 3 [(vI b.A), (vI b.B)] 0)), (16, (.agg [(vI a.A), (vI a.B), (vI b.A), (vI b.B)])), (17, (vI s31))]) (fun (x48 : Unit ⊕ Unit) => match x48 with | .inl j49 => (.ret, [(4, (vI 0)), (5, (vI 4))]) | .inr j50 => (.exit 0, [(2, (.ptr 2 [(vI a.A), (vI a.B)] 0)), (3, (.ptr 3 [(vI b.A), (vI b.B)] 0))])) (geom_CompareRoot_l1 a b) 0 x48 (by as_aux_lemma => kernel_rfl) (by as_aux_lemma => kernel_rfl) hx48 ?_ ?_ ?_
  · intro s31 r h
    refine sem_seq (by as_aux_lemma => kernel_rfl) ?_
    refine sem_region (by as_aux_lemma => kernel_rfl) ?_
    refine evs_run 1 (by as_aux_lemma => kernel_rfl) ?_
    refine evs_endS (by as_aux_lemma => kernel_rfl) (fun τ hτ => ?_)
    refine th_normalS hτ [(2, (.ptr 2 [(vI a.A), (vI a.B)] 0)), (3, (.ptr 3 [(vI b.A), (vI b.B)] 0)), (16, (.agg [(vI a.A), (vI a.B), (vI b.A), (vI b.B)])), (17, (vI s31)), (18, (vB (decide (s31 < 4))))] (by as_aux_lemma => kernel_rfl) ?_
    refine sem_seq (by as_aux_lemma => kernel_rfl) ?_
    refine sem_cond (decide (s31 < 4)) (by as_aux_lemma => kernel_rfl) (by as_aux_lemma => kernel_rfl) (fun hb => ?_) (fun hb => ?_)
    · replace h := iteT hb h
      refine sem_skipS (by as_aux_lemma => kernel_rfl) (fun τ hτ => ?_)
      refine th_normalS hτ [(2, (.ptr 2 [(vI a.A), (vI a.B)] 0)), (3, (.ptr 3 [(vI b.A), (vI b.B)] 0)), (16, (.agg [(vI a.A), (vI a.B), (vI b.A), (vI b.B)])), (17, (vI s31))] (by as_aux_lemma => kernel_rfl) ?_
      refine sem_seq (by as_aux_lemma => kernel_rfl) ?_
      refine sem_block (by as_aux_lemma => kernel_rfl) ?_
      refine sem_seq (by as_aux_lemma => kernel_rfl) ?_
      refine sem_region (by as_aux_lemma => kernel_rfl) ?_
      obtain ⟨x45, hx45, h⟩ := bindS h
      refine evs_op (st_aix0 (c := cI) (l := [a.A, a.B, b.A, b.B]) (i := s31) (x := x45) (v := (vI x45)) (n := 4) (kd := .i64) (cs := [(vI a.A), (vI a.B), (vI b.A), (vI b.B)]) (by as_aux_lemma => kernel_rfl) (by as_aux_lemma => kernel_rfl) rfl hx45 (fun _ => rfl) rfl) ?_
      refine evs_run 1 (by as_aux_lemma => kernel_rfl) ?_
      refine evs_endS (by as_aux_lemma => kernel_rfl) (fun τ hτ => ?_)
      refine th_normalS hτ [(2, (.ptr 2 [(vI a.A), (vI a.B)] 0)), (3, (.ptr 3 [(vI b.A), (vI b.B)] 0)), (7, (vI x45)), (16, (.agg [(vI a.A), (vI a.B), (vI b.A), (vI b.B)])), (17, (vI s31))] (by as_aux_lemma => kernel_rfl) ?_
      refine sem_seq (by as_aux_lemma => kernel_rfl) ?_
      refine sem_region (by as_aux_lemma => kernel_rfl) ?_
      refine evs_run 1 (by as_aux_lemma => kernel_rfl) ?_
      obtain ⟨r47, hr47, h⟩ := bindS h
      refine evs_call (b := true) (by as_aux_lemma => kernel_rfl) (W.geom_within_ok hr47) (.inl rfl) ?_
      refine evs_run 1 (by as_aux_lemma => kernel_rfl) ?_
      refine evs_endS (by as_aux_lemma => kernel_rfl) (fun τ hτ => ?_)
      refine th_normalS hτ [(2, (.ptr 2 [(vI a.A), (vI a.B)] 0)), (3, (.ptr 3 [(vI b.A), (vI b.B)] 0)), (16, (.agg [(vI a.A), (vI a.B), (vI b.A), (vI b.B)])), (17, (vI s31)), (22, (vB (!r47)))] (by as_aux_lemma => kernel_rfl) ?_
      refine sem_cond (!r47) (by as_aux_lemma => kernel_rfl) (by as_aux_lemma => kernel_rfl) (fun hb => ?_) (fun hb => ?_)
      · replace h := iteT hb h
        refine sem_seq (by as_aux_lemma => kernel_rfl) ?_
        refine sem_region (by as_aux_lemma => kernel_rfl) ?_
        refine evs_run 2 (by as_aux_lemma => kernel_rfl) ?_
        refine evs_endS (by as_aux_lemma => kernel_rfl) (fun τ hτ => ?_)
        refine th_normalS hτ [(4, (vI 0)), (5, (vI 4))] (by as_aux_lemma => kernel_rfl) ?_
        refine sem_retS (by as_aux_lemma => kernel_rfl) (fun τ hτ => ?_)
        refine bl_ret ?_
        refine th_ret ?_
        obtain rfl := Option.some.inj h
        exact lk_outS hτ rfl (by as_aux_lemma => kernel_rfl)
      · replace h := iteF hb h
        refine sem_skipS (by as_aux_lemma => kernel_rfl) (fun τ hτ => ?_)
        refine bl_normal ?_
        refine th_normalS hτ [(2, (.ptr 2 [(vI a.A), (vI a.B)] 0)), (3, (.ptr 3 [(vI b.A), (vI b.B)] 0)), (16, (.agg [(vI a.A), (vI a.B), (vI b.A), (vI b.B)])), (17, (vI s31))] (by as_aux_lemma => kernel_rfl) ?_
        refine sem_region (by as_aux_lemma => kernel_rfl) ?_
        refine evs_run 2 (by as_aux_lemma => kernel_rfl) ?_
        refine evs_endS (by as_aux_lemma => kernel_rfl) (fun τ hτ => ?_)
        obtain rfl := Option.some.inj h
        exact lk_nextS hτ (by as_aux_lemma => kernel_rfl)
    · replace h := iteF hb h
      refine sem_exitS 0 (by as_aux_lemma => kernel_rfl) rfl (fun τ hτ => ?_)
      refine th_exit ?_
      obtain rfl := Option.some.inj h
      exact lk_outS hτ rfl (by as_aux_lemma => kernel_rfl)
  · intro x
    rcases x with _ | _ <;> rfl
  · intro τ hτ
    rcases x48 with j49 | j50
    · refine bl_ret ?_
      refine th_ret ?_
      obtain rfl := Option.some.inj h
      exact rv_ret hτ (by as_aux_lemma => kernel_rfl)
    · refine bl_hit (by as_aux_lemma => kernel_rfl) ?_
      refine th_normalS hτ [(2, (.ptr 2 [(vI a.A), (vI a.B)] 0)), (3, (.ptr 3 [(vI b.A), (vI b.B)] 0))] (by as_aux_lemma => kernel_rfl) ?_
      refine sem_seq (by as_aux_lemma => kernel_rfl) ?_
      refine sem_region (by as_aux_lemma => kernel_rfl) ?_
      refine evs_run 2 (by as_aux_lemma => kernel_rfl) ?_
      obtain ⟨r53, hr53, h⟩ := bindS h
      refine evs_call (b := true) (by as_aux_lemma => kernel_rfl) (W.geom_minus_ok hr53) (.inl rfl) ?_
      obtain ⟨r54, hr54, h⟩ := bindS h
      refine evs_call (b := true) (by as_aux_lemma => kernel_rfl) (W.geom_signOf_ok hr54) (.inl rfl) ?_
      refine evs_run 2 (by as_aux_lemma => kernel_rfl) ?_
      refine evs_endS (by as_aux_lemma => kernel_rfl) (fun τ hτ => ?_)
      refine th_normalS hτ [(4, (vI r54)), (5, (vI 0))] (by as_aux_lemma => kernel_rfl) ?_
      refine sem_retS (by as_aux_lemma => kernel_rfl) (fun τ hτ => ?_)
      obtain rfl := Option.some.inj h
      exact rv_ret hτ (by as_aux_lemma => kernel_rfl)
theorem W.sheetmetalref01_minus_ok {a : Root} {b : Root} {r : Root} (h : sheetmetalref01_minus a b = some r) : PCalls G.P 63 [(.agg [(vI a.A), (vI a.B)]), (.agg [(vI b.A), (vI b.B)])] (.agg [(vI r.A), (vI r.B)]) := by
  refine pc_view G (fn := Try.f63) Try.func63 (by as_aux_lemma => kernel_rfl) (by as_aux_lemma => kernel_rfl) (by as_aux_lemma => kernel_rfl) (by as_aux_lemma => kernel_rfl) ?_
  refine sem_set [(0, (.agg [(vI a.A), (vI a.B)])), (1, (.agg [(vI b.A), (vI b.B)]))] (by as_aux_lemma => kernel_rfl) ?_
  refine sem_seq (by as_aux_lemma => kernel_rfl) ?_
  refine sem_region (by as_aux_lemma => kernel_rfl) ?_
  refine evs_run 3 (by as_aux_lemma => kernel_rfl) ?_
  refine evs_endS (by as_aux_lemma => kernel_rfl) (fun τ hτ => ?_)
  refine th_normalS hτ [(2, (.ptr 2 [(vI a.A), (vI a.B)] 0)), (3, (.ptr 3 [(vI b.A), (vI b.B)] 0)), (4, (.ptr 4 [(vI 0), (vI 0)] 0))] (by as_aux_lemma => kernel_rfl) ?_
  refine sem_seq (by as_aux_lemma => kernel_rfl) ?_
  refine sem_region (by as_aux_lemma => kernel_rfl) ?_
  refine evs_run 12 (by as_aux_lemma => kernel_rfl) ?_
  refine evs_endS (by as_aux_lemma => kernel_rfl) (fun τ hτ => ?_)
  refine th_normalS hτ [(4, (.ptr 4 [(vI (isub a.A b.A)), (vI (isub a.B b.B))] 0))] (by as_aux_lemma => kernel_rfl) ?_
  refine sem_retS (by as_aux_lemma => kernel_rfl) (fun τ hτ => ?_)
  obtain rfl := Option.some.inj h
  exact rv_ret hτ (by as_aux_lemma => kernel_rfl)
theorem W.sheetmetalref01_CompareRoot_ok {a : Root} {b : Root} {r : Int × Int} (h : sheetmetalref01_CompareRoot a b = some r) : PCalls G.P 20 [(.agg [(vI a.A), (vI a.B)]), (.agg [(vI b.A), (vI b.B)])] (.tup [(vI r.1), (vI r.2)]) := by
  refine pc_view G (fn := Try.f20) Try.func20 (by as_aux_lemma => kernel_rfl) (by as_aux_lemma => kernel_rfl) (by as_aux_lemma => kernel_rfl) (by as_aux_lemma => kernel_rfl) ?_
  refine sem_set [(0, (.agg [(vI a.A), (vI a.B)])), (1, (.agg [(vI b.A), (vI b.B)]))] (by as_aux_lemma => kernel_rfl) ?_
  refine sem_seq (by as_aux_lemma => kernel_rfl) ?_
  refine sem_region (by as_aux_lemma => kernel_rfl) ?_
  refine evs_run 4 (by as_aux_lemma => kernel_rfl) ?_
  refine evs_endS (by as_aux_lemma => kernel_rfl) (fun τ hτ => ?_)
  refine th_normalS hτ [(2, (.ptr 2 [(vI a.A), (vI a.B)] 0)), (3, (.ptr 3 [(vI b.A), (vI b.B)] 0))] (by as_aux_lemma => kernel_rfl) ?_
  refine sem_seq (by as_aux_lemma => kernel_rfl) ?_
  refine sem_seq (by as_aux_lemma => kernel_rfl) ?_
  obtain ⟨j8, hj8, h⟩ := bindS h
  refine sem_regionC [(2, (.ptr 2 [(vI a.A), (vI a.B)] 0)), (3, (.ptr 3 [(vI b.A), (vI b.B)] 0)), (13, (vB j8))] (by as_aux_lemma => kernel_rfl) ?_ (fun τ hτ => ?_)
  · replace h := hj8
    refine evs_run 1 (by as_aux_lemma => kernel_rfl) ?_
    obtain ⟨r9, hr9, h⟩ := bindS h
    refine evs_call (b := true) (by as_aux_lemma => kernel_rfl) (W.sheetmetalref01_rootIn_ok hr9) (.inl rfl) ?_
    refine evs_run 2 (by as_aux_lemma => kernel_rfl) ?_
    refine evs_split r9 (fun b0 => [(2, (.ptr 2 [(vI a.A), (vI a.B)] 0)), (3, (.ptr 3 [(vI b.A), (vI b.B)] 0)), (9, (vB (!b0)))]) (by as_aux_lemma => kernel_rfl) (fun hb => ?_) (fun hb => ?_)
    · replace h := iteT hb h
      refine evs_run 1 (by as_aux_lemma => kernel_rfl) ?_
      obtain ⟨r10, hr10, h⟩ := bindS h
      refine evs_call (b := true) (by as_aux_lemma => kernel_rfl) (W.sheetmetalref01_rootIn_ok hr10) (.inl rfl) ?_
      refine evs_run 2 (by as_aux_lemma => kernel_rfl) ?_
      refine evs_endS (by as_aux_lemma => kernel_rfl) (fun τ hτ => ?_)
      obtain rfl := Option.some.inj h
      exact leafC hτ (by as_aux_lemma => kernel_rfl)
    · replace h := iteF hb h
      refine evs_run 4 (by as_aux_lemma => kernel_rfl) ?_
      refine evs_endS (by as_aux_lemma => kernel_rfl) (fun τ hτ => ?_)
      obtain rfl := Option.some.inj h
      exact leafC hτ (by as_aux_lemma => kernel_rfl)
  refine th_normalS hτ [(2, (.ptr 2 [(vI a.A), (vI a.B)] 0)), (3, (.ptr 3 [(vI b.A), (vI b.B)] 0)), (13, (vB j8))] (by as_aux_lemma => kernel_rfl) ?_
  refine sem_cond j8 (by as_aux_lemma => kernel_rfl) (by as_aux_lemma => kernel_rfl) (fun hb => ?_) (fun hb => ?_)
  · replace h := iteT hb h
    refine sem_seq (by as_aux_lemma => kernel_rfl) ?_
    refine sem_region (by as_aux_lemma => kernel_rfl) ?_
    refine evs_run 2 (by as_aux_lemma => kernel_rfl) ?_
    refine evs_endS (by as_aux_lemma => kernel_rfl) (fun τ hτ => ?_)
    refine th_normalS hτ [(4, (vI 0)), (5, (vI 4))] (by as_aux_lemma => kernel_rfl) ?_
    refine sem_retS (by as_aux_lemma => kernel_rfl) (fun τ hτ => ?_)
    refine th_ret ?_
    obtain rfl := Option.some.inj h
    exact rv_ret hτ (by as_aux_lemma => kernel_rfl)
  · replace h := iteF hb h
    refine sem_skipS (by as_aux_lemma => kernel_rfl) (fun τ hτ => ?_)
    refine th_normalS hτ [(2, (.ptr 2 [(vI a.A), (vI a.B)] 0)), (3, (.ptr 3 [(vI b.A), (vI b.B)] 0))] (by as_aux_lemma => kernel_rfl) ?_
    refine sem_seq (by as_aux_lemma => kernel_rfl) ?_
    refine sem_region (by as_aux_lemma => kernel_rfl) ?_
    refine evs_run 2 (by as_aux_lemma => kernel_rfl) ?_
    obtain ⟨r13, hr13, h⟩ := bindS h
    refine evs_call (b := true) (by as_aux_lemma => kernel_rfl) (W.sheetmetalref01_minus_ok hr13) (.inl rfl) ?_
    obtain ⟨r14, hr14, h⟩ := bindS h
    refine evs_call (b := true) (by as_aux_lemma => kernel_rfl) (W.sheetmetalref01_sign_ok hr14) (.inl rfl) ?_
    refine evs_run 2 (by as_aux_lemma => kernel_rfl) ?_
    refine evs_endS (by as_aux_lemma => kernel_rfl) (fun τ hτ => ?_)
    refine th_normalS hτ [(4, (vI r14)), (5, (vI 0))] (by as_aux_lemma => kernel_rfl) ?_
    refine sem_retS (by as_aux_lemma => kernel_rfl) (fun τ hτ => ?_)
    obtain rfl := Option.some.inj h
    exact rv_ret hτ (by as_aux_lemma => kernel_rfl)
theorem W.geom_near_ok {s0 : Spot} {r : Bool} (h : geom_near s0 = some r) : PCalls G.P 66 [(.agg [(vI s0.X), (vI s0.Y)])] (vB r) := by
  refine pc_view G (fn := Try.f66) Try.func66 (by as_aux_lemma => kernel_rfl) (by as_aux_lemma => kernel_rfl) (by as_aux_lemma => kernel_rfl) (by as_aux_lemma => kernel_rfl) ?_
  refine sem_set [(0, (.agg [(vI s0.X), (vI s0.Y)]))] (by as_aux_lemma => kernel_rfl) ?_
  refine sem_seq (by as_aux_lemma => kernel_rfl) ?_
  refine sem_region (by as_aux_lemma => kernel_rfl) ?_
  refine evs_run 2 (by as_aux_lemma => kernel_rfl) ?_
  refine evs_endS (by as_aux_lemma => kernel_rfl) (fun τ hτ => ?_)
  refine th_normalS hτ [(1, (.ptr 1 [(vI s0.X), (vI s0.Y)] 0))] (by as_aux_lemma => kernel_rfl) ?_
  refine sem_seq (by as_aux_lemma => kernel_rfl) ?_
  obtain ⟨j3, hj3, h⟩ := bindS h
  refine sem_regionC [(2, (vB j3))] (by as_aux_lemma => kernel_rfl) ?_ (fun τ hτ => ?_)
  · replace h := hj3
    refine evs_run 2 (by as_aux_lemma => kernel_rfl) ?_
    obtain ⟨r4, hr4, h⟩ := bindS h
    refine evs_call (b := true) (by as_aux_lemma => kernel_rfl) (W.geom_within_ok hr4) (.inl rfl) ?_
    refine evs_run 1 (by as_aux_lemma => kernel_rfl) ?_
    refine evs_split r4 (fun b0 => [(1, (.ptr 1 [(vI s0.X), (vI s0.Y)] 0)), (6, (vB b0))]) (by as_aux_lemma => kernel_rfl) (fun hb => ?_) (fun hb => ?_)
    · replace h := iteT hb h
      refine evs_run 2 (by as_aux_lemma => kernel_rfl) ?_
      obtain ⟨r5, hr5, h⟩ := bindS h
      refine evs_call (b := true) (by as_aux_lemma => kernel_rfl) (W.geom_within_ok hr5) (.inl rfl) ?_
      refine evs_run 2 (by as_aux_lemma => kernel_rfl) ?_
      refine evs_endS (by as_aux_lemma => kernel_rfl) (fun τ hτ => ?_)
      obtain rfl := Option.some.inj h
      exact leafC hτ (by as_aux_lemma => kernel_rfl)
    · replace h := iteF hb h
      refine evs_run 5 (by as_aux_lemma => kernel_rfl) ?_
      refine evs_endS (by as_aux_lemma => kernel_rfl) (fun τ hτ => ?_)
      obtain rfl := Option.some.inj h
      exact leafC hτ (by as_aux_lemma => kernel_rfl)
  refine th_normalS hτ [(2, (vB j3))] (by as_aux_lemma => kernel_rfl) ?_
  refine sem_retS (by as_aux_lemma => kernel_rfl) (fun τ hτ => ?_)
  obtain rfl := Option.some.inj h
  exact rv_ret hτ (by as_aux_lemma => kernel_rfl)
theorem W.geom_cosine_ok {k : Int} {r : Root} (h : geom_cosine k = some r) : PCalls G.P 101 [(vI k)] (.agg [(vI r.A), (vI r.B)]) := by
  refine pc_view G (fn := Try.f101) Try.func101 (by as_aux_lemma => kernel_rfl) (by as_aux_lemma => kernel_rfl) (by as_aux_lemma => kernel_rfl) (by as_aux_lemma => kernel_rfl) ?_
  refine sem_set [(0, (vI k))] (by as_aux_lemma => kernel_rfl) ?_
  refine sem_seq (by as_aux_lemma => kernel_rfl) ?_
  refine sem_region (by as_aux_lemma => kernel_rfl) ?_
  refine evs_run 1 (by as_aux_lemma => kernel_rfl) ?_
  refine evs_endS (by as_aux_lemma => kernel_rfl) (fun τ hτ => ?_)
  refine th_normalS hτ [(0, (vI k)), (2, (.ptr 2 [(vI 0), (vI 0)] 0))] (by as_aux_lemma => kernel_rfl) ?_
  refine sem_seq (by as_aux_lemma => kernel_rfl) ?_
  refine sem_region (by as_aux_lemma => kernel_rfl) ?_
  refine evs_run 15 (by as_aux_lemma => kernel_rfl) ?_
  refine evs_endS (by as_aux_lemma => kernel_rfl) (fun τ hτ => ?_)
  refine th_normalS hτ [(0, (vI k)), (2, (.ptr 2 [(vI 0), (vI 0)] 0)), (3, (.ptr 3 [(vI 2), (vI 0), (vI 0), (vI 1), (vI 1), (vI 0), (vI 0), (vI 0), (vI (-1)), (vI 0), (vI 0), (vI (-1)), (vI (-2)), (vI 0), (vI 0), (vI (-1)), (vI (-1)), (vI 0), (vI 0), (vI 0), (vI 1), (vI 0), (vI 0), (vI 1)] 0))] (by as_aux_lemma => kernel_rfl) ?_
  refine sem_seq (by as_aux_lemma => kernel_rfl) ?_
  refine sem_region (by as_aux_lemma => kernel_rfl) ?_
  refine evs_run 2 (by as_aux_lemma => kernel_rfl) ?_
  obtain ⟨x2, hx2, h⟩ := bindS h
  refine evs_op (st_pax (i := (Int.tmod k 12)) (n := 12) (sz := 2) (kd := .i64) (p := (.ptr 3 [(vI 2), (vI 0), (vI 0), (vI 1), (vI 1), (vI 0), (vI 0), (vI 0), (vI (-1)), (vI 0), (vI 0), (vI (-1)), (vI (-2)), (vI 0), (vI 0), (vI (-1)), (vI (-1)), (vI 0), (vI 0), (vI 0), (vI 1), (vI 0), (vI 0), (vI 1)] 0)) (q := (.ptr 3 [(vI 2), (vI 0), (vI 0), (vI 1), (vI 1), (vI 0), (vI 0), (vI 0), (vI (-1)), (vI 0), (vI 0), (vI (-1)), (vI (-2)), (vI 0), (vI 0), (vI (-1)), (vI (-1)), (vI 0), (vI 0), (vI 0), (vI 1), (vI 0), (vI 0), (vI 1)] (0 + (Int.toNat (Int.tmod k 12)) * 2))) (by as_aux_lemma => kernel_rfl) (idxS hx2).1 (idx_lt0 hx2 (n := 12) rfl) rfl) ?_
  refine evs_op (st_pld0 (c := c_Root) (l := [(Root.mk 2 0), (Root.mk 0 1), (Root.mk 1 0), (Root.mk 0 0), (Root.mk (-1) 0), (Root.mk 0 (-1)), (Root.mk (-2) 0), (Root.mk 0 (-1)), (Root.mk (-1) 0), (Root.mk 0 0), (Root.mk 1 0), (Root.mk 0 1)]) (i := (Int.tmod k 12)) (esz := 2) (x := x2) (v := (.agg [(vI x2.A), (vI x2.B)])) (agg := true) (sz := 2) (g := 3) (cs := [(vI 2), (vI 0), (vI 0), (vI 1), (vI 1), (vI 0), (vI 0), (vI 0), (vI (-1)), (vI 0), (vI 0), (vI (-1)), (vI (-2)), (vI 0), (vI 0), (vI (-1)), (vI (-1)), (vI 0), (vI 0), (vI 0), (vI 1), (vI 0), (vI 0), (vI 1)]) (by as_aux_lemma => kernel_rfl) (by as_aux_lemma => kernel_rfl) hx2 (fun _ => rfl) (by as_aux_lemma => kernel_rfl)) ?_
  refine evs_run 1 (by as_aux_lemma => kernel_rfl) ?_
  refine evs_endS (by as_aux_lemma => kernel_rfl) (fun τ hτ => ?_)
  refine th_normalS hτ [(2, (.ptr 2 [(vI x2.A), (vI x2.B)] 0))] (by as_aux_lemma => kernel_rfl) ?_
  refine sem_retS (by as_aux_lemma => kernel_rfl) (fun τ hτ => ?_)
  obtain rfl := Option.some.inj h
  exact rv_ret hτ (by as_aux_lemma => kernel_rfl)
theorem W.geom_turned_ok {s0 : Spot} {k : Int} {r : Point} (h : geom_turned s0 k = some r) : PCalls G.P 67 [(.agg [(vI s0.X), (vI s0.Y)]), (vI k)] (.agg [(vI r.X.A), (vI r.X.B), (vI r.Y.A), (vI r.Y.B)]) := by
  refine pc_view G (fn := Try.f67) Try.func67 (by as_aux_lemma => kernel_rfl) (by as_aux_lemma => kernel_rfl) (by as_aux_lemma => kernel_rfl) (by as_aux_lemma => kernel_rfl) ?_
  refine sem_set [(0, (.agg [(vI s0.X), (vI s0.Y)])), (1, (vI k))] (by as_aux_lemma => kernel_rfl) ?_
  refine sem_seq (by as_aux_lemma => kernel_rfl) ?_
  refine sem_region (by as_aux_lemma => kernel_rfl) ?_
  refine evs_run 2 (by as_aux_lemma => kernel_rfl) ?_
  refine evs_endS (by as_aux_lemma => kernel_rfl) (fun τ hτ => ?_)
  refine th_normalS hτ [(1, (vI k)), (2, (.ptr 2 [(vI s0.X), (vI s0.Y)] 0)), (4, (.ptr 4 [(vI 0), (vI 0), (vI 0), (vI 0)] 0))] (by as_aux_lemma => kernel_rfl) ?_
  refine sem_seq (by as_aux_lemma => kernel_rfl) ?_
  refine sem_region (by as_aux_lemma => kernel_rfl) ?_
  refine evs_run 1 (by as_aux_lemma => kernel_rfl) ?_
  obtain ⟨r3, hr3, h⟩ := bindS h
  refine evs_call (b := true) (by as_aux_lemma => kernel_rfl) (W.geom_cosine_ok hr3) (.inl rfl) ?_
  refine evs_run 2 (by as_aux_lemma => kernel_rfl) ?_
  obtain ⟨r4, hr4, h⟩ := bindS h
  refine evs_call (b := true) (by as_aux_lemma => kernel_rfl) (W.geom_cosine_ok hr4) (.inl rfl) ?_
  refine evs_run 4 (by as_aux_lemma => kernel_rfl) ?_
  refine evs_endS (by as_aux_lemma => kernel_rfl) (fun τ hτ => ?_)
  refine th_normalS hτ [(2, (.ptr 2 [(vI s0.X), (vI s0.Y)] 0)), (4, (.ptr 4 [(vI 0), (vI 0), (vI 0), (vI 0)] 0)), (5, (.ptr 5 [(vI r3.A), (vI r3.B)] 0)), (6, (.ptr 6 [(vI r4.A), (vI r4.B)] 0))] (by as_aux_lemma => kernel_rfl) ?_
  refine sem_seq (by as_aux_lemma => kernel_rfl) ?_
  refine sem_region (by as_aux_lemma => kernel_rfl) ?_
  refine evs_run 48 (by as_aux_lemma => kernel_rfl) ?_
  refine evs_endS (by as_aux_lemma => kernel_rfl) (fun τ hτ => ?_)
  refine th_normalS hτ [(4, (.ptr 4 [(vI (isub (imul s0.X r3.A) (imul s0.Y r4.A))), (vI (isub (imul s0.X r3.B) (imul s0.Y r4.B))), (vI (iadd (imul s0.X r4.A) (imul s0.Y r3.A))), (vI (iadd (imul s0.X r4.B) (imul s0.Y r3.B)))] 0))] (by as_aux_lemma => kernel_rfl) ?_
  refine sem_retS (by as_aux_lemma => kernel_rfl) (fun τ hτ => ?_)
  obtain rfl := Option.some.inj h
  exact rv_ret hτ (by as_aux_lemma => kernel_rfl)
theorem W.geom_Turn_ok {s0 : Spot} {k : Int} {r : Point × Int} (h : geom_Turn s0 k = some r) : PCalls G.P 24 [(.agg [(vI s0.X), (vI s0.Y)]), (vI k)] (.tup [(.agg [(vI r.1.X.A), (vI r.1.X.B), (vI r.1.Y.A), (vI r.1.Y.B)]), (vI r.2)]) := by
  refine pc_view G (fn := Try.f24) Try.func24 (by as_aux_lemma => kernel_rfl) (by as_aux_lemma => kernel_rfl) (by as_aux_lemma => kernel_rfl) (by as_aux_lemma => kernel_rfl) ?_
  refine sem_set [(0, (.agg [(vI s0.X), (vI s0.Y)])), (1, (vI k))] (by as_aux_lemma => kernel_rfl) ?_
  refine sem_seq (by as_aux_lemma => kernel_rfl) ?_
  refine sem_region (by as_aux_lemma => kernel_rfl) ?_
  refine evs_run 3 (by as_aux_lemma => kernel_rfl) ?_
  refine evs_endS (by as_aux_lemma => kernel_rfl) (fun τ hτ => ?_)
  refine th_normalS hτ [(1, (vI k)), (2, (.ptr 2 [(vI s0.X), (vI s0.Y)] 0)), (4, (.ptr 4 [(vI 0), (vI 0), (vI 0), (vI 0)] 0))] (by as_aux_lemma => kernel_rfl) ?_
  refine sem_seq (by as_aux_lemma => kernel_rfl) ?_
  refine sem_seq (by as_aux_lemma => kernel_rfl) ?_
  obtain ⟨j5, hj5, h⟩ := bindS h
  refine sem_regionC [(1, (vI k)), (2, (.ptr 2 [(vI s0.X), (vI s0.Y)] 0)), (4, (.ptr 4 [(vI 0), (vI 0), (vI 0), (vI 0)] 0)), (16, (vB j5))] (by as_aux_lemma => kernel_rfl) ?_ (fun τ hτ => ?_)
  · replace h := hj5
    refine evs_run 1 (by as_aux_lemma => kernel_rfl) ?_
    obtain ⟨r6, hr6, h⟩ := bindS h
    refine evs_call (b := true) (by as_aux_lemma => kernel_rfl) (W.geom_near_ok hr6) (.inl rfl) ?_
    refine evs_run 2 (by as_aux_lemma => kernel_rfl) ?_
    refine evs_split r6 (fun b0 => [(1, (vI k)), (2, (.ptr 2 [(vI s0.X), (vI s0.Y)] 0)), (4, (.ptr 4 [(vI 0), (vI 0), (vI 0), (vI 0)] 0)), (9, (vB (!b0)))]) (by as_aux_lemma => kernel_rfl) (fun hb => ?_) (fun hb => ?_)
    · replace h := iteT hb h
      refine evs_run 4 (by as_aux_lemma => kernel_rfl) ?_
      refine evs_split (decide (k < 0)) (fun b0 => [(1, (vI k)), (2, (.ptr 2 [(vI s0.X), (vI s0.Y)] 0)), (4, (.ptr 4 [(vI 0), (vI 0), (vI 0), (vI 0)] 0)), (13, (vB b0))]) (by as_aux_lemma => kernel_rfl) (fun hb => ?_) (fun hb => ?_)
      · replace h := iteT hb h
        refine evs_run 3 (by as_aux_lemma => kernel_rfl) ?_
        refine evs_endS (by as_aux_lemma => kernel_rfl) (fun τ hτ => ?_)
        obtain rfl := Option.some.inj h
        exact leafC hτ (by as_aux_lemma => kernel_rfl)
      · replace h := iteF hb h
        refine evs_run 3 (by as_aux_lemma => kernel_rfl) ?_
        refine evs_endS (by as_aux_lemma => kernel_rfl) (fun τ hτ => ?_)
        obtain rfl := Option.some.inj h
        exact leafC hτ (by as_aux_lemma => kernel_rfl)
    · replace h := iteF hb h
      refine evs_run 7 (by as_aux_lemma => kernel_rfl) ?_
      refine evs_endS (by as_aux_lemma => kernel_rfl) (fun τ hτ => ?_)
      obtain rfl := Option.some.inj h
      exact leafC hτ (by as_aux_lemma => kernel_rfl)
  refine th_normalS hτ [(1, (vI k)), (2, (.ptr 2 [(vI s0.X), (vI s0.Y)] 0)), (4, (.ptr 4 [(vI 0), (vI 0), (vI 0), (vI 0)] 0)), (16, (vB j5))] (by as_aux_lemma => kernel_rfl) ?_
  refine sem_cond j5 (by as_aux_lemma => kernel_rfl) (by as_aux_lemma => kernel_rfl) (fun hb => ?_) (fun hb => ?_)
  · replace h := iteT hb h
    refine sem_seq (by as_aux_lemma => kernel_rfl) ?_
    refine sem_region (by as_aux_lemma => kernel_rfl) ?_
    refine evs_run 3 (by as_aux_lemma => kernel_rfl) ?_
    refine evs_endS (by as_aux_lemma => kernel_rfl) (fun τ hτ => ?_)
    refine th_normalS hτ [(4, (.ptr 4 [(vI 0), (vI 0), (vI 0), (vI 0)] 0)), (5, (vI 1))] (by as_aux_lemma => kernel_rfl) ?_
    refine sem_retS (by as_aux_lemma => kernel_rfl) (fun τ hτ => ?_)
    refine th_ret ?_
    obtain rfl := Option.some.inj h
    exact rv_ret hτ (by as_aux_lemma => kernel_rfl)
  · replace h := iteF hb h
    refine sem_skipS (by as_aux_lemma => kernel_rfl) (fun τ hτ => ?_)
    refine th_normalS hτ [(1, (vI k)), (2, (.ptr 2 [(vI s0.X), (vI s0.Y)] 0)), (4, (.ptr 4 [(vI 0), (vI 0), (vI 0), (vI 0)] 0))] (by as_aux_lemma => kernel_rfl) ?_
    refine sem_seq (by as_aux_lemma => kernel_rfl) ?_
    refine sem_region (by as_aux_lemma => kernel_rfl) ?_
    refine evs_run 2 (by as_aux_lemma => kernel_rfl) ?_
    obtain ⟨r8, hr8, h⟩ := bindS h
    refine evs_call (b := true) (by as_aux_lemma => kernel_rfl) (W.geom_turned_ok hr8) (.inl rfl) ?_
    refine evs_run 2 (by as_aux_lemma => kernel_rfl) ?_
    refine evs_endS (by as_aux_lemma => kernel_rfl) (fun τ hτ => ?_)
    refine th_normalS hτ [(4, (.ptr 4 [(vI r8.X.A), (vI r8.X.B), (vI r8.Y.A), (vI r8.Y.B)] 0)), (5, (vI 0))] (by as_aux_lemma => kernel_rfl) ?_
    refine sem_retS (by as_aux_lemma => kernel_rfl) (fun τ hτ => ?_)
    obtain rfl := Option.some.inj h
    exact rv_ret hτ (by as_aux_lemma => kernel_rfl)
theorem W.sheetmetallaw01_known_ok {r : Bool} (h : sheetmetallaw01_known = some r) : PCalls G.P 21 [] (vB r) := by
  refine pc_view G (fn := Try.f21) Try.func21 (by as_aux_lemma => kernel_rfl) (by as_aux_lemma => kernel_rfl) (by as_aux_lemma => kernel_rfl) (by as_aux_lemma => kernel_rfl) ?_
  refine sem_set [] (by as_aux_lemma => kernel_rfl) ?_
  refine sem_seq (by as_aux_lemma => kernel_rfl) ?_
  refine sem_region (by as_aux_lemma => kernel_rfl) ?_
  refine evs_run 1 (by as_aux_lemma => kernel_rfl) ?_
  refine evs_endS (by as_aux_lemma => kernel_rfl) (fun τ hτ => ?_)
  refine th_normalS hτ [] (by as_aux_lemma => kernel_rfl) ?_
  refine sem_seq (by as_aux_lemma => kernel_rfl) ?_
  refine sem_region (by as_aux_lemma => kernel_rfl) ?_
  refine evs_run 1 (by as_aux_lemma => kernel_rfl) ?_
  obtain ⟨r2, hr2, h⟩ := bindS h
  refine evs_call (b := true) (by as_aux_lemma => kernel_rfl) (W.geom_SignRoot_ok hr2) (.inl rfl) ?_
  refine evs_run 5 (by as_aux_lemma => kernel_rfl) ?_
  refine evs_endS (by as_aux_lemma => kernel_rfl) (fun τ hτ => ?_)
  refine th_normalS hτ [(1, (vI r2.1)), (2, (vI r2.2))] (by as_aux_lemma => kernel_rfl) ?_
  refine sem_seq (by as_aux_lemma => kernel_rfl) ?_
  refine sem_region (by as_aux_lemma => kernel_rfl) ?_
  refine evs_run 1 (by as_aux_lemma => kernel_rfl) ?_
  obtain ⟨r4, hr4, h⟩ := bindS h
  refine evs_call (b := true) (by as_aux_lemma => kernel_rfl) (W.geom_Turn_ok hr4) (.inl rfl) ?_
  refine evs_run 6 (by as_aux_lemma => kernel_rfl) ?_
  refine evs_endS (by as_aux_lemma => kernel_rfl) (fun τ hτ => ?_)
  refine th_normalS hτ [(1, (vI r2.1)), (2, (vI r2.2)), (3, (.ptr 3 [(vI r4.1.X.A), (vI r4.1.X.B), (vI r4.1.Y.A), (vI r4.1.Y.B)] 0)), (4, (vI r4.2))] (by as_aux_lemma => kernel_rfl) ?_
  refine sem_seq (by as_aux_lemma => kernel_rfl) ?_
  obtain ⟨j5, hj5, h⟩ := bindS h
  refine sem_regionC [(0, (vB j5))] (by as_aux_lemma => kernel_rfl) ?_ (fun τ hτ => ?_)
  · replace h := hj5
    refine evs_run 3 (by as_aux_lemma => kernel_rfl) ?_
    refine evs_split (r2.2 == 0) (fun b0 => [(1, (vI r2.1)), (3, (.ptr 3 [(vI r4.1.X.A), (vI r4.1.X.B), (vI r4.1.Y.A), (vI r4.1.Y.B)] 0)), (4, (vI r4.2)), (17, (vB b0))]) (by as_aux_lemma => kernel_rfl) (fun hb => ?_) (fun hb => ?_)
    · replace h := iteT hb h
      refine evs_run 4 (by as_aux_lemma => kernel_rfl) ?_
      refine evs_split (r2.1 == 1) (fun b0 => [(3, (.ptr 3 [(vI r4.1.X.A), (vI r4.1.X.B), (vI r4.1.Y.A), (vI r4.1.Y.B)] 0)), (4, (vI r4.2)), (21, (vB b0))]) (by as_aux_lemma => kernel_rfl) (fun hb => ?_) (fun hb => ?_)
      · replace h := iteT hb h
        refine evs_run 4 (by as_aux_lemma => kernel_rfl) ?_
        refine evs_split (r4.2 == 0) (fun b0 => [(3, (.ptr 3 [(vI r4.1.X.A), (vI r4.1.X.B), (vI r4.1.Y.A), (vI r4.1.Y.B)] 0)), (25, (vB b0))]) (by as_aux_lemma => kernel_rfl) (fun hb => ?_) (fun hb => ?_)
        · replace h := iteT hb h
          refine evs_run 6 (by as_aux_lemma => kernel_rfl) ?_
          refine evs_split ((r4.1.X.A == 0) && ((r4.1.X.B == 2) && true)) (fun b0 => [(3, (.ptr 3 [(vI r4.1.X.A), (vI r4.1.X.B), (vI r4.1.Y.A), (vI r4.1.Y.B)] 0)), (31, (vB b0))]) (by as_aux_lemma => kernel_rfl) (fun hb => ?_) (fun hb => ?_)
          · replace h := iteT hb h
            refine evs_run 6 (by as_aux_lemma => kernel_rfl) ?_
            refine evs_endS (by as_aux_lemma => kernel_rfl) (fun τ hτ => ?_)
            obtain rfl := Option.some.inj h
            exact leafC hτ (by as_aux_lemma => kernel_rfl)
          · replace h := iteF hb h
            refine evs_run 6 (by as_aux_lemma => kernel_rfl) ?_
            refine evs_endS (by as_aux_lemma => kernel_rfl) (fun τ hτ => ?_)
            obtain rfl := Option.some.inj h
            exact leafC hτ (by as_aux_lemma => kernel_rfl)
        · replace h := iteF hb h
          refine evs_run 12 (by as_aux_lemma => kernel_rfl) ?_
          refine evs_endS (by as_aux_lemma => kernel_rfl) (fun τ hτ => ?_)
          obtain rfl := Option.some.inj h
          exact leafC hτ (by as_aux_lemma => kernel_rfl)
      · replace h := iteF hb h
        refine evs_run 16 (by as_aux_lemma => kernel_rfl) ?_
        refine evs_endS (by as_aux_lemma => kernel_rfl) (fun τ hτ => ?_)
        obtain rfl := Option.some.inj h
        exact leafC hτ (by as_aux_lemma => kernel_rfl)
    · replace h := iteF hb h
      refine evs_run 20 (by as_aux_lemma => kernel_rfl) ?_
      refine evs_endS (by as_aux_lemma => kernel_rfl) (fun τ hτ => ?_)
      obtain rfl := Option.some.inj h
      exact leafC hτ (by as_aux_lemma => kernel_rfl)
  refine th_normalS hτ [(0, (vB j5))] (by as_aux_lemma => kernel_rfl) ?_
  refine sem_retS (by as_aux_lemma => kernel_rfl) (fun τ hτ => ?_)
  obtain rfl := Option.some.inj h
  exact rv_ret hτ (by as_aux_lemma => kernel_rfl)
theorem W.sheetmetallaw01_GeomSigns_ok {a : Root} {a1 : Root} {a2 : Root} {r : Bool} (h : sheetmetallaw01_GeomSigns a a1 a2 = some r) : PCalls G.P 3 [(.agg [(vI a.A), (vI a.B)]), (.agg [(vI a1.A), (vI a1.B)]), (.agg [(vI a2.A), (vI a2.B)])] (vB r) := by
  refine pc_view G (fn := Try.f3) Try.func3 (by as_aux_lemma => kernel_rfl) (by as_aux_lemma => kernel_rfl) (by as_aux_lemma => kernel_rfl) (by as_aux_lemma => kernel_rfl) ?_
  refine sem_set [(0, (.agg [(vI a.A), (vI a.B)])), (1, (.agg [(vI a1.A), (vI a1.B)])), (2, (.agg [(vI a2.A), (vI a2.B)]))] (by as_aux_lemma => kernel_rfl) ?_
  refine sem_seq (by as_aux_lemma => kernel_rfl) ?_
  refine sem_region (by as_aux_lemma => kernel_rfl) ?_
  refine evs_run 4 (by as_aux_lemma => kernel_rfl) ?_
  refine evs_endS (by as_aux_lemma => kernel_rfl) (fun τ hτ => ?_)
  refine th_normalS hτ [(3, (.ptr 3 [(vI a.A), (vI a.B)] 0)), (4, (.ptr 4 [(vI a1.A), (vI a1.B)] 0)), (5, (.ptr 5 [(vI a2.A), (vI a2.B)] 0))] (by as_aux_lemma => kernel_rfl) ?_
  refine sem_seq (by as_aux_lemma => kernel_rfl) ?_
  refine sem_region (by as_aux_lemma => kernel_rfl) ?_
  refine evs_run 1 (by as_aux_lemma => kernel_rfl) ?_
  obtain ⟨r2, hr2, h⟩ := bindS h
  refine evs_call (b := true) (by as_aux_lemma => kernel_rfl) (W.geom_SignRoot_ok hr2) (.inl rfl) ?_
  refine evs_run 5 (by as_aux_lemma => kernel_rfl) ?_
  refine evs_endS (by as_aux_lemma => kernel_rfl) (fun τ hτ => ?_)
  refine th_normalS hτ [(3, (.ptr 3 [(vI a.A), (vI a.B)] 0)), (4, (.ptr 4 [(vI a1.A), (vI a1.B)] 0)), (5, (.ptr 5 [(vI a2.A), (vI a2.B)] 0)), (7, (vI r2.1)), (8, (vI r2.2))] (by as_aux_lemma => kernel_rfl) ?_
  refine sem_seq (by as_aux_lemma => kernel_rfl) ?_
  refine sem_region (by as_aux_lemma => kernel_rfl) ?_
  refine evs_run 1 (by as_aux_lemma => kernel_rfl) ?_
  obtain ⟨r4, hr4, h⟩ := bindS h
  refine evs_call (b := true) (by as_aux_lemma => kernel_rfl) (W.sheetmetalref01_SignRoot_ok hr4) (.inl rfl) ?_
  refine evs_run 5 (by as_aux_lemma => kernel_rfl) ?_
  refine evs_endS (by as_aux_lemma => kernel_rfl) (fun τ hτ => ?_)
  refine th_normalS hτ [(3, (.ptr 3 [(vI a.A), (vI a.B)] 0)), (4, (.ptr 4 [(vI a1.A), (vI a1.B)] 0)), (5, (.ptr 5 [(vI a2.A), (vI a2.B)] 0)), (7, (vI r2.1)), (8, (vI r2.2)), (9, (vI r4.1)), (10, (vI r4.2))] (by as_aux_lemma => kernel_rfl) ?_
  refine sem_seq (by as_aux_lemma => kernel_rfl) ?_
  refine sem_region (by as_aux_lemma => kernel_rfl) ?_
  refine evs_run 2 (by as_aux_lemma => kernel_rfl) ?_
  obtain ⟨r6, hr6, h⟩ := bindS h
  refine evs_call (b := true) (by as_aux_lemma => kernel_rfl) (W.geom_CompareRoot_ok hr6) (.inl rfl) ?_
  refine evs_run 5 (by as_aux_lemma => kernel_rfl) ?_
  refine evs_endS (by as_aux_lemma => kernel_rfl) (fun τ hτ => ?_)
  refine th_normalS hτ [(3, (.ptr 3 [(vI a.A), (vI a.B)] 0)), (4, (.ptr 4 [(vI a1.A), (vI a1.B)] 0)), (5, (.ptr 5 [(vI a2.A), (vI a2.B)] 0)), (7, (vI r2.1)), (8, (vI r2.2)), (9, (vI r4.1)), (10, (vI r4.2)), (11, (vI r6.1)), (12, (vI r6.2))] (by as_aux_lemma => kernel_rfl) ?_
  refine sem_seq (by as_aux_lemma => kernel_rfl) ?_
  refine sem_region (by as_aux_lemma => kernel_rfl) ?_
  refine evs_run 2 (by as_aux_lemma => kernel_rfl) ?_
  obtain ⟨r8, hr8, h⟩ := bindS h
  refine evs_call (b := true) (by as_aux_lemma => kernel_rfl) (W.sheetmetalref01_CompareRoot_ok hr8) (.inl rfl) ?_
  refine evs_run 5 (by as_aux_lemma => kernel_rfl) ?_
  refine evs_endS (by as_aux_lemma => kernel_rfl) (fun τ hτ => ?_)
  refine th_normalS hτ [(3, (.ptr 3 [(vI a.A), (vI a.B)] 0)), (4, (.ptr 4 [(vI a1.A), (vI a1.B)] 0)), (5, (.ptr 5 [(vI a2.A), (vI a2.B)] 0)), (7, (vI r2.1)), (8, (vI r2.2)), (9, (vI r4.1)), (10, (vI r4.2)), (11, (vI r6.1)), (12, (vI r6.2)), (13, (vI r8.1)), (14, (vI r8.2))] (by as_aux_lemma => kernel_rfl) ?_
  refine sem_seq (by as_aux_lemma => kernel_rfl) ?_
  refine sem_seq (by as_aux_lemma => kernel_rfl) ?_
  obtain ⟨j10, hj10, h⟩ := bindS h
  refine sem_regionC [(3, (.ptr 3 [(vI a.A), (vI a.B)] 0)), (4, (.ptr 4 [(vI a1.A), (vI a1.B)] 0)), (5, (.ptr 5 [(vI a2.A), (vI a2.B)] 0)), (11, (vI r6.1)), (12, (vI r6.2)), (60, (vB j10))] (by as_aux_lemma => kernel_rfl) ?_ (fun τ hτ => ?_)
  · replace h := hj10
    refine evs_run 4 (by as_aux_lemma => kernel_rfl) ?_
    refine evs_split (r2.1 != r4.1) (fun b0 => [(3, (.ptr 3 [(vI a.A), (vI a.B)] 0)), (4, (.ptr 4 [(vI a1.A), (vI a1.B)] 0)), (5, (.ptr 5 [(vI a2.A), (vI a2.B)] 0)), (8, (vI r2.2)), (10, (vI r4.2)), (11, (vI r6.1)), (12, (vI r6.2)), (13, (vI r8.1)), (14, (vI r8.2)), (46, (vB b0))]) (by as_aux_lemma => kernel_rfl) (fun hb => ?_) (fun hb => ?_)
    · replace h := iteT hb h
      refine evs_run 14 (by as_aux_lemma => kernel_rfl) ?_
      refine evs_endS (by as_aux_lemma => kernel_rfl) (fun τ hτ => ?_)
      obtain rfl := Option.some.inj h
      exact leafC hτ (by as_aux_lemma => kernel_rfl)
    · replace h := iteF hb h
      refine evs_run 5 (by as_aux_lemma => kernel_rfl) ?_
      refine evs_split (r2.2 != r4.2) (fun b0 => [(3, (.ptr 3 [(vI a.A), (vI a.B)] 0)), (4, (.ptr 4 [(vI a1.A), (vI a1.B)] 0)), (5, (.ptr 5 [(vI a2.A), (vI a2.B)] 0)), (11, (vI r6.1)), (12, (vI r6.2)), (13, (vI r8.1)), (14, (vI r8.2)), (51, (vB b0))]) (by as_aux_lemma => kernel_rfl) (fun hb => ?_) (fun hb => ?_)
      · replace h := iteT hb h
        refine evs_run 9 (by as_aux_lemma => kernel_rfl) ?_
        refine evs_endS (by as_aux_lemma => kernel_rfl) (fun τ hτ => ?_)
        obtain rfl := Option.some.inj h
        exact leafC hτ (by as_aux_lemma => kernel_rfl)
      · replace h := iteF hb h
        refine evs_run 5 (by as_aux_lemma => kernel_rfl) ?_
        refine evs_split (r6.1 != r8.1) (fun b0 => [(3, (.ptr 3 [(vI a.A), (vI a.B)] 0)), (4, (.ptr 4 [(vI a1.A), (vI a1.B)] 0)), (5, (.ptr 5 [(vI a2.A), (vI a2.B)] 0)), (11, (vI r6.1)), (12, (vI r6.2)), (14, (vI r8.2)), (56, (vB b0))]) (by as_aux_lemma => kernel_rfl) (fun hb => ?_) (fun hb => ?_)
        · replace h := iteT hb h
          refine evs_run 4 (by as_aux_lemma => kernel_rfl) ?_
          refine evs_endS (by as_aux_lemma => kernel_rfl) (fun τ hτ => ?_)
          obtain rfl := Option.some.inj h
          exact leafC hτ (by as_aux_lemma => kernel_rfl)
        · replace h := iteF hb h
          refine evs_run 4 (by as_aux_lemma => kernel_rfl) ?_
          refine evs_endS (by as_aux_lemma => kernel_rfl) (fun τ hτ => ?_)
          obtain rfl := Option.some.inj h
          exact leafC hτ (by as_aux_lemma => kernel_rfl)
  refine th_normalS hτ [(3, (.ptr 3 [(vI a.A), (vI a.B)] 0)), (4, (.ptr 4 [(vI a1.A), (vI a1.B)] 0)), (5, (.ptr 5 [(vI a2.A), (vI a2.B)] 0)), (11, (vI r6.1)), (12, (vI r6.2)), (60, (vB j10))] (by as_aux_lemma => kernel_rfl) ?_
  refine sem_cond j10 (by as_aux_lemma => kernel_rfl) (by as_aux_lemma => kernel_rfl) (fun hb => ?_) (fun hb => ?_)
  · replace h := iteT hb h
    refine sem_seq (by as_aux_lemma => kernel_rfl) ?_
    refine sem_region (by as_aux_lemma => kernel_rfl) ?_
    refine evs_run 1 (by as_aux_lemma => kernel_rfl) ?_
    refine evs_endS (by as_aux_lemma => kernel_rfl) (fun τ hτ => ?_)
    refine th_normalS hτ [(6, (vB false))] (by as_aux_lemma => kernel_rfl) ?_
    refine sem_retS (by as_aux_lemma => kernel_rfl) (fun τ hτ => ?_)
    refine th_ret ?_
    obtain rfl := Option.some.inj h
    exact rv_ret hτ (by as_aux_lemma => kernel_rfl)
  · replace h := iteF hb h
    refine sem_skipS (by as_aux_lemma => kernel_rfl) (fun τ hτ => ?_)
    refine th_normalS hτ [(3, (.ptr 3 [(vI a.A), (vI a.B)] 0)), (4, (.ptr 4 [(vI a1.A), (vI a1.B)] 0)), (5, (.ptr 5 [(vI a2.A), (vI a2.B)] 0)), (11, (vI r6.1)), (12, (vI r6.2))] (by as_aux_lemma => kernel_rfl) ?_
    refine sem_seq (by as_aux_lemma => kernel_rfl) ?_
    refine sem_region (by as_aux_lemma => kernel_rfl) ?_
    refine evs_run 2 (by as_aux_lemma => kernel_rfl) ?_
    obtain ⟨r12, hr12, h⟩ := bindS h
    refine evs_call (b := true) (by as_aux_lemma => kernel_rfl) (W.geom_CompareRoot_ok hr12) (.inl rfl) ?_
    refine evs_run 5 (by as_aux_lemma => kernel_rfl) ?_
    refine evs_endS (by as_aux_lemma => kernel_rfl) (fun τ hτ => ?_)
    refine th_normalS hτ [(3, (.ptr 3 [(vI a.A), (vI a.B)] 0)), (4, (.ptr 4 [(vI a1.A), (vI a1.B)] 0)), (5, (.ptr 5 [(vI a2.A), (vI a2.B)] 0)), (11, (vI r6.1)), (12, (vI r6.2)), (15, (vI r12.1))] (by as_aux_lemma => kernel_rfl) ?_
    refine sem_seq (by as_aux_lemma => kernel_rfl) ?_
    refine sem_region (by as_aux_lemma => kernel_rfl) ?_
    refine evs_run 2 (by as_aux_lemma => kernel_rfl) ?_
    obtain ⟨r14, hr14, h⟩ := bindS h
    refine evs_call (b := true) (by as_aux_lemma => kernel_rfl) (W.geom_CompareRoot_ok hr14) (.inl rfl) ?_
    refine evs_run 5 (by as_aux_lemma => kernel_rfl) ?_
    refine evs_endS (by as_aux_lemma => kernel_rfl) (fun τ hτ => ?_)
    refine th_normalS hτ [(3, (.ptr 3 [(vI a.A), (vI a.B)] 0)), (5, (.ptr 5 [(vI a2.A), (vI a2.B)] 0)), (11, (vI r6.1)), (12, (vI r6.2)), (15, (vI r12.1)), (17, (vI r14.1)), (18, (vI r14.2))] (by as_aux_lemma => kernel_rfl) ?_
    refine sem_seq (by as_aux_lemma => kernel_rfl) ?_
    refine sem_region (by as_aux_lemma => kernel_rfl) ?_
    refine evs_run 2 (by as_aux_lemma => kernel_rfl) ?_
    obtain ⟨r16, hr16, h⟩ := bindS h
    refine evs_call (b := true) (by as_aux_lemma => kernel_rfl) (W.geom_CompareRoot_ok hr16) (.inl rfl) ?_
    refine evs_run 5 (by as_aux_lemma => kernel_rfl) ?_
    refine evs_endS (by as_aux_lemma => kernel_rfl) (fun τ hτ => ?_)
    refine th_normalS hτ [(11, (vI r6.1)), (12, (vI r6.2)), (15, (vI r12.1)), (17, (vI r14.1)), (18, (vI r14.2)), (19, (vI r16.1)), (20, (vI r16.2))] (by as_aux_lemma => kernel_rfl) ?_
    refine sem_seq (by as_aux_lemma => kernel_rfl) ?_
    obtain ⟨j23, hj23, h⟩ := bindS h
    refine sem_regionC [(6, (vB j23))] (by as_aux_lemma => kernel_rfl) ?_ (fun τ hτ => ?_)
    · replace h := hj23
      refine evs_run 5 (by as_aux_lemma => kernel_rfl) ?_
      refine evs_split (r12.1 == (ineg r6.1)) (fun b0 => [(11, (vI r6.1)), (12, (vI r6.2)), (17, (vI r14.1)), (18, (vI r14.2)), (19, (vI r16.1)), (20, (vI r16.2)), (83, (vB b0))]) (by as_aux_lemma => kernel_rfl) (fun hb => ?_) (fun hb => ?_)
      · replace h := iteT hb h
        refine evs_run 3 (by as_aux_lemma => kernel_rfl) ?_
        refine evs_split (r6.2 != 0) (fun b0 => [(11, (vI r6.1)), (17, (vI r14.1)), (18, (vI r14.2)), (19, (vI r16.1)), (20, (vI r16.2)), (83, (vB true)), (86, (vB b0))]) (by as_aux_lemma => kernel_rfl) (fun hb => ?_) (fun hb => ?_)
        · replace h := iteT hb h
          refine evs_run 21 (by as_aux_lemma => kernel_rfl) ?_
          obtain ⟨r24, hr24, h⟩ := bindS h
          refine evs_call (b := true) (by as_aux_lemma => kernel_rfl) (W.sheetmetallaw01_known_ok hr24) (.inl rfl) ?_
          refine evs_run 2 (by as_aux_lemma => kernel_rfl) ?_
          refine evs_endS (by as_aux_lemma => kernel_rfl) (fun τ hτ => ?_)
          obtain rfl := Option.some.inj h
          exact leafC hτ (by as_aux_lemma => kernel_rfl)
        · replace h := iteF hb h
          refine evs_run 4 (by as_aux_lemma => kernel_rfl) ?_
          refine evs_split (r14.2 != 0) (fun b0 => [(11, (vI r6.1)), (17, (vI r14.1)), (19, (vI r16.1)), (20, (vI r16.2)), (83, (vB true)), (90, (vB b0))]) (by as_aux_lemma => kernel_rfl) (fun hb => ?_) (fun hb => ?_)
          · replace h := iteT hb h
            refine evs_run 17 (by as_aux_lemma => kernel_rfl) ?_
            obtain ⟨r25, hr25, h⟩ := bindS h
            refine evs_call (b := true) (by as_aux_lemma => kernel_rfl) (W.sheetmetallaw01_known_ok hr25) (.inl rfl) ?_
            refine evs_run 2 (by as_aux_lemma => kernel_rfl) ?_
            refine evs_endS (by as_aux_lemma => kernel_rfl) (fun τ hτ => ?_)
            obtain rfl := Option.some.inj h
            exact leafC hτ (by as_aux_lemma => kernel_rfl)
          · replace h := iteF hb h
            refine evs_run 4 (by as_aux_lemma => kernel_rfl) ?_
            refine evs_split (r16.2 != 0) (fun b0 => [(11, (vI r6.1)), (17, (vI r14.1)), (19, (vI r16.1)), (83, (vB true)), (94, (vB b0))]) (by as_aux_lemma => kernel_rfl) (fun hb => ?_) (fun hb => ?_)
            · replace h := iteT hb h
              refine evs_run 13 (by as_aux_lemma => kernel_rfl) ?_
              obtain ⟨r26, hr26, h⟩ := bindS h
              refine evs_call (b := true) (by as_aux_lemma => kernel_rfl) (W.sheetmetallaw01_known_ok hr26) (.inl rfl) ?_
              refine evs_run 2 (by as_aux_lemma => kernel_rfl) ?_
              refine evs_endS (by as_aux_lemma => kernel_rfl) (fun τ hτ => ?_)
              obtain rfl := Option.some.inj h
              exact leafC hτ (by as_aux_lemma => kernel_rfl)
            · replace h := iteF hb h
              refine evs_run 4 (by as_aux_lemma => kernel_rfl) ?_
              refine evs_split (decide (r6.1 > 0)) (fun b0 => [(17, (vI r14.1)), (19, (vI r16.1)), (83, (vB true)), (98, (vB b0))]) (by as_aux_lemma => kernel_rfl) (fun hb => ?_) (fun hb => ?_)
              · replace h := iteT hb h
                refine evs_run 9 (by as_aux_lemma => kernel_rfl) ?_
                obtain ⟨r27, hr27, h⟩ := bindS h
                refine evs_call (b := true) (by as_aux_lemma => kernel_rfl) (W.sheetmetallaw01_known_ok hr27) (.inl rfl) ?_
                refine evs_run 2 (by as_aux_lemma => kernel_rfl) ?_
                refine evs_endS (by as_aux_lemma => kernel_rfl) (fun τ hτ => ?_)
                obtain rfl := Option.some.inj h
                exact leafC hτ (by as_aux_lemma => kernel_rfl)
              · replace h := iteF hb h
                refine evs_run 4 (by as_aux_lemma => kernel_rfl) ?_
                refine evs_split (decide (r14.1 > 0)) (fun b0 => [(19, (vI r16.1)), (83, (vB true)), (102, (vB b0))]) (by as_aux_lemma => kernel_rfl) (fun hb => ?_) (fun hb => ?_)
                · replace h := iteT hb h
                  refine evs_run 5 (by as_aux_lemma => kernel_rfl) ?_
                  obtain ⟨r28, hr28, h⟩ := bindS h
                  refine evs_call (b := true) (by as_aux_lemma => kernel_rfl) (W.sheetmetallaw01_known_ok hr28) (.inl rfl) ?_
                  refine evs_run 2 (by as_aux_lemma => kernel_rfl) ?_
                  refine evs_endS (by as_aux_lemma => kernel_rfl) (fun τ hτ => ?_)
                  obtain rfl := Option.some.inj h
                  exact leafC hτ (by as_aux_lemma => kernel_rfl)
                · replace h := iteF hb h
                  refine evs_run 5 (by as_aux_lemma => kernel_rfl) ?_
                  refine evs_split (decide (r16.1 ≤ 0)) (fun b0 => [(107, (vB b0))]) (by as_aux_lemma => kernel_rfl) (fun hb => ?_) (fun hb => ?_)
                  · replace h := iteT hb h
                    obtain ⟨r29, hr29, h⟩ := bindS h
                    refine evs_call (b := true) (by as_aux_lemma => kernel_rfl) (W.sheetmetallaw01_known_ok hr29) (.inl rfl) ?_
                    refine evs_run 2 (by as_aux_lemma => kernel_rfl) ?_
                    refine evs_endS (by as_aux_lemma => kernel_rfl) (fun τ hτ => ?_)
                    obtain rfl := Option.some.inj h
                    exact leafC hτ (by as_aux_lemma => kernel_rfl)
                  · replace h := iteF hb h
                    refine evs_run 3 (by as_aux_lemma => kernel_rfl) ?_
                    refine evs_endS (by as_aux_lemma => kernel_rfl) (fun τ hτ => ?_)
                    obtain rfl := Option.some.inj h
                    exact leafC hτ (by as_aux_lemma => kernel_rfl)
      · replace h := iteF hb h
        refine evs_run 27 (by as_aux_lemma => kernel_rfl) ?_
        refine evs_endS (by as_aux_lemma => kernel_rfl) (fun τ hτ => ?_)
        obtain rfl := Option.some.inj h
        exact leafC hτ (by as_aux_lemma => kernel_rfl)
    refine th_normalS hτ [(6, (vB j23))] (by as_aux_lemma => kernel_rfl) ?_
    refine sem_retS (by as_aux_lemma => kernel_rfl) (fun τ hτ => ?_)
    obtain rfl := Option.some.inj h
    exact rv_ret hτ (by as_aux_lemma => kernel_rfl)
theorem W.geom_times_ok {a : Root} {b : Root} {r : Root} (h : geom_times a b = some r) : PCalls G.P 64 [(.agg [(vI a.A), (vI a.B)]), (.agg [(vI b.A), (vI b.B)])] (.agg [(vI r.A), (vI r.B)]) := by
  refine pc_view G (fn := Try.f64) Try.func64 (by as_aux_lemma => kernel_rfl) (by as_aux_lemma => kernel_rfl) (by as_aux_lemma => kernel_rfl) (by as_aux_lemma => kernel_rfl) ?_
  refine sem_set [(0, (.agg [(vI a.A), (vI a.B)])), (1, (.agg [(vI b.A), (vI b.B)]))] (by as_aux_lemma => kernel_rfl) ?_
  refine sem_seq (by as_aux_lemma => kernel_rfl) ?_
  refine sem_region (by as_aux_lemma => kernel_rfl) ?_
  refine evs_run 3 (by as_aux_lemma => kernel_rfl) ?_
  refine evs_endS (by as_aux_lemma => kernel_rfl) (fun τ hτ => ?_)
  refine th_normalS hτ [(2, (.ptr 2 [(vI a.A), (vI a.B)] 0)), (3, (.ptr 3 [(vI b.A), (vI b.B)] 0)), (4, (.ptr 4 [(vI 0), (vI 0)] 0))] (by as_aux_lemma => kernel_rfl) ?_
  refine sem_seq (by as_aux_lemma => kernel_rfl) ?_
  refine sem_region (by as_aux_lemma => kernel_rfl) ?_
  refine evs_run 25 (by as_aux_lemma => kernel_rfl) ?_
  refine evs_endS (by as_aux_lemma => kernel_rfl) (fun τ hτ => ?_)
  refine th_normalS hτ [(4, (.ptr 4 [(vI (iadd (imul a.A b.A) (imul (imul 3 a.B) b.B))), (vI (iadd (imul a.A b.B) (imul a.B b.A)))] 0))] (by as_aux_lemma => kernel_rfl) ?_
  refine sem_retS (by as_aux_lemma => kernel_rfl) (fun τ hτ => ?_)
  obtain rfl := Option.some.inj h
  exact rv_ret hτ (by as_aux_lemma => kernel_rfl)
theorem W.geom_Multiply_ok {a : Root} {b : Root} {r : Root × Int} (h : geom_Multiply a b = some r) : PCalls G.P 22 [(.agg [(vI a.A), (vI a.B)]), (.agg [(vI b.A), (vI b.B)])] (.tup [(.agg [(vI r.1.A), (vI r.1.B)]), (vI r.2)]) := by
  refine pc_view G (fn := Try.f22) Try.func22 (by as_aux_lemma => kernel_rfl) (by as_aux_lemma => kernel_rfl) (by as_aux_lemma => kernel_rfl) (by as_aux_lemma => kernel_rfl) ?_
  refine sem_set [(0, (.agg [(vI a.A), (vI a.B)])), (1, (.agg [(vI b.A), (vI b.B)]))] (by as_aux_lemma => kernel_rfl) ?_
  refine sem_seq (by as_aux_lemma => kernel_rfl) ?_
  refine sem_region (by as_aux_lemma => kernel_rfl) ?_
  refine evs_run 4 (by as_aux_lemma => kernel_rfl) ?_
  refine evs_endS (by as_aux_lemma => kernel_rfl) (fun τ hτ => ?_)
  refine th_normalS hτ [(2, (.ptr 2 [(vI a.A), (vI a.B)] 0)), (3, (.ptr 3 [(vI b.A), (vI b.B)] 0)), (4, (.ptr 4 [(vI 0), (vI 0)] 0))] (by as_aux_lemma => kernel_rfl) ?_
  refine sem_seq (by as_aux_lemma => kernel_rfl) ?_
  refine sem_seq (by as_aux_lemma => kernel_rfl) ?_
  refine sem_region (by as_aux_lemma => kernel_rfl) ?_
  refine evs_run 10 (by as_aux_lemma => kernel_rfl) ?_
  refine evs_endS (by as_aux_lemma => kernel_rfl) (fun τ hτ => ?_)
  refine th_normalS hτ [(2, (.ptr 2 [(vI a.A), (vI a.B)] 0)), (3, (.ptr 3 [(vI b.A), (vI b.B)] 0)), (4, (.ptr 4 [(vI 0), (vI 0)] 0)), (16, (.agg [(vI a.A), (vI a.B), (vI b.A), (vI b.B)])), (17, (vI 0))] (by as_aux_lemma => kernel_rfl) ?_
  refine sem_block (by as_aux_lemma => kernel_rfl) ?_
  obtain ⟨x48, hx48, h⟩ := bindS h
  refine sem_loopS (fun (s31 : Int) => [(2, (.ptr 2 [(vI a.A), (vI a.B)] 0)), (3, (.ptr 3 [(vI b.A), (vI b.B)] 0)), (4, (.ptr 4 [(vI 0), (vI 0)] 0)), (16, (.agg [(vI a.A), (vI a.B), (vI b.A), (vI b.B)])), (17, (vI s31))]) (fun (x48 : Unit ⊕ Unit) => match x48 with | .inl j49 => (.ret, [(4, (.ptr 4 [(vI 0), (vI 0)] 0)), (5, (vI 4))]) | .inr j50 => (.exit 0, [(2, (.ptr 2 [(vI a.A), (vI a.B)] 0)), (3, (.ptr 3 [(vI b.A), (vI b.B)] 0)), (4, (.ptr 4 [(vI 0), (vI 0)] 0))])) (geom_Multiply_l1 a b) 0 x48 (by as_aux_lemma => kernel_rfl) (by as_aux_lemma => kernel_rfl) hx48 ?_ ?_ ?_
  · intro s31 r h
    refine sem_seq (by as_aux_lemma => kernel_rfl) ?_
    refine sem_region (by as_aux_lemma => kernel_rfl) ?_
    refine evs_run 1 (by as_aux_lemma => kernel_rfl) ?_
    refine evs_endS (by as_aux_lemma => kernel_rfl) (fun τ hτ => ?_)
    refine th_normalS hτ [(2, (.ptr 2 [(vI a.A), (vI a.B)] 0)), (3, (.ptr 3 [(vI b.A), (vI b.B)] 0)), (4, (.ptr 4 [(vI 0), (vI 0)] 0)), (16, (.agg [(vI a.A), (vI a.B), (vI b.A), (vI b.B)])), (17, (vI s31)), (18, (vB (decide (s31 < 4))))] (by as_aux_lemma => kernel_rfl) ?_
    refine sem_seq (by as_aux_lemma => kernel_rfl) ?_
    refine sem_cond (decide (s31 < 4)) (by as_aux_lemma => kernel_rfl) (by as_aux_lemma => kernel_rfl) (fun hb => ?_) (fun hb => ?_)
    · replace h := iteT hb h
      refine sem_skipS (by as_aux_lemma => kernel_rfl) (fun τ hτ => ?_)
      refine th_normalS hτ [(2, (.ptr 2 [(vI a.A), (vI a.B)] 0)), (3, (.ptr 3 [(vI b.A), (vI b.B)] 0)), (4, (.ptr 4 [(vI 0), (vI 0)] 0)), (16, (.agg [(vI a.A), (vI a.B), (vI b.A), (vI b.B)])), (17, (vI s31))] (by as_aux_lemma => kernel_rfl) ?_
      refine sem_seq (by as_aux_lemma => kernel_rfl) ?_
      refine sem_block (by as_aux_lemma => kernel_rfl) ?_
      refine sem_seq (by as_aux_lemma => kernel_rfl) ?_
      refine sem_region (by as_aux_lemma => kernel_rfl) ?_
      obtain ⟨x45, hx45, h⟩ := bindS h
      refine evs_op (st_aix0 (c := cI) (l := [a.A, a.B, b.A, b.B]) (i := s31) (x := x45) (v := (vI x45)) (n := 4) (kd := .i64) (cs := [(vI a.A), (vI a.B), (vI b.A), (vI b.B)]) (by as_aux_lemma => kernel_rfl) (by as_aux_lemma => kernel_rfl) rfl hx45 (fun _ => rfl) rfl) ?_
      refine evs_run 1 (by as_aux_lemma => kernel_rfl) ?_
      refine evs_endS (by as_aux_lemma => kernel_rfl) (fun τ hτ => ?_)
      refine th_normalS hτ [(2, (.ptr 2 [(vI a.A), (vI a.B)] 0)), (3, (.ptr 3 [(vI b.A), (vI b.B)] 0)), (4, (.ptr 4 [(vI 0), (vI 0)] 0)), (7, (vI x45)), (16, (.agg [(vI a.A), (vI a.B), (vI b.A), (vI b.B)])), (17, (vI s31))] (by as_aux_lemma => kernel_rfl) ?_
      refine sem_seq (by as_aux_lemma => kernel_rfl) ?_
      refine sem_region (by as_aux_lemma => kernel_rfl) ?_
      refine evs_run 1 (by as_aux_lemma => kernel_rfl) ?_
      obtain ⟨r47, hr47, h⟩ := bindS h
      refine evs_call (b := true) (by as_aux_lemma => kernel_rfl) (W.geom_within_ok hr47) (.inl rfl) ?_
      refine evs_run 1 (by as_aux_lemma => kernel_rfl) ?_
      refine evs_endS (by as_aux_lemma => kernel_rfl) (fun τ hτ => ?_)
      refine th_normalS hτ [(2, (.ptr 2 [(vI a.A), (vI a.B)] 0)), (3, (.ptr 3 [(vI b.A), (vI b.B)] 0)), (4, (.ptr 4 [(vI 0), (vI 0)] 0)), (16, (.agg [(vI a.A), (vI a.B), (vI b.A), (vI b.B)])), (17, (vI s31)), (22, (vB (!r47)))] (by as_aux_lemma => kernel_rfl) ?_
      refine sem_cond (!r47) (by as_aux_lemma => kernel_rfl) (by as_aux_lemma => kernel_rfl) (fun hb => ?_) (fun hb => ?_)
      · replace h := iteT hb h
        refine sem_seq (by as_aux_lemma => kernel_rfl) ?_
        refine sem_region (by as_aux_lemma => kernel_rfl) ?_
        refine evs_run 3 (by as_aux_lemma => kernel_rfl) ?_
        refine evs_endS (by as_aux_lemma => kernel_rfl) (fun τ hτ => ?_)
        refine th_normalS hτ [(4, (.ptr 4 [(vI 0), (vI 0)] 0)), (5, (vI 4))] (by as_aux_lemma => kernel_rfl) ?_
        refine sem_retS (by as_aux_lemma => kernel_rfl) (fun τ hτ => ?_)
        refine bl_ret ?_
        refine th_ret ?_
        obtain rfl := Option.some.inj h
        exact lk_outS hτ rfl (by as_aux_lemma => kernel_rfl)
      · replace h := iteF hb h
        refine sem_skipS (by as_aux_lemma => kernel_rfl) (fun τ hτ => ?_)
        refine bl_normal ?_
        refine th_normalS hτ [(2, (.ptr 2 [(vI a.A), (vI a.B)] 0)), (3, (.ptr 3 [(vI b.A), (vI b.B)] 0)), (4, (.ptr 4 [(vI 0), (vI 0)] 0)), (16, (.agg [(vI a.A), (vI a.B), (vI b.A), (vI b.B)])), (17, (vI s31))] (by as_aux_lemma => kernel_rfl) ?_
        refine sem_region (by as_aux_lemma => kernel_rfl) ?_
        refine evs_run 2 (by as_aux_lemma => kernel_rfl) ?_
        refine evs_endS (by as_aux_lemma => kernel_rfl) (fun τ hτ => ?_)
        obtain rfl := Option.some.inj h
        exact lk_nextS hτ (by as_aux_lemma => kernel_rfl)
    · replace h := iteF hb h
      refine sem_exitS 0 (by as_aux_lemma => kernel_rfl) rfl (fun τ hτ => ?_)
      refine th_exit ?_
      obtain rfl := Option.some.inj h
      exact lk_outS hτ rfl (by as_aux_lemma => kernel_rfl)
  · intro x
    rcases x with _ | _ <;> rfl
  · intro τ hτ
    rcases x48 with j49 | j50
    · refine bl_ret ?_
      refine th_ret ?_
      obtain rfl := Option.some.inj h
      exact rv_ret hτ (by as_aux_lemma => kernel_rfl)
    · refine bl_hit (by as_aux_lemma => kernel_rfl) ?_
      refine th_normalS hτ [(2, (.ptr 2 [(vI a.A), (vI a.B)] 0)), (3, (.ptr 3 [(vI b.A), (vI b.B)] 0)), (4, (.ptr 4 [(vI 0), (vI 0)] 0))] (by as_aux_lemma => kernel_rfl) ?_
      refine sem_seq (by as_aux_lemma => kernel_rfl) ?_
      refine sem_region (by as_aux_lemma => kernel_rfl) ?_
      refine evs_run 2 (by as_aux_lemma => kernel_rfl) ?_
      obtain ⟨r52, hr52, h⟩ := bindS h
      refine evs_call (b := true) (by as_aux_lemma => kernel_rfl) (W.geom_times_ok hr52) (.inl rfl) ?_
      refine evs_run 2 (by as_aux_lemma => kernel_rfl) ?_
      refine evs_endS (by as_aux_lemma => kernel_rfl) (fun τ hτ => ?_)
      refine th_normalS hτ [(4, (.ptr 4 [(vI r52.A), (vI r52.B)] 0)), (5, (vI 0))] (by as_aux_lemma => kernel_rfl) ?_
      refine sem_retS (by as_aux_lemma => kernel_rfl) (fun τ hτ => ?_)
      obtain rfl := Option.some.inj h
      exact rv_ret hτ (by as_aux_lemma => kernel_rfl)
theorem W.sheetmetalref01_times_ok {a : Root} {b : Root} {r : Root} (h : sheetmetalref01_times a b = some r) : PCalls G.P 65 [(.agg [(vI a.A), (vI a.B)]), (.agg [(vI b.A), (vI b.B)])] (.agg [(vI r.A), (vI r.B)]) := by
  refine pc_view G (fn := Try.f65) Try.func65 (by as_aux_lemma => kernel_rfl) (by as_aux_lemma => kernel_rfl) (by as_aux_lemma => kernel_rfl) (by as_aux_lemma => kernel_rfl) ?_
  refine sem_set [(0, (.agg [(vI a.A), (vI a.B)])), (1, (.agg [(vI b.A), (vI b.B)]))] (by as_aux_lemma => kernel_rfl) ?_
  refine sem_seq (by as_aux_lemma => kernel_rfl) ?_
  refine sem_region (by as_aux_lemma => kernel_rfl) ?_
  refine evs_run 3 (by as_aux_lemma => kernel_rfl) ?_
  refine evs_endS (by as_aux_lemma => kernel_rfl) (fun τ hτ => ?_)
  refine th_normalS hτ [(2, (.ptr 2 [(vI a.A), (vI a.B)] 0)), (3, (.ptr 3 [(vI b.A), (vI b.B)] 0)), (4, (.ptr 4 [(vI 0), (vI 0)] 0))] (by as_aux_lemma => kernel_rfl) ?_
  refine sem_seq (by as_aux_lemma => kernel_rfl) ?_
  refine sem_region (by as_aux_lemma => kernel_rfl) ?_
  refine evs_run 25 (by as_aux_lemma => kernel_rfl) ?_
  refine evs_endS (by as_aux_lemma => kernel_rfl) (fun τ hτ => ?_)
  refine th_normalS hτ [(4, (.ptr 4 [(vI (iadd (imul a.A b.A) (imul (imul 3 a.B) b.B))), (vI (iadd (imul a.A b.B) (imul a.B b.A)))] 0))] (by as_aux_lemma => kernel_rfl) ?_
  refine sem_retS (by as_aux_lemma => kernel_rfl) (fun τ hτ => ?_)
  obtain rfl := Option.some.inj h
  exact rv_ret hτ (by as_aux_lemma => kernel_rfl)
theorem W.sheetmetalref01_Multiply_ok {a : Root} {b : Root} {r : Root × Int} (h : sheetmetalref01_Multiply a b = some r) : PCalls G.P 23 [(.agg [(vI a.A), (vI a.B)]), (.agg [(vI b.A), (vI b.B)])] (.tup [(.agg [(vI r.1.A), (vI r.1.B)]), (vI r.2)]) := by
  refine pc_view G (fn := Try.f23) Try.func23 (by as_aux_lemma => kernel_rfl) (by as_aux_lemma => kernel_rfl) (by as_aux_lemma => kernel_rfl) (by as_aux_lemma => kernel_rfl) ?_
  refine sem_set [(0, (.agg [(vI a.A), (vI a.B)])), (1, (.agg [(vI b.A), (vI b.B)]))] (by as_aux_lemma => kernel_rfl) ?_
  refine sem_seq (by as_aux_lemma => kernel_rfl) ?_
  refine sem_region (by as_aux_lemma => kernel_rfl) ?_
  refine evs_run 4 (by as_aux_lemma => kernel_rfl) ?_
  refine evs_endS (by as_aux_lemma => kernel_rfl) (fun τ hτ => ?_)
  refine th_normalS hτ [(2, (.ptr 2 [(vI a.A), (vI a.B)] 0)), (3, (.ptr 3 [(vI b.A), (vI b.B)] 0)), (4, (.ptr 4 [(vI 0), (vI 0)] 0))] (by as_aux_lemma => kernel_rfl) ?_
  refine sem_seq (by as_aux_lemma => kernel_rfl) ?_
  refine sem_seq (by as_aux_lemma => kernel_rfl) ?_
  obtain ⟨j8, hj8, h⟩ := bindS h
  refine sem_regionC [(2, (.ptr 2 [(vI a.A), (vI a.B)] 0)), (3, (.ptr 3 [(vI b.A), (vI b.B)] 0)), (4, (.ptr 4 [(vI 0), (vI 0)] 0)), (13, (vB j8))] (by as_aux_lemma => kernel_rfl) ?_ (fun τ hτ => ?_)
  · replace h := hj8
    refine evs_run 1 (by as_aux_lemma => kernel_rfl) ?_
    obtain ⟨r9, hr9, h⟩ := bindS h
    refine evs_call (b := true) (by as_aux_lemma => kernel_rfl) (W.sheetmetalref01_rootIn_ok hr9) (.inl rfl) ?_
    refine evs_run 2 (by as_aux_lemma => kernel_rfl) ?_
    refine evs_split r9 (fun b0 => [(2, (.ptr 2 [(vI a.A), (vI a.B)] 0)), (3, (.ptr 3 [(vI b.A), (vI b.B)] 0)), (4, (.ptr 4 [(vI 0), (vI 0)] 0)), (9, (vB (!b0)))]) (by as_aux_lemma => kernel_rfl) (fun hb => ?_) (fun hb => ?_)
    · replace h := iteT hb h
      refine evs_run 1 (by as_aux_lemma => kernel_rfl) ?_
      obtain ⟨r10, hr10, h⟩ := bindS h
      refine evs_call (b := true) (by as_aux_lemma => kernel_rfl) (W.sheetmetalref01_rootIn_ok hr10) (.inl rfl) ?_
      refine evs_run 2 (by as_aux_lemma => kernel_rfl) ?_
      refine evs_endS (by as_aux_lemma => kernel_rfl) (fun τ hτ => ?_)
      obtain rfl := Option.some.inj h
      exact leafC hτ (by as_aux_lemma => kernel_rfl)
    · replace h := iteF hb h
      refine evs_run 4 (by as_aux_lemma => kernel_rfl) ?_
      refine evs_endS (by as_aux_lemma => kernel_rfl) (fun τ hτ => ?_)
      obtain rfl := Option.some.inj h
      exact leafC hτ (by as_aux_lemma => kernel_rfl)
  refine th_normalS hτ [(2, (.ptr 2 [(vI a.A), (vI a.B)] 0)), (3, (.ptr 3 [(vI b.A), (vI b.B)] 0)), (4, (.ptr 4 [(vI 0), (vI 0)] 0)), (13, (vB j8))] (by as_aux_lemma => kernel_rfl) ?_
  refine sem_cond j8 (by as_aux_lemma => kernel_rfl) (by as_aux_lemma => kernel_rfl) (fun hb => ?_) (fun hb => ?_)
  · replace h := iteT hb h
    refine sem_seq (by as_aux_lemma => kernel_rfl) ?_
    refine sem_region (by as_aux_lemma => kernel_rfl) ?_
    refine evs_run 3 (by as_aux_lemma => kernel_rfl) ?_
    refine evs_endS (by as_aux_lemma => kernel_rfl) (fun τ hτ => ?_)
    refine th_normalS hτ [(4, (.ptr 4 [(vI 0), (vI 0)] 0)), (5, (vI 4))] (by as_aux_lemma => kernel_rfl) ?_
    refine sem_retS (by as_aux_lemma => kernel_rfl) (fun τ hτ => ?_)
    refine th_ret ?_
    obtain rfl := Option.some.inj h
    exact rv_ret hτ (by as_aux_lemma => kernel_rfl)
  · replace h := iteF hb h
    refine sem_skipS (by as_aux_lemma => kernel_rfl) (fun τ hτ => ?_)
    refine th_normalS hτ [(2, (.ptr 2 [(vI a.A), (vI a.B)] 0)), (3, (.ptr 3 [(vI b.A), (vI b.B)] 0)), (4, (.ptr 4 [(vI 0), (vI 0)] 0))] (by as_aux_lemma => kernel_rfl) ?_
    refine sem_seq (by as_aux_lemma => kernel_rfl) ?_
    refine sem_region (by as_aux_lemma => kernel_rfl) ?_
    refine evs_run 2 (by as_aux_lemma => kernel_rfl) ?_
    obtain ⟨r12, hr12, h⟩ := bindS h
    refine evs_call (b := true) (by as_aux_lemma => kernel_rfl) (W.sheetmetalref01_times_ok hr12) (.inl rfl) ?_
    refine evs_run 2 (by as_aux_lemma => kernel_rfl) ?_
    refine evs_endS (by as_aux_lemma => kernel_rfl) (fun τ hτ => ?_)
    refine th_normalS hτ [(4, (.ptr 4 [(vI r12.A), (vI r12.B)] 0)), (5, (vI 0))] (by as_aux_lemma => kernel_rfl) ?_
    refine sem_retS (by as_aux_lemma => kernel_rfl) (fun τ hτ => ?_)
    obtain rfl := Option.some.inj h
    exact rv_ret hτ (by as_aux_lemma => kernel_rfl)
theorem W.sheetmetallaw01_GeomMultiplies_ok {a : Root} {a1 : Root} {r : Bool} (h : sheetmetallaw01_GeomMultiplies a a1 = some r) : PCalls G.P 4 [(.agg [(vI a.A), (vI a.B)]), (.agg [(vI a1.A), (vI a1.B)])] (vB r) := by
  refine pc_view G (fn := Try.f4) Try.func4 (by as_aux_lemma => kernel_rfl) (by as_aux_lemma => kernel_rfl) (by as_aux_lemma => kernel_rfl) (by as_aux_lemma => kernel_rfl) ?_
  refine sem_set [(0, (.agg [(vI a.A), (vI a.B)])), (1, (.agg [(vI a1.A), (vI a1.B)]))] (by as_aux_lemma => kernel_rfl) ?_
  refine sem_seq (by as_aux_lemma => kernel_rfl) ?_
  refine sem_region (by as_aux_lemma => kernel_rfl) ?_
  refine evs_run 3 (by as_aux_lemma => kernel_rfl) ?_
  refine evs_endS (by as_aux_lemma => kernel_rfl) (fun τ hτ => ?_)
  refine th_normalS hτ [(2, (.ptr 2 [(vI a.A), (vI a.B)] 0)), (3, (.ptr 3 [(vI a1.A), (vI a1.B)] 0))] (by as_aux_lemma => kernel_rfl) ?_
  refine sem_seq (by as_aux_lemma => kernel_rfl) ?_
  refine sem_region (by as_aux_lemma => kernel_rfl) ?_
  refine evs_run 2 (by as_aux_lemma => kernel_rfl) ?_
  obtain ⟨r2, hr2, h⟩ := bindS h
  refine evs_call (b := true) (by as_aux_lemma => kernel_rfl) (W.geom_Multiply_ok hr2) (.inl rfl) ?_
  refine evs_run 6 (by as_aux_lemma => kernel_rfl) ?_
  refine evs_endS (by as_aux_lemma => kernel_rfl) (fun τ hτ => ?_)
  refine th_normalS hτ [(2, (.ptr 2 [(vI a.A), (vI a.B)] 0)), (3, (.ptr 3 [(vI a1.A), (vI a1.B)] 0)), (5, (.ptr 5 [(vI r2.1.A), (vI r2.1.B)] 0)), (6, (vI r2.2))] (by as_aux_lemma => kernel_rfl) ?_
  refine sem_seq (by as_aux_lemma => kernel_rfl) ?_
  refine sem_region (by as_aux_lemma => kernel_rfl) ?_
  refine evs_run 2 (by as_aux_lemma => kernel_rfl) ?_
  obtain ⟨r4, hr4, h⟩ := bindS h
  refine evs_call (b := true) (by as_aux_lemma => kernel_rfl) (W.sheetmetalref01_Multiply_ok hr4) (.inl rfl) ?_
  refine evs_run 6 (by as_aux_lemma => kernel_rfl) ?_
  refine evs_endS (by as_aux_lemma => kernel_rfl) (fun τ hτ => ?_)
  refine th_normalS hτ [(2, (.ptr 2 [(vI a.A), (vI a.B)] 0)), (3, (.ptr 3 [(vI a1.A), (vI a1.B)] 0)), (5, (.ptr 5 [(vI r2.1.A), (vI r2.1.B)] 0)), (6, (vI r2.2)), (7, (.ptr 7 [(vI r4.1.A), (vI r4.1.B)] 0)), (8, (vI r4.2))] (by as_aux_lemma => kernel_rfl) ?_
  refine sem_seq (by as_aux_lemma => kernel_rfl) ?_
  refine sem_seq (by as_aux_lemma => kernel_rfl) ?_
  obtain ⟨j6, hj6, h⟩ := bindS h
  refine sem_regionC [(2, (.ptr 2 [(vI a.A), (vI a.B)] 0)), (3, (.ptr 3 [(vI a1.A), (vI a1.B)] 0)), (5, (.ptr 5 [(vI r2.1.A), (vI r2.1.B)] 0)), (6, (vI r2.2)), (34, (vB j6))] (by as_aux_lemma => kernel_rfl) ?_ (fun τ hτ => ?_)
  · replace h := hj6
    refine evs_run 4 (by as_aux_lemma => kernel_rfl) ?_
    refine evs_split ((r2.1.A == r4.1.A) && ((r2.1.B == r4.1.B) && true)) (fun b0 => [(2, (.ptr 2 [(vI a.A), (vI a.B)] 0)), (3, (.ptr 3 [(vI a1.A), (vI a1.B)] 0)), (5, (.ptr 5 [(vI r2.1.A), (vI r2.1.B)] 0)), (6, (vI r2.2)), (8, (vI r4.2)), (30, (vB (!b0)))]) (by as_aux_lemma => kernel_rfl) (fun hb => ?_) (fun hb => ?_)
    · replace h := iteT hb h
      refine evs_run 4 (by as_aux_lemma => kernel_rfl) ?_
      refine evs_endS (by as_aux_lemma => kernel_rfl) (fun τ hτ => ?_)
      obtain rfl := Option.some.inj h
      exact leafC hτ (by as_aux_lemma => kernel_rfl)
    · replace h := iteF hb h
      refine evs_run 4 (by as_aux_lemma => kernel_rfl) ?_
      refine evs_endS (by as_aux_lemma => kernel_rfl) (fun τ hτ => ?_)
      obtain rfl := Option.some.inj h
      exact leafC hτ (by as_aux_lemma => kernel_rfl)
  refine th_normalS hτ [(2, (.ptr 2 [(vI a.A), (vI a.B)] 0)), (3, (.ptr 3 [(vI a1.A), (vI a1.B)] 0)), (5, (.ptr 5 [(vI r2.1.A), (vI r2.1.B)] 0)), (6, (vI r2.2)), (34, (vB j6))] (by as_aux_lemma => kernel_rfl) ?_
  refine sem_cond j6 (by as_aux_lemma => kernel_rfl) (by as_aux_lemma => kernel_rfl) (fun hb => ?_) (fun hb => ?_)
  · replace h := iteT hb h
    refine sem_seq (by as_aux_lemma => kernel_rfl) ?_
    refine sem_region (by as_aux_lemma => kernel_rfl) ?_
    refine evs_run 1 (by as_aux_lemma => kernel_rfl) ?_
    refine evs_endS (by as_aux_lemma => kernel_rfl) (fun τ hτ => ?_)
    refine th_normalS hτ [(4, (vB false))] (by as_aux_lemma => kernel_rfl) ?_
    refine sem_retS (by as_aux_lemma => kernel_rfl) (fun τ hτ => ?_)
    refine th_ret ?_
    obtain rfl := Option.some.inj h
    exact rv_ret hτ (by as_aux_lemma => kernel_rfl)
  · replace h := iteF hb h
    refine sem_skipS (by as_aux_lemma => kernel_rfl) (fun τ hτ => ?_)
    refine th_normalS hτ [(2, (.ptr 2 [(vI a.A), (vI a.B)] 0)), (3, (.ptr 3 [(vI a1.A), (vI a1.B)] 0)), (5, (.ptr 5 [(vI r2.1.A), (vI r2.1.B)] 0)), (6, (vI r2.2))] (by as_aux_lemma => kernel_rfl) ?_
    refine sem_seq (by as_aux_lemma => kernel_rfl) ?_
    refine sem_region (by as_aux_lemma => kernel_rfl) ?_
    refine evs_run 1 (by as_aux_lemma => kernel_rfl) ?_
    obtain ⟨r8, hr8, h⟩ := bindS h
    refine evs_call (b := true) (by as_aux_lemma => kernel_rfl) (W.geom_SignRoot_ok hr8) (.inl rfl) ?_
    refine evs_run 5 (by as_aux_lemma => kernel_rfl) ?_
    refine evs_endS (by as_aux_lemma => kernel_rfl) (fun τ hτ => ?_)
    refine th_normalS hτ [(3, (.ptr 3 [(vI a1.A), (vI a1.B)] 0)), (5, (.ptr 5 [(vI r2.1.A), (vI r2.1.B)] 0)), (6, (vI r2.2)), (9, (vI r8.1))] (by as_aux_lemma => kernel_rfl) ?_
    refine sem_seq (by as_aux_lemma => kernel_rfl) ?_
    refine sem_region (by as_aux_lemma => kernel_rfl) ?_
    refine evs_run 1 (by as_aux_lemma => kernel_rfl) ?_
    obtain ⟨r10, hr10, h⟩ := bindS h
    refine evs_call (b := true) (by as_aux_lemma => kernel_rfl) (W.geom_SignRoot_ok hr10) (.inl rfl) ?_
    refine evs_run 5 (by as_aux_lemma => kernel_rfl) ?_
    refine evs_endS (by as_aux_lemma => kernel_rfl) (fun τ hτ => ?_)
    refine th_normalS hτ [(5, (.ptr 5 [(vI r2.1.A), (vI r2.1.B)] 0)), (6, (vI r2.2)), (9, (vI r8.1)), (11, (vI r10.1))] (by as_aux_lemma => kernel_rfl) ?_
    refine sem_seq (by as_aux_lemma => kernel_rfl) ?_
    refine sem_region (by as_aux_lemma => kernel_rfl) ?_
    refine evs_run 1 (by as_aux_lemma => kernel_rfl) ?_
    obtain ⟨r12, hr12, h⟩ := bindS h
    refine evs_call (b := true) (by as_aux_lemma => kernel_rfl) (W.geom_SignRoot_ok hr12) (.inl rfl) ?_
    refine evs_run 5 (by as_aux_lemma => kernel_rfl) ?_
    refine evs_endS (by as_aux_lemma => kernel_rfl) (fun τ hτ => ?_)
    refine th_normalS hτ [(6, (vI r2.2)), (9, (vI r8.1)), (11, (vI r10.1)), (13, (vI r12.1)), (14, (vI r12.2))] (by as_aux_lemma => kernel_rfl) ?_
    refine sem_seq (by as_aux_lemma => kernel_rfl) ?_
    obtain ⟨j15, hj15, h⟩ := bindS h
    refine sem_regionC [(4, (vB j15))] (by as_aux_lemma => kernel_rfl) ?_ (fun τ hτ => ?_)
    · replace h := hj15
      refine evs_run 3 (by as_aux_lemma => kernel_rfl) ?_
      refine evs_split (r2.2 != 0) (fun b0 => [(9, (vI r8.1)), (11, (vI r10.1)), (13, (vI r12.1)), (14, (vI r12.2)), (52, (vB b0))]) (by as_aux_lemma => kernel_rfl) (fun hb => ?_) (fun hb => ?_)
      · replace h := iteT hb h
        refine evs_run 11 (by as_aux_lemma => kernel_rfl) ?_
        obtain ⟨r16, hr16, h⟩ := bindS h
        refine evs_call (b := true) (by as_aux_lemma => kernel_rfl) (W.sheetmetallaw01_known_ok hr16) (.inl rfl) ?_
        refine evs_run 2 (by as_aux_lemma => kernel_rfl) ?_
        refine evs_endS (by as_aux_lemma => kernel_rfl) (fun τ hτ => ?_)
        obtain rfl := Option.some.inj h
        exact leafC hτ (by as_aux_lemma => kernel_rfl)
      · replace h := iteF hb h
        refine evs_run 3 (by as_aux_lemma => kernel_rfl) ?_
        refine evs_split (r12.2 == 0) (fun b0 => [(9, (vI r8.1)), (11, (vI r10.1)), (13, (vI r12.1)), (52, (vB false)), (55, (vB b0))]) (by as_aux_lemma => kernel_rfl) (fun hb => ?_) (fun hb => ?_)
        · replace h := iteT hb h
          refine evs_run 8 (by as_aux_lemma => kernel_rfl) ?_
          refine evs_split (r12.1 == (imul r8.1 r10.1)) (fun b0 => [(63, (vB b0))]) (by as_aux_lemma => kernel_rfl) (fun hb => ?_) (fun hb => ?_)
          · replace h := iteT hb h
            obtain ⟨r17, hr17, h⟩ := bindS h
            refine evs_call (b := true) (by as_aux_lemma => kernel_rfl) (W.sheetmetallaw01_known_ok hr17) (.inl rfl) ?_
            refine evs_run 2 (by as_aux_lemma => kernel_rfl) ?_
            refine evs_endS (by as_aux_lemma => kernel_rfl) (fun τ hτ => ?_)
            obtain rfl := Option.some.inj h
            exact leafC hτ (by as_aux_lemma => kernel_rfl)
          · replace h := iteF hb h
            refine evs_run 3 (by as_aux_lemma => kernel_rfl) ?_
            refine evs_endS (by as_aux_lemma => kernel_rfl) (fun τ hτ => ?_)
            obtain rfl := Option.some.inj h
            exact leafC hτ (by as_aux_lemma => kernel_rfl)
        · replace h := iteF hb h
          refine evs_run 11 (by as_aux_lemma => kernel_rfl) ?_
          refine evs_endS (by as_aux_lemma => kernel_rfl) (fun τ hτ => ?_)
          obtain rfl := Option.some.inj h
          exact leafC hτ (by as_aux_lemma => kernel_rfl)
    refine th_normalS hτ [(4, (vB j15))] (by as_aux_lemma => kernel_rfl) ?_
    refine sem_retS (by as_aux_lemma => kernel_rfl) (fun τ hτ => ?_)
    obtain rfl := Option.some.inj h
    exact rv_ret hτ (by as_aux_lemma => kernel_rfl)
theorem W.sheetmetalref01_spotIn_ok {s0 : Spot} {r : Bool} (h : sheetmetalref01_spotIn s0 = some r) : PCalls G.P 68 [(.agg [(vI s0.X), (vI s0.Y)])] (vB r) := by
  refine pc_view G (fn := Try.f68) Try.func68 (by as_aux_lemma => kernel_rfl) (by as_aux_lemma => kernel_rfl) (by as_aux_lemma => kernel_rfl) (by as_aux_lemma => kernel_rfl) ?_
  refine sem_set [(0, (.agg [(vI s0.X), (vI s0.Y)]))] (by as_aux_lemma => kernel_rfl) ?_
  refine sem_seq (by as_aux_lemma => kernel_rfl) ?_
  refine sem_region (by as_aux_lemma => kernel_rfl) ?_
  refine evs_run 2 (by as_aux_lemma => kernel_rfl) ?_
  refine evs_endS (by as_aux_lemma => kernel_rfl) (fun τ hτ => ?_)
  refine th_normalS hτ [(1, (.ptr 1 [(vI s0.X), (vI s0.Y)] 0))] (by as_aux_lemma => kernel_rfl) ?_
  refine sem_seq (by as_aux_lemma => kernel_rfl) ?_
  obtain ⟨j3, hj3, h⟩ := bindS h
  refine sem_regionC [(2, (vB j3))] (by as_aux_lemma => kernel_rfl) ?_ (fun τ hτ => ?_)
  · replace h := hj3
    refine evs_run 2 (by as_aux_lemma => kernel_rfl) ?_
    obtain ⟨r4, hr4, h⟩ := bindS h
    refine evs_call (b := true) (by as_aux_lemma => kernel_rfl) (W.sheetmetalref01_within_ok hr4) (.inl rfl) ?_
    refine evs_run 1 (by as_aux_lemma => kernel_rfl) ?_
    refine evs_split r4 (fun b0 => [(1, (.ptr 1 [(vI s0.X), (vI s0.Y)] 0)), (6, (vB b0))]) (by as_aux_lemma => kernel_rfl) (fun hb => ?_) (fun hb => ?_)
    · replace h := iteT hb h
      refine evs_run 2 (by as_aux_lemma => kernel_rfl) ?_
      obtain ⟨r5, hr5, h⟩ := bindS h
      refine evs_call (b := true) (by as_aux_lemma => kernel_rfl) (W.sheetmetalref01_within_ok hr5) (.inl rfl) ?_
      refine evs_run 2 (by as_aux_lemma => kernel_rfl) ?_
      refine evs_endS (by as_aux_lemma => kernel_rfl) (fun τ hτ => ?_)
      obtain rfl := Option.some.inj h
      exact leafC hτ (by as_aux_lemma => kernel_rfl)
    · replace h := iteF hb h
      refine evs_run 5 (by as_aux_lemma => kernel_rfl) ?_
      refine evs_endS (by as_aux_lemma => kernel_rfl) (fun τ hτ => ?_)
      obtain rfl := Option.some.inj h
      exact leafC hτ (by as_aux_lemma => kernel_rfl)
  refine th_normalS hτ [(2, (vB j3))] (by as_aux_lemma => kernel_rfl) ?_
  refine sem_retS (by as_aux_lemma => kernel_rfl) (fun τ hτ => ?_)
  obtain rfl := Option.some.inj h
  exact rv_ret hτ (by as_aux_lemma => kernel_rfl)
theorem W.sheetmetalref01_cosine_body_ok (self : Int → Option (Root)) (hself : ∀ {k : Int} {r : Root}, self k = some r → PCalls G.P 102 [(vI k)] (.agg [(vI r.A), (vI r.B)])) {k : Int} {r : Root} (h : sheetmetalref01_cosine_body self k = some r) : PCalls G.P 102 [(vI k)] (.agg [(vI r.A), (vI r.B)]) := by
  refine pc_view G (fn := Try.f102) Try.func102 (by as_aux_lemma => kernel_rfl) (by as_aux_lemma => kernel_rfl) (by as_aux_lemma => kernel_rfl) (by as_aux_lemma => kernel_rfl) ?_
  refine sem_set [(0, (vI k))] (by as_aux_lemma => kernel_rfl) ?_
  refine sem_seq (by as_aux_lemma => kernel_rfl) ?_
  refine sem_region (by as_aux_lemma => kernel_rfl) ?_
  refine evs_run 1 (by as_aux_lemma => kernel_rfl) ?_
  refine evs_endS (by as_aux_lemma => kernel_rfl) (fun τ hτ => ?_)
  refine th_normalS hτ [(0, (vI k)), (2, (.ptr 2 [(vI 0), (vI 0)] 0))] (by as_aux_lemma => kernel_rfl) ?_
  refine sem_seqJ (fun (j1 : Int) => [(0, (vI j1)), (2, (.ptr 2 [(vI 0), (vI 0)] 0))]) (sheetmetalref01_cosine_k2 self) r (by as_aux_lemma => kernel_rfl) (fun j1 h => ?_) ?_
  · refine sem_seqJ (fun (j2 : Int) => [(0, (vI j2)), (2, (.ptr 2 [(vI 0), (vI 0)] 0))]) (sheetmetalref01_cosine_k1 self) r (by as_aux_lemma => kernel_rfl) (fun j2 h => ?_) ?_
    · refine sem_seq (by as_aux_lemma => kernel_rfl) ?_
      refine sem_seq (by as_aux_lemma => kernel_rfl) ?_
      refine sem_region (by as_aux_lemma => kernel_rfl) ?_
      refine evs_run 2 (by as_aux_lemma => kernel_rfl) ?_
      refine evs_endS (by as_aux_lemma => kernel_rfl) (fun τ hτ => ?_)
      refine th_normalS hτ [(0, (vI j2)), (2, (.ptr 2 [(vI 0), (vI 0)] 0)), (13, (vB (decide (j2 > 3))))] (by as_aux_lemma => kernel_rfl) ?_
      refine sem_cond (decide (j2 > 3)) (by as_aux_lemma => kernel_rfl) (by as_aux_lemma => kernel_rfl) (fun hb => ?_) (fun hb => ?_)
      · replace h := iteT hb h
        refine sem_seq (by as_aux_lemma => kernel_rfl) ?_
        refine sem_region (by as_aux_lemma => kernel_rfl) ?_
        refine evs_run 2 (by as_aux_lemma => kernel_rfl) ?_
        obtain ⟨r6, hr6, h⟩ := bindS h
        refine evs_call (b := true) (by as_aux_lemma => kernel_rfl) (hself hr6) (.inl rfl) ?_
        refine evs_run 2 (by as_aux_lemma => kernel_rfl) ?_
        refine evs_endS (by as_aux_lemma => kernel_rfl) (fun τ hτ => ?_)
        refine th_normalS hτ [(2, (.ptr 2 [(vI 0), (vI 0)] 0)), (3, (.ptr 3 [(vI r6.A), (vI r6.B)] 0))] (by as_aux_lemma => kernel_rfl) ?_
        refine sem_seq (by as_aux_lemma => kernel_rfl) ?_
        refine sem_region (by as_aux_lemma => kernel_rfl) ?_
        refine evs_run 8 (by as_aux_lemma => kernel_rfl) ?_
        refine evs_endS (by as_aux_lemma => kernel_rfl) (fun τ hτ => ?_)
        refine th_normalS hτ [(2, (.ptr 2 [(vI (ineg r6.A)), (vI (ineg r6.B))] 0))] (by as_aux_lemma => kernel_rfl) ?_
        refine sem_retS (by as_aux_lemma => kernel_rfl) (fun τ hτ => ?_)
        refine th_ret ?_
        obtain rfl := Option.some.inj h
        exact rv_ret hτ (by as_aux_lemma => kernel_rfl)
      · replace h := iteF hb h
        refine sem_skipS (by as_aux_lemma => kernel_rfl) (fun τ hτ => ?_)
        refine th_normalS hτ [(0, (vI j2)), (2, (.ptr 2 [(vI 0), (vI 0)] 0))] (by as_aux_lemma => kernel_rfl) ?_
        refine sem_seq (by as_aux_lemma => kernel_rfl) ?_
        refine sem_seq (by as_aux_lemma => kernel_rfl) ?_
        refine sem_region (by as_aux_lemma => kernel_rfl) ?_
        refine evs_run 2 (by as_aux_lemma => kernel_rfl) ?_
        refine evs_endS (by as_aux_lemma => kernel_rfl) (fun τ hτ => ?_)
        refine th_normalS hτ [(0, (vI j2)), (2, (.ptr 2 [(vI 0), (vI 0)] 0)), (25, (vB (j2 == 0)))] (by as_aux_lemma => kernel_rfl) ?_
        refine sem_cond (j2 == 0) (by as_aux_lemma => kernel_rfl) (by as_aux_lemma => kernel_rfl) (fun hb => ?_) (fun hb => ?_)
        · replace h := iteT hb h
          refine sem_seq (by as_aux_lemma => kernel_rfl) ?_
          refine sem_region (by as_aux_lemma => kernel_rfl) ?_
          refine evs_run 2 (by as_aux_lemma => kernel_rfl) ?_
          refine evs_endS (by as_aux_lemma => kernel_rfl) (fun τ hτ => ?_)
          refine th_normalS hτ [(2, (.ptr 2 [(vI 2), (vI 0)] 0))] (by as_aux_lemma => kernel_rfl) ?_
          refine sem_retS (by as_aux_lemma => kernel_rfl) (fun τ hτ => ?_)
          refine th_ret ?_
          obtain rfl := Option.some.inj h
          exact rv_ret hτ (by as_aux_lemma => kernel_rfl)
        · replace h := iteF hb h
          refine sem_skipS (by as_aux_lemma => kernel_rfl) (fun τ hτ => ?_)
          refine th_normalS hτ [(0, (vI j2)), (2, (.ptr 2 [(vI 0), (vI 0)] 0))] (by as_aux_lemma => kernel_rfl) ?_
          refine sem_seq (by as_aux_lemma => kernel_rfl) ?_
          refine sem_seq (by as_aux_lemma => kernel_rfl) ?_
          refine sem_region (by as_aux_lemma => kernel_rfl) ?_
          refine evs_run 2 (by as_aux_lemma => kernel_rfl) ?_
          refine evs_endS (by as_aux_lemma => kernel_rfl) (fun τ hτ => ?_)
          refine th_normalS hτ [(0, (vI j2)), (2, (.ptr 2 [(vI 0), (vI 0)] 0)), (28, (vB (j2 == 1)))] (by as_aux_lemma => kernel_rfl) ?_
          refine sem_cond (j2 == 1) (by as_aux_lemma => kernel_rfl) (by as_aux_lemma => kernel_rfl) (fun hb => ?_) (fun hb => ?_)
          · replace h := iteT hb h
            refine sem_seq (by as_aux_lemma => kernel_rfl) ?_
            refine sem_region (by as_aux_lemma => kernel_rfl) ?_
            refine evs_run 2 (by as_aux_lemma => kernel_rfl) ?_
            refine evs_endS (by as_aux_lemma => kernel_rfl) (fun τ hτ => ?_)
            refine th_normalS hτ [(2, (.ptr 2 [(vI 0), (vI 1)] 0))] (by as_aux_lemma => kernel_rfl) ?_
            refine sem_retS (by as_aux_lemma => kernel_rfl) (fun τ hτ => ?_)
            refine th_ret ?_
            obtain rfl := Option.some.inj h
            exact rv_ret hτ (by as_aux_lemma => kernel_rfl)
          · replace h := iteF hb h
            refine sem_skipS (by as_aux_lemma => kernel_rfl) (fun τ hτ => ?_)
            refine th_normalS hτ [(0, (vI j2)), (2, (.ptr 2 [(vI 0), (vI 0)] 0))] (by as_aux_lemma => kernel_rfl) ?_
            refine sem_seq (by as_aux_lemma => kernel_rfl) ?_
            refine sem_seq (by as_aux_lemma => kernel_rfl) ?_
            refine sem_region (by as_aux_lemma => kernel_rfl) ?_
            refine evs_run 2 (by as_aux_lemma => kernel_rfl) ?_
            refine evs_endS (by as_aux_lemma => kernel_rfl) (fun τ hτ => ?_)
            refine th_normalS hτ [(2, (.ptr 2 [(vI 0), (vI 0)] 0)), (31, (vB (j2 == 2)))] (by as_aux_lemma => kernel_rfl) ?_
            refine sem_cond (j2 == 2) (by as_aux_lemma => kernel_rfl) (by as_aux_lemma => kernel_rfl) (fun hb => ?_) (fun hb => ?_)
            · replace h := iteT hb h
              refine sem_seq (by as_aux_lemma => kernel_rfl) ?_
              refine sem_region (by as_aux_lemma => kernel_rfl) ?_
              refine evs_run 2 (by as_aux_lemma => kernel_rfl) ?_
              refine evs_endS (by as_aux_lemma => kernel_rfl) (fun τ hτ => ?_)
              refine th_normalS hτ [(2, (.ptr 2 [(vI 1), (vI 0)] 0))] (by as_aux_lemma => kernel_rfl) ?_
              refine sem_retS (by as_aux_lemma => kernel_rfl) (fun τ hτ => ?_)
              refine th_ret ?_
              obtain rfl := Option.some.inj h
              exact rv_ret hτ (by as_aux_lemma => kernel_rfl)
            · replace h := iteF hb h
              refine sem_skipS (by as_aux_lemma => kernel_rfl) (fun τ hτ => ?_)
              refine th_normalS hτ [(2, (.ptr 2 [(vI 0), (vI 0)] 0))] (by as_aux_lemma => kernel_rfl) ?_
              refine sem_seq (by as_aux_lemma => kernel_rfl) ?_
              refine sem_region (by as_aux_lemma => kernel_rfl) ?_
              refine evs_run 2 (by as_aux_lemma => kernel_rfl) ?_
              refine evs_endS (by as_aux_lemma => kernel_rfl) (fun τ hτ => ?_)
              refine th_normalS hτ [(2, (.ptr 2 [(vI 0), (vI 0)] 0))] (by as_aux_lemma => kernel_rfl) ?_
              refine sem_retS (by as_aux_lemma => kernel_rfl) (fun τ hτ => ?_)
              obtain rfl := Option.some.inj h
              exact rv_ret hτ (by as_aux_lemma => kernel_rfl)
    refine sem_seq (by as_aux_lemma => kernel_rfl) ?_
    refine sem_region (by as_aux_lemma => kernel_rfl) ?_
    refine evs_run 2 (by as_aux_lemma => kernel_rfl) ?_
    refine evs_endS (by as_aux_lemma => kernel_rfl) (fun τ hτ => ?_)
    refine th_normalS hτ [(0, (vI j1)), (2, (.ptr 2 [(vI 0), (vI 0)] 0)), (9, (vB (decide (j1 > 6))))] (by as_aux_lemma => kernel_rfl) ?_
    refine sem_cond (decide (j1 > 6)) (by as_aux_lemma => kernel_rfl) (by as_aux_lemma => kernel_rfl) (fun hb => ?_) (fun hb => ?_)
    · replace h := iteT hb h
      refine sem_region (by as_aux_lemma => kernel_rfl) ?_
      refine evs_run 3 (by as_aux_lemma => kernel_rfl) ?_
      refine evs_endS (by as_aux_lemma => kernel_rfl) (fun τ hτ => ?_)
      exact jk_normal (isub 12 j1) h hτ (by as_aux_lemma => kernel_rfl)
    · replace h := iteF hb h
      refine sem_skipS (by as_aux_lemma => kernel_rfl) (fun τ hτ => ?_)
      exact jk_normal j1 h hτ (by as_aux_lemma => kernel_rfl)
  refine sem_seq (by as_aux_lemma => kernel_rfl) ?_
  refine sem_region (by as_aux_lemma => kernel_rfl) ?_
  refine evs_run 2 (by as_aux_lemma => kernel_rfl) ?_
  refine evs_endS (by as_aux_lemma => kernel_rfl) (fun τ hτ => ?_)
  refine th_normalS hτ [(0, (vI k)), (2, (.ptr 2 [(vI 0), (vI 0)] 0)), (5, (vB (decide (k < 0))))] (by as_aux_lemma => kernel_rfl) ?_
  refine sem_cond (decide (k < 0)) (by as_aux_lemma => kernel_rfl) (by as_aux_lemma => kernel_rfl) (fun hb => ?_) (fun hb => ?_)
  · replace h := iteT hb h
    refine sem_region (by as_aux_lemma => kernel_rfl) ?_
    refine evs_run 3 (by as_aux_lemma => kernel_rfl) ?_
    refine evs_endS (by as_aux_lemma => kernel_rfl) (fun τ hτ => ?_)
    exact jk_normal (iadd k 12) h hτ (by as_aux_lemma => kernel_rfl)
  · replace h := iteF hb h
    refine sem_skipS (by as_aux_lemma => kernel_rfl) (fun τ hτ => ?_)
    exact jk_normal k h hτ (by as_aux_lemma => kernel_rfl)
theorem W.sheetmetalref01_cosine_n_ok : ∀ (n : Nat) {k : Int} {r : Root}, sheetmetalref01_cosine_n n k = some r → PCalls G.P 102 [(vI k)] (.agg [(vI r.A), (vI r.B)])
  | 0, _, _, h => by simp [sheetmetalref01_cosine_n] at h
  | n + 1, _, _, h => W.sheetmetalref01_cosine_body_ok (sheetmetalref01_cosine_n n) (W.sheetmetalref01_cosine_n_ok n) h
theorem W.sheetmetalref01_cosine_ok {k : Int} {r : Root} (h : sheetmetalref01_cosine k = some r) : PCalls G.P 102 [(vI k)] (.agg [(vI r.A), (vI r.B)]) := W.sheetmetalref01_cosine_n_ok 1000 h

theorem W.sheetmetalref01_scaled_ok {n : Int} {r1 : Root} {r : Root} (h : sheetmetalref01_scaled n r1 = some r) : PCalls G.P 103 [(vI n), (.agg [(vI r1.A), (vI r1.B)])] (.agg [(vI r.A), (vI r.B)]) := by
  refine pc_view G (fn := Try.f103) Try.func103 (by as_aux_lemma => kernel_rfl) (by as_aux_lemma => kernel_rfl) (by as_aux_lemma => kernel_rfl) (by as_aux_lemma => kernel_rfl) ?_
  refine sem_set [(0, (vI n)), (1, (.agg [(vI r1.A), (vI r1.B)]))] (by as_aux_lemma => kernel_rfl) ?_
  refine sem_seq (by as_aux_lemma => kernel_rfl) ?_
  refine sem_region (by as_aux_lemma => kernel_rfl) ?_
  refine evs_run 2 (by as_aux_lemma => kernel_rfl) ?_
  refine evs_endS (by as_aux_lemma => kernel_rfl) (fun τ hτ => ?_)
  refine th_normalS hτ [(0, (vI n)), (3, (.ptr 3 [(vI r1.A), (vI r1.B)] 0)), (4, (.ptr 4 [(vI 0), (vI 0)] 0))] (by as_aux_lemma => kernel_rfl) ?_
  refine sem_seq (by as_aux_lemma => kernel_rfl) ?_
  refine sem_region (by as_aux_lemma => kernel_rfl) ?_
  refine evs_run 10 (by as_aux_lemma => kernel_rfl) ?_
  refine evs_endS (by as_aux_lemma => kernel_rfl) (fun τ hτ => ?_)
  refine th_normalS hτ [(4, (.ptr 4 [(vI (imul n r1.A)), (vI (imul n r1.B))] 0))] (by as_aux_lemma => kernel_rfl) ?_
  refine sem_retS (by as_aux_lemma => kernel_rfl) (fun τ hτ => ?_)
  obtain rfl := Option.some.inj h
  exact rv_ret hτ (by as_aux_lemma => kernel_rfl)
theorem W.sheetmetalref01_plus_ok {a : Root} {b : Root} {r : Root} (h : sheetmetalref01_plus a b = some r) : PCalls G.P 104 [(.agg [(vI a.A), (vI a.B)]), (.agg [(vI b.A), (vI b.B)])] (.agg [(vI r.A), (vI r.B)]) := by
  refine pc_view G (fn := Try.f104) Try.func104 (by as_aux_lemma => kernel_rfl) (by as_aux_lemma => kernel_rfl) (by as_aux_lemma => kernel_rfl) (by as_aux_lemma => kernel_rfl) ?_
  refine sem_set [(0, (.agg [(vI a.A), (vI a.B)])), (1, (.agg [(vI b.A), (vI b.B)]))] (by as_aux_lemma => kernel_rfl) ?_
  refine sem_seq (by as_aux_lemma => kernel_rfl) ?_
  refine sem_region (by as_aux_lemma => kernel_rfl) ?_
  refine evs_run 3 (by as_aux_lemma => kernel_rfl) ?_
  refine evs_endS (by as_aux_lemma => kernel_rfl) (fun τ hτ => ?_)
  refine th_normalS hτ [(2, (.ptr 2 [(vI a.A), (vI a.B)] 0)), (3, (.ptr 3 [(vI b.A), (vI b.B)] 0)), (4, (.ptr 4 [(vI 0), (vI 0)] 0))] (by as_aux_lemma => kernel_rfl) ?_
  refine sem_seq (by as_aux_lemma => kernel_rfl) ?_
  refine sem_region (by as_aux_lemma => kernel_rfl) ?_
  refine evs_run 12 (by as_aux_lemma => kernel_rfl) ?_
  refine evs_endS (by as_aux_lemma => kernel_rfl) (fun τ hτ => ?_)
  refine th_normalS hτ [(4, (.ptr 4 [(vI (iadd a.A b.A)), (vI (iadd a.B b.B))] 0))] (by as_aux_lemma => kernel_rfl) ?_
  refine sem_retS (by as_aux_lemma => kernel_rfl) (fun τ hτ => ?_)
  obtain rfl := Option.some.inj h
  exact rv_ret hτ (by as_aux_lemma => kernel_rfl)
theorem W.sheetmetalref01_turned_ok {s0 : Spot} {k : Int} {r : Point} (h : sheetmetalref01_turned s0 k = some r) : PCalls G.P 70 [(.agg [(vI s0.X), (vI s0.Y)]), (vI k)] (.agg [(vI r.X.A), (vI r.X.B), (vI r.Y.A), (vI r.Y.B)]) := by
  refine pc_view G (fn := Try.f70) Try.func70 (by as_aux_lemma => kernel_rfl) (by as_aux_lemma => kernel_rfl) (by as_aux_lemma => kernel_rfl) (by as_aux_lemma => kernel_rfl) ?_
  refine sem_set [(0, (.agg [(vI s0.X), (vI s0.Y)])), (1, (vI k))] (by as_aux_lemma => kernel_rfl) ?_
  refine sem_seq (by as_aux_lemma => kernel_rfl) ?_
  refine sem_region (by as_aux_lemma => kernel_rfl) ?_
  refine evs_run 2 (by as_aux_lemma => kernel_rfl) ?_
  refine evs_endS (by as_aux_lemma => kernel_rfl) (fun τ hτ => ?_)
  refine th_normalS hτ [(1, (vI k)), (2, (.ptr 2 [(vI s0.X), (vI s0.Y)] 0)), (4, (.ptr 4 [(vI 0), (vI 0), (vI 0), (vI 0)] 0))] (by as_aux_lemma => kernel_rfl) ?_
  refine sem_seq (by as_aux_lemma => kernel_rfl) ?_
  refine sem_region (by as_aux_lemma => kernel_rfl) ?_
  refine evs_run 1 (by as_aux_lemma => kernel_rfl) ?_
  obtain ⟨r3, hr3, h⟩ := bindS h
  refine evs_call (b := true) (by as_aux_lemma => kernel_rfl) (W.sheetmetalref01_cosine_ok hr3) (.inl rfl) ?_
  refine evs_run 2 (by as_aux_lemma => kernel_rfl) ?_
  obtain ⟨r4, hr4, h⟩ := bindS h
  refine evs_call (b := true) (by as_aux_lemma => kernel_rfl) (W.sheetmetalref01_cosine_ok hr4) (.inl rfl) ?_
  refine evs_run 4 (by as_aux_lemma => kernel_rfl) ?_
  refine evs_endS (by as_aux_lemma => kernel_rfl) (fun τ hτ => ?_)
  refine th_normalS hτ [(2, (.ptr 2 [(vI s0.X), (vI s0.Y)] 0)), (4, (.ptr 4 [(vI 0), (vI 0), (vI 0), (vI 0)] 0)), (5, (.ptr 5 [(vI r3.A), (vI r3.B)] 0)), (6, (.ptr 6 [(vI r4.A), (vI r4.B)] 0))] (by as_aux_lemma => kernel_rfl) ?_
  refine sem_seq (by as_aux_lemma => kernel_rfl) ?_
  refine sem_draw [] 16 [(2, (.ptr 2 [(vI s0.X), (vI s0.Y)] 0)), (4, (.ptr 4 [(vI 0), (vI 0), (vI 0), (vI 0)] 0)), (5, (.ptr 5 [(vI r3.A), (vI r3.B)] 0)), (6, (.ptr 6 [(vI r4.A), (vI r4.B)] 0))] (by as_aux_lemma => kernel_rfl) (by as_aux_lemma => kernel_rfl) (by as_aux_lemma => kernel_rfl) ?_
  refine evd_run 3 (by as_aux_lemma => kernel_rfl) ?_
  obtain ⟨r11, hr11, h⟩ := bindS h
  refine evd_call (b := true) (by as_aux_lemma => kernel_rfl) (by as_aux_lemma => kernel_rfl) (W.sheetmetalref01_scaled_ok hr11) (.inl rfl) ?_
  refine evd_run 3 (by as_aux_lemma => kernel_rfl) ?_
  obtain ⟨r12, hr12, h⟩ := bindS h
  refine evd_call (b := true) (by as_aux_lemma => kernel_rfl) (by as_aux_lemma => kernel_rfl) (W.sheetmetalref01_scaled_ok hr12) (.inl rfl) ?_
  obtain ⟨r13, hr13, h⟩ := bindS h
  refine evd_call (b := true) (by as_aux_lemma => kernel_rfl) (by as_aux_lemma => kernel_rfl) (W.sheetmetalref01_minus_ok hr13) (.inl rfl) ?_
  refine evd_run 3 (by as_aux_lemma => kernel_rfl) ?_
  obtain ⟨r14, hr14, h⟩ := bindS h
  refine evd_call (b := true) (by as_aux_lemma => kernel_rfl) (by as_aux_lemma => kernel_rfl) (W.sheetmetalref01_scaled_ok hr14) (.inl rfl) ?_
  refine evd_run 3 (by as_aux_lemma => kernel_rfl) ?_
  refine evd_tail (by as_aux_lemma => kernel_rfl) ?_
  obtain ⟨r15, hr15, h⟩ := bindS h
  refine evo_call (b := true) (by as_aux_lemma => kernel_rfl) (W.sheetmetalref01_scaled_ok hr15) (.inl rfl) ?_
  obtain ⟨r16, hr16, h⟩ := bindS h
  refine evo_call (b := true) (by as_aux_lemma => kernel_rfl) (W.sheetmetalref01_plus_ok hr16) (.inl rfl) ?_
  refine evo_run 2 (by as_aux_lemma => kernel_rfl) ?_
  refine evo_endS (by as_aux_lemma => kernel_rfl) (fun τ hτ => ?_)
  refine th_normalS hτ [(4, (.ptr 4 [(vI r13.A), (vI r13.B), (vI r16.A), (vI r16.B)] 0))] (by as_aux_lemma => kernel_rfl) ?_
  refine sem_retS (by as_aux_lemma => kernel_rfl) (fun τ hτ => ?_)
  obtain rfl := Option.some.inj h
  exact rv_ret hτ (by as_aux_lemma => kernel_rfl)
theorem W.sheetmetalref01_Turn_ok {s0 : Spot} {k : Int} {r : Point × Int} (h : sheetmetalref01_Turn s0 k = some r) : PCalls G.P 25 [(.agg [(vI s0.X), (vI s0.Y)]), (vI k)] (.tup [(.agg [(vI r.1.X.A), (vI r.1.X.B), (vI r.1.Y.A), (vI r.1.Y.B)]), (vI r.2)]) := by
  refine pc_view G (fn := Try.f25) Try.func25 (by as_aux_lemma => kernel_rfl) (by as_aux_lemma => kernel_rfl) (by as_aux_lemma => kernel_rfl) (by as_aux_lemma => kernel_rfl) ?_
  refine sem_set [(0, (.agg [(vI s0.X), (vI s0.Y)])), (1, (vI k))] (by as_aux_lemma => kernel_rfl) ?_
  refine sem_seq (by as_aux_lemma => kernel_rfl) ?_
  refine sem_region (by as_aux_lemma => kernel_rfl) ?_
  refine evs_run 3 (by as_aux_lemma => kernel_rfl) ?_
  refine evs_endS (by as_aux_lemma => kernel_rfl) (fun τ hτ => ?_)
  refine th_normalS hτ [(1, (vI k)), (2, (.ptr 2 [(vI s0.X), (vI s0.Y)] 0)), (4, (.ptr 4 [(vI 0), (vI 0), (vI 0), (vI 0)] 0))] (by as_aux_lemma => kernel_rfl) ?_
  refine sem_seq (by as_aux_lemma => kernel_rfl) ?_
  refine sem_seq (by as_aux_lemma => kernel_rfl) ?_
  obtain ⟨j8, hj8, h⟩ := bindS h
  refine sem_regionC [(1, (vI k)), (2, (.ptr 2 [(vI s0.X), (vI s0.Y)] 0)), (4, (.ptr 4 [(vI 0), (vI 0), (vI 0), (vI 0)] 0)), (13, (vB j8))] (by as_aux_lemma => kernel_rfl) ?_ (fun τ hτ => ?_)
  · replace h := hj8
    refine evs_run 1 (by as_aux_lemma => kernel_rfl) ?_
    obtain ⟨r9, hr9, h⟩ := bindS h
    refine evs_call (b := true) (by as_aux_lemma => kernel_rfl) (W.sheetmetalref01_spotIn_ok hr9) (.inl rfl) ?_
    refine evs_run 2 (by as_aux_lemma => kernel_rfl) ?_
    refine evs_split r9 (fun b0 => [(1, (vI k)), (2, (.ptr 2 [(vI s0.X), (vI s0.Y)] 0)), (4, (.ptr 4 [(vI 0), (vI 0), (vI 0), (vI 0)] 0)), (9, (vB (!b0)))]) (by as_aux_lemma => kernel_rfl) (fun hb => ?_) (fun hb => ?_)
    · replace h := iteT hb h
      refine evs_run 1 (by as_aux_lemma => kernel_rfl) ?_
      obtain ⟨r10, hr10, h⟩ := bindS h
      refine evs_call (b := true) (by as_aux_lemma => kernel_rfl) (W.sheetmetalref01_within_ok hr10) (.inl rfl) ?_
      refine evs_run 2 (by as_aux_lemma => kernel_rfl) ?_
      refine evs_endS (by as_aux_lemma => kernel_rfl) (fun τ hτ => ?_)
      obtain rfl := Option.some.inj h
      exact leafC hτ (by as_aux_lemma => kernel_rfl)
    · replace h := iteF hb h
      refine evs_run 4 (by as_aux_lemma => kernel_rfl) ?_
      refine evs_endS (by as_aux_lemma => kernel_rfl) (fun τ hτ => ?_)
      obtain rfl := Option.some.inj h
      exact leafC hτ (by as_aux_lemma => kernel_rfl)
  refine th_normalS hτ [(1, (vI k)), (2, (.ptr 2 [(vI s0.X), (vI s0.Y)] 0)), (4, (.ptr 4 [(vI 0), (vI 0), (vI 0), (vI 0)] 0)), (13, (vB j8))] (by as_aux_lemma => kernel_rfl) ?_
  refine sem_cond j8 (by as_aux_lemma => kernel_rfl) (by as_aux_lemma => kernel_rfl) (fun hb => ?_) (fun hb => ?_)
  · replace h := iteT hb h
    refine sem_seq (by as_aux_lemma => kernel_rfl) ?_
    refine sem_region (by as_aux_lemma => kernel_rfl) ?_
    refine evs_run 3 (by as_aux_lemma => kernel_rfl) ?_
    refine evs_endS (by as_aux_lemma => kernel_rfl) (fun τ hτ => ?_)
    refine th_normalS hτ [(4, (.ptr 4 [(vI 0), (vI 0), (vI 0), (vI 0)] 0)), (5, (vI 1))] (by as_aux_lemma => kernel_rfl) ?_
    refine sem_retS (by as_aux_lemma => kernel_rfl) (fun τ hτ => ?_)
    refine th_ret ?_
    obtain rfl := Option.some.inj h
    exact rv_ret hτ (by as_aux_lemma => kernel_rfl)
  · replace h := iteF hb h
    refine sem_skipS (by as_aux_lemma => kernel_rfl) (fun τ hτ => ?_)
    refine th_normalS hτ [(1, (vI k)), (2, (.ptr 2 [(vI s0.X), (vI s0.Y)] 0)), (4, (.ptr 4 [(vI 0), (vI 0), (vI 0), (vI 0)] 0))] (by as_aux_lemma => kernel_rfl) ?_
    refine sem_seq (by as_aux_lemma => kernel_rfl) ?_
    refine sem_region (by as_aux_lemma => kernel_rfl) ?_
    refine evs_run 2 (by as_aux_lemma => kernel_rfl) ?_
    obtain ⟨r12, hr12, h⟩ := bindS h
    refine evs_call (b := true) (by as_aux_lemma => kernel_rfl) (W.sheetmetalref01_turned_ok hr12) (.inl rfl) ?_
    refine evs_run 2 (by as_aux_lemma => kernel_rfl) ?_
    refine evs_endS (by as_aux_lemma => kernel_rfl) (fun τ hτ => ?_)
    refine th_normalS hτ [(4, (.ptr 4 [(vI r12.X.A), (vI r12.X.B), (vI r12.Y.A), (vI r12.Y.B)] 0)), (5, (vI 0))] (by as_aux_lemma => kernel_rfl) ?_
    refine sem_retS (by as_aux_lemma => kernel_rfl) (fun τ hτ => ?_)
    obtain rfl := Option.some.inj h
    exact rv_ret hτ (by as_aux_lemma => kernel_rfl)
theorem W.sheetmetallaw01_GeomTurns_ok {s0 : Spot} {a : Int} {r : Bool} (h : sheetmetallaw01_GeomTurns s0 a = some r) : PCalls G.P 5 [(.agg [(vI s0.X), (vI s0.Y)]), (vI a)] (vB r) := by
  refine pc_view G (fn := Try.f5) Try.func5 (by as_aux_lemma => kernel_rfl) (by as_aux_lemma => kernel_rfl) (by as_aux_lemma => kernel_rfl) (by as_aux_lemma => kernel_rfl) ?_
  refine sem_set [(0, (.agg [(vI s0.X), (vI s0.Y)])), (1, (vI a))] (by as_aux_lemma => kernel_rfl) ?_
  refine sem_seq (by as_aux_lemma => kernel_rfl) ?_
  refine sem_region (by as_aux_lemma => kernel_rfl) ?_
  refine evs_run 2 (by as_aux_lemma => kernel_rfl) ?_
  refine evs_endS (by as_aux_lemma => kernel_rfl) (fun τ hτ => ?_)
  refine th_normalS hτ [(1, (vI a)), (2, (.ptr 2 [(vI s0.X), (vI s0.Y)] 0))] (by as_aux_lemma => kernel_rfl) ?_
  refine sem_seq (by as_aux_lemma => kernel_rfl) ?_
  refine sem_region (by as_aux_lemma => kernel_rfl) ?_
  refine evs_run 2 (by as_aux_lemma => kernel_rfl) ?_
  obtain ⟨r2, hr2, h⟩ := bindS h
  refine evs_call (b := true) (by as_aux_lemma => kernel_rfl) (W.geom_Turn_ok hr2) (.inl rfl) ?_
  refine evs_run 6 (by as_aux_lemma => kernel_rfl) ?_
  refine evs_endS (by as_aux_lemma => kernel_rfl) (fun τ hτ => ?_)
  refine th_normalS hτ [(1, (vI a)), (2, (.ptr 2 [(vI s0.X), (vI s0.Y)] 0)), (5, (.ptr 5 [(vI r2.1.X.A), (vI r2.1.X.B), (vI r2.1.Y.A), (vI r2.1.Y.B)] 0)), (6, (vI r2.2))] (by as_aux_lemma => kernel_rfl) ?_
  refine sem_seq (by as_aux_lemma => kernel_rfl) ?_
  refine sem_region (by as_aux_lemma => kernel_rfl) ?_
  refine evs_run 2 (by as_aux_lemma => kernel_rfl) ?_
  obtain ⟨r4, hr4, h⟩ := bindS h
  refine evs_call (b := true) (by as_aux_lemma => kernel_rfl) (W.sheetmetalref01_Turn_ok hr4) (.inl rfl) ?_
  refine evs_run 6 (by as_aux_lemma => kernel_rfl) ?_
  refine evs_endS (by as_aux_lemma => kernel_rfl) (fun τ hτ => ?_)
  refine th_normalS hτ [(2, (.ptr 2 [(vI s0.X), (vI s0.Y)] 0)), (5, (.ptr 5 [(vI r2.1.X.A), (vI r2.1.X.B), (vI r2.1.Y.A), (vI r2.1.Y.B)] 0)), (6, (vI r2.2)), (7, (.ptr 7 [(vI r4.1.X.A), (vI r4.1.X.B), (vI r4.1.Y.A), (vI r4.1.Y.B)] 0)), (8, (vI r4.2))] (by as_aux_lemma => kernel_rfl) ?_
  refine sem_seq (by as_aux_lemma => kernel_rfl) ?_
  refine sem_seq (by as_aux_lemma => kernel_rfl) ?_
  obtain ⟨j6, hj6, h⟩ := bindS h
  refine sem_regionC [(2, (.ptr 2 [(vI s0.X), (vI s0.Y)] 0)), (5, (.ptr 5 [(vI r2.1.X.A), (vI r2.1.X.B), (vI r2.1.Y.A), (vI r2.1.Y.B)] 0)), (6, (vI r2.2)), (32, (vB j6))] (by as_aux_lemma => kernel_rfl) ?_ (fun τ hτ => ?_)
  · replace h := hj6
    refine evs_run 4 (by as_aux_lemma => kernel_rfl) ?_
    refine evs_split ((r2.1.X.A == r4.1.X.A) && ((r2.1.X.B == r4.1.X.B) && ((r2.1.Y.A == r4.1.Y.A) && ((r2.1.Y.B == r4.1.Y.B) && true)))) (fun b0 => [(2, (.ptr 2 [(vI s0.X), (vI s0.Y)] 0)), (5, (.ptr 5 [(vI r2.1.X.A), (vI r2.1.X.B), (vI r2.1.Y.A), (vI r2.1.Y.B)] 0)), (6, (vI r2.2)), (8, (vI r4.2)), (28, (vB (!b0)))]) (by as_aux_lemma => kernel_rfl) (fun hb => ?_) (fun hb => ?_)
    · replace h := iteT hb h
      refine evs_run 4 (by as_aux_lemma => kernel_rfl) ?_
      refine evs_endS (by as_aux_lemma => kernel_rfl) (fun τ hτ => ?_)
      obtain rfl := Option.some.inj h
      exact leafC hτ (by as_aux_lemma => kernel_rfl)
    · replace h := iteF hb h
      refine evs_run 4 (by as_aux_lemma => kernel_rfl) ?_
      refine evs_endS (by as_aux_lemma => kernel_rfl) (fun τ hτ => ?_)
      obtain rfl := Option.some.inj h
      exact leafC hτ (by as_aux_lemma => kernel_rfl)
  refine th_normalS hτ [(2, (.ptr 2 [(vI s0.X), (vI s0.Y)] 0)), (5, (.ptr 5 [(vI r2.1.X.A), (vI r2.1.X.B), (vI r2.1.Y.A), (vI r2.1.Y.B)] 0)), (6, (vI r2.2)), (32, (vB j6))] (by as_aux_lemma => kernel_rfl) ?_
  refine sem_cond j6 (by as_aux_lemma => kernel_rfl) (by as_aux_lemma => kernel_rfl) (fun hb => ?_) (fun hb => ?_)
  · replace h := iteT hb h
    refine sem_seq (by as_aux_lemma => kernel_rfl) ?_
    refine sem_region (by as_aux_lemma => kernel_rfl) ?_
    refine evs_run 1 (by as_aux_lemma => kernel_rfl) ?_
    refine evs_endS (by as_aux_lemma => kernel_rfl) (fun τ hτ => ?_)
    refine th_normalS hτ [(4, (vB false))] (by as_aux_lemma => kernel_rfl) ?_
    refine sem_retS (by as_aux_lemma => kernel_rfl) (fun τ hτ => ?_)
    refine th_ret ?_
    obtain rfl := Option.some.inj h
    exact rv_ret hτ (by as_aux_lemma => kernel_rfl)
  · replace h := iteF hb h
    refine sem_skipS (by as_aux_lemma => kernel_rfl) (fun τ hτ => ?_)
    refine th_normalS hτ [(2, (.ptr 2 [(vI s0.X), (vI s0.Y)] 0)), (5, (.ptr 5 [(vI r2.1.X.A), (vI r2.1.X.B), (vI r2.1.Y.A), (vI r2.1.Y.B)] 0)), (6, (vI r2.2))] (by as_aux_lemma => kernel_rfl) ?_
    refine sem_seq (by as_aux_lemma => kernel_rfl) ?_
    refine sem_seq (by as_aux_lemma => kernel_rfl) ?_
    refine sem_region (by as_aux_lemma => kernel_rfl) ?_
    refine evs_run 2 (by as_aux_lemma => kernel_rfl) ?_
    refine evs_endS (by as_aux_lemma => kernel_rfl) (fun τ hτ => ?_)
    refine th_normalS hτ [(2, (.ptr 2 [(vI s0.X), (vI s0.Y)] 0)), (5, (.ptr 5 [(vI r2.1.X.A), (vI r2.1.X.B), (vI r2.1.Y.A), (vI r2.1.Y.B)] 0)), (34, (vB (r2.2 != 0)))] (by as_aux_lemma => kernel_rfl) ?_
    refine sem_cond (r2.2 != 0) (by as_aux_lemma => kernel_rfl) (by as_aux_lemma => kernel_rfl) (fun hb => ?_) (fun hb => ?_)
    · replace h := iteT hb h
      refine sem_seq (by as_aux_lemma => kernel_rfl) ?_
      refine sem_region (by as_aux_lemma => kernel_rfl) ?_
      obtain ⟨r10, hr10, h⟩ := bindS h
      refine evs_call (b := true) (by as_aux_lemma => kernel_rfl) (W.sheetmetallaw01_known_ok hr10) (.inl rfl) ?_
      refine evs_run 1 (by as_aux_lemma => kernel_rfl) ?_
      refine evs_endS (by as_aux_lemma => kernel_rfl) (fun τ hτ => ?_)
      refine th_normalS hτ [(4, (vB r10))] (by as_aux_lemma => kernel_rfl) ?_
      refine sem_retS (by as_aux_lemma => kernel_rfl) (fun τ hτ => ?_)
      refine th_ret ?_
      obtain rfl := Option.some.inj h
      exact rv_ret hτ (by as_aux_lemma => kernel_rfl)
    · replace h := iteF hb h
      refine sem_skipS (by as_aux_lemma => kernel_rfl) (fun τ hτ => ?_)
      refine th_normalS hτ [(2, (.ptr 2 [(vI s0.X), (vI s0.Y)] 0)), (5, (.ptr 5 [(vI r2.1.X.A), (vI r2.1.X.B), (vI r2.1.Y.A), (vI r2.1.Y.B)] 0))] (by as_aux_lemma => kernel_rfl) ?_
      refine sem_seq (by as_aux_lemma => kernel_rfl) ?_
      refine sem_region (by as_aux_lemma => kernel_rfl) ?_
      refine evs_run 4 (by as_aux_lemma => kernel_rfl) ?_
      obtain ⟨r12, hr12, h⟩ := bindS h
      refine evs_call (b := true) (by as_aux_lemma => kernel_rfl) (W.geom_Multiply_ok hr12) (.inl rfl) ?_
      refine evs_run 6 (by as_aux_lemma => kernel_rfl) ?_
      refine evs_endS (by as_aux_lemma => kernel_rfl) (fun τ hτ => ?_)
      refine th_normalS hτ [(2, (.ptr 2 [(vI s0.X), (vI s0.Y)] 0)), (5, (.ptr 5 [(vI r2.1.X.A), (vI r2.1.X.B), (vI r2.1.Y.A), (vI r2.1.Y.B)] 0)), (9, (.ptr 9 [(vI r12.1.A), (vI r12.1.B)] 0)), (10, (vI r12.2))] (by as_aux_lemma => kernel_rfl) ?_
      refine sem_seq (by as_aux_lemma => kernel_rfl) ?_
      refine sem_region (by as_aux_lemma => kernel_rfl) ?_
      refine evs_run 4 (by as_aux_lemma => kernel_rfl) ?_
      obtain ⟨r14, hr14, h⟩ := bindS h
      refine evs_call (b := true) (by as_aux_lemma => kernel_rfl) (W.geom_Multiply_ok hr14) (.inl rfl) ?_
      refine evs_run 6 (by as_aux_lemma => kernel_rfl) ?_
      refine evs_endS (by as_aux_lemma => kernel_rfl) (fun τ hτ => ?_)
      refine th_normalS hτ [(2, (.ptr 2 [(vI s0.X), (vI s0.Y)] 0)), (9, (.ptr 9 [(vI r12.1.A), (vI r12.1.B)] 0)), (10, (vI r12.2)), (11, (.ptr 11 [(vI r14.1.A), (vI r14.1.B)] 0)), (12, (vI r14.2))] (by as_aux_lemma => kernel_rfl) ?_
      refine sem_seq (by as_aux_lemma => kernel_rfl) ?_
      obtain ⟨j16, hj16, h⟩ := bindS h
      refine sem_regionC [(4, (vB j16))] (by as_aux_lemma => kernel_rfl) ?_ (fun τ hτ => ?_)
      · replace h := hj16
        refine evs_run 3 (by as_aux_lemma => kernel_rfl) ?_
        refine evs_split (r12.2 == 0) (fun b0 => [(2, (.ptr 2 [(vI s0.X), (vI s0.Y)] 0)), (9, (.ptr 9 [(vI r12.1.A), (vI r12.1.B)] 0)), (11, (.ptr 11 [(vI r14.1.A), (vI r14.1.B)] 0)), (12, (vI r14.2)), (54, (vB b0))]) (by as_aux_lemma => kernel_rfl) (fun hb => ?_) (fun hb => ?_)
        · replace h := iteT hb h
          refine evs_run 4 (by as_aux_lemma => kernel_rfl) ?_
          refine evs_split (r14.2 == 0) (fun b0 => [(2, (.ptr 2 [(vI s0.X), (vI s0.Y)] 0)), (9, (.ptr 9 [(vI r12.1.A), (vI r12.1.B)] 0)), (11, (.ptr 11 [(vI r14.1.A), (vI r14.1.B)] 0)), (58, (vB b0))]) (by as_aux_lemma => kernel_rfl) (fun hb => ?_) (fun hb => ?_)
          · replace h := iteT hb h
            refine evs_run 8 (by as_aux_lemma => kernel_rfl) ?_
            refine evs_split ((iadd r12.1.B r14.1.B) == 0) (fun b0 => [(2, (.ptr 2 [(vI s0.X), (vI s0.Y)] 0)), (9, (.ptr 9 [(vI r12.1.A), (vI r12.1.B)] 0)), (11, (.ptr 11 [(vI r14.1.A), (vI r14.1.B)] 0)), (66, (vB b0))]) (by as_aux_lemma => kernel_rfl) (fun hb => ?_) (fun hb => ?_)
            · replace h := iteT hb h
              refine evs_run 20 (by as_aux_lemma => kernel_rfl) ?_
              refine evs_split ((iadd r12.1.A r14.1.A) == (imul 4 (iadd (imul s0.X s0.X) (imul s0.Y s0.Y)))) (fun b0 => [(86, (vB b0))]) (by as_aux_lemma => kernel_rfl) (fun hb => ?_) (fun hb => ?_)
              · replace h := iteT hb h
                obtain ⟨r17, hr17, h⟩ := bindS h
                refine evs_call (b := true) (by as_aux_lemma => kernel_rfl) (W.sheetmetallaw01_known_ok hr17) (.inl rfl) ?_
                refine evs_run 2 (by as_aux_lemma => kernel_rfl) ?_
                refine evs_endS (by as_aux_lemma => kernel_rfl) (fun τ hτ => ?_)
                obtain rfl := Option.some.inj h
                exact leafC hτ (by as_aux_lemma => kernel_rfl)
              · replace h := iteF hb h
                refine evs_run 3 (by as_aux_lemma => kernel_rfl) ?_
                refine evs_endS (by as_aux_lemma => kernel_rfl) (fun τ hτ => ?_)
                obtain rfl := Option.some.inj h
                exact leafC hτ (by as_aux_lemma => kernel_rfl)
            · replace h := iteF hb h
              refine evs_run 23 (by as_aux_lemma => kernel_rfl) ?_
              refine evs_endS (by as_aux_lemma => kernel_rfl) (fun τ hτ => ?_)
              obtain rfl := Option.some.inj h
              exact leafC hτ (by as_aux_lemma => kernel_rfl)
          · replace h := iteF hb h
            refine evs_run 31 (by as_aux_lemma => kernel_rfl) ?_
            refine evs_endS (by as_aux_lemma => kernel_rfl) (fun τ hτ => ?_)
            obtain rfl := Option.some.inj h
            exact leafC hτ (by as_aux_lemma => kernel_rfl)
        · replace h := iteF hb h
          refine evs_run 35 (by as_aux_lemma => kernel_rfl) ?_
          refine evs_endS (by as_aux_lemma => kernel_rfl) (fun τ hτ => ?_)
          obtain rfl := Option.some.inj h
          exact leafC hτ (by as_aux_lemma => kernel_rfl)
      refine th_normalS hτ [(4, (vB j16))] (by as_aux_lemma => kernel_rfl) ?_
      refine sem_retS (by as_aux_lemma => kernel_rfl) (fun τ hτ => ?_)
      obtain rfl := Option.some.inj h
      exact rv_ret hτ (by as_aux_lemma => kernel_rfl)
theorem W.geom_ValidRect_1_ok {x0 : Int} {w : Int} {r : Bool} (h : geom_ValidRect_1 x0 w = some r) : PCalls G.P 71 [(vI x0), (vI w)] (vB r) := by
  refine pc_view G (fn := Try.f71) Try.func71 (by as_aux_lemma => kernel_rfl) (by as_aux_lemma => kernel_rfl) (by as_aux_lemma => kernel_rfl) (by as_aux_lemma => kernel_rfl) ?_
  refine sem_set [(0, (vI x0)), (1, (vI w))] (by as_aux_lemma => kernel_rfl) ?_
  refine sem_seq (by as_aux_lemma => kernel_rfl) ?_
  refine sem_region (by as_aux_lemma => kernel_rfl) ?_
  refine evs_run 1 (by as_aux_lemma => kernel_rfl) ?_
  refine evs_endS (by as_aux_lemma => kernel_rfl) (fun τ hτ => ?_)
  refine th_normalS hτ [(0, (vI x0)), (1, (vI w))] (by as_aux_lemma => kernel_rfl) ?_
  refine sem_seq (by as_aux_lemma => kernel_rfl) ?_
  obtain ⟨j2, hj2, h⟩ := bindS h
  refine sem_regionC [(4, (vB j2))] (by as_aux_lemma => kernel_rfl) ?_ (fun τ hτ => ?_)
  · replace h := hj2
    refine evs_run 1 (by as_aux_lemma => kernel_rfl) ?_
    obtain ⟨r3, hr3, h⟩ := bindS h
    refine evs_call (b := true) (by as_aux_lemma => kernel_rfl) (W.geom_within_ok hr3) (.inl rfl) ?_
    refine evs_run 1 (by as_aux_lemma => kernel_rfl) ?_
    refine evs_split r3 (fun b0 => [(0, (vI x0)), (1, (vI w)), (7, (vB b0))]) (by as_aux_lemma => kernel_rfl) (fun hb => ?_) (fun hb => ?_)
    · replace h := iteT hb h
      refine evs_run 4 (by as_aux_lemma => kernel_rfl) ?_
      refine evs_split (decide (w > 0)) (fun b0 => [(0, (vI x0)), (1, (vI w)), (11, (vB b0))]) (by as_aux_lemma => kernel_rfl) (fun hb => ?_) (fun hb => ?_)
      · replace h := iteT hb h
        refine evs_run 4 (by as_aux_lemma => kernel_rfl) ?_
        refine evs_split (decide (w ≤ 2097152)) (fun b0 => [(0, (vI x0)), (1, (vI w)), (15, (vB b0))]) (by as_aux_lemma => kernel_rfl) (fun hb => ?_) (fun hb => ?_)
        · replace h := iteT hb h
          refine evs_run 6 (by as_aux_lemma => kernel_rfl) ?_
          refine evs_endS (by as_aux_lemma => kernel_rfl) (fun τ hτ => ?_)
          obtain rfl := Option.some.inj h
          exact leafC hτ (by as_aux_lemma => kernel_rfl)
        · replace h := iteF hb h
          refine evs_run 6 (by as_aux_lemma => kernel_rfl) ?_
          refine evs_endS (by as_aux_lemma => kernel_rfl) (fun τ hτ => ?_)
          obtain rfl := Option.some.inj h
          exact leafC hτ (by as_aux_lemma => kernel_rfl)
      · replace h := iteF hb h
        refine evs_run 10 (by as_aux_lemma => kernel_rfl) ?_
        refine evs_endS (by as_aux_lemma => kernel_rfl) (fun τ hτ => ?_)
        obtain rfl := Option.some.inj h
        exact leafC hτ (by as_aux_lemma => kernel_rfl)
    · replace h := iteF hb h
      refine evs_run 14 (by as_aux_lemma => kernel_rfl) ?_
      refine evs_endS (by as_aux_lemma => kernel_rfl) (fun τ hτ => ?_)
      obtain rfl := Option.some.inj h
      exact leafC hτ (by as_aux_lemma => kernel_rfl)
  refine th_normalS hτ [(4, (vB j2))] (by as_aux_lemma => kernel_rfl) ?_
  refine sem_retS (by as_aux_lemma => kernel_rfl) (fun τ hτ => ?_)
  obtain rfl := Option.some.inj h
  exact rv_ret hτ (by as_aux_lemma => kernel_rfl)
theorem W.geom_ValidRect_ok {r0 : Rect} {r : Bool} (h : geom_ValidRect r0 = some r) : PCalls G.P 26 [(.agg [(vI r0.X), (vI r0.Y), (vI r0.W), (vI r0.H)])] (vB r) := by
  refine pc_view G (fn := Try.f26) Try.func26 (by as_aux_lemma => kernel_rfl) (by as_aux_lemma => kernel_rfl) (by as_aux_lemma => kernel_rfl) (by as_aux_lemma => kernel_rfl) ?_
  refine sem_set [(0, (.agg [(vI r0.X), (vI r0.Y), (vI r0.W), (vI r0.H)]))] (by as_aux_lemma => kernel_rfl) ?_
  refine sem_seq (by as_aux_lemma => kernel_rfl) ?_
  refine sem_region (by as_aux_lemma => kernel_rfl) ?_
  refine evs_run 2 (by as_aux_lemma => kernel_rfl) ?_
  refine evs_endS (by as_aux_lemma => kernel_rfl) (fun τ hτ => ?_)
  refine th_normalS hτ [(1, (.ptr 1 [(vI r0.X), (vI r0.Y), (vI r0.W), (vI r0.H)] 0))] (by as_aux_lemma => kernel_rfl) ?_
  refine sem_seq (by as_aux_lemma => kernel_rfl) ?_
  refine sem_region (by as_aux_lemma => kernel_rfl) ?_
  refine evs_run 1 (by as_aux_lemma => kernel_rfl) ?_
  refine evs_endS (by as_aux_lemma => kernel_rfl) (fun τ hτ => ?_)
  refine th_normalS hτ [(1, (.ptr 1 [(vI r0.X), (vI r0.Y), (vI r0.W), (vI r0.H)] 0)), (3, (.fn 71 []))] (by as_aux_lemma => kernel_rfl) ?_
  refine sem_seq (by as_aux_lemma => kernel_rfl) ?_
  obtain ⟨j3, hj3, h⟩ := bindS h
  refine sem_regionC [(2, (vB j3))] (by as_aux_lemma => kernel_rfl) ?_ (fun τ hτ => ?_)
  · replace h := hj3
    refine evs_run 5 (by as_aux_lemma => kernel_rfl) ?_
    obtain ⟨r4, hr4, h⟩ := bindS h
    refine evs_call (b := true) (by as_aux_lemma => kernel_rfl) (W.geom_ValidRect_1_ok hr4) (.inl rfl) ?_
    refine evs_run 1 (by as_aux_lemma => kernel_rfl) ?_
    refine evs_split r4 (fun b0 => [(1, (.ptr 1 [(vI r0.X), (vI r0.Y), (vI r0.W), (vI r0.H)] 0)), (3, (.fn 71 [])), (10, (vB b0))]) (by as_aux_lemma => kernel_rfl) (fun hb => ?_) (fun hb => ?_)
    · replace h := iteT hb h
      refine evs_run 5 (by as_aux_lemma => kernel_rfl) ?_
      obtain ⟨r5, hr5, h⟩ := bindS h
      refine evs_call (b := true) (by as_aux_lemma => kernel_rfl) (W.geom_ValidRect_1_ok hr5) (.inl rfl) ?_
      refine evs_run 2 (by as_aux_lemma => kernel_rfl) ?_
      refine evs_endS (by as_aux_lemma => kernel_rfl) (fun τ hτ => ?_)
      obtain rfl := Option.some.inj h
      exact leafC hτ (by as_aux_lemma => kernel_rfl)
    · replace h := iteF hb h
      refine evs_run 8 (by as_aux_lemma => kernel_rfl) ?_
      refine evs_endS (by as_aux_lemma => kernel_rfl) (fun τ hτ => ?_)
      obtain rfl := Option.some.inj h
      exact leafC hτ (by as_aux_lemma => kernel_rfl)
  refine th_normalS hτ [(2, (vB j3))] (by as_aux_lemma => kernel_rfl) ?_
  refine sem_retS (by as_aux_lemma => kernel_rfl) (fun τ hτ => ?_)
  obtain rfl := Option.some.inj h
  exact rv_ret hτ (by as_aux_lemma => kernel_rfl)
end Go.Proofs.Ytiodkdpfkchkjaa
